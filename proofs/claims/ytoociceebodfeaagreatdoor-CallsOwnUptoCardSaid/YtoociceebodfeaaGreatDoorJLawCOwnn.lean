/-
  Joined texts: LayB, CalI, CalK, PlyC, PlyD, ImgA, OwnA.
-/
import Derived.Test.YtoociceebodfeaaGreatDoorJLawCOwnm
import Derived.Test.YtoociceebodfeaaGreatDoorJLawCOwng
import Derived.Test.YtoociceebodfeaaGreatDoorJLawCOwnk
import Derived.Test.YtoociceebodfeaaGreatDoorJLawCOwne
import Derived.Test.YtoociceebodfeaaGreatDoorRows
set_option linter.all false
set_option maxRecDepth 100000
set_option maxHeartbeats 2000000
namespace Go.Proofs.YtoociceebodfeaaGreatDoor
open Go Go.aK
structure sF (B:Int->UInt64)(at_:Nat)(N:aV):Prop where
 u:N.iq = -1
 len:N.sure.length=2824
 read:∀ i,N.read i=if i<at_ then fB i else B i
 way:∀ i,lk N.way i=lk N.loose i
 bG:∀ i,lk N.loose i≠none->0<=i/\i<2824
theorem FW {N:aV}(hu:N.iq = -1)(t:Bool):N.call t=(if t then 0 else 1,{ N with calls:=IntKind.i64.wrap (N.calls+1) }):=by
 unfold aV.call;rw [hu];cases t <;> rfl
theorem Wh {i:Int}(hi:0<=i):lN i<=i/\i<lN i+8:=by
 unfold lN;rw [Int.tmod_eq_emod_of_nonneg hi];omega
theorem sF.step {B:Int->UInt64}{a:Nat}{N:aV}(I:sF B a N)(ha:a<2824):∀ (c1 c2:Int),sF B (a+1) { N with calls:=c2,loose:=iA N.loose a (fB a),way:=kD (iA N.loose a (fB a)) N.way (lN a) 8 }:=by
 intro c1 c2;have hl:=Wh (i:=(a:Int)) (by omega);refine ⟨I.u,I.len,λi=>?_,λi=>?_,λi hi=>?_⟩
 ·have hr:=I.read i;unfold aV.read aV.there at hr ⊢;simp only at hr ⊢;rw [sQ];by_cases e:i=(a:Int)
  ·rw [if_pos e];have h1:(decide (0<=i)&&decide (i<(N.sure.length:Int)))=true:=by rw [I.len];simp;omega
   rw [if_pos h1,if_pos (by omega),e];rfl
  ·rw [if_neg e,hr];by_cases h2:i<(a:Int)
   ·rw [if_pos h2,if_pos (by omega)]
   ·rw [if_neg h2,if_neg (by omega)]
 ·show lk (kD _ _ _ 8) i=lk (iA _ _ _) i;rw [Mx,sQ,I.way i];by_cases h1:lN (a:Int)<=i/\i<lN (a:Int)+((8:Nat):Int)
  ·rw [if_pos h1];by_cases e:i=(a:Int)
   ·rw [if_pos e]
   ·rw [if_neg e];cases lk N.loose i <;> rfl
  ·rw [if_neg h1,if_neg (by intro e;apply h1;omega)]
 ·have hi':lk (iA N.loose (a:Int) (fB (a:Int))) i≠none:=hi;rw [sQ] at hi';by_cases e:i=(a:Int)
  ·omega
  ·rw [if_neg e] at hi';exact I.bG i hi'
theorem sF.skip {B:Int->UInt64}{a:Nat}{N:aV}(I:sF B a N)(h:N.read a=fB a):sF B (a+1) N:=by
 refine ⟨I.u,I.len,λi=>?_,I.way,I.bG⟩;by_cases e:i=(a:Int)
 ·rw [if_pos (by omega),e];exact h
 ·rw [I.read i];by_cases h2:i<(a:Int)
  ·rw [if_pos h2,if_pos (by omega)]
  ·rw [if_neg h2,if_neg (by omega)]
theorem Wi {l:List (Int×UInt64)}(h:∀ x,lk l x=none):l=[]:=by
 cases l with
 | nil=>rfl
 | cons p l=>
  have:=h p.1;simp [lk] at this
theorem VH {h:Heap}{L:ML}{M:aV}(A:fG h L M)(O:lM h L M)(hu:M.iq = -1)(hs:M.sure.length=2824)(hl0:M.loose=[])(hw0:M.way=[]):aD Tryz.prog 38 [.pointer (some ⟨L.m,0,none⟩)] h (λv h'=>Keeps L.blocks h h'/\v=.int .i64 0 /\
 ∃ N:aV,fG h' L N/\N.iq = -1/\N.sure.length=2824/\(∀ i,N.read i=fB i)/\N.loose=[]):=by
 have bl:=A.blt;refine aH aI Tryz.func38 rfl ok38 (by simp [Tryz.f38]) ?_;(conv=>whnf);refine au.i (VY h) λv h1 k1 hv=>?_;obtain ⟨b1,rfl,hb1,o1⟩:=hv;(conv=>whnf);refine au.i (GY (A.on k1)) λv h2 k2 hv=>?_;subst hv;rw [hs];(conv=>whnf);refine ak.f rfl ?_;have I0:sF M.read 0 M:=⟨hu,hs,λi=>by
  by_cases h:i<((0:Nat):Int)
  ·rw [if_pos h];have h1:fB i=0:=by
    unfold fB;rw [if_neg (by omega)]
   have h2:M.there i=false:=by
    unfold aV.there;rw [decide_eq_false (by omega)];rfl
   unfold aV.read;rw [h1,h2];rfl
  ·rw [if_neg h],λi=>by rw [hl0,hw0],λi hi=>by rw [hl0] at hi;exact absurd rfl hi⟩
 have nb1:∀ b∈L.blocks,b≠b1:=λb hb=>by have:=bl b hb;omega
 have k12:=k1.trans k2;have Wj:=VX;(conv=>whnf);refine bP.on [0,13,14,15] [] (λq:Nat×aV=>[(0,.v (.pointer (some ⟨L.m,0,none⟩))),(13,.v (.slice (some ⟨b1,0,none⟩) 2824 2824)),(14,.v (.int .i64 2824)),(15,.v (.int .i64 (q.1:Int)))]) (λ_=>[])
  (λq h'=>q.1<=2824/\Keeps L.blocks h h'/\h'[b1]?=some (.cells ⟨oV.map wv⟩ 46 (0,0))/\fG h' L q.2/\lM h' L q.2/\sF M.read q.1 q.2) (λq=>2824-q.1) (0,M) ?_ ?_
 ·(conv=>whnf);exact ⟨(0,M),rfl,rfl,rfl,Nat.zero_le _,k12.mono (by simp),k2.obj o1 (by simp),A.on k12,Own.keep O k12 (by simp),I0⟩
 ·rintro ⟨a,N⟩ h3 ⟨ha,k3,o3,A3,O3,I3⟩;simp only at ha A3 O3 I3;(conv=>whnf);refine ak.i (λhc=>?_) (λhc=>?_)
  ·have ha1:a<2824:=by
    have:(a:Int)<2824:=by simpa using hc
    omega
   have hla:(oV[a]'(by omega))=fB (a:Int):=by
    unfold fB;rw [if_pos (by omega),Int.toNat_natCast,List.getElem?_eq_getElem (by omega)];rfl
   have hth:N.there (a:Int)=true:=by unfold aV.there;rw [I3.len];simp;omega
   (conv=>whnf);(try refine aU.pass ?_;conv=>whnf);refine aQ.i a rfl ha1 rfl ?_;(conv=>whnf);refine ax.o (v:=wv (oV[a]'(by omega))) o3 ?_ ?_
   ·rw [mI];show (oV.map wv)[0+a*1]?=_;rw [show 0+a*1=a by omega];simp [Wj,ha1]
   rw [hla];(conv=>whnf);refine au.i (Co A3 (a:Int)) λv h4 k4 hv=>?_;subst hv;have A4:=A3.on k4;have O4:lM h4 L N:=Own.keep O3 k4 (by simp);have o4:=k4.obj o3 (by simp);(conv=>whnf);refine ak.i (λhd=>?_) (λhd=>?_)
   ·have he:N.read (a:Int)=fB (a:Int):=by
     have:(((N.read (a:Int)).toNat:Nat):Int)=(((fB (a:Int)).toNat:Nat):Int):=by simpa using hd
     exact UInt64.toNat_inj.1 (by omega)
    (conv=>whnf);refine ⟨2824-(a+1),by omega,?_⟩;(conv=>whnf);exact ⟨(a+1,N),rfl,by rw [wrapN (x:=(a:Int)+1) (n:=a+1) (by simp) (by omega)],rfl,by simp only;omega,k3.cu k4,o4,A4,O4,I3.skip he⟩
   ·have hst:N.store (a:Int) (fB (a:Int))=(0,{ N with calls:=IntKind.i64.wrap (N.calls+1),loose:=iA N.loose (a:Int) (fB (a:Int)) }):=by
     unfold aV.store;rw [FW I3.u,hth];rfl
    (conv=>whnf);refine au.m (OD A4 (a:Int) (fB (a:Int))) (by simp [aA]) λv h5 k5 hv=>?_;rw [hst] at hv;obtain ⟨rfl,A5⟩:=hv;(conv=>whnf);(try refine aU.pass ?_;conv=>whnf);refine ak.t rfl ?_;have I5:=I3.step ha1;generalize hN5:({ N with calls:=IntKind.i64.wrap (N.calls+1),loose:=iA N.loose (a:Int) (fB (a:Int)) }:aV)=N5 at A5;have hth5:N5.there (a:Int)=true:=by subst hN5;exact hth
    have hu5:N5.iq = -1:=by subst hN5;exact I3.u
    have O5:lM h5 L N5:=by
     have:lM h5 L N:=Own.keep O4 k5 (λb hb=>by have:=A4.ap2 b hb;simp;exact ⟨this.1,this.2.1⟩);subst hN5;exact this
    have o5:=k5.obj o4 (by
     have q1:=nb1 L.m (by simp [ML.blocks]);have q2:=nb1 L.lb (by simp [ML.blocks]);simp;exact ⟨λe=>q1 e.symm,λe=>q2 e.symm⟩)
    (conv=>whnf);refine au.m (V9 A5 (a:Int) (by omega) (by rw [FW hu5,hth5];rfl)) (by simp [aA]) λv h6 k6 hv=>?_;obtain ⟨rfl,A6⟩:=hv;rw [FW hu5] at A6;(conv=>whnf);refine ak.f rfl ?_;(conv=>whnf);refine ⟨2824-(a+1),by omega,?_⟩;(conv=>whnf);have hN6:({ ({ N5 with calls:=IntKind.i64.wrap (N5.calls+1) }:aV) with way:=kD ({ N5 with calls:=IntKind.i64.wrap (N5.calls+1) }:aV).loose ({ N5 with calls:=IntKind.i64.wrap (N5.calls+1) }:aV).way (lN (a:Int)) 8 }:aV)={ N with calls:=IntKind.i64.wrap (IntKind.i64.wrap (N.calls+1)+1),loose:=iA N.loose (a:Int) (fB (a:Int)),way:=kD (iA N.loose (a:Int) (fB (a:Int))) N.way (lN (a:Int)) 8 }:=by subst hN5;rfl
    have Wl:fG h6 L { N with calls:=IntKind.i64.wrap (IntKind.i64.wrap (N.calls+1)+1),loose:=iA N.loose (a:Int) (fB (a:Int)),way:=kD (iA N.loose (a:Int) (fB (a:Int))) N.way (lN (a:Int)) 8 }:=by rw [<-hN6];exact A6
    refine ⟨(a+1,_),rfl,by rw [wrapN (x:=(a:Int)+1) (n:=a+1) (by simp) (by omega)],rfl,by simp only;omega,?_,?_,Wl,?_,I5 0 _⟩
    ·exact ((k3.cu k4).trans (k5.mono (by simp [ML.blocks]))).trans (k6.mono (by simp [ML.blocks]))
    ·refine k6.obj o5 ?_;have q1:=nb1 L.m (by simp [ML.blocks]);have q2:=nb1 L.wb (by simp [ML.blocks]);simp;exact ⟨λe=>q1 e.symm,λe=>q2 e.symm⟩
    ·have:lM h6 L N5:=Own.keep O5 k6 (λb hb=>by have:=A5.ap2 b hb;simp;exact ⟨this.1,this.2.2⟩);subst hN5;exact this
  ·have ha1:a=2824:=by
    have:¬ ((a:Int)<2824):=by simpa using hc
    omega
   subst ha1;have Wm:=yT A3.way;(conv=>whnf);refine au.m (V5 A3 O3 I3.u (by rw [I3.len];decide) (λp hp=>?_)) (by simp [aA]) λv h4 k4 hv=>?_
   ·have h1:=KV Wm hp;rw [I3.way] at h1;have h2:=I3.bG p.1 (by rw [h1];simp);refine ⟨h1,?_⟩;unfold aV.there;rw [I3.len];simp;omega
   obtain ⟨rfl,N',A4,_,u4,l4,_,r4,y4⟩:=hv;(conv=>whnf);refine ⟨k3.trans k4,rfl,N',A4,u4,by rw [l4,I3.len],λi=>?_,Wi λx=>?_⟩
   rotate_left
   ·apply Classical.byContradiction;intro hx;obtain ⟨q1,q2⟩:=y4 x hx;rw [I3.way] at q2;exact q1 q2
   rw [r4,I3.read];by_cases h:i<((2824:Nat):Int)
   ·rw [if_pos h]
   ·rw [if_neg h];have h1:fB i=0:=by
     unfold fB;rw [if_neg (by omega)]
    have h2:M.there i=false:=by
     unfold aV.there;rw [hs,decide_eq_false (show ¬ (i<((2824:Nat):Int)) from h)];simp
    unfold aV.read;rw [h1,h2];rfl
set_option maxHeartbeats 4000000
theorem F4 (h:Heap):aD Tryz.prog 11 [] h (λv h'=>Keeps [] h h'/\∃ (w t bT:Nat) (V:VL) (N:aV),v=.pointer (some ⟨w,0,none⟩) /\
 h'[w]?=some (.cells ⟨[.pointer (some ⟨V.mem.m,0,none⟩),.pointer (some ⟨V.v,0,none⟩),.pointer (some ⟨t,0,none⟩)]⟩ 31 (0,0))/\h'[t]?=some (.cells ⟨[.slice (some ⟨bT,0,none⟩) 2 2]⟩ 80 (0,0))/\h'[bT]?=some (.cells ⟨fM L0⟩ 77 (0,0)) /\
 At h' V N ⟨fB,[],[],[],[]⟩/\N.read=fB/\N.iq = -1/\N.sure.length=2824/\N.loose=[]/\V.ab=none/\V.lS=none/\(∀ b∈V.blocks,h.size<=b/\b<bT/\b<t/\b<w)):=by
 refine aH aI Tryz.func11 rfl ok11 (by simp [Tryz.f11]) ?_;(conv=>whnf);refine au.i (VG 2824 (by decide) (by decide) h) λv h1 k1 hv=>?_;obtain ⟨ML1,rfl,A1,O1,n1⟩:=hv;have z1:=k1.size;(conv=>whnf);refine au.m (VH A1 O1 rfl rfl rfl rfl) (by simp [aA]) λv h2 k2 hv=>?_;obtain ⟨rfl,N,A2,hu,hs,hr,hlo⟩:=hv;have z2:=k2.size;(conv=>whnf);refine ak.f rfl ?_;(conv=>whnf);refine au.i (PZ A2) λv h3 k3 hv=>?_;rw [if_pos hs] at hv;obtain ⟨V,rfl,Mq,hab,lQ,VI,A3⟩:=hv;have z3:=k3.size;have hr2:N.read=fB:=funext hr;rw [hr2] at A3;(conv=>whnf);refine au.i (VJ h3) λv h4 k4 hv=>?_;obtain ⟨bT,t,rfl,FL,ht,VK,VN⟩:=hv;have z4:=k4.size;(conv=>whnf);refine aR.i λw h5 e5 s5 o5 k5=>?_;have k35:Keeps [] h3 h5:=k4.trans k5;have A5:=A3.on k35;have VO:∀ b∈V.blocks,b<h3.size:=A3.blt;have VP:∀ b∈V.blocks,h.size<=b:=by
  intro b hb;have hb2:b∈[V.v,V.ob,V.sb,V.mb]\/b∈ML1.blocks:=by
   unfold VL.blocks at hb;rw [Mq,hab,lQ] at hb;simp only [List.mem_cons,List.mem_append,Option.toList,List.not_mem_nil,or_false] at hb ⊢;rcases hb with h|h|h|h|h <;> simp [h]
  rcases hb2 with h|h
  ·have:=VI b h;omega
  ·exact n1 b h
 have k05:Keeps [] h h5:=(k1.dL k2 (λb hb=>n1 b hb)).trans (k3.trans k35);(conv=>whnf);refine ax.o o5 rfl ?_;(conv=>whnf);refine ak.f rfl ?_;(conv=>whnf);refine ⟨k05,w,t,bT,V,N,rfl,?_,k5.obj VK (by simp),k5.obj VN (by simp),A5,hr2,hu,hs,hlo,hab,lQ,λb hb=>⟨VP b hb,?_⟩⟩
 ·rw [Mq];exact o5
 ·have:=VO b hb;omega
theorem MV (h:Heap):aD Tryz.prog 10 [] h (λv h'=>Keeps [] h h'/\v=.bool true):=by
 refine aH aI Tryz.func10 rfl ok10 (by simp [Tryz.f10]) ?_;(conv=>whnf);refine au.i (F4 h) λv h1 k1 hv=>?_;obtain ⟨w,t,bT,V,N,rfl,o1,_,_,A1,hr,hu,hs,hlo,hab,lQ,hV⟩:=hv;have Xa:=hV V.ob (by simp [VL.blocks]);have Xc:=hV V.sb (by simp [VL.blocks]);have Xd:=hV V.mb (by simp [VL.blocks]);have hf0:bB N.read ⟨fB,[],[],[],[]⟩ 96=96:=by rw [hr];exact VQ _ _ _ _ rfl
 (conv=>whnf);refine ax.o o1 rfl ?_;(conv=>whnf);refine ak.t rfl ?_;(conv=>whnf);refine au.m (BX A1 fs0 (sim0.fc rfl fc0) rfl [47,102] (by decide) (kind:=1) (.inl rfl)) (by simp [aA]) λv h2 k2 hv=>?_;obtain ⟨X2,A2,R2⟩:=hv;obtain ⟨rfl,a2,n2,f2,S1,I2,Z2,l2,c2⟩:=Mr (n1:=2) sim0 pl0 (by omega) (by decide) (by decide) (by decide +kernel) R2;have o2:=k2.obj o1 (by simp;omega);have Z2:lK S1 K1 N1 B1:=Z2;(conv=>whnf);refine ax.o o2 rfl ?_;(conv=>whnf);refine ak.t rfl ?_;(conv=>whnf);refine au.m (Gn A2 I2 (Z2.fc rfl fc1) n2 [47,108] [47,102] (by decide) (by decide)) (by simp [aA]) λv h3 k3 hv=>?_;obtain ⟨X3,A3,R3⟩:=hv;have R3:kF N.read X2 S1 [47,108] 3 [47,102] v X3:=by
  rcases R3 with ⟨hpn,_⟩|⟨_,R3⟩
  ·exact absurd hpn (by decide +kernel)
  ·exact R3
 obtain ⟨rfl,a3,n3,f3,S2,I3,Z3,l3,c3⟩:=Mr (n1:=3) Z2 pl1 (by omega) (by decide +kernel) (by decide +kernel) (by decide +kernel) R3;have o3:=k3.obj o2 (by simp;omega);have Z3:lK S2 K2 N2 B2:=Z3;(conv=>whnf);refine ax.o o3 rfl ?_;(conv=>whnf);refine ak.t rfl ?_;(conv=>whnf);refine au.m (Gq A3 I3 (Z3.fc rfl fc2) [47,108] (by decide) 0 [104,105]) (by simp [aA]) λv h4 k4 hv=>?_;obtain ⟨X4,A4,R4⟩:=hv;obtain ⟨rfl,a4,n4,S3,I4,Z4,l4,c4⟩:=VR Z3 (by omega) R4;have o4:=k4.obj o3 (by simp;omega);(conv=>whnf);refine ax.o o4 rfl ?_;(conv=>whnf);refine ak.t rfl ?_;(conv=>whnf);refine au.m (Gp A4 I4 (Z4.fc rfl fc2) (Z4.ns ns2) [47,108] (by decide)) (by simp [aA]) λv h5 k5 hv=>?_;obtain ⟨X5,A5,R5⟩:=hv;obtain ⟨rfl,a5,n5,S4,I5,Z5,c5⟩:=VT Z4 (by rw [c4];exact l3) R5;have o5:=k5.obj o4 (by simp;omega);(conv=>whnf);refine ak.f rfl ?_;have hp5:cB S4 [47,102]=(2,0):=by unfold cB;rw [Z5.view];exact pa4
 have hk5:(S4.C 2).kind=1:=by rw [Z5.k];decide +kernel
 have he5:fU S4 [47,102]=0:=by
  unfold fU;rw [hp5,if_neg (by rintro ⟨_,h⟩;rw [hk5] at h;cases h)]
 have hb5:S4.aL 2=[104,105]:=by rw [Z5.b];decide +kernel
 have hr5:iO [104,105] 0 9=([104,105],0):=by decide +kernel
 have hq5:aW (aX S4) [47,102] false=(2,0):=by rw [Z5.view];exact pb4
 have hl5:(S4.C 2).links=1:=by rw [c5,l4,c3 2 (by decide) (by decide)];exact l2
 have hs5:(S4.C 2).size=2:=by
  obtain ⟨m,F⟩:=(I5.node 2 (by decide) (by decide)).file (.inl hk5);rw [F.size,hb5];rfl
 (conv=>whnf);refine ax.o o5 rfl ?_;(conv=>whnf);refine au.m (Gr A5 I5 (Z5.fc rfl fc4) [47,102] (by decide) 0 9) (by simp [aA]) λv h6 k6 hv=>?_;obtain ⟨⟨s6,A6⟩,hv⟩:=hv;rw [he5,if_pos rfl,hp5] at hv;simp only [hb5] at hv;rw [hr5] at hv;subst hv;have o6:=k6.obj o5 (by simp;omega);(conv=>whnf);refine ax.o o6 rfl ?_;(conv=>whnf);refine au.m (Gs A6 I5 (Z5.fc rfl fc4) [47,102] (by decide)) (by simp [aA]) λv h7 k7 hv=>?_;obtain ⟨⟨s7,A7⟩,hv⟩:=hv;rw [hq5,if_pos rfl] at hv;simp only [hl5,hs5] at hv;subst hv;(conv=>whnf);refine aR.i λb8 h8 e8 s8 o8 k8=>?_;(conv=>whnf);refine aN.i λh9 s9 k9=>?_;(conv=>whnf);have z1:=k1.size;have z2:=k2.size;have z3:=k3.size;have z4:=k4.size;have z5:=k5.size;have z6:=k6.size;have z7:=k7.size;have sub:∀ {a b:Heap},Keeps [V.ob,V.sb,V.mb] a b->∀ x∈[V.ob,V.sb,V.mb],h.size<=x:=λ_ x hx=>by
  simp at hx;omega
 have k05:Keeps [] h h5:=(((k1.dL k2 (sub k2)).dL k3 (sub k3)).dL k4 (sub k4)).dL k5 (sub k5);have k07:Keeps [] h h7:=(k05.dL k6 (λx hx=>by simp at hx;omega)).dL k7 (λx hx=>by simp at hx;omega);refine ⟨k07.trans (k8.new1 k9 (by omega)),?_⟩;have hs:((ba [104,105]).toList==(ByteArray.mk #[104,105]).toList)=true:=by
  have h1:((ba [104,105]).toList==(ba [104,105]).toList)=true:=beq_self_eq_true _;exact h1
 rw [hs];rfl
instance:Rp cO where
 n:=6
 iD _ vs x:=vs=x.cells/\x.ok
 len h:=by rw [h.1];rfl
 keep _ h:=h
instance:Flat cO:=⟨λh=>h⟩
section
variable {H:Type} {enc:TypeId×Value->H} {W:World} {sp:Nat->Bool} {held:Bool}
theorem Nq:Opens enc Tryz.prog W sp held 43 cO:=by
 intro fuel cs x h hw;obtain ⟨hl,f',hp⟩:=Pv Tryz.underlying43 h hw;obtain ⟨a,b,c,d,e,f,rfl⟩:∃ a b c d e f,cs=[a,b,c,d,e,f]:=by
  match cs,hl with
  | [a,b,c,d,e,f],_=>exact ⟨a,b,c,d,e,f,rfl⟩
 obtain ⟨y0,h0,w0⟩:=hp _ (List.mem_cons_self);obtain ⟨y1,h1,w1⟩:=hp _ (List.mem_cons_of_mem _ List.mem_cons_self);obtain ⟨y2,h2,w2⟩:=hp _ (List.mem_cons_of_mem _ (List.mem_cons_of_mem _ List.mem_cons_self));obtain ⟨y3,h3,w3⟩:=hp _ (List.mem_cons_of_mem _ (List.mem_cons_of_mem _ (List.mem_cons_of_mem _ List.mem_cons_self)));obtain ⟨y4,h4,w4⟩:=hp _ (List.mem_cons_of_mem _ (List.mem_cons_of_mem _ (List.mem_cons_of_mem _ (List.mem_cons_of_mem _ List.mem_cons_self))));obtain ⟨y5,h5,w5⟩:=hp _ (List.mem_cons_of_mem _ (List.mem_cons_of_mem _ (List.mem_cons_of_mem _ (List.mem_cons_of_mem _ (List.mem_cons_of_mem _ List.mem_cons_self)))));obtain ⟨n,e0,g0⟩:=DJ (W:=W) Tryz.underlying3 f' _ _ h0 w0;obtain ⟨s,e1,g1⟩:=DI (W:=W) Tryz.underlying9 f' _ _ h1 w1;obtain ⟨t,e2,g2⟩:=DI (W:=W) Tryz.underlying9 f' _ _ h2 w2;obtain ⟨u,e3,g3⟩:=DI (W:=W) Tryz.underlying9 f' _ _ h3 w3;obtain ⟨m,e4,g4⟩:=DJ (W:=W) Tryz.underlying3 f' _ _ h4 w4;obtain ⟨k,e5,g5⟩:=DJ (W:=W) Tryz.underlying3 f' _ _ h5 w5;cases e0;cases e1;cases e2;cases e3;cases e4;cases e5;obtain ⟨l1,rfl⟩:∃ l:List UInt8,s=⟨l.toArray⟩:=⟨s.data.toList,rfl⟩;obtain ⟨l2,rfl⟩:∃ l:List UInt8,t=⟨l.toArray⟩:=⟨t.data.toList,rfl⟩;obtain ⟨l3,rfl⟩:∃ l:List UInt8,u=⟨l.toArray⟩:=⟨u.data.toList,rfl⟩;exact ⟨⟨n,l1,l2,l3,m,k⟩,rfl,g0,by have:=g1;unfold mK at this;rwa [dN] at this,by have:=g2;unfold mK at this;rwa [dN] at this,by have:=g3;unfold mK at this;rwa [dN] at this,g4,g5⟩
end
theorem tn0 (i:Int)(hi:inT (aC L0) i):i=1:=by
 have h1:=hi.1;have h2:i<2:=hi.2;omega
theorem rel0:bW S0 (aC L0) [0,1]:=by
 have l1:∀ i,live (aC L0) i->i=1:=λi hi=>tn0 i hi.1;refine ⟨rfl,by decide,⟨rfl,rfl⟩,λi hi=>?_,λi j hi hj _=>by rw [l1 i hi,l1 j hj],λi hi=>?_,λi hi=>?_,λi hi _=>?_,λi hi h=>?_,λi hi h=>?_,rfl,λn n0 n24 hk=>?_,λi hi h=>absurd (l1 i hi) h,rfl,⟨λ_=>0,λi hi _ e he=>?_⟩⟩
 ·rw [l1 i hi];decide
 ·rw [l1 i hi];exact ⟨rfl,by decide,by decide⟩
 ·rw [l1 i hi];rfl
 ·rw [l1 i hi];exact ⟨rfl,λe he=>(by cases he),List.Pairwise.nil,rfl⟩
 ·rw [l1 i hi] at h;exact absurd rfl h
 ·rw [tn0 i hi];rfl
 ·refine ⟨1,⟨⟨by decide,by decide⟩,by decide⟩,?_⟩;show (1:Int)=n;have hk':(if n=1 then bZ 2 1 else fQ 0).kind≠0:=hk;by_cases h1:n=1
  ·exact h1.symm
  ·rw [if_neg h1] at hk';exact absurd rfl hk'
 ·rw [l1 i hi] at he;cases he
theorem sml0:jd (aC L0) 0:=⟨by decide,λx hx=>by
 have:x=⟨0,0,0,[],[]⟩\/x=⟨1,2,1,[],[]⟩:=by simpa [aC,L0] using hx
 rcases this with rfl|rfl
 ·exact ⟨Nat.zero_le _,λh=>by cases h⟩
 ·exact ⟨Nat.zero_le _,λh=>by cases h⟩⟩
theorem MX {h:Heap}{a:Option Addr}{n c:Nat}{xs:List cO}(S:Sl h a n c xs):aD Tryz.prog 13 [.slice a n c] h (λv h'=>Keeps [] h h'/\∃ c',v=.slice a (min n 60) c'/\Sl h' a (min n 60) c' (xs.take 60)):=by
 have hl:=S.hlen;have hc:=S.hcap;refine aH aI Tryz.func13 rfl ok13 (by simp [Tryz.f13]) ?_;(conv=>whnf);refine dm.i 0 (min n 60) rfl (by split <;> omega) (Nat.zero_le _) (by omega) ?_;(conv=>whnf);have P:=S.part (l:=0) (r:=min n 60) (Nat.zero_le _) (by omega);rw [List.drop_zero] at P;have e:xs.take (min n 60)=xs.take 60:=by
  rw [hl,<-List.take_take];exact List.take_of_length_le (by rw [List.length_take];omega)
 rw [e,kE] at P;refine ⟨Keeps.refl _ _,_,?_,P⟩;rw [kE];rfl
theorem MW {h0 h:Heap}(hb:h0.size<=h.size){w t bT:Nat}{V:VL}{N:aV}
 (hw:h[w]?=some (.cells ⟨[.pointer (some ⟨V.mem.m,0,none⟩),.pointer (some ⟨V.v,0,none⟩),.pointer (some ⟨t,0,none⟩)]⟩ 31 (0,0))) (ht:h[t]?=some (.cells ⟨[.slice (some ⟨bT,0,none⟩) 2 2]⟩ 80 (0,0))) (hT:h[bT]?=some (.cells ⟨fM L0⟩ 77 (0,0)))
 (A:At h V N ⟨fB,[],[],[],[]⟩) (hu:N.iq = -1) (hs:N.sure.length=2824) (hab:V.ab=none) (lQ:V.lS=none) (hV:∀ b∈V.blocks,h0.size<=b/\b<bT/\b<t/\b<w) (hw0:h0.size<=w) :
 qQ h h0.size w V N ⟨fB,[],[],[],[]⟩ S0 (min bT t) t (some ⟨bT,0,none⟩) 2 L0 [0,1] 0:=by
 refine ⟨hw,A,fs0,rel0,sml0,⟨ht,.inr ⟨bT,_,rfl,hT,rfl,rfl,rfl,Nat.le_refl _⟩,λx hx=>?_,by omega,λb hb=>?_⟩,⟨hab,lQ⟩,⟨hu,hs⟩,⟨hw0,λb hb=>(hV b hb).1⟩,λhx=>by have:=(hV w hx).2.2.2;omega⟩
 ·have:x=⟨⟨0,0,0,[],[]⟩,none,0,0⟩\/x=⟨⟨1,2,1,[],[]⟩,none,0,0⟩:=by simpa [L0] using hx
  rcases this with rfl|rfl
  ·exact ⟨rfl,.inl ⟨rfl,rfl,rfl,rfl⟩,λb hb=>(by cases hb),λe he=>(by cases he),Nat.zero_le _⟩
  ·exact ⟨rfl,.inl ⟨rfl,rfl,rfl,rfl⟩,λb hb=>(by cases hb),λe he=>(by cases he),Nat.zero_le _⟩
 ·have:b=bT:=by simpa [ay] using hb
  omega
theorem _root_.Go.aK.Sl.MZ {h:Heap}{a:Option Addr}{n c:Nat}{xs:List cO}(S:Sl h a n c xs)(hn:0<n):∀ b∈ay a,b<h.size:=by
 have hl:=S.hlen;obtain ⟨b,o,hb,cs,⟨rfl,_⟩,hc⟩:=S.at_ 0 (by omega);intro x hx;rw [hb] at hx;simp [ay] at hx;subst hx;exact wm (hc 0 (by simp [cO.cells]))
theorem qQ.on {h h':Heap}{b0 w:Nat}{V:VL}{M:aV}{X:VS}{S:FS}{z t:Nat}{aT:Option Addr}{cT:Nat}{L:List bV}{num:List Int}{N:Nat}(P:qQ h b0 w V M X S z t aT cT L num N)(k:Keeps [] h h'):qQ h' b0 w V M X S z t aT cT L num N:=
 ⟨k.obj P.obj (by simp),P.at_.on k,P.fs,P.rel,P.qR,P.tree.keep k (by simp),P.ab,P.calm,P.new,P.apart⟩
theorem y9 {H:Type}:∀ {l:List (DataW H)} {d:DataW H},d∈l->Rows.uptoBulk d<=Rows.uptoBulkAll l
 | x::r,d,h=>by
  simp only [Rows.uptoBulkAll];rcases List.mem_cons.1 h with rfl|h
  ·omega
  ·have:=y9 h;omega
section
variable {H:Type} {enc:TypeId×Value->H} {W:World} {sp:Nat->Bool} {held:Bool}
theorem MF:Opens enc Tryz.prog W sp held 22 (List cO):=Np Tryz.underlying22 (by kernel_rfl) (by decide) (of_decide_eq_true (by kernel_rfl)) Nq
theorem Gc {fuel:Nat}{s:ByteArray}{x:DataW H×List MemPlace}(h:DataW.trod enc Tryz.prog W 0 sp held fuel 9 [.string s]=some x):s.data.toList.length<=Rows.uptoBulk x.1:=by
 obtain ⟨s',h1,h2,_⟩:=DataW.trod_string Tryz.underlying9 h;have:s=s':=by simpa using h1
 subst this;rw [h2];simp only [Rows.uptoBulk];omega
theorem Nr {fuel:Nat}{c:cO}{x:DataW H×List MemPlace}(h:DataW.trod enc Tryz.prog W 0 sp held fuel 43 c.cells=some x):c.path.length<=Rows.uptoBulk x.1/\c.path2.length<=Rows.uptoBulk x.1:=by
 obtain ⟨xs,n,rfl,rfl,_,hl,hf⟩:=DataW.trod_struct Tryz.underlying43 h;have hl:xs.length=6:=hl;have h1:=hf 1 _ rfl;have h2:=hf 2 _ rfl;have g1:xs[1]?=some (xs[1]'(by omega)):=List.getElem?_eq_getElem _;have g2:xs[2]?=some (xs[2]'(by omega)):=List.getElem?_eq_getElem _;rw [g1] at h1;rw [g2] at h2;have b1:=Gc (s:=ba c.path) h1;have b2:=Gc (s:=ba c.path2) h2;have m1:=y9 (List.mem_map_of_mem (f:=(·.1)) (List.getElem_mem (show 1<xs.length by omega)));have m2:=y9 (List.mem_map_of_mem (f:=(·.1)) (List.getElem_mem (show 2<xs.length by omega)));have e1:(ba c.path).data.toList.length=c.path.length:=by unfold ba;simp
 have e2:(ba c.path2).data.toList.length=c.path2.length:=by unfold ba;simp
 simp only [Rows.uptoBulk];omega
theorem MI {a:Option Addr}{n c:Nat}{d:DataW H}{p:List MemPlace}(h:DataW.Trod enc Tryz.prog W 0 sp held 22 (.slice a n c) d p){L:List cO}(S:Sl W.heap a n c L)(hb:Rows.uptoBulk d<=1048576):∀ x∈L,x.path.length<=1048576/\x.path2.length<=1048576:=by
 obtain ⟨fuel,hf⟩:=h;have hcs:(Value.slice a n c).cells.toList=[.slice a n c]:=by simp [Value.cells]
 rw [hcs] at hf;have hl:=S.hlen;rcases DataW.trod_slice Tryz.underlying22 hf with ⟨h1,_⟩|⟨ad,len,cap,elems,rest,m,_,h1,h2,_,_,_,he,hel,_⟩
 ·have:n=0:=by simp at h1;exact h1.2.1
  intro x hx;have:L=[]:=List.eq_nil_of_length_eq_zero (by omega);subst this;cases hx
 ·have e1:a=some ad/\n=len/\c=cap:=by simpa using h1
  obtain ⟨rfl,rfl,rfl⟩:=e1;have hd:d=.slice (elems.map (·.1)) (rest.map (·.1)):=congrArg Prod.fst h2;rw [hd] at hb;simp only [Rows.uptoBulk] at hb;intro x hx;obtain ⟨i,hi,rfl⟩:=List.getElem_of_mem hx;have hi1:i<elems.length:=by omega
  have g:=hel i (by omega);rw [List.getElem?_eq_getElem hi1] at g;have hn6:Tryz.prog.cellsOf 43=6:=by kernel_rfl
  rw [hn6] at g;cases hcell:W.cells? 0 (ad.add (i*6)) 6 with
  | none=>rw [hcell] at g;cases g
  | some cs=>
   rw [hcell] at g;have g:DataW.trod enc Tryz.prog W 0 sp held m 43 cs=some (elems[i]'hi1):=g;obtain ⟨b,off,q1,q2,q3⟩:=BP hcell (by decide);obtain ⟨b',off',hb',cs',⟨rfl,_⟩,hc'⟩:=S.at_ i hi;have hadd:ad=⟨b',off',none⟩:=Option.some.inj hb';rw [hadd,addr_add] at q1;have eb:b'=b/\off'+i*6=off:=by
    have:=q1;simp only [Addr.mk.injEq,and_true] at this;exact this
   obtain ⟨rfl,rfl⟩:=eb;have Ns:cs=(L[i]'hi).cells:=by
    apply List.ext_getElem?;intro j;by_cases hj:j<6
    ·have a1:=q3 j (by omega);have a2:=hc' j (by simpa [cO.cells] using hj);rw [<-a1];exact a2
    ·rw [List.getElem?_eq_none (by omega),List.getElem?_eq_none (by simp [cO.cells];omega)]
   rw [Ns] at g;have hcl:=Nr g;have hm:=y9 (List.mem_map_of_mem (f:=(·.1)) (List.getElem_mem hi1));omega
end
def aV.img (M:aV):List UInt64:=(List.range M.sure.length).map λi:Nat=>M.read (i:Int)
theorem aV.sG (M:aV):M.img.length=M.sure.length:=by simp [aV.img]
theorem aV.Wn (M:aV){i:Nat}(hi:i<M.sure.length):M.img[i]?=some (M.read (i:Int)):=by simp [aV.img,hi]
theorem Wo {l:List (Int×UInt64)}(hn:(l.map (·.1)).Nodup){p:Int×UInt64}(hp:p∈l):lk l p.1=some p.2:=by
 induction l with
 | nil=>cases hp
 | cons q l ih=>
  obtain ⟨a,v⟩:=q;simp only [List.map_cons,List.nodup_cons] at hn;simp only [lk];rcases List.mem_cons.1 hp with rfl|hp
  ·rw [if_pos rfl]
  ·rw [if_neg (λe:p.1=a=>hn.1 (e ▸ List.mem_map_of_mem (f:=(·.1)) hp))];exact ih hn.2 hp
theorem BM {h:Heap}{L:ML}{M:aV}(A:fG h L M)(hs:0<M.sure.length/\M.sure.length<=1000000)(hw:∀ x,lk M.loose x≠none->M.there x=true) :
 aD Tryz.prog 12 [.pointer (some ⟨L.m,0,none⟩)] h (λv h'=>Keeps [] h h'/\∃ a c,v=.slice a M.sure.length c/\Own h' 46 1 a M.sure.length c (M.img.map wv)/\∀ x∈ay a,h.size<=x):=by
 have hl:=A.sure.hlen;obtain ⟨b0,o0,hsa,_⟩:=A.sure.at_ 0 hs.1;have CL:aD Tryz.prog 41 [.slice L.sa L.len L.cap] h (λv h'=>Keeps [] h h'/\∃ a' c',v=.slice a' L.len c'/\Own h' 46 1 a' L.len c' (M.sure.map wv)/\Sl h' a' L.len c' M.sure/\∀ x∈ay a',h.size<=x/\x<h'.size):=by
  rw [hsa];exact Mw (by rw [<-hsa];exact A.sure) (by omega)
 refine aH aI Tryz.func12 rfl ok12 (by simp [Tryz.f12]) ?_;(conv=>whnf);refine ak.f rfl ?_;(conv=>whnf);refine ax.o A.obj rfl ?_;(conv=>whnf);refine au.i CL λv h1 k1 hv=>?_;obtain ⟨a,c,rfl,O1,_,nb⟩:=hv;have A1:=A.on k1;(conv=>whnf);refine ax.o A1.obj rfl ?_;(conv=>whnf);refine aP.range rfl A1.loose λit hR ei si ki IR=>?_;have z1:=k1.size;have hlb:L.lb<h.size:=A.loose.lt;have MB:∀ x∈ay a,x≠it/\x≠L.lb:=λx hx=>by have:=nb x hx;omega
 have hrd:∀ i:Nat,i<L.len->lk M.loose (i:Int)=none->M.sure[i]?=some (M.read (i:Int)):=λi hi hn=>by
  unfold aV.read aV.there;rw [hn,List.getElem?_eq_getElem (by omega)];simp [show i<M.sure.length by omega]
 (conv=>whnf);refine bP.on [3,17] [] (λq:List (Int×UInt64)×List UInt64=>[(3,.v (.slice a L.len c)),(17,.v (.pointer (some ⟨it,0,none⟩)))]) (λ_=>[])
  (λq h'=>Keeps (it::ay a) hR h'/\(∃ last,mM h' it L.lb (fH q.1) last)/\Own h' 46 1 a L.len c (q.2.map wv)/\q.2.length=L.len/\(q.1.map (·.1)).Nodup/\(∀ p∈q.1,lk M.loose p.1=some p.2)/\∀ i:Nat,i<L.len->(i:Int)∉q.1.map (·.1)->q.2[i]?=some (M.read (i:Int))) (λq=>q.1.length) (M.loose,M.sure) ?_ ?_
 ·(conv=>whnf);refine ⟨(M.loose,M.sure),rfl,rfl,rfl,Keeps.refl _ _,⟨none,IR⟩,Own.keep O1 ki (by simp),hl.symm,yT A.loose,λp hp=>?_,λi hi hn=>hrd i hi ?_⟩
  ·exact Wo (yT A.loose) hp
  ·cases hk:lk M.loose (i:Int) with
   | none=>rfl
   | some v=>exact absurd (Mt hk) hn
 ·rintro ⟨R,ws⟩ h2 ⟨k2,⟨last,I2⟩,O2,l2,n2,w2,r2⟩;simp only at I2 O2 l2 n2 w2 r2;have FU:it≠L.lb:=by have:=k1.size;omega
  (conv=>whnf);refine aP.next I2 (by simp [aA]) FU (λhR0=>?_) (λR1 p R2 h3 hRR s3 k3 I3=>?_)
  ·(conv=>whnf);refine ak.f rfl ?_;(conv=>whnf);have hR1:R=[]:=Mv hR0;subst hR1;have he:ws=M.img:=by
    apply List.ext_getElem?;intro i;by_cases hi:i<L.len
    ·rw [r2 i hi (by simp),M.Wn (by omega)]
    ·rw [List.getElem?_eq_none (by omega),List.getElem?_eq_none (by rw [M.sG];omega)]
   rw [he] at O2;have zR:=ki.size;exact ⟨(k1.trans ki).dL k2 (λx hx=>by
    rcases List.mem_cons.1 hx with rfl|hx
    ·omega
    ·exact (nb x hx).1),a,c,by rw [hl],by rw [<-hl];exact O2,λx hx=>(nb x hx).1⟩
  ·obtain ⟨m1,q,m2,rfl,rfl,rfl,rfl⟩:=KW hRR;have ql:=w2 q (by simp);(conv=>whnf);refine ak.t rfl ?_;(conv=>whnf);refine aP.entry I3 ?_;have O3:Own h3 46 1 a L.len c (ws.map wv):=Own.keep O2 k3 (λb hb=>by simp;exact (MB b hb).1);have qt:=hw q.1 (by rw [ql];simp);have hq0:0<=q.1/\q.1<M.sure.length:=by simpa [aV.there] using qt
   have hO:=O3;rcases hO with ⟨_,h0,_⟩|⟨b,cs,hb,ob,ht,hcl,hll,hcc⟩
   ·omega
   obtain ⟨i,hi⟩:∃ i:Nat,q.1=(i:Int):=⟨q.1.toNat,by omega⟩;have hi1:i<L.len:=by omega
   have vX:b∈ay a:=by rw [hb];simp [ay]
   have ap:=MB b vX;(conv=>whnf);refine aQ.i i (by exact hi) (by omega) hb ?_;(conv=>whnf);refine dO.i ob ?_ (by simp [aA]) λh4 s4 o4 k4=>?_
   ·show 0+i*1+1<=cs.length;omega
   have hset:(cs.set i (wv q.2)).take (ws.set i q.2).length=(ws.set i q.2).map wv:=by
    rw [List.length_set,List.take_set,List.map_set];rw [List.length_map] at ht;rw [ht]
   have kN:h4[b]?=some (.cells ⟨cs.set i (wv q.2)⟩ 46 (0,0)):=by
    rw [o4];have e:bC (0+i*1) [wv q.2] cs=cs.set i (wv q.2):=by
     rw [show 0+i*1=i by omega,vC _ _ _ (by omega)]
    exact congrArg (λx=>some (Obj.cells ⟨x⟩ 46 (0,0))) e
   (conv=>whnf);refine ⟨(m1++m2).length,by simp,?_⟩;(conv=>whnf);refine ⟨(m1++m2,ws.set i q.2),rfl,rfl,rfl,?_,⟨some (q.1,wv q.2),?_⟩,.inr ⟨b,_,hb,kN,by simpa using hset,by rw [List.length_set];exact hcl,by simpa using hll,hcc⟩,by rw [List.length_set];exact l2,?_,λp hp=>?_,λj hj hn=>?_⟩
   ·exact (k2.trans (k3.mono (by simp))).trans (k4.mono (by simp [vX]))
   ·have:fH m1++fH m2=fH (m1++m2):=List.map_append.symm;have FV:mM h3 it L.lb (fH (m1++m2)) (some (q.1,wv q.2)):=by rw [<-this];exact I3
    exact FV.keep k4 (by simpa using λe=>ap.1 e.symm) (by simpa using λe=>ap.2 e.symm)
   ·have:(m1++q::m2).map (·.1)=m1.map (·.1)++q.1::m2.map (·.1):=by simp
    rw [this] at n2;rw [List.map_append];exact (List.nodup_cons.1 (FT.1 n2)).2
   ·refine w2 p ?_;simp only [List.mem_append,List.mem_cons] at hp ⊢;rcases hp with h|h
    ·exact .inl h
    ·exact .inr (.inr h)
   ·have hN:=hn;simp only [List.map_append,List.mem_append,not_or] at hn;by_cases hji:j=i
    ·subst hji;rw [List.getElem?_set_self (by omega)];unfold aV.read;rw [if_pos (by rw [<-hi];exact qt),<-hi,ql];rfl
    ·rw [List.getElem?_set_ne (λe=>hji e.symm)];refine r2 j hj ?_;simp only [List.map_append,List.map_cons,List.mem_append,List.mem_cons,not_or];exact ⟨hn.1,λe=>hji (by omega),hn.2⟩
theorem yV {h:Heap}{a:Option Addr}{n c:Nat}{ws:List UInt64}(O:Own h 46 1 a n c (ws.map wv))(hb:ws.length<=1000000):Sl h a n c ws:=FZ O (by omega)
structure Img2 (h h':Heap)(ws:List UInt64)(a:Option Addr)(c:Nat)(b:Option Addr)(d:Nat):Prop where
 s1:Sl h' a ws.length c ws
 s2:Sl h' b ws.length d ws
 k:Keeps [] h h'
theorem F3 {h:Heap}{a:Option Addr}{n c:Nat}{W:List cO}(S:Sl h a n c W){i:Nat}(hi:i<W.length){b off:Nat}(hb:a=some ⟨b,off,none⟩):∀ j,j<(W[i]'hi).cells.length->Heap.cell? h b (off+i*Rp.n cO+j)=(W[i]'hi).cells[j]?:=by
 obtain ⟨b',o',hb',cs,⟨rfl,_⟩,hc⟩:=S.at_ i hi;rw [hb] at hb';cases hb';exact hc
theorem MH {h:Heap}{a:Option Addr}{n c:Nat}{W:List cO}(SW:Sl h a n c W)(hp:∀ x∈W,x.path.length<=1048576/\x.path2.length<=1048576):aD Tryz.prog 3 [.slice a n c] h (λv h'=>Keeps [] h h'/\v=.bool true):=by
 refine aH aI Tryz.func3 rfl ok3 (by simp [Tryz.f3]) ?_;(conv=>whnf);refine au.i (MV h) λv h1 k1 hv=>?_;subst hv;(conv=>whnf);refine ak.f rfl ?_;(conv=>whnf);refine au.i (F4 h1) λv h2 k2 hv=>?_;obtain ⟨w,t,bT,V,N,rfl,hw,ht,hT,A,hr,hu,hs,hlo,hab,lQ,hV⟩:=hv;have k02:=k1.trans k2;have z1:=k1.size;have z2:=k2.size;have hw1:h.size<=w:=by have:=hV V.v (by simp [VL.blocks]);omega
 have P0:=MW (h0:=h) (by omega) hw ht hT A hu hs hab lQ (λb hb=>by have:=hV b hb;omega) hw1;have BK:∀ x,lk N.loose x≠none->N.there x=true:=λx hx=>absurd (by rw [hlo];rfl) hx;(conv=>whnf);refine ak.f rfl ?_;(conv=>whnf);refine ax.o P0.obj rfl ?_;(conv=>whnf);refine au.i (BM A.mem ⟨by omega,by omega⟩ BK) λv hi ki hv=>?_;obtain ⟨ai,ci,rfl,OI,nI⟩:=hv;have P1:=P0.on ki;have F5:=k02.trans ki;(conv=>whnf);refine au.i (MX (SW.keep F5)) λv h3 k3 hv=>?_;obtain ⟨c3,rfl,S3⟩:=hv;have P2:=P1.on k3;have kh3:=F5.trans k3;have OI3:=OI.keep k3 (by simp);have hm3:min n 60<=60:=Nat.min_le_right _ _;have hb3:0<min n 60->∀ b∈ay a,b<h.size:=λhp=>SW.MZ (by omega);have hp3:∀ x∈W.take 60,x.path.length<=1048576/\x.path2.length<=1048576:=λx hx=>hp x (List.mem_of_mem_take hx);generalize min n 60=n3 at *;generalize W.take 60=W at *;have hl3:=S3.hlen;have nI2:∀ b∈ay ai,h2.size<=b:=nI;have vY:∀ x∈[w,V.ob,V.sb,V.mb,V.v,V.mem.m,V.mem.lb],h.size<=x/\x<h2.size:=λx hx=>by
  rcases List.mem_cons.1 hx with rfl|hx
  ·exact ⟨hw1,eZ hw⟩
  ·have hm:x∈V.blocks:=by
    simp only [List.mem_cons,List.not_mem_nil,or_false] at hx;rcases hx with rfl|rfl|rfl|rfl|rfl|rfl <;> simp [VL.blocks,ML.blocks]
   have:=hV x hm;have:=eZ hw;omega
 clear P0 P1;(conv=>whnf);refine aU.pass ?_;(conv=>whnf);refine bP.on [0,3,4,5] [] (λi:Nat=>[(0,.v (.slice a n3 c3)),(3,.v (.pointer (some ⟨w,0,none⟩))),(4,.v (.slice ai N.sure.length ci)),(5,.v (.int .i64 (i:Int)))]) (λ_=>[])
  (λi h'=>i<=n3/\Keeps [] h h'/\Sl h' a n3 c3 W/\Own h' 46 1 ai N.sure.length ci (N.img.map wv)/\∃ X S z t aT cT L num,qQ h' h.size w V N X S z t aT cT L num i) (λi=>n3-i) 0 ?_ ?_
 ·(conv=>whnf);exact ⟨0,rfl,rfl,rfl,Nat.zero_le _,kh3,S3,OI3,_,_,_,_,_,_,_,_,P2⟩
 ·rintro i h4 ⟨hi4,k4,S4,OI4,X4,FS4,z4,t4,aT4,cT4,L4,num4,P4⟩;have hz4:=k4.size;(conv=>whnf);refine ak.i (λhd=>?_) (λhd=>?_)
  rotate_left
  ·have M0:=P4.at_;have M6:=P4.obj;(conv=>whnf);refine ax.o M6 rfl ?_;(conv=>whnf);refine au.i (BM M0.mem ⟨by omega,by omega⟩ BK) λv hj kj hv=>?_;obtain ⟨aj,cj,rfl,OJ,nJ⟩:=hv;have SI:Sl hj ai N.sure.length ci N.img:=yV (OI4.keep kj (by simp)) (by rw [N.sG];omega);have SJ:Sl hj aj N.sure.length cj N.img:=yV OJ (by rw [N.sG];omega);have hil:=N.sG;generalize N.img=im at *;(conv=>whnf);refine bP.on [4,9,10] [] (λq:Nat=>[(4,.v (.slice ai N.sure.length ci)),(9,.v (.slice aj N.sure.length cj)),(10,.v (.int .i64 (q:Int)))]) (λ_=>[])
    (λq h'=>q<=N.sure.length/\Keeps [] hj h') (λq=>N.sure.length-q) 0 ?_ ?_
   ·(conv=>whnf);exact ⟨0,rfl,rfl,rfl,Nat.zero_le _,Keeps.refl _ _⟩
   ·rintro q hq ⟨M8,kq⟩;(conv=>whnf);refine ak.i (λhd=>?_) (λhd=>?_)
    ·have hq1:q<im.length:=by simp at hd;omega
     obtain ⟨b8,o8,hb8,_,rfl,hc8⟩:=(SI.keep kq).at_ q hq1;obtain ⟨b9,o9,hb9,_,rfl,hc9⟩:=(SJ.keep kq).at_ q hq1;(conv=>whnf);refine aQ.i q rfl (by omega) hb9 ?_;(conv=>whnf);refine ax.i (hc9 0 (by simp)) ?_;(conv=>whnf);refine aQ.i q rfl (by omega) hb8 ?_;(conv=>whnf);refine ax.i (hc8 0 (by simp)) ?_;(conv=>whnf);refine ak.f (by simp) ?_;(conv=>whnf);refine ⟨N.sure.length-(q+1),by omega,?_⟩;(conv=>whnf);exact ⟨q+1,rfl,by rw [wrapN (n:=q+1) (by simp) (by omega)],rfl,by omega,kq⟩
    ·(conv=>whnf);exact ⟨(k4.trans kj).trans kq,rfl⟩
  ·have hi1:i<W.length:=by simp at hd;omega
   obtain ⟨b5,o5,hb5,_,⟨rfl,hok⟩,hc5⟩:=S4.at_ i hi1;have hem:=List.getElem_mem hi1;have hps:=hp3 _ hem;obtain ⟨yX,A4,I,RW,Sm,H,_,_,_,hap⟩:=P4;have hwl:=eZ yX;have bl:=A4.blt;have aw:=A4.aw0 lQ;obtain ⟨Wt,M9⟩:=RW.Na;obtain ⟨Nb,Nc⟩:=RW.Nf;have tok:=RW.Ga I Sm (by omega);have vZ:=RW.two;rw [mD] at vZ;(conv=>whnf);refine aU.pass ?_;(conv=>whnf);refine ax.o yX rfl ?_;(conv=>whnf);refine au.i (Ng H vZ tok.len) λv h5 k5 hv=>?_;obtain ⟨t2,aT2,cT2,L2,rfl,H2,hL2⟩:=hv;have z5:=k5.size;have A5:=A4.on k5;have Pobj5:=k5.obj yX (by simp);have S5:=S4.keep k5;obtain ⟨b6,o6,hb6,_,⟨rfl,_⟩,hc6⟩:=S5.at_ i hi1;(conv=>whnf);refine ax.o Pobj5 rfl ?_;have hV3:∀ x∈[V.ob,V.sb,V.mb],x<h4.size:=λx hx=>by
    refine bl x ?_;simp only [List.mem_cons,List.not_mem_nil,or_false] at hx;rcases hx with rfl|rfl|rfl <;> simp [VL.blocks]
   have hN2:∀ x∈t2::ay aT2,h4.size<=x/\x<h5.size:=λx hx=>by
    rcases List.mem_cons.1 hx with rfl|hx
    ·exact ⟨H2.zt.1,eZ H2.tr⟩
    ·exact ⟨H2.zt.2 x hx,H2.own.lt x hx⟩
   have W2:bW FS4 (aC L2) num4:=by rw [hL2];exact RW
   have Sm2:jd (aC L2) i:=by rw [hL2];exact Sm
   have hrT2:wh (aC L2) Nb:=by rw [hL2];exact Nc
   have tok2:=W2.Ga I Sm2 (by omega);have tb:TB h4.size h5 []:=TB.nil _ _;have kc:=k5;have HN:=H2;have SC:=S5;have OC:=OI4.keep k5 (by simp)
   repeat' first
    | ((conv=>whnf);refine iI.i ?_ ?_)
    | ((conv=>whnf);refine aR.i λb hh e s o k=>?_;have tb:=tb.add kc.size e k o;have HN:=HN.keep k (by simp);have SC:=SC.keep k;have OC:=OC.keep k (by simp);have kc:=kc.trans k)
    | ((conv=>whnf);refine aQ.i i rfl (by omega) hb6 ?_)
    | ((conv=>whnf);refine eY.i (vs:=(W[i]'hi1).cells) rfl (F3 SC hi1 hb6) ?_)
   all_goals
    (conv=>whnf)
    refine au.m (Nh (A4.on kc) I RW.fc RW.Ni M9 aw (W[i]'hi1) hok) (λy hy hx=>?_) λv h6 k6 hv=>?_
    ·have:=hV3 y hx;have:=kc.size;simp [aA,bg] at hy <;> omega
   all_goals
    obtain ⟨r,RA,nr,X',A6,RV⟩:=hv;have kd:=(kc.mono (by simp)).trans k6;have tb:=tb.keep k6 (λx hx=>.inl (hV3 x hx));have HN:=HN.keep k6 (λx hx=>by have:=hV3 x hx;omega);have SC:=SC.je k6 (λb hb hx=>by have:=hb3 (by omega) b hb;have:=vY b (by simp at hx ⊢;omega);omega);have OC:=OC.keep k6 (λb hb hx=>by have:=nI2 b hb;have:=vY b (by simp at hx ⊢;omega);omega);have z6:=k6.size
   repeat' first
    | ((conv=>whnf);refine iI.i ?_ ?_)
    | ((conv=>whnf);refine aR.i λb hh e s o k=>?_;have tb:=tb.add kd.size e k o;have HN:=HN.keep k (by simp);have SC:=SC.keep k;have OC:=OC.keep k (by simp);have kd:=kd.cu k;have A6:=A6.on k;have RA:=RA.keep k (by simp))
    | ((conv=>whnf);refine aQ.i i rfl (by omega) hb6 ?_)
    | ((conv=>whnf);refine eY.i (vs:=(W[i]'hi1).cells) rfl (F3 SC hi1 hb6) ?_)
   all_goals
    (conv=>whnf)
    refine au.m (Nj HN (Nat.le_trans HN.zt.1 (Nat.le_of_lt (eZ HN.tr))) tok2 hrT2 (W[i]'hi1) hok hps.1 hps.2) (λy hy hx=>?_) λv7 h7 k7 hv7=>?_
    ·have:=hN2 y hx;simp [aA,bg] at hy <;> omega
   all_goals
    have hT7:=HN.Nk;obtain ⟨r',RB,yY,aT3,cT3,L3,HN,RD⟩:=hv7;have ke:=kd.gL k7 (λx hx=>.inr (by have:=hN2 x hx;omega));have A6:=A6.keep k7 (λb hb hx=>by have:=bl b hb;have:=hN2 b hx;omega);have RA:=RA.keep k7 (λx hx cs T fz o=>by rcases hT7 x hx cs T fz o with rfl|rfl <;> decide);have tb:=tb.keep k7 (λx hx=>.inr (λcs fz o=>by rcases hT7 x hx _ _ _ o with h|h <;> cases h));have OC:=OC.keep k7 (λb hb hx=>by have:=OI4.lt b hb;have:=hN2 b hx;omega);have z7:=k7.size
   repeat' first
    | ((conv=>whnf);refine iI.i ?_ ?_)
    | ((conv=>whnf);refine aR.i λb hh e s o k=>?_;have tb:=tb.add ke.size e k o;have HN:=HN.keep k (by simp);have OC:=OC.keep k (by simp);have ke:=ke.cu k;have A6:=A6.on k;have RA:=RA.keep k (by simp);have RB:=RB.keep k (by simp))
   all_goals
    obtain ⟨xa,xc,rfl⟩:=RA.val;obtain ⟨xb,xd,rfl⟩:=RB.val
    (conv=>whnf)
    refine aN.i λh8 s8 k8=>?_;have ke:=tb.keeps (by simp) k8 (Nat.le_refl _) ke;have A6:=tb.at_ (by simp) k8 A6 bl;have RA:=tb.yZ (by simp) k8 RA;have RB:=tb.yZ (by simp) k8 RB;have HN:=tb.tree (by simp) k8 HN;have OC:=OC.keep k8 (λb hb hx=>by have:=OI4.lt b hb;obtain rfl:=List.mem_singleton.1 hx;have:=tb b (by simp);omega);have z8:=k8.size
    (conv=>whnf)
    refine aN.i λh9 s9 k9=>?_;have tb7:=tb.next k8 k9 (by simp) (by omega);have ke:=tb7.keeps (by simp) k9 (Nat.le_refl _) ke;have A6:=tb7.at_ (by simp) k9 A6 bl;have RA:=tb7.yZ (by simp) k9 RA;have RB:=tb7.yZ (by simp) k9 RB;have HN:=tb7.tree (by simp) k9 HN;have OC:=OC.keep k9 (λb hb hx=>by have:=OI4.lt b hb;obtain rfl:=List.mem_singleton.1 hx;have:=tb7 b (by simp);omega);have z9:=ke.size;clear k8 k9 tb tb7
   all_goals
    have hO:=Nl W2 I Sm2.short RV RD;have Nn:w∉[V.ob,V.sb,V.mb]:=λhx=>hap (by
     simp only [List.mem_cons,List.not_mem_nil,or_false] at hx;rcases hx with rfl|rfl|rfl <;> simp [VL.blocks])
    have obj9:=ke.obj yX Nn;have kh9:Keeps [] h h9:=k4.dL ke (λx hx=>by have:=vY x (by simp at hx ⊢;omega);omega);obtain ⟨oa,on,hO⟩:=hO;rcases hO with ⟨hr9,h0⟩|⟨hrr,hne,hnw⟩|⟨hrr,h0,S',num',IF,W'⟩
    ·subst hr9
     (conv=>whnf)
     refine ak.t (by rw [h0];rfl) ?_;(conv=>whnf);refine ax.o obj9 rfl ?_;(conv=>whnf);refine au.i (BM A6.mem ⟨by omega,by omega⟩ BK) λv hj kj hv=>?_;obtain ⟨aj,cj,rfl,OJ,nJ⟩:=hv;have SI:Sl hj ai N.sure.length ci N.img:=yV (OC.keep kj (by simp)) (by rw [N.sG];omega);have SJ:Sl hj aj N.sure.length cj N.img:=yV OJ (by rw [N.sG];omega);have hil:=N.sG;generalize N.img=im at *;(conv=>whnf);refine bP.on [4,9,10] [] (λq:Nat=>[(4,.v (.slice ai N.sure.length ci)),(9,.v (.slice aj N.sure.length cj)),(10,.v (.int .i64 (q:Int)))]) (λ_=>[])
      (λq h'=>q<=N.sure.length/\Keeps [] hj h') (λq=>N.sure.length-q) 0 ?_ ?_
     ·(conv=>whnf);exact ⟨0,rfl,rfl,rfl,Nat.zero_le _,Keeps.refl _ _⟩
     ·rintro q hq ⟨M8,kq⟩;(conv=>whnf);refine ak.i (λhd=>?_) (λhd=>?_)
      ·have hq1:q<im.length:=by simp at hd;omega
       obtain ⟨b8,o8,hb8,_,rfl,hc8⟩:=(SI.keep kq).at_ q hq1;obtain ⟨b9,o9,hb9,_,rfl,hc9⟩:=(SJ.keep kq).at_ q hq1;(conv=>whnf);refine aQ.i q rfl (by omega) hb9 ?_;(conv=>whnf);refine ax.i (hc9 0 (by simp)) ?_;(conv=>whnf);refine aQ.i q rfl (by omega) hb8 ?_;(conv=>whnf);refine ax.i (hc8 0 (by simp)) ?_;(conv=>whnf);refine ak.f (by simp) ?_;(conv=>whnf);refine ⟨N.sure.length-(q+1),by omega,?_⟩;(conv=>whnf);exact ⟨q+1,rfl,by rw [wrapN (n:=q+1) (by simp) (by omega)],rfl,by omega,kq⟩
      ·(conv=>whnf);exact ⟨(kh9.trans kj).trans kq,rfl⟩
    ·(conv=>whnf)
     refine ak.f (by rw [<-hrr];simp [hne]) ?_
     (conv=>whnf)
     refine au.i (Gb RA RB (by have:=nr.2;omega) (by have:=yY.2;omega) nr.1 yY.1) λv10 h10 k10 hv10=>?_;obtain ⟨b10,rfl,hb10⟩:=hv10;rw [hb10.2 hrr]
     (conv=>whnf)
     refine ak.f rfl ?_
     (conv=>whnf)
     refine ak.f (by rw [<-hrr];simp [hne]) ?_
     (conv=>whnf)
     refine ⟨n3-(i+1),by omega,?_⟩
     (conv=>whnf)
     refine ⟨i+1,rfl,by rw [wrapN (n:=i+1) (by simp) (by omega)],rfl,by omega,kh9.trans k10,(S4.je ke (λb hb hx=>by have:=hb3 (by omega) b hb;have:=vY b (by simp at hx ⊢;omega);omega)).keep k10,OC.keep k10 (by simp),X',FS4,z4,t4,aT4,cT4,L4,num4,k10.obj obj9 (by simp),A6.on k10,by rw [hnw];exact I,RW,Sm.up,(H.BN ke (λx hx cs T fz o=>?_)).keep k10 (by simp),⟨hab,lQ⟩,⟨hu,hs⟩,⟨hw1,λb hb=>by have:=hV b hb;omega⟩,hap⟩;rcases A4.noT x (by simp at hx ⊢;omega) cs T fz o with rfl|rfl <;> decide
    ·(conv=>whnf)
     refine ak.f (by rw [<-hrr,h0];rfl) ?_
     (conv=>whnf)
     refine au.i (Gb RA RB (by have:=nr.2;omega) (by have:=yY.2;omega) nr.1 yY.1) λv10 h10 k10 hv10=>?_;obtain ⟨b10,rfl,hb10⟩:=hv10;rw [hb10.2 hrr]
     (conv=>whnf)
     refine ak.f rfl ?_;have obj10:=k10.obj obj9 (by simp);have HN10:=HN.keep k10 (by simp);have z10:=k10.size
     (conv=>whnf)
     refine ak.t (by rw [<-hrr];simp [h0]) ?_
     (conv=>whnf)
     refine dO.i obj10 (Nat.le_of_ble_eq_true rfl) (by simp [aA,bg] <;> omega) λh11 s11 o11 k11=>?_;have BO:h11[w]?=some (.cells ⟨wC V t2⟩ 31 (0,0)):=o11;have A11:=(A6.on k10).keep k11 (λb hb hx=>hap (by obtain rfl:=List.mem_singleton.1 hx;exact hb));have HN11:=HN10.iW k11 obj10 (by decide)
     (conv=>whnf)
     refine ⟨n3-(i+1),by omega,?_⟩
     (conv=>whnf)
     refine ⟨i+1,rfl,by rw [wrapN (n:=i+1) (by simp) (by omega)],rfl,by omega,(kh9.trans k10).dL k11 (λx hx=>by obtain rfl:=List.mem_singleton.1 hx;exact hw1),((S4.je ke (λb hb hx=>by have:=hb3 (by omega) b hb;have:=vY b (by simp at hx ⊢;omega);omega)).keep k10).je k11 (λb hb hx=>by have:=hb3 (by omega) b hb;obtain rfl:=List.mem_singleton.1 hx;omega),(OC.keep k10 (by simp)).keep k11 (λb hb hx=>by have:=nI2 b hb;have:=eZ hw;obtain rfl:=List.mem_singleton.1 hx;omega),X',S',h4.size,t2,aT3,cT3,L3,num',BO,A11,IF,W',?_,HN11,⟨hab,lQ⟩,⟨hu,hs⟩,⟨hw1,λb hb=>by have:=hV b hb;omega⟩,hap⟩;exact RD.qR (by rw [W2.root.2];decide) Sm2 (by rw [<-hrr];exact h0)
end Go.Proofs.YtoociceebodfeaaGreatDoor
