/-
  Joined texts: CrdF, VieA, NamA, NamB, NamC, NamD, WalC, PthA, FndA, RelA.
-/
import Derived.Test.YtoociceebodfeaaGreatDoorJLawCRenameh
import Derived.Test.YtoociceebodfeaaGreatDoorJLawCRenamee
import Derived.Test.YtoociceebodfeaaGreatDoorJLawCRenameg
set_option linter.all false
set_option maxRecDepth 100000
set_option maxHeartbeats 4000000
namespace Go.Proofs.YtoociceebodfeaaGreatDoor
open Go Go.aN
theorem Vk {h:Heap}{a b:Option Addr}{n c m d:Nat}{x y:List UInt64}(S:Sl h a n c x)(T:Sl h b m d y)(hn:n<=1000):aC Tryz.prog 123 [.slice a n c,.slice b m d] h (λv h'=>Keeps [] h h'/\v=.bool (decide (x=y))):=by
 have hl:=S.hlen;have hm:=T.hlen;refine aG aH Tryz.func123 rfl ok123 (by simp [Tryz.f123]) ?_;(conv=>whnf);refine aj.i (λhc=>?_) (λhc=>?_)
 ·(conv=>whnf);have:¬ x=y:=by
   rintro rfl;simp at hc;omega
  rw [decide_eq_false this];exact ⟨Keeps.refl _ _,rfl⟩
 ·have hnm:n=m:=by simp at hc;omega
  (conv=>whnf);refine bP.on [0,1,12,13] [] (λi:Nat=>[(0,.v (.slice a n c)),(1,.v (.slice b m d)),(12,.v (.int .i64 (n:Int))),(13,.v (.int .i64 (i:Int)))]) (λ_=>[])
   (λi h'=>i<=n/\Keeps [] h h'/\x.take i=y.take i) (λi=>n-i) 0 ?_ ?_
  ·(conv=>whnf);exact ⟨0,rfl,rfl,rfl,Nat.zero_le _,Keeps.refl _ _,rfl⟩
  ·rintro i h2 ⟨hi,k2,he⟩;(conv=>whnf);refine aj.i (λhd=>?_) (λhd=>?_)
   ·have hi1:i<x.length:=by simp at hd;omega
    have hi2:i<y.length:=by omega
    obtain ⟨b1,off1,hb1,_,hc1⟩:=(S.keep k2).at1 i hi1;obtain ⟨b2,off2,hb2,_,hc2⟩:=(T.keep k2).at1 i hi2;(conv=>whnf);refine aX.i i rfl (by omega) hb1 ?_;(conv=>whnf);refine ax.i hc1 ?_;(conv=>whnf);refine aX.i i rfl (by omega) hb2 ?_;(conv=>whnf);refine ax.i hc2 ?_;(conv=>whnf);refine aj.i (λhq=>?_) (λhq=>?_)
    ·(conv=>whnf);have:¬ x=y:=by
      rintro rfl;simp at hq
     rw [decide_eq_false this];exact ⟨k2,rfl⟩
    ·have hxy:x[i]=y[i]:=by
      have:((x[i].toNat:Nat):Int)=((y[i].toNat:Nat):Int):=by simpa using hq
      exact UInt64.toNat_inj.1 (by omega)
     (conv=>whnf);refine ⟨n-(i+1),by omega,?_⟩;(conv=>whnf);refine ⟨i+1,rfl,by rw [wrapN (x:=(i:Int)+1) (n:=i+1) (by simp) (by omega)],rfl,by omega,k2,?_⟩;rw [List.take_succ_eq_append_getElem hi1,List.take_succ_eq_append_getElem hi2,he,hxy]
   ·have hi1:i=n:=by simp at hd;omega
    (conv=>whnf);refine ⟨k2,?_⟩;have e1:x.take i=x:=by rw [hi1,hl];exact List.take_length
    have e2:y.take i=y:=by rw [hi1,hnm,hm];exact List.take_length
    rw [e1,e2] at he;rw [decide_eq_true he]
def gN (ws:List UInt64)(i:Nat):Int:=mX ws (iL i) (nY i) (jU i)
def l9 (ws:List UInt64)(i:Nat):List Int:=(List.range i).map (gN ws)
theorem Vg {h:Heap}{a:Option Addr}{cp:Nat}{ws:List UInt64}(S:Sl h a 8 cp ws):aC Tryz.prog 72 [.slice a 8 cp] h (λv h'=>Keeps [] h h' /\
 v=match gU ws with|some c=>.tuple #[.agg ⟨c.cells⟩,.int .i64 0]|none=>.tuple #[.agg ⟨aA.zero.cells⟩,.int .i64 15]):=by
 have hl:=S.hlen;refine aG aH Tryz.func72 rfl ok72 (by simp [Tryz.f72]) ?_;(conv=>whnf);refine aL.i λb1 h1 e1 s1 o1 k1=>?_;(conv=>whnf);refine aj.f rfl ?_;(conv=>whnf);refine ak.i (MN h1) λv h2 k2 hv=>?_;obtain ⟨bf,cf,fz,sp,rfl,hcf,hbf,o2⟩:=hv;(conv=>whnf);refine bP.on [0,2,4,17,18,19] [2] (λq:Nat×Option Addr×Nat=>[(0,.v (.slice a 8 cp)),(2,.lp 2 0),(4,.v (.slice q.2.1 q.1 q.2.2)),(17,.v (.slice (some ⟨bf,0,none⟩) 9 cf)),(18,.v (.int .i64 9)),(19,.v (.int .i64 (q.1:Int)))]) (λ_=>[(2,b1,aA.zero.cells)])
  (λq h'=>q.1<=9/\Keeps [] h1 h'/\h2.size<=h'.size/\Own h' 3 1 q.2.1 q.1 q.2.2 ((l9 ws q.1).map λx=>.int .i64 x)/\(∀ b∈ay q.2.1,h2.size<=b)/\h'[bf]?=some (.cells ⟨qx 9++sp⟩ 189 fz)) (λq=>9-q.1) (0,none,0) ?_ ?_
 ·(conv=>whnf);exact ⟨(0,none,0),rfl,rfl,rfl,Nat.zero_le _,k2,Nat.le_refl _,.inl ⟨rfl,rfl,rfl,rfl⟩,by simp [ay],o2⟩
 ·rintro ⟨i,a4,c4⟩ h3 ⟨hi,k3,z3,O3,n3,o3⟩;simp only at hi O3 n3;(conv=>whnf);refine aj.i (λhd=>?_) (λhd=>?_)
  ·have hi9:i<9:=by simp at hd;omega
   (conv=>whnf);refine aX.i i rfl hi9 rfl ?_;have Gh:pu 3 (pz (0+i*3) (qx 9++sp))=some (uW i):=by
    have:i=0\/i=1\/i=2\/i=3\/i=4\/i=5\/i=6\/i=7\/i=8:=by omega
    rcases this with rfl|rfl|rfl|rfl|rfl|rfl|rfl|rfl|rfl <;> rfl
   (conv=>whnf);refine fq.o (vs:=uW i) o3 Gh ?_;(conv=>whnf);refine aL.i λb8 h8 e8 s8 o8 k8=>?_;(conv=>whnf);refine aK.i λh9 s9 k9=>?_;have k39:Keeps [] h3 h9:=k8.new1 k9 (by omega);have hA:iL i<8:=by
    unfold iL;split <;> omega
   have hF:l8 (nY i) (jU i):=by
    have:i=0\/i=1\/i=2\/i=3\/i=4\/i=5\/i=6\/i=7\/i=8:=by omega
    rcases this with rfl|rfl|rfl|rfl|rfl|rfl|rfl|rfl|rfl <;> (unfold l8;decide)
   obtain ⟨b,off,hb',_,hcell⟩:=(S.keep (k1.trans (k3.trans k39))).at1 (iL i) (by omega);(conv=>whnf);refine aX.i (iL i) rfl hA hb' ?_;(conv=>whnf);refine ax.i hcell ?_;(conv=>whnf);refine ak.i (MJ _ (nY i) (jU i) hF h9) λv h10 k10 hv=>?_;subst hv;(conv=>whnf);refine aL.i λb11 h11 e11 s11 o11 k11=>?_;have hg:(l7 (ws[iL i]'(by omega)) (nY i) (jU i)).toNat<4294967296:=by
    unfold l8 at hF;rw [FW _ (by omega) (by omega)];have h1:=Nat.mod_lt ((ws[iL i]'(by omega)).toNat/2 ^ nY i) (Nat.two_pow_pos (jU i));have h2:2 ^ jU i<=2 ^ 32:=Nat.pow_le_pow_right (by decide) hF.2.2.1;omega
   have hval:IntKind.i64.wrap ((l7 (ws[iL i]'(by omega)) (nY i) (jU i)).toNat:Int)=gN ws i:=by
    rw [dR (by omega) (by omega)];unfold gN mX;rw [List.getElem?_eq_getElem (by omega)];rfl
   have Vl:h11[b11]?=some (.cells ⟨[.int .i64 (gN ws i)]⟩ 3 (0,0)):=by
    rw [<-hval];exact o11
   have kk:Keeps [] h3 h11:=k39.trans (k10.trans k11);have hgl:(l9 ws i).length=i:=by simp [l9]
   (conv=>whnf);refine RU (O3.keep kk (by simp)) hgl.symm (by omega) Vl (λb hb hx=>?_) λa12 c12 h12 O12 k12 n12=>?_
   ·have hx2:b=b1\/b=b8:=by simpa [au,aZ] using hx
    have:=n3 b hb;have:=O3.lt b hb;have:=k2.size;omega
   (conv=>whnf);refine ⟨9-(i+1),by omega,?_⟩;(conv=>whnf);have hz:=kk.size;refine ⟨(i+1,a12,c12),rfl,?_,rfl,by simp only;omega,(k3.trans kk).cZ k12 (λx hx=>by have:=n3 x hx;have:=k2.size;omega),by have:=k12.size;omega,?_,λb hb=>?_,(kk.obj o3 (by simp)) |> λo=>k12.obj o (λhb=>by have:=n3 bf hb;have:=eU o2;omega)⟩
   ·simp only;rw [wrapN (x:=(i:Int)+1) (n:=i+1) (by simp) (by omega)]
   ·have:l9 ws (i+1)=l9 ws i++[gN ws i]:=by simp [l9,List.range_succ]
    simp only [this];exact O12
   ·rcases n12 b hb with h|h
    ·exact n3 b h
    ·omega
  ·have hi9:i=9:=by simp at hd;omega
   subst hi9;have hG:∀ x∈l9 ws 9,0<=x/\x<4294967296:=by
    intro x hx;obtain ⟨i,hi,rfl⟩:=List.mem_map.1 hx;have hi:i<9:=by simpa using hi
    unfold gN mX;have hF:l8 (nY i) (jU i):=by
     have:i=0\/i=1\/i=2\/i=3\/i=4\/i=5\/i=6\/i=7\/i=8:=by omega
     rcases this with rfl|rfl|rfl|rfl|rfl|rfl|rfl|rfl|rfl <;> (unfold l8;decide)
    unfold l8 at hF;rw [FW _ (by omega) (by omega)];have h1:=Nat.mod_lt ((ws[iL i]?.getD 0).toNat/2 ^ nY i) (Nat.two_pow_pos (jU i));have h2:2 ^ jU i<=2 ^ 32:=Nat.pow_le_pow_right (by decide) hF.2.2.1;omega
   have S9:Sl h3 a4 9 c4 (l9 ws 9):=O3.sl (α:=Int) (Ev _ _ (λx hx=>by have:=hG x hx;unfold inI64;omega)) rfl (by decide) (by simp [l9]);have g9:(l9 ws 9).length=9:=by simp [l9]
   obtain ⟨p0,q0,hp0,_,hc0⟩:=S9.at1 0 (by omega);obtain ⟨p1,q1,hp1,_,hc1⟩:=S9.at1 1 (by omega);obtain ⟨p2,q2,hp2,_,hc2⟩:=S9.at1 2 (by omega);obtain ⟨p8,q8,hp8,_,hc8⟩:=S9.at1 8 (by omega);obtain ⟨pw,qw,hpw,_,hcw⟩:=(S.keep (k1.trans k3)).at1 1 (by omega);(conv=>whnf);refine aX.i 0 rfl (show (0:Nat)<9 by decide) hp0 ?_;(conv=>whnf);refine ax.i hc0 ?_;(conv=>whnf);refine aX.i 1 rfl (show (1:Nat)<9 by decide) hp1 ?_;(conv=>whnf);refine ax.i hc1 ?_;(conv=>whnf);refine aX.i 2 rfl (show (2:Nat)<9 by decide) hp2 ?_;(conv=>whnf);refine ax.i hc2 ?_;(conv=>whnf);refine aX.i 1 rfl (by decide) hpw ?_;(conv=>whnf);refine ax.i hcw ?_;(conv=>whnf);refine aX.i 8 rfl (show (8:Nat)<9 by decide) hp8 ?_;(conv=>whnf);refine ax.i hc8 ?_;(conv=>whnf);refine aL.i λb10 h10 e10 s10 o10 k10=>?_;(conv=>whnf);refine aK.i λh11 s11 k11=>?_;have k311:Keeps [] h3 h11:=k10.new1 k11 (by omega);have hgn:∀ i (hi:i<9),(l9 ws 9)[i]'(by omega)=gN ws i:=λi hi=>by simp [l9]
   have hgb:∀ i,i<9->0<=gN ws i/\gN ws i<4294967296:=λi hi=>hG _ (by rw [<-hgn i hi];exact List.getElem_mem _);have hv1:ws[1]'(by omega)=ws[1]?.getD 0:=by rw [List.getElem?_eq_getElem (by omega)];rfl
   have hm8:IntKind.i64.wrap (gN ws 8-1)=gN ws 8-1:=by
    have:=hgb 8 (by decide);exact dR (by omega) (by omega)
   (conv=>whnf);refine bP.on [0,2,4,9,62] [2,9] (λi:Nat=>[(0,.v (.slice a 8 cp)),(2,.lp 2 0),(4,.v (.slice a4 9 c4)),(9,.lp 9 0),(62,.v (.int .i64 (i:Int)))]) (λi=>[(2,b1,aA.zero.cells),(9,b10,[.int .i64 (gN ws 0),.int .i64 (gN ws 1),.int .i64 (gN ws 2),wv (ws[1]?.getD 0),.int .i64 (if 0<i then gN ws 3-1 else 0),.int .i64 (if 1<i then gN ws 4-1 else 0),.int .i64 (if 2<i then gN ws 5-1 else 0),.int .i64 (if 3<i then gN ws 6-1 else 0),.int .i64 (if 4<i then gN ws 7-1 else 0),.int .i64 (gN ws 8-1)])])
    (λi h'=>i<=5/\Keeps [] h3 h'/\h11.size<=h'.size) (λi=>5-i) 0 ?_ ?_
   ·(conv=>whnf);refine ⟨0,rfl,rfl,?_,Nat.zero_le _,k311,Nat.le_refl _⟩;rw [<-hm8,<-hv1,<-hgn 0 (by decide),<-hgn 1 (by decide),<-hgn 2 (by decide),<-hgn 8 (by decide)];rfl
   ·rintro i h12 ⟨hi,k12,z12⟩;(conv=>whnf);refine aj.i (λhd=>?_) (λhd=>?_)
    ·have hi5:i<5:=by simp at hd;omega
     obtain ⟨p,q,hp,_,hc⟩:=(S9.keep k12).at1 (3+i) (by omega);have ei:IntKind.i64.wrap (3+(i:Int))=((3+i:Nat):Int):=wrapN (by omega) (by omega);(conv=>whnf);refine aX.i (3+i) ei (show 3+i<9 by omega) hp ?_;(conv=>whnf);refine ax.i hc ?_;(conv=>whnf);refine dO.i i rfl hi5 ?_;(conv=>whnf);refine dL.i (by show 4+i*1+1<=10;omega) ?_;(conv=>whnf);refine aK.i λh13 s13 k13=>?_;(conv=>whnf);refine ⟨5-(i+1),by omega,?_⟩;(conv=>whnf);refine ⟨i+1,rfl,by rw [wrapN (x:=(i:Int)+1) (n:=i+1) (by simp) (by omega)],?_,by omega,k12.new1 k13 (by omega),by omega⟩;have hw:IntKind.i64.wrap ((l9 ws 9)[3+i]'(by omega)-1)=gN ws (3+i)-1:=by
      rw [hgn (3+i) (by omega)];have:=hgb (3+i) (by omega);exact dR (by omega) (by omega)
     refine congrArg (λx=>[(2,b1,aA.zero.cells),(9,b10,x)]) ?_;show bF (4+i*1) [.int .i64 (IntKind.i64.wrap ((l9 ws 9)[3+i]'(by omega)-1))] _=_;rw [hw];have:i=0\/i=1\/i=2\/i=3\/i=4:=by omega
     rcases this with rfl|rfl|rfl|rfl|rfl <;> rfl
    ·have hi5:i=5:=by simp at hd;omega
     subst hi5;have gb0:=hgb 0 (by decide);have gb1:=hgb 1 (by decide);have gb2:=hgb 2 (by decide);have gb3:=hgb 3 (by decide);have gb4:=hgb 4 (by decide);have gb5:=hgb 5 (by decide);have gb6:=hgb 6 (by decide);have gb7:=hgb 7 (by decide);have gb8:=hgb 8 (by decide);have hok:(nW ws).ok:=by
      refine ⟨?_,?_,?_,λx hx=>?_,?_⟩
      ·show inI64 (gN ws 0);unfold inI64;omega
      ·show inI64 (gN ws 1);unfold inI64;omega
      ·show inI64 (gN ws 2);unfold inI64;omega
      ·have hx:x∈[gN ws 3-1,gN ws 4-1,gN ws 5-1,gN ws 6-1,gN ws 7-1]:=hx;simp only [List.mem_cons,List.not_mem_nil,or_false] at hx;unfold inI64;omega
      ·show inI64 (gN ws 8-1);unfold inI64;omega
     (conv=>whnf);refine ak.i (Gc (nW ws) hok h12) λv h13 k13 hv=>?_;have kk:=k1.trans (k3.trans (k12.trans k13));by_cases hr:fV (nW ws)=true
     ·rw [if_pos hr] at hv;obtain ⟨b14,rfl,hb14,o14⟩:=hv;have S14:Sl h13 (some ⟨b14,0,none⟩) 8 8 (fP (nW ws)):=Sl.mJ o14 (by simp [One.ok]) rfl (by show 8<=281474976710656;decide);(conv=>whnf);refine aj.t rfl ?_;(conv=>whnf);refine ak.i (Vk S14 (S.keep kk) (by decide)) λv h15 k15 hv=>?_;subst hv;by_cases he:fP (nW ws)=ws
      ·have hR:gU ws=some (nW ws):=by
        unfold gU;rw [if_pos ⟨hl.symm,hr,he⟩]
       rw [hR,decide_eq_true he];(conv=>whnf);refine aj.f rfl ?_;(conv=>whnf);refine aK.i λh16 s16 k16=>?_;(conv=>whnf);exact ⟨(kk.trans k15).new1 k16 (by omega),rfl⟩
      ·have hR:gU ws=none:=by
        unfold gU;rw [if_neg (λx=>he x.2.2)]
       rw [hR,decide_eq_false he];(conv=>whnf);refine aj.t rfl ?_;(conv=>whnf);refine aK.i λh16 s16 k16=>?_;(conv=>whnf);exact ⟨(kk.trans k15).new1 k16 (by omega),rfl⟩
     ·rw [if_neg hr] at hv;subst hv;have hR:gU ws=none:=by
       unfold gU;rw [if_neg (λx=>hr x.2.1)]
      rw [hR];(conv=>whnf);refine aj.f rfl ?_;(conv=>whnf);refine aj.t rfl ?_;(conv=>whnf);refine aK.i λh16 s16 k16=>?_;(conv=>whnf);exact ⟨kk.new1 k16 (by omega),rfl⟩
def eY (X:VS)(n:Int):VS:={ X with seen:=lX X.seen n }
def dZ (X:VS)(n:Int)(c:aA):VS:={ X with now:=setW X.now n c,seen:=lX X.seen n,mine:=lX X.mine n }
theorem At.see {h h':Heap}{V:VL}{M:aS}{X:VS}(A:At h V M X){s:List Int}(k:Keeps [V.sb] h h')(m:dF h' V.sb (lF s))(hs:∀ x∈s,0<=x/\x<24):At h' V M { X with seen:=s }:=by
 have a1:=A.ap1;have ne:=A.ED;refine ⟨A.mem.keep k (λb hb hx=>?_),k.obj A.obj (by simp;exact ne.2.1),?_,m,A.mine.keep k (by simp;exact λe=>a1.2.2 e.symm),A.away.keep k (λb hb=>?_),A.bG.keep k (λb hb=>?_),A.ap1,A.ap2,A.ap3,λx hx=>by
  rcases List.mem_append.1 hx with h|h
  ·exact hs x h
  ·exact A.bH x (List.mem_append_right _ h)⟩
 ·have e:b=V.sb:=by simpa using hx
  exact A.ap2 V.sb (by simp) (e ▸ hb)
 ·obtain ⟨own,q1,q2⟩:=A.own;exact ⟨own,q1.keep k (by simp;exact a1.1),q2⟩
 ·have:=A.ap3 b (by simp at hb ⊢;exact .inl hb);simp;exact this.2.1
 ·have:=A.ap3 b (by simp at hb ⊢;exact .inr hb);simp;exact this.2.1
theorem At.min_ {h h':Heap}{V:VL}{M:aS}{X:VS}(A:At h V M X){s:List Int}(k:Keeps [V.mb] h h')(m:dF h' V.mb (lF s))(hs:∀ x∈s,0<=x/\x<24):At h' V M { X with mine:=s }:=by
 have a1:=A.ap1;have ne:=A.ED;refine ⟨A.mem.keep k (λb hb hx=>?_),k.obj A.obj (by simp;exact ne.2.2),?_,A.seen.keep k (by simp;exact a1.2.2),m,A.away.keep k (λb hb=>?_),A.bG.keep k (λb hb=>?_),A.ap1,A.ap2,A.ap3,λx hx=>by
  rcases List.mem_append.1 hx with h|h
  ·exact A.bH x (List.mem_append_left _ h)
  ·exact hs x h⟩
 ·have e:b=V.mb:=by simpa using hx
  exact A.ap2 V.mb (by simp) (e ▸ hb)
 ·obtain ⟨own,q1,q2⟩:=A.own;exact ⟨own,q1.keep k (by simp;exact a1.2.1),q2⟩
 ·have:=A.ap3 b (by simp at hb ⊢;exact .inl hb);simp;exact this.2.2.1
 ·have:=A.ap3 b (by simp at hb ⊢;exact .inr hb);simp;exact this.2.2.1
theorem At.MF {h:Heap}{V:VL}{M:aS}{X:VS}(A:At h V M X){n:Int}(hn:0<=n/\n<24):∀ x∈lX X.seen n,0<=x/\x<24:=λx hx=>by
 rcases nR.1 hx with h|rfl
 ·exact A.bH x (List.mem_append_left _ h)
 ·exact hn
theorem At.Vf {h:Heap}{V:VL}{M:aS}{X:VS}(A:At h V M X){n:Int}(hn:0<=n/\n<24):∀ x∈lX X.mine n,0<=x/\x<24:=λx hx=>by
 rcases nR.1 hx with h|rfl
 ·exact A.bH x (List.mem_append_right _ h)
 ·exact hn
def pM (o:Option aA):Value:=match o with|some c=>.tuple #[.agg ⟨c.cells⟩,.int .i64 0]|none=>.tuple #[.agg ⟨aA.zero.cells⟩,.int .i64 15]
theorem sV {h:Heap}{V:VL}{M:aS}{X:VS}(A:At h V M X)(n:Int):aC Tryz.prog 26 [.pointer (some ⟨V.v,0,none⟩),.int .i64 n] h (λv h'=>Keeps [V.sb] h h' /\
 (if 0<=n/\n<24 then v=pM (gU (bW X.now (8+n*8) 8))/\At h' V M (eY X n) else v=.tuple #[.agg ⟨aA.zero.cells⟩,.int .i64 1]/\At h' V M X)):=by
 have bl:=A.blt;refine aG aH Tryz.func26 rfl ok26 (by simp [Tryz.f26]) ?_;(conv=>whnf);refine aL.i λb1 h1 e1 s1 o1 k1=>?_;(conv=>whnf);refine ak.i (ul n h1) λv h2 k2 hv=>?_;subst hv;have A2:=A.on (k1.trans k2);by_cases hn:0<=n/\n<24
 ·rw [if_pos hn,if_pos hn];(conv=>whnf);refine aj.f rfl ?_;(conv=>whnf);refine ax.o A2.obj rfl ?_;(conv=>whnf);refine aW.put rfl rfl A2.seen (by simp [au,aZ];have:=bl V.sb (by simp [VL.blocks]);omega) λh3 s3 M3 k3=>?_;have A3:=A2.see k3 (by rw [<-Bp];exact M3) (A2.MF hn);(conv=>whnf);refine ak.i (Ky A3 (8+n*8) 8 (by omega) (by decide)) λv h4 k4 hv=>?_;obtain ⟨b4,rfl,q1,q2,o4⟩:=hv;have S4:Sl h4 (some ⟨b4,0,none⟩) 8 8 (bW X.now (8+n*8) 8):=Sl.mJ o4 (by simp [One.ok]) (by simp [bW]) (by simp [bW]);(conv=>whnf);refine ak.i (Vg S4) λv h5 k5 hv=>?_;have kk:Keeps [V.sb] h h5:=(((k1.trans k2).mono (by simp)).trans k3).bS (k4.trans k5);have A5:=A3.on (k4.trans k5);have hb1:∀ b∈V.blocks,b≠b1:=λb hb=>by have:=bl b hb;omega
  cases hc:gU (bW X.now (8+n*8) 8) with
  | some c=>
   rw [hc] at hv;subst hv;(conv=>whnf);refine aK.i λh6 s6 k6=>?_;(conv=>whnf);refine ⟨kk.m1 k6 (by omega),?_⟩;rw [if_pos hn];exact ⟨rfl,A5.keep k6 (λb hb=>by simp;exact hb1 b hb)⟩
  | none=>
   rw [hc] at hv;subst hv;(conv=>whnf);refine aK.i λh6 s6 k6=>?_;(conv=>whnf);refine ⟨kk.m1 k6 (by omega),?_⟩;rw [if_pos hn];exact ⟨rfl,A5.keep k6 (λb hb=>by simp;exact hb1 b hb)⟩
 ·rw [if_neg hn,if_neg hn];(conv=>whnf);refine aj.t rfl ?_;(conv=>whnf);refine aK.i λh3 s3 k3=>?_;(conv=>whnf);have hb1:∀ b∈V.blocks,b≠b1:=λb hb=>by have:=bl b hb;omega
  refine ⟨((k1.trans k2).mono (by simp)).m1 k3 (by omega),?_⟩;rw [if_neg hn];exact ⟨rfl,A2.keep k3 (λb hb=>by simp;exact hb1 b hb)⟩
theorem Ci {h:Heap}{V:VL}{M:aS}{X:VS}(A:At h V M X)(n:Int)(hn:0<=n/\n<24)(c:aA)(hc:c.ok)(hr:fV c=true):aC Tryz.prog 138 [.pointer (some ⟨V.v,0,none⟩),.int .i64 n,.agg ⟨c.cells⟩] h (λv h'=>Keeps [V.ob,V.sb,V.mb] h h'/\v=.int .i64 0/\At h' V M (dZ X n c)):=by
 have bl:=A.blt;refine aG aH Tryz.func138 rfl ok138 (by simp [Tryz.f138]) ?_;(conv=>whnf);refine aL.i λb1 h1 e1 s1 o1 k1=>?_;(conv=>whnf);refine ak.i (ul n h1) λv h2 k2 hv=>?_;subst hv;rw [if_pos hn,if_pos hn];(conv=>whnf);refine ak.i (Gc c hc h2) λv h3 k3 hv=>?_;rw [if_pos hr] at hv;obtain ⟨b3,rfl,hb3,o3⟩:=hv;have A3:=A.on (k1.trans (k2.trans k3));(conv=>whnf);refine aj.f rfl ?_;(conv=>whnf);refine ax.o A3.obj rfl ?_;(conv=>whnf);refine ax.o A3.obj rfl ?_;have z1:=k1.size;have z2:=k2.size;have z3:=k3.size;have nb1:∀ b∈V.blocks,b≠b1:=λb hb=>by have:=bl b hb;omega
 have msb:V.sb∈V.blocks:=by simp [VL.blocks]
 have pO:V.mb∈V.blocks:=by simp [VL.blocks]
 have a1:=A.ap1;(conv=>whnf);refine aW.MG rfl rfl rfl rfl A3.seen (by simp [au,aZ];exact nb1 _ msb) λh4 v4 born4 s4 Q4 k4=>?_;(conv=>whnf);refine aW.MH Q4 (by simp [au,aZ];exact nb1 _ msb) λh5 s5 M5 k5=>?_;rw [Bp] at M5;have A5:=A3.see (k4.trans k5) M5 (A3.MF hn);(conv=>whnf);refine aW.MG rfl rfl rfl rfl A5.mine (by simp [au,aZ];exact nb1 _ pO) λh6 v6 born6 s6 Q6 k6=>?_;(conv=>whnf);refine aW.MH Q6 (by simp [au,aZ];exact nb1 _ pO) λh7 s7 M7 k7=>?_;rw [Bp] at M7;have A7:=A5.min_ (k6.trans k7) M7 (A5.Vf hn);have nb3:∀ b∈V.blocks,b≠b3:=λb hb=>by have:=bl b hb;omega
 have o7:=(k6.trans k7).obj ((k4.trans k5).obj o3 (by simp;exact λe=>nb3 _ msb e.symm)) (by simp;exact λe=>nb3 _ pO e.symm);have S7:Sl h7 (some ⟨b3,0,none⟩) 8 8 (fP c):=Sl.mJ o7 (by simp [One.ok]) rfl (by show 8<=281474976710656;decide);(conv=>whnf);refine ak.m (Kz A7 (8+n*8) S7 (by omega) (by decide) (λi hi=>by simp [jR];omega) (by simp [ay];exact nb3 V.ob (by simp [VL.blocks]))) (λy hy hx=>by
  have hy2:y=b1:=by simpa [au,aZ] using hy
  have hx2:y=V.ob:=by simpa using hx
  exact nb1 V.ob (by simp [VL.blocks]) (hx2.symm.trans hy2)) λv h8 k8 hv=>?_
 (conv=>whnf);refine ⟨?_,rfl,hv⟩;exact ((((k1.trans (k2.trans k3)).mono (by simp)).trans ((k4.trans k5).mono (by simp))).trans ((k6.trans k7).mono (by simp))).trans (k8.mono (by simp))
theorem Vh {h:Heap}{V:VL}{M:aS}{X:VS}(A:At h V M X)(k:Int):aC Tryz.prog 176 [.pointer (some ⟨V.v,0,none⟩),.int .i64 k] h (λv h'=>Keeps [] h h'/\v=.bool (decide (k∈X.bG))):=by
 have ha:=A.bG;have ho:=A.obj;cases hab:V.jY with
 | none=>
  rw [hab] at ha ho;refine aG aH Tryz.func176 rfl ok176 (by simp [Tryz.f176]) ?_;(conv=>whnf);refine ax.u (.map none) (λ_=>by unfold Heap.cell?;rw [ho];rfl) ?_;(conv=>whnf);have:X.bG=[]:=ha;exact ⟨Keeps.refl _ _,by rw [this];rfl⟩
 | some r=>
  rw [hab] at ha ho;refine aG aH Tryz.func176 rfl ok176 (by simp [Tryz.f176]) ?_;(conv=>whnf);refine ax.u (.map (some r)) (λ_=>by unfold Heap.cell?;rw [ho];rfl) ?_;(conv=>whnf);refine gL.z (.bool false) ha rfl (KA _ _) ?_;(conv=>whnf);exact ⟨Keeps.refl _ _,rfl⟩
def oI (X:VS)(n:Int):Bool:=decide (l7 (X.now (8+n*8)) 0 8=0)&&!decide (n∈X.bG)
def lI (X:VS):Nat->Nat->Option Nat
 | 0,_=>none
 | f+1,i=>if oI X (i:Int) then some i else lI X f (i+1)
theorem MI {X:VS}:∀ {f i k:Nat},lI X f i=some k->oI X (k:Int)=true/\i<=k/\k<i+f
 | 0,_,_,h=>by cases h
 | f+1,i,k,h=>by
  unfold lI at h;split at h
  ·cases h;rename_i hh;exact ⟨hh,Nat.le_refl _,by omega⟩
  ·have:=MI h;exact ⟨this.1,by omega,by omega⟩
def uU (X:VS)(kind:Int):Int×Int×VS:=
 if 1<=kind/\kind<=3 then (match lI X 22 2 with|some n=>((n:Int),0,dZ X n (cB kind (X.now (8+(n:Int)*8+1)+1)))|none=>(0,9,X)) else (0,1,X)
theorem Cj {kind:Int}(hk:1<=kind/\kind<=3)(v:UInt64):(cB kind v).ok/\fV (cB kind v)=true:=by
 have e1:(cB kind v).kind=kind:=rfl;have hr:fV (cB kind v)=true:=by
  unfold fV;rw [e1,if_neg (by omega)];have:(cB kind v).direct.all lV=true:=rfl;rw [this];have e2:(cB kind v).links=1:=rfl;have e3:(cB kind v).size=0:=rfl;have e4:(cB kind v).more = -1:=rfl;rw [e2,e3,e4];simp [lV];omega
 exact ⟨Ab (tT hr),hr⟩
theorem Gd (w:UInt64):Value.int .u64 (IntKind.u64.wrap ((w.toNat:Int)+1))=wv (w+1):=by
 have h:IntKind.u64.wrap ((w.toNat:Int)+1)=(((w+1).toNat:Nat):Int):=by
  have h1:(1:UInt64).toNat=1:=rfl;rw [qU,UInt64.toNat_add,h1];have:=w.toNat_lt;omega
 rw [h];rfl
theorem Vi {h:Heap}{V:VL}{M:aS}{X:VS}(A:At h V M X)(kind:Int):aC Tryz.prog 111 [.pointer (some ⟨V.v,0,none⟩),.int .i64 kind] h (λv h'=>Keeps [V.ob,V.sb,V.mb] h h'/\v=.tuple #[.int .i64 (uU X kind).1,.int .i64 (uU X kind).2.1]/\At h' V M (uU X kind).2.2):=by
 have bl:=A.blt;refine aG aH Tryz.func111 rfl ok111 (by simp [Tryz.f111]) ?_;(conv=>whnf);refine ak.i (Gf kind 0 h) λv h1 k1 hv=>?_;subst hv;unfold uU;by_cases hk:1<=kind/\kind<=3
 ·rw [if_pos hk,if_pos hk];(conv=>whnf);refine aL.i λb2 h2 e2 s2 o2 k2=>?_;(conv=>whnf);refine aK.i λh3 s3 k3=>?_;(conv=>whnf);refine aj.f rfl ?_;have kk:Keeps [] h h3:=(k1.trans k2).new1 k3 (by have:=k1.size;omega);(conv=>whnf);refine bP.on [0,1,8] [] (λi:Nat=>[(0,.v (.pointer (some ⟨V.v,0,none⟩))),(1,.v (.int .i64 kind)),(8,.v (.int .i64 (i:Int)))]) (λ_=>[])
   (λi h'=>2<=i/\i<=24/\Keeps [] h h'/\lI X 22 2=lI X (24-i) i) (λi=>24-i) 2 ?_ ?_
  ·(conv=>whnf);exact ⟨2,rfl,rfl,rfl,by decide,by decide,kk,rfl⟩
  ·rintro i h4 ⟨hi2,hi,k4,hf⟩;have A4:=A.on k4;(conv=>whnf);refine aj.i (λhc=>?_) (λhc=>?_)
   ·have hi1:i<24:=by simp at hc;omega
    rw [show 24-i=(24-(i+1))+1 by omega] at hf;have hstep:lI X (24-(i+1)+1) i=if oI X (i:Int) then some i else lI X (24-(i+1)) (i+1):=rfl;rw [hstep] at hf;(conv=>whnf);refine ak.i (ul (i:Int) h4) λv h5 k5 hv=>?_;subst hv;rw [if_pos (show 0<=(i:Int)/\(i:Int)<24 by omega),if_pos (show 0<=(i:Int)/\(i:Int)<24 by omega)];have A5:=A4.on k5;(conv=>whnf);refine ak.i (yC A5 (8+(i:Int)*8)) λv h6 k6 hv=>?_;subst hv;have A6:=A5.on k6;(conv=>whnf);refine ak.i (MJ (X.now (8+(i:Int)*8)) 0 8 (by unfold l8;decide) h6) λv h7 k7 hv=>?_;subst hv;have A7:=A6.on k7;have hz0:(((l7 (X.now (8+(i:Int)*8)) 0 8).toNat:Int)=0)↔l7 (X.now (8+(i:Int)*8)) 0 8=0:=by
     constructor
     ·intro e;exact UInt64.toNat_inj.1 (by simpa using e)
     ·intro e;rw [e];rfl
    have next:∀ h8,Keeps [] h7 h8->oI X (i:Int)=false->Keeps [] h h8/\lI X 22 2=lI X (24-(i+1)) (i+1):=by
     intro h8 k8 hfree;refine ⟨k4.trans (k5.trans (k6.trans (k7.trans k8))),?_⟩;rw [hf,if_neg (by rw [hfree];simp)]
    (conv=>whnf);refine aj.i (λhq=>?_) (λhq=>?_)
    ·have hw0:l7 (X.now (8+(i:Int)*8)) 0 8=0:=hz0.1 (by simpa using hq);(conv=>whnf);refine ak.i (Vh A7 (i:Int)) λv h8 k8 hv=>?_;subst hv;have A8:=A7.on k8;by_cases Ck:(i:Int)∈X.bG
     ·(conv=>whnf);refine aj.t (by simp [Ck,dm]) ?_;(conv=>whnf);refine ⟨24-(i+1),by omega,?_⟩;(conv=>whnf);obtain ⟨n1,n2⟩:=next h8 k8 (by unfold oI;rw [decide_eq_true Ck];simp);exact ⟨i+1,rfl,by rw [wrapN (x:=(i:Int)+1) (n:=i+1) (by simp) (by omega)],rfl,by omega,by omega,n1,n2⟩
     ·(conv=>whnf);refine aj.f (by simp [Ck,dm,hw0]) ?_;have hfree:oI X (i:Int)=true:=by unfold oI;rw [decide_eq_true hw0,decide_eq_false Ck];rfl
      rw [if_pos hfree] at hf;rw [hf];have e1:IntKind.i64.wrap (8+(i:Int)*8+1)=8+(i:Int)*8+1:=dR (by omega) (by omega);(conv=>whnf);rw [e1];refine ak.i (yC A8 (8+(i:Int)*8+1)) λv h9 k9 hv=>?_;subst hv;have A9:=A8.on k9;(conv=>whnf);rw [Gd];refine ak.i (Gf kind _ h9) λv h10 k10 hv=>?_;rw [if_pos hk] at hv;subst hv;have A10:=A9.on k10;(conv=>whnf);refine aL.i λb11 h11 e11 s11 o11 k11=>?_;(conv=>whnf);refine aK.i λh12 s12 k12=>?_;have A11:=A10.on k11;have z11:∀ b∈V.blocks,b<h10.size:=λb hb=>A10.blt b hb;have A12:=A11.keep k12 (λb hb=>by simp;have:=z11 b hb;omega);obtain ⟨fo,fr⟩:=Cj hk (X.now (8+(i:Int)*8+1)+1);(conv=>whnf);refine ak.m (Ci A12 (i:Int) (by omega) (cB kind (X.now (8+(i:Int)*8+1)+1)) fo fr) (λy hy hx=>by
       have hy2:y=b11:=by simpa [au,aZ] using hy
       have q1:=z11 V.ob (by simp [VL.blocks]);have q2:=z11 V.sb (by simp [VL.blocks]);have q3:=z11 V.mb (by simp [VL.blocks]);simp at hx;omega) λv h13 k13 hv=>?_
      obtain ⟨rfl,A13⟩:=hv;(conv=>whnf);have k0:Keeps [] h h10:=k4.trans (k5.trans (k6.trans (k7.trans (k8.trans (k9.trans k10)))));have z0:=k0.size;exact ⟨((k0.trans k11).new1 k12 (by omega)).mono (by simp) |>.trans k13,rfl,A13⟩
    ·have hw0:¬ l7 (X.now (8+(i:Int)*8)) 0 8=0:=λe=>by
      have:=hz0.2 e;rw [this] at hq;simp at hq
     (conv=>whnf);refine aj.t (by
      have:¬ ((l7 (X.now (8+(i:Int)*8)) 0 8).toNat:Int)=0:=λe=>hw0 (hz0.1 e);simp [dm];omega) ?_
     (conv=>whnf);refine ⟨24-(i+1),by omega,?_⟩;(conv=>whnf);obtain ⟨n1,n2⟩:=next h7 (Keeps.refl _ _) (by unfold oI;rw [decide_eq_false hw0];rfl);exact ⟨i+1,rfl,by rw [wrapN (x:=(i:Int)+1) (n:=i+1) (by simp) (by omega)],rfl,by omega,by omega,n1,n2⟩
   ·have hi1:i=24:=by simp at hc;omega
    subst hi1;(conv=>whnf);have hf0:lI X 22 2=none:=hf;rw [hf0];exact ⟨k4.mono (by simp),rfl,A4⟩
 ·rw [if_neg hk,if_neg hk];(conv=>whnf);refine aL.i λb2 h2 e2 s2 o2 k2=>?_;(conv=>whnf);refine aK.i λh3 s3 k3=>?_;(conv=>whnf);refine aj.t rfl ?_;(conv=>whnf);have kk:Keeps [] h h3:=(k1.trans k2).new1 k3 (by have:=k1.size;omega);exact ⟨kk.mono (by simp),rfl,A.on kk⟩
def uV (X:VS)(n:Int):Int×VS:=
 if 0<=n/\n<24 then (match gU (bW X.now (8+n*8) 8) with|none=>(15,eY X n)|some c=>if c.kind=0 then (15,eY X n) else (0,dZ (eY X n) n (gu (c.dU+1)))) else (1,X)
theorem Vj (v:UInt64):(gu v).ok/\fV (gu v)=true:=by
 have hr:fV (gu v)=true:=by
  unfold fV;rw [if_pos (show (gu v).kind=0 from rfl)];exact decide_eq_true rfl
 exact ⟨Ab (tT hr),hr⟩
theorem MK {h:Heap}{V:VL}{M:aS}{X:VS}(A:At h V M X)(n:Int):aC Tryz.prog 209 [.pointer (some ⟨V.v,0,none⟩),.int .i64 n] h (λv h'=>Keeps [V.ob,V.sb,V.mb] h h'/\v=.int .i64 (uV X n).1/\At h' V M (uV X n).2):=by
 refine aG aH Tryz.func209 rfl ok209 (by simp [Tryz.f209]) ?_;(conv=>whnf);refine ak.m (sV A n) (by simp [au]) λv h1 k1 hv=>?_;unfold uV;have fin:∀ (e:Int) (Y:VS) (h2 h3:Heap) (b2:Nat),b2=h1.size->Keeps [] h1 h2->Keeps [b2] h2 h3->At h1 V M Y->Keeps [V.ob,V.sb,V.mb] h h3/\At h3 V M Y:=by
  intro e Y h2 h3 b2 e2 k2 k3 AY;have kk:Keeps [] h1 h3:=k2.new1 k3 (by omega);exact ⟨(k1.mono (by simp)).bS kk,AY.on kk⟩
 by_cases hn:0<=n/\n<24
 ·rw [if_pos hn] at hv ⊢;obtain ⟨rfl,A1⟩:=hv;cases hc:gU (bW X.now (8+n*8) 8) with
  | none=>
   unfold pM;(conv=>whnf);refine aL.i λb2 h2 e2 s2 o2 k2=>?_;(conv=>whnf);refine aK.i λh3 s3 k3=>?_;(conv=>whnf);refine aj.t rfl ?_;(conv=>whnf);obtain ⟨f1,f2⟩:=fin 0 _ h2 h3 b2 e2 k2 k3 A1;exact ⟨f1,rfl,f2⟩
  | some c=>
   unfold pM;(conv=>whnf);refine aL.i λb2 h2 e2 s2 o2 k2=>?_;(conv=>whnf);refine aK.i λh3 s3 k3=>?_;(conv=>whnf);refine aj.f rfl ?_;obtain ⟨f1,f2⟩:=fin 0 _ h2 h3 b2 e2 k2 k3 A1;(conv=>whnf);refine aj.i (λhk=>?_) (λhk=>?_)
   ·(conv=>whnf);have h0:c.kind=0:=by simpa using hk
    refine ⟨f1,?_⟩;simp only;rw [if_pos h0];exact ⟨rfl,f2⟩
   ·have h0:¬ c.kind=0:=by simpa using hk
    (conv=>whnf);rw [Gd];refine ak.i (Gg _ h3) λv h4 k4 hv=>?_;subst hv;obtain ⟨no,nr⟩:=Vj (c.dU+1);have A4:=f2.on k4;have z1:=λb hb=>A1.blt b hb;(conv=>whnf);refine ak.m (Ci A4 n hn (gu (c.dU+1)) no nr) (λy hy hx=>by
     have hy2:y=b2:=by simpa [au,aZ] using hy
     have q1:=z1 V.ob (by simp [VL.blocks]);have q2:=z1 V.sb (by simp [VL.blocks]);have q3:=z1 V.mb (by simp [VL.blocks]);simp at hx;omega) λv h5 k5 hv=>?_
    obtain ⟨rfl,A5⟩:=hv;(conv=>whnf);refine ⟨(f1.bS k4).trans k5,?_⟩;simp only;rw [if_neg h0];exact ⟨rfl,A5⟩
 ·rw [if_neg hn] at hv ⊢;obtain ⟨rfl,A1⟩:=hv;(conv=>whnf);refine aL.i λb2 h2 e2 s2 o2 k2=>?_;(conv=>whnf);refine aK.i λh3 s3 k3=>?_;(conv=>whnf);refine aj.t rfl ?_;(conv=>whnf);obtain ⟨f1,f2⟩:=fin 0 _ h2 h3 b2 e2 k2 k3 A1;exact ⟨f1,rfl,f2⟩
def ba (l:List UInt8):ByteArray:=⟨l.toArray⟩
def bq (l:List (List UInt8)):List ByteArray:=l.map ba
theorem Mx (l:List UInt8):(ba l).data.toList=l:=by simp [ba]
theorem U7 (l:List UInt8)(hl:l.length<=140737488351232)(h:Heap):aC Tryz.prog 106 [.string (ba l)] h (λv h'=>Keeps [] h h'/\v=.bool (!dI l)):=by
 refine aG aH Tryz.func106 rfl ok106 (by simp [Tryz.f106]) ?_;(conv=>whnf);refine ak.i (DR l hl h) λv h1 k1 hv=>?_;subst hv;(conv=>whnf);exact ⟨k1,rfl⟩
def uT:List (List UInt8)->Nat->Int
 | [],_ => -1
 | x::l,i=>if dI x=false then (i:Int) else uT l (i+1)
theorem ME:∀ (l:List (List UInt8)) (i:Nat),decide (0<=uT l i)=!(l.all dI)
 | [],i=>rfl
 | x::l,i=>by
  simp only [uT,List.all_cons];split
  ·rename_i hp;rw [hp];simp
  ·rename_i hp;rw [ME l (i+1)];simp [hp]
theorem U8 {h:Heap}{a:Option Addr}{n c:Nat}{xs:List (List UInt8)}(S:Sl h a n c (bq xs))(hn:n<=1000000000)(hx:∀ x∈xs,x.length<=140737488351232) :
 aC Tryz.prog 164 [.slice a n c,.func (.func 106) #[] #[]] h (λv h'=>Keeps [] h h'/\v=.int .i64 (uT xs 0)):=by
 have hl:=S.hlen;have hb:(bq xs).length=xs.length:=by simp [bq]
 refine aG aH Tryz.func164 rfl ok164 (by simp [Tryz.f164]) ?_;(conv=>whnf);refine bP.on [0,1,7,8] [] (λi:Nat=>[(0,.v (.slice a n c)),(1,.v (.func (.func 106) #[] #[])),(7,.v (.int .i64 (n:Int))),(8,.v (.int .i64 (i:Int)))]) (λ_=>[])
  (λi h'=>i<=n/\Keeps [] h h'/\uT xs 0=uT (xs.drop i) i) (λi=>n-i) 0 ?_ ?_
 ·(conv=>whnf);exact ⟨0,rfl,rfl,rfl,Nat.zero_le _,Keeps.refl _ _,rfl⟩
 ·rintro i h2 ⟨hi,k2,hI⟩;(conv=>whnf);refine aj.i (λhc=>?_) (λhc=>?_)
  ·have hi1:i<xs.length:=by simp at hc;omega
   obtain ⟨b,off,hb',_,hcell⟩:=(S.keep k2).at1 i (by omega);have e:(bq xs)[i]'(by omega)=ba xs[i]:=by simp [bq]
   rw [e] at hcell;rw [List.drop_eq_getElem_cons hi1] at hI;simp only [uT] at hI;(conv=>whnf);refine aX.i i rfl (by omega) hb' ?_;(conv=>whnf);refine ax.i hcell ?_;(conv=>whnf);refine ak.i (U7 xs[i] (hx _ (List.getElem_mem _)) h2) λv h3 k3 hv=>?_;subst hv;(conv=>whnf);refine aj.i (λhd=>?_) (λhd=>?_)
   ·(conv=>whnf);rw [if_pos (by simpa using hd)] at hI;exact ⟨k2.trans k3,by rw [hI]⟩
   ·rw [if_neg (by simpa using hd)] at hI;(conv=>whnf);refine ⟨n-(i+1),by omega,?_⟩;(conv=>whnf);exact ⟨i+1,rfl,by rw [wrapN (n:=i+1) (by simp) (by omega)],rfl,by omega,k2.trans k3,hI⟩
  ·have hi1:i=xs.length:=by simp at hc;omega
   (conv=>whnf);refine ⟨k2,?_⟩;rw [hI,hi1,List.drop_length];rfl
theorem Mw {h:Heap}{a:Option Addr}{n c:Nat}{xs:List (List UInt8)}(S:Sl h a n c (bq xs))(hn:n<=1000000000)(hx:∀ x∈xs,x.length<=140737488351232) :
 aC Tryz.prog 105 [.slice a n c,.func (.func 106) #[] #[]] h (λv h'=>Keeps [] h h'/\v=.bool (!(xs.all dI))):=by
 refine aG aH Tryz.func105 rfl ok105 (by simp [Tryz.f105]) ?_;(conv=>whnf);refine ak.i (U8 S hn hx) λv h1 k1 hv=>?_;subst hv;(conv=>whnf);refine ⟨k1,?_⟩;rw [<-ME xs 0]
theorem U9 (l:List UInt8)(hl:l.length<=140737488351232)(h:Heap):aC Tryz.prog 219 [.string (ba l),.string ⟨#[47]⟩] h (λv h'=>Keeps [] h h'/\v=.bool (decide (l.head?=some 47))):=by
 have hs:(ba l).size=l.length:=dP l;refine aG aH Tryz.func219 rfl ok219 (by simp [Tryz.f219]) ?_;(conv=>whnf);refine dw.u 0 1 (λhg=>?_) ?_
 ·have hz:(ByteArray.mk #[47]).size=1:=rfl;rw [hz] at hg;simp at hg;exact ⟨rfl,rfl,by omega,by omega⟩
 (conv=>whnf);refine ⟨Keeps.refl _ _,?_⟩;have e0:(ByteArray.mk #[47])=⟨([47]:List UInt8).toArray⟩:=rfl;have e1:(ba l).extract 0 1=⟨((l.take 1).drop 0).toArray⟩:=qQ l 0 1;rw [e1,e0,iZ,hs,dP]
 congr 1
 cases l with
 | nil=>simp
 | cons c r=>
  simp [dJ];intro _;omega
theorem U5 (l:List UInt8)(hl:l.length<=140737488351232)(h:Heap):aC Tryz.prog 103 [.string (ba l),.string ⟨#[47]⟩] h (λv h'=>Keeps [] h h'/\v=if l.head?=some 47 then .tuple #[.string (ba (l.drop 1)),.bool true] else .tuple #[.string (ba l),.bool false]):=by
 have hs:(ba l).size=l.length:=dP l;refine aG aH Tryz.func103 rfl ok103 (by simp [Tryz.f103]) ?_;(conv=>whnf);refine ak.i (?_:aC Tryz.prog 162 [.string (ba l),.string ⟨#[47]⟩] h (λv h'=>Keeps [] h h'/\v=if l.head?=some 47 then .tuple #[.string (ba (l.drop 1)),.bool true] else .tuple #[.string (ba l),.bool false])) λv h1 k1 hv=>?_
 ·refine aG aH Tryz.func162 rfl ok162 (by simp [Tryz.f162]) ?_;(conv=>whnf);refine ak.i (U9 l hl h) λv h1 k1 hv=>?_;subst hv;(conv=>whnf);refine aj.i (λhc=>?_) (λhc=>?_)
  ·(conv=>whnf);have:¬ l.head?=some 47:=by simpa using hc
   rw [if_neg this];exact ⟨k1,rfl⟩
  ·have hh:l.head?=some 47:=by simpa using hc
   have hpos:1<=l.length:=by
    cases l with
    | nil=>simp at hh
    | cons c r=>simp
   (conv=>whnf);refine dw.i 1 l.length rfl (by rw [hs]) (by omega) (by omega) ?_;(conv=>whnf);rw [if_pos hh];refine ⟨k1,?_⟩;have e1:(ba l).extract 1 l.length=⟨((l.take l.length).drop 1).toArray⟩:=qQ l 1 l.length;rw [e1,List.take_length];rfl
 ·subst hv;by_cases hh:l.head?=some 47
  ·rw [if_pos hh];(conv=>whnf);exact ⟨k1,rfl⟩
  ·rw [if_neg hh];(conv=>whnf);exact ⟨k1,rfl⟩
theorem Va (l:List UInt8)(h:Heap):aC Tryz.prog 266 [.string ⟨l.toArray⟩,.string ⟨#[47]⟩] h (λv h'=>Keeps [] h h'/\v=.int .i64 (Lib.indexByte l 47)):=by
 refine aG aH Tryz.func266 rfl ok266 (by simp [Tryz.f266]) ?_;(conv=>whnf);have e0:(ByteArray.mk #[47])=⟨([47]:List UInt8).toArray⟩:=rfl;refine aj.i (λh1=>?_) (λh1=>?_)
 ·(conv=>whnf);refine ⟨Keeps.refl _ _,?_⟩;have:l=[47]:=by
   have h1:((ByteArray.mk #[47]).toList==(ByteArray.mk l.toArray).toList)=true:=h1;rw [e0,iZ] at h1;simpa [eq_comm] using h1
  subst this;rfl
 ·(conv=>whnf);refine aj.t rfl ?_;(conv=>whnf);refine dO.i 0 rfl (by decide) ?_;(conv=>whnf);refine ak.i (Ed l 47 h) λv h1 k1 hv=>?_;subst hv;(conv=>whnf);exact ⟨k1,rfl⟩
theorem Vb (l:List UInt8)(h:Heap):aC Tryz.prog 222 [.string ⟨l.toArray⟩,.string ⟨#[47]⟩] h (λv h'=>Keeps [] h h'/\v=.int .i64 (Lib.indexByte l 47)):=by
 refine aG aH Tryz.func222 rfl ok222 (by simp [Tryz.f222]) ?_;(conv=>whnf);refine ak.i (Va l h) λv h1 k1 hv=>?_;subst hv;(conv=>whnf);exact ⟨k1,rfl⟩
theorem Vd (l:List UInt8)(h:Heap):aC Tryz.prog 221 [.string ⟨l.toArray⟩,.string ⟨#[47]⟩] h (λv h'=>Keeps [] h h'/\v=.int .i64 (l.count 47:Nat)):=by
 refine aG aH Tryz.func221 rfl ok221 (by simp [Tryz.f221]) ?_;(conv=>whnf);refine aj.f rfl ?_;(conv=>whnf);refine aj.t rfl ?_;(conv=>whnf);refine dO.i 0 rfl (by decide) ?_;(conv=>whnf);refine aW.ext rfl (by kernel_rfl) (by kernel_rfl) (by kernel_rfl) (e:=Extern.BytealgCount.count) (by kernel_rfl) (aW.pure (λw _=>Lib.run_countString (P:=Tryz.prog) _ _ w) ?_);(conv=>whnf);refine ⟨Keeps.refl _ _,?_⟩;have e1:(ji (ByteArray.mk #[47]) 0).toNat.toUInt8=47:=by decide
 rw [e1];simp [Lib.countByte]
theorem Gb:∀ s:List UInt8,(Lib.indexByte s 47 = -1/\dH s=[s]/\s.count 47=0)\/(∃ i:Nat,i<s.length/\Lib.indexByte s 47=(i:Int)/\dH s=s.take i::dH (s.drop (i+1))/\s.count 47=(s.drop (i+1)).count 47+1)
 | []=>.inl ⟨rfl,rfl,rfl⟩
 | c::l=>by
  by_cases hc:c=47
  ·subst hc;exact .inr ⟨0,by simp,by simp [Lib.indexByte],by simp [dH],by simp⟩
  ·rcases Gb l with ⟨h1,h2,h3⟩|⟨i,h1,h2,h3,h4⟩
   ·refine .inl ⟨by simp [Lib.indexByte,hc,h1],?_,by rw [List.count_cons_of_ne hc];exact h3⟩;unfold dH;rw [if_neg hc,h2]
   ·refine .inr ⟨i+1,by simpa using h1,by simp [Lib.indexByte,hc,h2],?_,?_⟩
    ·have e:dH (c::l)=(match dH l with|[]=>[[c]]|x::r=>(c::x)::r):=by
      conv=>lhs;unfold dH
      rw [if_neg hc];rfl
     rw [e,h3];simp
    ·rw [List.count_cons_of_ne hc,h4];simp
theorem MC:∀ s:List UInt8,(dH s).length=s.count 47+1
 | []=>rfl
 | c::l=>by
  have ih:=MC l;unfold dH;by_cases h:c=47
  ·rw [if_pos h,h];simp [ih]
  ·rw [if_neg h,List.count_cons_of_ne h];cases hc:dH l with
   | nil=>exact absurd hc (za l)
   | cons x r=>rw [hc] at ih;simpa using ih
theorem Ve (l:List UInt8)(hl:l.length<=10000)(h:Heap):aC Tryz.prog 163 [.string ⟨l.toArray⟩,.string ⟨#[47]⟩,.int .i64 0,.int .i64 (-1)] h (λv h'=>Keeps [] h h'/\∃ b,v=.slice (some ⟨b,0,none⟩) (l.count 47+1) (l.count 47+1)/\h.size<=b/\h'[b]?=some (.cells ⟨(bq (dH l)).map λx=>.string x⟩ 9 (0,0))):=by
 have hcl:l.count 47<=l.length:=List.count_le_length;refine aG aH Tryz.func163 rfl ok163 (by simp [Tryz.f163]) ?_;(conv=>whnf);refine aj.f rfl ?_;(conv=>whnf);refine aj.f (by rw [yg];rfl) ?_;(conv=>whnf);(try refine aV.pass ?_;conv=>whnf);refine aj.t rfl ?_;(conv=>whnf);refine ak.i (Vd l h) λv h1 k1 hv=>?_;subst hv;(conv=>whnf);have hs:(ByteArray.mk l.toArray).size=l.length:=dP l;have e1:IntKind.i64.wrap ((l.count 47:Nat)+1:Int)=((l.count 47+1:Nat):Int):=wrapN (by omega) (by omega);have e2:IntKind.i64.wrap (((ByteArray.mk l.toArray).size:Int)+1)=((l.length+1:Nat):Int):=by rw [hs];exact wrapN (by omega) (by omega)
 have e4:(if IntKind.i64.wrap (((ByteArray.mk l.toArray).size:Int)+1)<IntKind.i64.wrap ((l.count 47:Nat)+1:Int) then IntKind.i64.wrap (((ByteArray.mk l.toArray).size:Int)+1) else IntKind.i64.wrap ((l.count 47:Nat)+1:Int))=((l.count 47+1:Nat):Int):=by
  rw [e1,e2];split <;> omega
 rw [e4];refine aW.make (n:=l.count 47+1) rfl rfl rfl rfl rfl (by show 16*_<=_;omega) (by omega) λb2 h2 e2' s2 o2 k2=>?_;(conv=>whnf);have e5:IntKind.i64.wrap (((l.count 47+1:Nat):Int)-1)=((l.count 47:Nat):Int):=wrapN (by omega) (by omega);rw [e5];generalize hm:l.count 47=m at *;refine aV.pass ?_;(conv=>whnf);refine bP.on [0,1,2,3,9,10] [] (λq:Nat×List UInt8=>[(0,.v (.string ⟨q.2.toArray⟩)),(1,.v (.string ⟨#[47]⟩)),(2,.v (.int .i64 0)),(3,.v (.int .i64 (m:Int))),(9,.v (.slice (some ⟨b2,0,none⟩) (m+1) (m+1))),(10,.v (.int .i64 (q.1:Int)))]) (λ_=>[])
  (λq h'=>q.1+q.2.count 47=m/\q.2.length<=l.length/\Keeps [] h h'/\∃ done:List (List UInt8),done.length=q.1/\dH l=done++dH q.2/\h'[b2]?=some (.cells ⟨((bq done).map λx=>.string x)++List.replicate (m+1-q.1) (.string ⟨#[]⟩)⟩ 9 (0,0))) (λq=>m-q.1) (0,l) ?_ ?_
 ·(conv=>whnf);refine ⟨(0,l),rfl,rfl,rfl,by simp [hm],Nat.le_refl _,k1.trans k2,[],rfl,rfl,?_⟩;exact o2
 ·rintro ⟨i,s⟩ h3 ⟨hi,hsl,k3,done,hd,hcut,o3⟩;simp only at hi hsl hd hcut o3;(conv=>whnf);refine aj.i (λhc=>?_) (λhc=>?_)
  ·have hi1:i<m:=by simpa using hc
   (conv=>whnf);refine ak.i (Vb s h3) λv h4 k4 hv=>?_;subst hv;rcases Gb s with ⟨c1,c2,c3⟩|⟨j,c1,c2,c3,c4⟩
   ·omega
   ·rw [c2];(conv=>whnf);refine aj.f (by simp) ?_;have hj0:IntKind.i64.wrap ((j:Int)+0)=(j:Int):=wrapN (by omega) (by omega);have hss:(ByteArray.mk s.toArray).size=s.length:=dP s;(conv=>whnf);refine dw.i 0 j rfl hj0 (Nat.zero_le _) (by rw [hss];omega) ?_;(conv=>whnf);refine aX.i i rfl (by omega) rfl ?_;have er:List.replicate (m+1-i) (Value.string ⟨#[]⟩)=.string ⟨#[]⟩::List.replicate (m+1-(i+1)) (.string ⟨#[]⟩):=by
     rw [show m+1-i=(m+1-(i+1))+1 by omega,List.replicate_succ]
    rw [er] at o3;have hlen:((bq done).map λx=>Value.string x).length=i:=by simp [bq,hd]
    (conv=>whnf);refine dN.i (k4.obj o3 (by simp)) ?_ (by simp [au]) λh5 s5 o5 k5=>?_
    ·simp only [List.length_append,List.length_cons,hlen,List.length_replicate];show 0+i*1+1<=_;omega
    have hj1:IntKind.i64.wrap ((j:Int)+1)=((j+1:Nat):Int):=wrapN (by omega) (by omega);(conv=>whnf);refine dw.i (j+1) s.length hj1 (by rw [hss]) (by omega) (by rw [hss];omega) ?_;(conv=>whnf);refine ⟨m-(i+1),by omega,?_⟩;(conv=>whnf);refine ⟨(i+1,s.drop (j+1)),rfl,?_,rfl,by simp only;omega,by simp only [List.length_drop];omega,(k3.trans k4).new1 k5 (by have:=k1.size;omega),done++[s.take j],by simp [hd],by rw [hcut,c3];simp,?_⟩
    ·simp only;rw [wrapN (x:=(i:Int)+1) (n:=i+1) (by simp) (by omega),qQ,List.take_length]
    ·have e5:bF (0+i*1) [Value.string (ByteArray.extract ⟨s.toArray⟩ 0 j)] (((bq done).map λx=>Value.string x)++.string ⟨#[]⟩::List.replicate (m+1-(i+1)) (.string ⟨#[]⟩))=((bq (done++[s.take j])).map λx=>Value.string x)++List.replicate (m+1-(i+1)) (.string ⟨#[]⟩):=by
      have:=Bg (A:=(bq done).map λx=>Value.string x) (x:=.string ⟨#[]⟩) (v:=Value.string (ByteArray.extract ⟨s.toArray⟩ 0 j)) (B:=List.replicate (m+1-(i+1)) (.string ⟨#[]⟩));rw [hlen] at this;rw [show 0+i*1=i by omega,this,qQ,List.drop_zero];simp [bq,ba]
     rw [<-e5];exact o5
  ·have hi1:i=m:=by
    have:¬ (i<m):=by simpa using hc
    omega
   subst hi1;(conv=>whnf);refine aX.i i rfl (by omega) rfl ?_;have er:List.replicate (i+1-i) (Value.string ⟨#[]⟩)=[.string ⟨#[]⟩]:=by
    rw [show i+1-i=1 by omega];rfl
   rw [er] at o3;have hlen:((bq done).map λx=>Value.string x).length=i:=by simp [bq,hd]
   (conv=>whnf);refine dN.i o3 ?_ (by simp [au]) λh5 s5 o5 k5=>?_
   ·simp only [List.length_append,List.length_cons,hlen];show 0+i*1+1<=_;omega
   (conv=>whnf);refine dw.i 0 (i+1) rfl (wrapN (by simp) (by omega)) (Nat.zero_le _) (Nat.le_refl _) ?_;(conv=>whnf);have hlast:dH s=[s]:=by
    rcases Gb s with ⟨_,c2,_⟩|⟨j,_,_,_,c4⟩
    ·exact c2
    ·omega
   rw [lq];refine ⟨k3.new1 k5 (by have:=k1.size;omega),b2,rfl,by have:=k1.size;omega,?_⟩;rw [hcut,hlast];have e5:bF (0+i*1) [Value.string ⟨s.toArray⟩] (((bq done).map λx=>Value.string x)++[.string ⟨#[]⟩])=(bq (done++[s])).map λx=>Value.string x:=by
    have:=Bg (A:=(bq done).map λx=>Value.string x) (x:=.string ⟨#[]⟩) (v:=Value.string ⟨s.toArray⟩) (B:=[]);rw [hlen] at this;rw [show 0+i*1=i by omega,this];simp [bq,ba]
   rw [<-e5];exact o5
theorem fE (l:List (List UInt8)):(bq l).length=l.length:=by simp [bq]
theorem Ga {l:List (List UInt8)}(h:∀ x∈l,x.length<=140737488351232):∀ x∈bq l,One.ok x:=by
 intro x hx;obtain ⟨y,hy,rfl⟩:=List.mem_map.1 hx;show lK (ba y);unfold lK;have:=h y hy;have e:(ba y).size=y.length:=dP y;omega
theorem Cg:∀ {s x:List UInt8},x∈dH s->x.length<=s.length
 | [],x,h=>by simp [dH] at h;simp [h]
 | c::l,x,h=>by
  unfold dH at h;by_cases hc:c=47
  ·rw [if_pos hc] at h;rcases List.mem_cons.1 h with rfl|h
   ·simp
   ·have:=Cg h;simp only [List.length_cons];omega
  ·rw [if_neg hc] at h;cases hl:dH l with
   | nil=>exact absurd hl (za l)
   | cons y r=>
    rw [hl] at h;rcases List.mem_cons.1 h with rfl|h
    ·have:=Cg (s:=l) (x:=y) (by rw [hl];simp);simp only [List.length_cons];omega
    ·have:=Cg (s:=l) (x:=x) (by rw [hl];simp [h]);simp only [List.length_cons];omega
theorem U6 (l:List UInt8)(hl:l.length<=10000)(h:Heap):aC Tryz.prog 104 [.string ⟨l.toArray⟩,.string ⟨#[47]⟩] h (λv h'=>Keeps [] h h'/\∃ b,v=.slice (some ⟨b,0,none⟩) (l.count 47+1) (l.count 47+1)/\h.size<=b/\h'[b]?=some (.cells ⟨(bq (dH l)).map λx=>.string x⟩ 9 (0,0))):=by
 refine aG aH Tryz.func104 rfl ok104 (by simp [Tryz.f104]) ?_;(conv=>whnf);refine ak.i (Ve l hl h) λv h1 k1 hv=>?_;obtain ⟨b,rfl,h1,h2⟩:=hv;(conv=>whnf);exact ⟨k1,b,rfl,h1,h2⟩
def MB (p:Option (List (List UInt8)))(h:Heap)(v:Value)(h':Heap):Prop:=
 match p with
 | none=>v=.tuple #[.slice none 0 0,.int .i64 3]
 | some l=>∃ a c,v=.tuple #[.slice a l.length c,.int .i64 0]/\Sl h' a l.length c (bq l)/\∀ b∈ay a,h.size<=b
theorem uS (l:List UInt8)(hl:l.length<=140737488351232)(h:Heap):aC Tryz.prog 60 [.string (ba l)] h (λv h'=>Keeps [] h h'/\MB (bC l) h v h'):=by
 have hs:(ba l).size=l.length:=dP l;refine aG aH Tryz.func60 rfl ok60 (by simp [Tryz.f60]) ?_;(conv=>whnf);refine ak.i (U5 l hl h) λv h1 k1 hv=>?_;by_cases hh:l.head?=some 47
 ·rw [if_pos hh] at hv;subst hv;obtain ⟨r,rfl⟩:∃ r,l=47::r:=by
   cases l with
   | nil=>simp at hh
   | cons c r=>simp at hh;exact ⟨r,by rw [hh]⟩
  have hd:(47::r).drop 1=r:=rfl;rw [hd];(conv=>whnf);refine aj.i (λhc=>?_) (λhc=>?_)
  ·(conv=>whnf);have h120:120<(47::r).length:=by
    rw [hs] at hc;simp at hc;simp only [List.length_cons];omega
   refine ⟨k1,?_⟩;have:bC (47::r)=none:=by
    unfold bC;simp only;rw [if_pos (.inr h120)]
   rw [this];rfl
  ·have h120:¬ 120<(47::r).length:=by
    rw [hs] at hc;simp at hc;simp only [List.length_cons];omega
   have hcond:¬ ((47:UInt8)≠47\/120<(47::r).length):=by
    rintro (h|h)
    ·exact h rfl
    ·exact h120 h
   have e0:(ByteArray.mk #[])=⟨([]:List UInt8).toArray⟩:=rfl;(conv=>whnf);refine aj.i (λhd=>?_) (λhd=>?_)
   ·(conv=>whnf);have hr:r=[]:=by
     have hd:((ByteArray.mk r.toArray).toList==(ByteArray.mk #[]).toList)=true:=hd;rw [e0,iZ] at hd;simpa using hd
    refine ⟨k1,?_⟩;have:bC (47::r)=some []:=by
     unfold bC;simp only;rw [if_neg hcond,if_pos hr]
    rw [this];exact ⟨none,0,rfl,Sl.nil,by simp [ay]⟩
   ·have hr:¬ r=[]:=by
     have hd:((ByteArray.mk r.toArray).toList==(ByteArray.mk #[]).toList)=false:=hd;rw [e0,iZ] at hd;simpa using hd
    have hrl:r.length<=120:=by simp only [List.length_cons] at h120;omega
    (conv=>whnf);refine ak.i (U6 r (by omega) h1) λv h2 k2 hv=>?_;obtain ⟨b,rfl,hb,o2⟩:=hv;have hcl:=MC r;have hcc:r.count 47<=r.length:=List.count_le_length;have hsh:∀ x∈dH r,x.length<=140737488351232:=λx hx=>by have:=Cg hx;omega
    have S2:Sl h2 (some ⟨b,0,none⟩) (r.count 47+1) (r.count 47+1) (bq (dH r)):=Sl.mJ o2 (Ga hsh) (by rw [fE,hcl]) (by rw [fE,hcl];omega);(conv=>whnf);refine ak.i (Mw S2 (by omega) hsh) λv h3 k3 hv=>?_;subst hv;have hp:bC (47::r)=if (dH r).all dI=true then some (dH r) else none:=by
     unfold bC;simp only;rw [if_neg hcond,if_neg hr]
    (conv=>whnf);refine aj.i (λhe=>?_) (λhe=>?_)
    ·(conv=>whnf);have:¬ (dH r).all dI=true:=by
      intro h;rw [h] at he;cases he
     refine ⟨k1.trans (k2.trans k3),?_⟩;rw [hp,if_neg this];rfl
    ·(conv=>whnf);have:(dH r).all dI=true:=by
      cases h:(dH r).all dI with
      | true=>rfl
      | false=>rw [h] at he;cases he
     refine ⟨k1.trans (k2.trans k3),?_⟩;rw [hp,if_pos this];refine ⟨some ⟨b,0,none⟩,r.count 47+1,by rw [hcl],?_,λx hx=>?_⟩
     ·rw [hcl];exact S2.keep k3
     ·simp [ay] at hx;have:=k1.size;omega
 ·rw [if_neg hh] at hv;subst hv;(conv=>whnf);refine aj.t rfl ?_;(conv=>whnf);refine ⟨k1,?_⟩;have:bC l=none:=by
   unfold bC;cases l with
   | nil=>rfl
   | cons c r=>
    simp only;rw [if_pos (.inl (by simpa using hh))]
  rw [this];rfl
theorem zo (a b:List (List UInt8)):bM (a++b)=bM a++bM b:=by simp [bM]
theorem qp (x:List UInt8)(r:List (List UInt8)):bM (x::r)=47::(x++bM r):=by simp [bM]
theorem wL {x:List UInt8}{l:List (List UInt8)}(h:x∈l):x.length<=(bM l).length:=by
 induction l with
 | nil=>cases h
 | cons y r ih=>
  rw [qp];simp only [List.length_cons,List.length_append];rcases List.mem_cons.1 h with rfl|h
  ·omega
  ·have:=ih h;omega
theorem zk (l:List (List UInt8))(i:Nat):(bM (l.take i)).length<=(bM l).length:=by
 have:bM l=bM (l.take i)++bM (l.drop i):=by rw [<-zo,List.take_append_drop]
 rw [this];simp
theorem U2 {h:Heap}{a:Option Addr}{n c:Nat}{l:List (List UInt8)}(S:Sl h a n c (bq l))(hb:(bM l).length<=10000):aC Tryz.prog 224 [.slice a n c,.string ⟨#[47]⟩] h (λv h'=>Keeps [] h h'/\v=.string (ba ((bM l).drop 1))):=by
 have hl:=S.hlen;rw [fE] at hl;have hn:n<=10000:=by
  have:l.length<=(bM l).length:=by
   clear S hl hb
   induction l with
   | nil=>simp
   | cons x r ih=>rw [qp];simp only [List.length_cons,List.length_append];omega
  omega
 refine aG aH Tryz.func224 rfl ok224 (by simp [Tryz.f224]) ?_;(conv=>whnf);refine aj.i (λhc=>?_) (λhc=>?_)
 ·(conv=>whnf);have h0:l=[]:=List.eq_nil_of_length_eq_zero (by simp at hc;omega);subst h0;exact ⟨Keeps.refl _ _,rfl⟩
 ·(conv=>whnf);(try refine aV.pass ?_;conv=>whnf);refine aj.i (λhd=>?_) (λhd=>?_)
  ·obtain ⟨x,rfl⟩:∃ x,l=[x]:=by
    have:l.length=1:=by simp at hd;omega
    match l,this with
    | [x],_=>exact ⟨x,rfl⟩
   obtain ⟨b,off,hb',_,hcell⟩:=S.at1 0 (by simp [bq]);(conv=>whnf);refine aX.i 0 rfl (by simp at hd;omega) hb' ?_;(conv=>whnf);refine ax.i hcell ?_;(conv=>whnf);refine ⟨Keeps.refl _ _,?_⟩;simp [bq,bM,One.val]
  ·have h2:2<=l.length:=by
    simp at hc hd;omega
   (conv=>whnf);(try refine aV.pass ?_;conv=>whnf);refine aj.t rfl ?_;have e1:IntKind.i64.wrap ((n:Int)-1)=((n-1:Nat):Int):=wrapN (by omega) (by omega);have hq:922337203685477<=IntKind.i64.wrap ((9223372036854775807:Int).tdiv ((n-1:Nat):Int)):=by
    have h3:(9223372036854775807:Int).tdiv ((n-1:Nat):Int)=((9223372036854775807/(n-1):Nat):Int):=rfl;have h4:9223372036854775807/10000<=9223372036854775807/(n-1):=Nat.div_le_div_left (by omega) (by omega);have h5:9223372036854775807/(n-1)<=9223372036854775807:=Nat.div_le_self _ _;rw [h3,dR (by omega) (by omega)];have:9223372036854775807/10000=922337203685477:=by decide
    omega
   (conv=>whnf);refine aV.pass ?_;(conv=>whnf);rw [e1];refine dL.i (by omega) ?_;(conv=>whnf);refine aj.f ?_ ?_
   ·have h1:(ByteArray.mk #[47]).size=1:=rfl;rw [h1];simp only [decide_eq_false_iff_not];omega
   have jl:∀ i,i<=n->i<=(bM (l.take i)).length:=λi hi=>by
    have hgen:∀ r:List (List UInt8),r.length<=(bM r).length:=λr=>by
     induction r with
     | nil=>simp
     | cons x r ih=>rw [qp];simp only [List.length_cons,List.length_append];omega
    have:=hgen (l.take i);rw [List.length_take] at this;omega
   have jb:∀ i,(bM (l.take i)).length<=10000:=λi=>Nat.le_trans (zk l i) hb;have js:∀ i (hi:i<l.length),(bM (l.take (i+1))).length=(bM (l.take i)).length+(l[i].length+1):=λi hi=>by
    rw [List.take_succ_eq_append_getElem hi,zo,List.length_append,qp];simp [bM]
   (conv=>whnf);refine bP.on [0,1,5,39,40,41] [] (λi:Nat=>[(0,.v (.slice a n c)),(1,.v (.string ⟨#[47]⟩)),(5,.v (.int .i64 ((n-1+(bM (l.take i)).length-i:Nat):Int))),(39,.v (.slice a n c)),(40,.v (.int .i64 (n:Int))),(41,.v (.int .i64 (i:Int)))]) (λ_=>[])
    (λi h'=>i<=n/\Keeps [] h h') (λi=>n-i) 0 ?_ ?_
   ·(conv=>whnf);refine ⟨0,rfl,?_,rfl,Nat.zero_le _,Keeps.refl _ _⟩;have h1:(ByteArray.mk #[47]).size=1:=rfl;rw [h1,e1,wrapN (x:=((1:Nat):Int)*((n-1:Nat):Int)) (n:=n-1) (by omega) (by omega),wrapN (n:=n-1) (by omega) (by omega)];simp [bM]
   ·rintro i h3 ⟨hi,k3⟩;(conv=>whnf);refine aj.i (λhf=>?_) (λhf=>?_)
    ·have hi1:i<l.length:=by simp at hf;omega
     obtain ⟨b,off,hb',_,hcell⟩:=(S.keep k3).at1 i (by rw [fE];exact hi1);have e:(bq l)[i]'(by rw [fE];exact hi1)=ba l[i]:=by simp [bq]
     rw [e] at hcell;have hsz:(ba l[i]).size=l[i].length:=dP _;have j1:=jl i (by omega);have j2:=jb (i+1);have j3:=js i hi1;(conv=>whnf);refine aX.i i rfl (by omega) hb' ?_;(conv=>whnf);refine ax.i hcell ?_;(conv=>whnf);(try refine aV.pass ?_;conv=>whnf);refine aj.f ?_ ?_
     ·rw [dR (by omega) (by omega),hsz];simp only [decide_eq_false_iff_not];omega
     (conv=>whnf);refine ⟨n-(i+1),by omega,?_⟩;(conv=>whnf);refine ⟨i+1,rfl,?_,rfl,by omega,k3⟩;rw [hsz,wrapN (x:=(i:Int)+1) (n:=i+1) (by simp) (by omega),wrapN (n:=n-1+(bM (l.take (i+1))).length-(i+1)) (by omega) (by omega)]
    ·have hi1:i=n:=by simp at hf;omega
     subst hi1;have hlt:l.take i=l:=by rw [hl];exact List.take_length
     rw [hlt];have jn:=jl i (Nat.le_refl _);rw [hlt] at jn;generalize hN:i-1+(bM l).length-i=N;have hN1:(bM l).length=N+1:=by omega
     (conv=>whnf);refine aL.i λb4 h4 e4 s4 o4 k4=>?_;have B4:iI h4 b4 none none 0 0 []:=⟨o4,.inl ⟨rfl,rfl,rfl,rfl⟩,by simp [ay],.inl rfl⟩;(conv=>whnf);refine ak.m (Ko B4 N (by omega) (by omega)) (by simp [au]) λv h5 k5 hv=>?_;obtain ⟨g,cg,B5,hcg,hg⟩:=hv;have k05:Keeps [] h h5:=(k3.trans k4).cZ k5 (by simp;have:=k3.size;omega);obtain ⟨x,r,rfl⟩:∃ x r,l=x::r:=by
      match l,h2 with
      | x::r,_=>exact ⟨x,r,rfl⟩
     obtain ⟨b,off,hb',_,hcell⟩:=(S.keep k05).at1 0 (by simp [bq]);have ex:(bq (x::r))[0]'(by simp [bq])=ba x:=by simp [bq]
     rw [ex] at hcell;have hsz:(ba x).size=x.length:=dP _;rw [qp] at hN1 hb;simp only [List.length_cons,List.length_append] at hN1 hb hl;(conv=>whnf);refine aX.i 0 rfl (by omega) hb' ?_;(conv=>whnf);refine ax.i hcell ?_;(conv=>whnf);refine ak.m (vW B5 (ba x) (by rw [hsz];omega)) (by simp [au]) λv h6 k6 hv=>?_;obtain ⟨rfl,a6,c6,B6,n6,q6⟩:=hv;obtain ⟨rfl,rfl⟩:=q6 (by rw [hsz];omega);have z3:=k3.size;have z4:=k4.size;have z5:=k5.size;have k06:Keeps [] h h6:=k05.cZ k6 (λy hy=>by simp [ay] at hy;omega);rw [hsz,Mx,Nat.zero_add,List.nil_append] at B6;(conv=>whnf);refine dw.i 1 i rfl rfl (by omega) S.hcap ?_;have P:=S.part (l:=1) (r:=i) (by omega) (Nat.le_refl _);have hbr:((bq (x::r)).take i).drop 1=bq r:=by
      have:(bq (x::r)).length=i:=by rw [fE];simp;omega
      rw [<-this,List.take_length];simp [bq]
     rw [hbr] at P;(conv=>whnf);have P1:Sl h (jh a c 1 1) (i-1) (c-1) (bq r):=P;clear P;have rb:∀ j,(bM (r.take j)).length<=(bM r).length:=λj=>zk r j;refine bP.on [1,8,63,64,65] [] (λj:Nat=>[(1,.v (.string ⟨#[47]⟩)),(8,.v (.pointer (some ⟨b4,0,none⟩))),(63,.v (.slice (jh a c 1 1) (i-1) (c-1))),(64,.v (.int .i64 ((i-1:Nat):Int))),(65,.v (.int .i64 (j:Int)))]) (λ_=>[])
      (λj h'=>j<=i-1/\Keeps [] h h'/\iI h' b4 (some ⟨b4,0,none⟩) (some ⟨g,0,none⟩) (x++bM (r.take j)).length c6 (x++bM (r.take j))) (λj=>i-j) 0 ?_ ?_
     ·(conv=>whnf);refine ⟨0,rfl,rfl,rfl,Nat.zero_le _,k06,?_⟩;have e:x++bM (r.take 0)=x:=by simp [bM]
      rw [e];exact B6
     ·rintro j h7 ⟨hj,k7,B7⟩;(conv=>whnf);refine aj.i (λhf=>?_) (λhf=>?_)
      ·have hj1:j<r.length:=by simp at hf;omega
       obtain ⟨b,off,hb',_,hcell⟩:=(P1.keep k7).at1 j (by rw [fE];exact hj1);have e:(bq r)[j]'(by rw [fE];exact hj1)=ba r[j]:=by simp [bq]
       rw [e] at hcell;have hsj:(ba r[j]).size=r[j].length:=dP _;have jt:r.take (j+1)=r.take j++[r[j]]:=List.take_succ_eq_append_getElem hj1;have j2:=rb (j+1);rw [jt,zo,qp] at j2;have jz:bM ([]:List (List UInt8))=[]:=rfl;rw [jz] at j2;simp only [List.length_append,List.length_cons,List.length_nil] at j2;(conv=>whnf);refine aX.i j rfl (by omega) hb' ?_;(conv=>whnf);refine ax.i hcell ?_;(conv=>whnf);refine ak.m (vW B7 ⟨#[47]⟩ (by
        have:(ByteArray.mk #[47]).size=1:=rfl;rw [this,List.length_append];omega)) (by simp [au]) λv h8 k8 hv=>?_
       obtain ⟨rfl,a8,c8,B8,n8,q8⟩:=hv;have s47:(ByteArray.mk #[47]).size=1:=rfl;rw [s47] at B8 q8;obtain ⟨rfl,rfl⟩:=q8 (by rw [List.length_append];omega);(conv=>whnf);refine ak.m (vW B8 (ba r[j]) (by rw [hsj,List.length_append];omega)) (by simp [au]) λv h9 k9 hv=>?_;obtain ⟨rfl,a9,c9,B9,n9,q9⟩:=hv;rw [hsj] at B9 q9;obtain ⟨rfl,rfl⟩:=q9 (by rw [List.length_append];omega);rw [Mx] at B9;(conv=>whnf);refine ⟨i-(j+1),by omega,?_⟩;(conv=>whnf);refine ⟨j+1,rfl,by rw [wrapN (x:=(j:Int)+1) (n:=j+1) (by simp) (by omega)],rfl,by omega,(k7.cZ k8 (λy hy=>by simp [ay] at hy;omega)).cZ k9 (λy hy=>by simp [ay] at hy;omega),?_⟩;have e:x++bM (r.take (j+1))=x++bM (r.take j)++[47]++r[j]:=by
        rw [jt,zo,qp,jz];simp
       have e2:(x++bM (r.take (j+1))).length=(x++bM (r.take j)).length+1+r[j].length:=by rw [e];simp only [List.length_append,List.length_cons,List.length_nil]
       rw [e2,e];exact B9
      ·have hj1:j=r.length:=by simp at hf;omega
       subst hj1;rw [List.take_length] at B7;(conv=>whnf);refine ak.m (Bb B7 (by rw [List.length_append];omega)) (by simp [au]) λv h9 k9 hv=>?_;obtain ⟨rfl,B9⟩:=hv;(conv=>whnf);refine ⟨k7.cZ k9 (λy hy=>by simp [ay] at hy;omega),?_⟩;rw [qp];rfl
def nX (l:List (List UInt8)):List UInt8:=if l=[] then [47] else bM l
theorem U1 {h:Heap}{a:Option Addr}{n c:Nat}{l:List (List UInt8)}(S:Sl h a n c (bq l))(hl:l.all dI=true)(hb:(bM l).length<=120):aC Tryz.prog 166 [.slice a n c] h (λv h'=>Keeps [] h h'/\v=.tuple #[.string (ba (nX l)),.int .i64 0]):=by
 have hn:=S.hlen;rw [fE] at hn;have hll:l.length<=120:=by
  have:=FU (l:=l) λx hx=>Md (List.all_eq_true.1 hl x hx);omega
 have hx:∀ x∈l,x.length<=140737488351232:=λx hx=>by have:=wL hx;omega
 refine aG aH Tryz.func166 rfl ok166 (by simp [Tryz.f166]) ?_;(conv=>whnf);refine ak.i (U2 S (by omega)) λv h1 k1 hv=>?_;subst hv;have e:(ByteArray.mk #[47])++ba ((bM l).drop 1)=ba (nX l):=by
  have e1:(ByteArray.mk #[47])++ba ((bM l).drop 1)=ba (47::(bM l).drop 1):=by
   apply ByteArray.ext;rw [ByteArray.data_append];simp [ba]
  rw [e1];unfold nX;cases l with
  | nil=>rfl
  | cons x r=>rw [if_neg (by simp),qp];rfl
 have hp:(nX l).length<=120:=by
  unfold nX;split
  ·simp
  ·exact hb
 have hsz:(ByteArray.mk #[47]).size=1:=rfl;have hsb:(ba ((bM l).drop 1)).size=((bM l).drop 1).length:=dP _;(conv=>whnf);refine dL.i (by rw [hsz,hsb,List.length_drop];omega) ?_;(conv=>whnf);rw [e];have hpz:(ba (nX l)).size=(nX l).length:=dP _;refine aj.t (by simp;omega) ?_;(conv=>whnf);refine ak.i (Mw (S.keep k1) (by omega) hx) λv h2 k2 hv=>?_;subst hv;rw [hl];(conv=>whnf);refine aj.f (by simp [dm];omega) ?_;(conv=>whnf);exact ⟨k1.trans k2,rfl⟩
theorem UW (l:List UInt8)(hl:l.length<=140737488351232)(h:Heap):aC Tryz.prog 107 [.string (ba l)] h (λv h'=>Keeps [] h h'/\v=match bC l with
 | none=>.tuple #[.string ⟨#[]⟩,.string ⟨#[]⟩,.int .i64 3]
 | some m=>if m=[] then .tuple #[.string ⟨#[]⟩,.string ⟨#[]⟩,.int .i64 1] else .tuple #[.string (ba (nX m.dropLast)),.string (ba (m.getLast?.getD [])),.int .i64 0]):=by
 refine aG aH Tryz.func107 rfl ok107 (by simp [Tryz.f107]) ?_;(conv=>whnf);refine ak.i (uS l hl h) λv h1 k1 hv=>?_;cases hp:bC l with
 | none=>
  rw [hp] at hv;have hv:v=.tuple #[.slice none 0 0,.int .i64 3]:=hv;subst hv;(conv=>whnf);refine aj.t rfl ?_;(conv=>whnf);exact ⟨k1,rfl⟩
 | some m=>
  rw [hp] at hv;obtain ⟨a,c,rfl,S,nb⟩:=hv;obtain ⟨p1,p2,p3,p4⟩:=jX hp;have hm:=S.hlen;(conv=>whnf);refine aj.f rfl ?_;(conv=>whnf);refine aj.i (λhc=>?_) (λhc=>?_)
  ·(conv=>whnf);have:m=[]:=List.eq_nil_of_length_eq_zero (by simpa using hc);refine ⟨k1,?_⟩;simp only;rw [if_pos this]
  ·have hne:¬ m=[]:=by
    intro e;rw [e] at hc;simp at hc
   have hpos:0<m.length:=List.length_pos_iff.2 hne;have e1:IntKind.i64.wrap ((m.length:Int)-1)=((m.length-1:Nat):Int):=wrapN (by omega) (by omega);(conv=>whnf);rw [e1];refine dw.i 0 (m.length-1) rfl rfl (Nat.zero_le _) (by have:=S.hcap;omega) ?_;have P:=S.part (l:=0) (r:=m.length-1) (Nat.zero_le _) (by omega);rw [List.drop_zero,lq] at P;have hbt:(bq m).take (m.length-1)=bq m.dropLast:=by
    rw [List.dropLast_eq_take];simp [bq]
   rw [hbt] at P;have hall:m.dropLast.all dI=true:=List.all_eq_true.2 λx hx=>List.all_eq_true.1 p2 x (List.dropLast_subset _ hx);have hjl:(bM m.dropLast).length<=120:=by
    rw [List.dropLast_eq_take];have:=zk m (m.length-1);rw [if_neg hne] at p4;rw [p4] at this;omega
   (conv=>whnf);rw [lq];refine ak.i (U1 P hall hjl) λv h2 k2 hv=>?_;subst hv;obtain ⟨b,off,hb',_,hcell⟩:=(S.keep k2).at1 (m.length-1) (by rw [fE];omega);have e:(bq m)[m.length-1]'(by rw [fE];omega)=ba (m.getLast?.getD []):=by
    rw [List.getLast?_eq_getElem?,List.getElem?_eq_getElem (by omega)];simp [bq]
   rw [e] at hcell;(conv=>whnf);refine aX.i (m.length-1) rfl (by omega) hb' ?_;(conv=>whnf);refine ax.i hcell ?_;(conv=>whnf);refine ⟨k1.trans k2,?_⟩;simp only;rw [if_neg hne];rfl
theorem U3 (n:Nat)(hn:n<=1000000)(h:Heap):aC Tryz.prog 246 [.slice none 0 0,.int .i64 (n:Int)] h (λv h'=>Keeps [] h h'/\∃ a c,v=.slice a 0 c/\Own h' 9 1 a 0 c []/\∀ b∈ay a,h.size<=b):=by
 have e1:IntKind.i64.wrap ((n:Int)-IntKind.i64.wrap (((0:Nat):Int)-((0:Nat):Int)))=(n:Int):=by
  rw [wrapN (x:=((0:Nat):Int)-((0:Nat):Int)) (n:=0) (by simp) (by omega),wrapN (n:=n) (by simp) (by omega)]
 refine aG aH Tryz.func246 rfl ok246 (by simp [Tryz.f246]) ?_;(conv=>whnf);refine aV.pass ?_;(conv=>whnf);refine aj.f (by simp) ?_;(conv=>whnf);refine aV.pass ?_;(conv=>whnf);rw [e1];refine aj.i (λhc=>?_) (λhc=>?_)
 ·have hp:0<n:=by simp at hc;omega
  (conv=>whnf);refine dw.i 0 0 rfl rfl (Nat.le_refl _) (Nat.zero_le _) ?_;(conv=>whnf);rw [lq];refine aW.DT (aQ:=16) rfl rfl rfl rfl rfl rfl rfl hp (by omega) (by decide) λb c h1 e1 s1 o1 hc k1=>?_;(conv=>whnf);refine dw.i 0 0 rfl rfl (Nat.le_refl _) (Nat.zero_le _) ?_;(conv=>whnf);refine ⟨k1,some ⟨b,0,none⟩,c,?_,.inr ⟨b,_,rfl,o1,rfl,by simp,rfl,Nat.zero_le _⟩,by simp [ay];omega⟩;rw [lq];rfl
 ·(conv=>whnf);exact ⟨Keeps.refl _ _,none,0,rfl,.inl ⟨rfl,rfl,rfl,rfl⟩,by simp [ay]⟩
theorem F4:∀ l:List ByteArray,gV (l.map λx=>Value.string x)=true
 | []=>rfl
 | x::l=>by simpa [gV,uE] using F4 l
theorem U4 {h:Heap}{a:Option Addr}{n c:Nat}{xss:List (List ByteArray)}(S:Sl h a n c xss)(hb:xss.flatten.length<=1000)(hn:n<=1000):aC Tryz.prog 213 [.slice a n c] h
 (λv h'=>Keeps [] h h'/\∃ a' c',v=.slice a' xss.flatten.length c'/\Own h' 9 1 a' xss.flatten.length c' (xss.flatten.map λx=>.string x)/\∀ b∈ay a',h.size<=b):=by
 have hl:=S.hlen;have rY:∀ i (hi:i<xss.length),(xss.take (i+1)).flatten=(xss.take i).flatten++xss[i]:=by
  intro i hi;rw [List.take_succ_eq_append_getElem hi,List.flatten_append];simp
 have rZ:∀ i,(xss.take i).flatten.length<=xss.flatten.length:=by
  intro i;have:xss.flatten=(xss.take i).flatten++(xss.drop i).flatten:=by rw [<-List.flatten_append,List.take_append_drop]
  rw [this,List.length_append];omega
 refine aG aH Tryz.func213 rfl ok213 (by simp [Tryz.f213]) ?_;(conv=>whnf);refine bP.on [0,3,9,10,11] [] (λi:Nat=>[(0,.v (.slice a n c)),(3,.v (.int .i64 ((xss.take i).flatten.length:Int))),(9,.v (.slice a n c)),(10,.v (.int .i64 (n:Int))),(11,.v (.int .i64 (i:Int)))]) (λ_=>[])
  (λi h'=>i<=n/\h'=h) (λi=>n-i) 0 ?_ ?_
 ·(conv=>whnf);exact ⟨0,rfl,rfl,rfl,Nat.zero_le _,rfl⟩
 ·rintro i h2 ⟨hi,rfl⟩;(conv=>whnf);refine aj.i (λhc=>?_) (λhc=>?_)
  ·have hi1:i<xss.length:=by simp at hc;omega
   obtain ⟨b,off,hb',cs,⟨xa,xn,xc,rfl,SX⟩,hcell⟩:=S.at_ i hi1;(conv=>whnf);(try refine aV.pass ?_;conv=>whnf);refine aX.i i rfl (by omega) hb' ?_;(conv=>whnf);refine ax.i (hcell 0 (by simp)) ?_;have f1:=rY i hi1;have f2:=rZ (i+1);have f3:(xss.take (i+1)).flatten.length=(xss.take i).flatten.length+xn:=by rw [f1,List.length_append,SX.hlen]
   (conv=>whnf);rw [wrapN (n:=(xss.take (i+1)).flatten.length) (by rw [f3];simp) (by omega)];refine aj.f (by simp) ?_;(conv=>whnf);refine ⟨n-(i+1),by omega,?_⟩;(conv=>whnf);exact ⟨i+1,rfl,by rw [wrapN (x:=(i:Int)+1) (n:=i+1) (by simp) (by omega)],rfl,by omega,rfl⟩
  ·have hi1:i=xss.length:=by simp at hc;omega
   subst hi1;(conv=>whnf);rw [List.take_length];refine ak.i (U3 xss.flatten.length (by omega) h2) λv h3 k3 hv=>?_;obtain ⟨a3,c3,rfl,O3,n3⟩:=hv;(conv=>whnf);refine bP.on [6,25,26,27] [] (λq:Nat×Option Addr×Nat=>[(6,.v (.slice q.2.1 (xss.take q.1).flatten.length q.2.2)),(25,.v (.slice a n c)),(26,.v (.int .i64 (n:Int))),(27,.v (.int .i64 (q.1:Int)))]) (λ_=>[])
    (λq h'=>q.1<=n/\Keeps [] h2 h'/\Own h' 9 1 q.2.1 (xss.take q.1).flatten.length q.2.2 ((xss.take q.1).flatten.map λx=>.string x)/\∀ b∈ay q.2.1,h2.size<=b) (λq=>n-q.1) (0,a3,c3) ?_ ?_
   ·(conv=>whnf);exact ⟨(0,a3,c3),rfl,rfl,rfl,Nat.zero_le _,k3,O3,n3⟩
   ·rintro ⟨i,ai,ci⟩ h4 ⟨hi,k4,O4,n4⟩;simp only at hi O4 n4;(conv=>whnf);refine aj.i (λhc=>?_) (λhc=>?_)
    ·have hi1:i<xss.length:=by simp at hc;omega
     obtain ⟨b,off,hb',cs,⟨xa,xn,xc,rfl,SX⟩,hcell⟩:=S.at_ i hi1;have hc4:=hcell.keep k4;(conv=>whnf);refine aX.i i rfl (by omega) hb' ?_;(conv=>whnf);refine ax.i (hc4 0 (by simp)) ?_;have f1:=rY i hi1;have f2:=rZ (i+1);have f3:(xss.take (i+1)).flatten.length=(xss.take i).flatten.length+xn:=by rw [f1,List.length_append,SX.hlen]
     have SX4:=SX.keep k4;have oU:=SX.hlen;(conv=>whnf);rcases Nat.eq_zero_or_pos xn with h0|h0
     ·subst h0;have hx0:xss[i]=[]:=List.eq_nil_of_length_eq_zero oU.symm;have hcap:(xss.take i).flatten.length<=ci:=by
       rcases O4 with ⟨rfl,h1,rfl,h2⟩|⟨b,c,_,_,_,_,_,h6⟩
       ·omega
       ·exact h6
      refine aW.append0 rfl rfl rfl hcap ?_;(conv=>whnf);refine ⟨n-(i+1),by omega,?_⟩;(conv=>whnf);refine ⟨(i+1,ai,ci),rfl,?_,rfl,by simp only;omega,k4,?_,n4⟩
      ·have e:(xss.take (i+1)).flatten.length=(xss.take i).flatten.length:=by rw [f3,Nat.add_zero]
       simp only [e,Nat.add_zero];rw [wrapN (x:=(i:Int)+1) (n:=i+1) (by simp) (by omega)]
      ·simp only;rw [f1,hx0,List.append_nil];exact O4
     ·obtain ⟨xb,xo,rfl⟩:=SX.rX h0;refine jO (e:=9) (sz:=1) (aQ:=16) (new:=xss[i].map λx=>.string x) rfl rfl rfl rfl rfl rfl rfl O4 (by simp [oU]) (SX4.cells1) (F4 _) (by omega) (by decide) (by simp [au]) ?_;intro a5 c5 h5 O5 k5 n5;(conv=>whnf);refine ⟨n-(i+1),by omega,?_⟩;(conv=>whnf);refine ⟨(i+1,a5,c5),rfl,?_,rfl,by simp only;omega,k4.cZ k5 n4,?_,λb hb=>?_⟩
      ·simp only [f3];rw [wrapN (x:=(i:Int)+1) (n:=i+1) (by simp) (by omega)]
      ·simp only;rw [f1,List.length_append,<-oU,List.map_append];exact O5
      ·rcases n5 b hb with h|h
       ·exact n4 b h
       ·have:=k4.size;omega
    ·have hi1:i=xss.length:=by simp at hc;omega
     subst hi1;(conv=>whnf);rw [List.take_length] at O4;refine ⟨k4,ai,ci,?_,O4,n4⟩;rw [List.take_length]
theorem F5 (h:Heap):∀ xs:List ByteArray,(∀ x∈xs,lK x)->iR h (xs.map λx=>Value.string x) xs
 | [],_=>rfl
 | x::l,hx=>⟨[.string x],_,rfl,⟨rfl,hx x (by simp)⟩,F5 h l (λy hy=>hx y (by simp [hy]))⟩
theorem Mv {h:Heap}{a b:Option Addr}{n c m d:Nat}{x y:List (List UInt8)}(S:Sl h a n c (bq x))(T:Sl h b m d (bq y))(hb:x.length+y.length<=1000)(hx:∀ z∈x++y,z.length<=140737488351232):aC Tryz.prog 151 [.slice a n c,.slice b m d] h (λv h'=>Keeps [] h h'/\∃ a' c',v=.slice a' (x++y).length c'/\Sl h' a' (x++y).length c' (bq (x++y))/\∀ z∈ay a',h.size<=z):=by
 refine aG aH Tryz.func151 rfl ok151 (by simp [Tryz.f151]) ?_;(conv=>whnf);refine aL.i λb4 h4 e4 s4 o4 k4=>?_;have ng:h4[b4]?=some (.cells ⟨[.slice a n c,.slice b m d]⟩ 52 (0,0)):=o4;have S2:Sl h4 (some ⟨b4,0,none⟩) 2 2 [bq x,bq y]:=⟨rfl,Nat.le_refl _,by simp,λi hi=>⟨b4,0,rfl,[if i=0 then .slice a n c else .slice b m d],by
  have hi':i<2:=hi;have:i=0\/i=1:=by omega
  rcases this with rfl|rfl
  ·exact ⟨_,_,_,rfl,S.keep k4⟩
  ·exact ⟨_,_,_,rfl,T.keep k4⟩,λj hj=>by
  have hj0:j=0:=by simpa using hj
  subst hj0;have hi':i<2:=hi;have:i=0\/i=1:=by omega
  simp only [Heap.cell?,ng];rcases this with rfl|rfl <;> rfl⟩⟩
 have hfl:[bq x,bq y].flatten=bq (x++y):=by simp [bq]
 have hlen:(bq (x++y)).length=(x++y).length:=fE _;(conv=>whnf);refine ak.i (U4 S2 (by rw [hfl,hlen,List.length_append];omega) (by decide)) λv h5 k5 hv=>?_;obtain ⟨a5,c5,rfl,O5,n5⟩:=hv;rw [hfl,hlen] at O5;rw [hfl,hlen];(conv=>whnf);have R:=O5.sl (α:=ByteArray) (xs:=bq (x++y)) (F5 _ _ (λz hz=>Ga hx z hz)) rfl (by decide) (by rw [hlen,List.length_append];omega);exact ⟨k4.trans k5,a5,c5,rfl,R,λz hz=>by have:=n5 z hz;omega⟩
structure gD (S:FS):Prop where
 root:(S.C 1).kind=2
 names:∀ n,0<=n->n<24->(S.C n).kind=2->∀ e∈S.nm n,0<=e.node/\e.node<24/\(S.C e.node).kind≠0
theorem Mr {h:Heap}{V:VL}{M:aS}{X:VS}(A:At h V M X){S:FS}(I:bK X.now S){n:Int}(hn:0<=n/\n<24)(hk:(S.C n).kind≠0):aC Tryz.prog 149 [.pointer (some ⟨V.v,0,none⟩),.int .i64 n] h (λv h'=>Keeps [V.sb] h h'/\v=.tuple #[.agg ⟨(S.C n).cells⟩,.int .i64 0]/\At h' V M (eY X n)):=by
 have bl:=A.blt;have hcr:gU (bW X.now (8+n*8) 8)=some (S.C n):=by rw [I.card n hn.1 hn.2];exact sP (I.node n hn.1 hn.2).right
 refine aG aH Tryz.func149 rfl ok149 (by simp [Tryz.f149]) ?_;(conv=>whnf);refine aL.i λb1 h1 e1 s1 o1 k1=>?_;have nb1:∀ b∈V.blocks,b≠b1:=λb hb=>by have:=bl b hb;omega
 (conv=>whnf);refine ak.m (sV (A.on k1) n) (by simp [au,aZ];exact λe=>nb1 V.sb (by simp [VL.blocks]) e.symm) λv h2 k2 hv=>?_;rw [if_pos hn] at hv;obtain ⟨rfl,A2⟩:=hv;rw [hcr];unfold pM;(conv=>whnf);refine aL.i λb3 h3 e3 s3 o3 k3=>?_;(conv=>whnf);refine aK.i λh4 s4 k4=>?_;(conv=>whnf);refine aj.f ?_ ?_
 ·simp [dm];exact hk
 (conv=>whnf);refine aK.i λh5 s5 k5=>?_;(conv=>whnf);have z2:=k2.size;have bl2:=A2.blt;have A5:At h5 V M (eY X n):=((A2.on k3).keep k4 (λb hb=>by have:=bl2 b hb;simp;omega)).keep k5 (λb hb=>by simp;exact nb1 b hb);refine ⟨?_,rfl,A5⟩;exact (((k1.mono (by simp)).trans k2).bS k3).m1 k4 (by omega) |>.m1 k5 (by omega)
theorem UX (s:List UInt8):bC (s.take 121)=bC s:=by
 by_cases h:s.length<=121
 ·rw [List.take_of_length_le h]
 ·have h1:∀ t:List UInt8,120<t.length->bC t=none:=by
   intro t ht;unfold bC;cases t with
   | nil=>rfl
   | cons c r=>simp only;rw [if_pos (.inr ht)]
  rw [h1 _ (by rw [List.length_take];omega),h1 _ (by omega)]
theorem UY {h:Heap}{V:VL}{M:aS}{X:VS}(A:At h V M X){n:Int}{c:aA}{m:List Int}{s:List UInt8}(F:gF X.now n c m s):aC Tryz.prog 150 [.pointer (some ⟨V.v,0,none⟩),.agg ⟨c.cells⟩] h (λv h'=>Keeps [] h h'/\match bC s with
 | none=>v=.tuple #[.slice none 0 0,.int .i64 15]
 | some l=>∃ a k,v=.tuple #[.slice a l.length k,.int .i64 0]/\Sl h' a l.length k (bq l)/\∀ b∈ay a,h.size<=b):=by
 have hfit:=F.fits;refine aG aH Tryz.func150 rfl ok150 (by simp [Tryz.f150]) ?_;(conv=>whnf);refine aL.i λb1 h1 e1 s1 o1 k1=>?_;(conv=>whnf);refine ak.i (Ba (A.on k1) c F.ok F.szr F.mO 0 121) λv h2 k2 hv=>?_;have hrd:oZ X.now c 0 121=(s.take 121,0):=by
  rw [FY F];unfold jd;rw [if_neg (by omega)];by_cases h0:(s.length:Int)<=0
  ·rw [if_pos h0];have:s=[]:=List.eq_nil_of_length_eq_zero (by omega);rw [this];rfl
  ·rw [if_neg h0]
   congr 1
   rw [show (0:Int).toNat=0 from rfl,List.drop_zero];have:(min (s.length:Int) (0+121)).toNat=min s.length 121:=by omega
   rw [this];rw [show min s.length 121=min 121 s.length by omega,<-List.take_take,List.take_length]
 rw [hrd] at hv;subst hv;(conv=>whnf);refine aj.f rfl ?_;(conv=>whnf);refine ak.i (uS (s.take 121) (by rw [List.length_take];omega) h2) λv h3 k3 hv=>?_;rw [UX] at hv;have z1:=k1.size;have z2:=k2.size;cases hp:bC s with
 | none=>
  rw [hp] at hv;have hv:v=.tuple #[.slice none 0 0,.int .i64 3]:=hv;subst hv;(conv=>whnf);refine aj.t rfl ?_;(conv=>whnf);exact ⟨k1.trans (k2.trans k3),rfl⟩
 | some l=>
  rw [hp] at hv;obtain ⟨a,k,rfl,S3,nb⟩:=hv;(conv=>whnf);refine aj.f rfl ?_;(conv=>whnf);exact ⟨k1.trans (k2.trans k3),a,k,rfl,S3,λb hb=>by have:=nb b hb;omega⟩
theorem Mq {S:FS}{n:Int}{name:List UInt8}:(aY S).find n name=(bR (S.nm n) name).map (·.node):=rfl
theorem tL {F:Fs}{root:Int}{follow:Bool}{f:Nat}{at_:Int}{links:Nat}{name:List UInt8}{rest:List (List UInt8)}:dn F root follow (f+1) at_ links (name::rest)=(if F.kind at_≠2 then (0,6)
 else (match F.find at_ name with
  | none=>(0,4)
  | some next=>
   if F.kind next≠3\/(rest=[]/\follow=false) then dn F root follow f next links rest
   else if 8<links+1 then (0,11)
   else (match bC (F.data next) with
    | none=>(0,15)
    | some head=>dn F root follow f root (links+1) (head++rest)))):=rfl
structure WS where
 f:Nat
 links:Nat
 l:List (List UInt8)
 a:Option Addr
 n:Nat
 c:Nat
 s:List Int
def mY (S:FS)(r:Int×Int):Value:=.tuple #[.int .i64 r.1,.agg ⟨(if r.2=0 then S.C r.1 else aA.zero).cells⟩,.int .i64 r.2]
theorem UU {h:Heap}{V:VL}{M:aS}{X:VS}(A:At h V M X){S:FS}(I:bK X.now S)(C:gD S)(follow:Bool){a:Option Addr}{n c:Nat}{l:List (List UInt8)}(T:Sl h a n c (bq l))(ha:∀ b∈ay a,b≠V.sb)(hl:l.length<=60)(hx:∀ x∈l,x.length<=200) :
 aC Tryz.prog 101 [.pointer (some ⟨V.v,0,none⟩),.slice a n c,.bool follow] h (λv h'=>Keeps [V.sb] h h'/\v=mY S (dn (aY S) 1 follow 600 1 0 l)/\∃ s,At h' V M { X with seen:=s }/\1∈s/\((dn (aY S) 1 follow 600 1 0 l).2=0->(dn (aY S) 1 follow 600 1 0 l).1∈s)):=by
 have bl:=A.blt;have hE:(dn (aY S) 1 follow 600 1 0 l).2 ≠ -1:=Aa 600 1 0 l (by decide) (by omega);generalize hR:dn (aY S) 1 follow 600 1 0 l=R at hE;have hk1:(S.C 1).kind≠0:=by rw [C.root];decide
 refine aG aH Tryz.func101 rfl ok101 (by simp [Tryz.f101]) ?_;(conv=>whnf);refine aL.i λb1 h1 e1 s1 o1 k1=>?_;have nb1:∀ b∈V.blocks,b≠b1:=λb hb=>by have:=bl b hb;omega
 have msb:V.sb∈V.blocks:=by simp [VL.blocks]
 (conv=>whnf);refine bP.on [0,1,2,7,9] [7] (λq:WS=>[(0,.v (.pointer (some ⟨V.v,0,none⟩))),(1,.v (.slice q.a q.n q.c)),(2,.v (.bool follow)),(7,.lp 7 0),(9,.v (.int .i64 (q.links:Int)))]) (λ_=>[(7,b1,aA.zero.cells)])
  (λq h'=>q.links<=8/\Keeps [V.sb] h h'/\h1.size<=h'.size/\At h' V M { X with seen:=q.s }/\Sl h' q.a q.n q.c (bq q.l)/\(∀ b∈ay q.a,b≠V.sb)/\(∀ x∈q.l,x.length<=200)/\q.l.length<=60+60*q.links/\dn (aY S) 1 follow q.f 1 q.links q.l=R) (λq=>q.f) ⟨600,0,l,a,n,c,X.seen⟩ ?_ ?_
 ·(conv=>whnf);exact ⟨⟨600,0,l,a,n,c,X.seen⟩,rfl,rfl,rfl,Nat.zero_le _,k1.mono (by simp),Nat.le_refl _,A.on k1,T.keep k1,ha,hx,by simpa using hl,hR⟩
 ·rintro ⟨f,links,l,a,n,c,s0⟩ h2 ⟨q1,k2,z2,A2,T2,a2,x2,l2,r2⟩;simp only at q1 A2 T2 a2 x2 l2 r2;have bl2:=A2.blt;have nl:=T2.hlen;rw [fE] at nl;(conv=>whnf);refine ak.m (Mr A2 I (n:=1) (by decide) hk1) (by simp [au,aZ];exact λe=>nb1 V.sb msb e.symm) λv h3 k3 hv=>?_;obtain ⟨rfl,A3⟩:=hv;(conv=>whnf);refine aL.i λb4 h4 e4 s4 o4 k4=>?_;(conv=>whnf);refine aK.i λh5 s5 k5=>?_;(conv=>whnf);refine aj.f rfl ?_;have z3:=k3.size;have k35:Keeps [] h3 h5:=k4.new1 k5 (by omega);have A5:=A3.on k35;have T5:=(T2.je k3 (λb hb=>by simpa using a2 b hb)).keep k35;have bl3:=A3.blt;have hb4:∀ b∈V.blocks,b≠b4:=λb hb=>by have:=bl3 b hb;omega
  (conv=>whnf);refine bP.on [0,1,2,7,9,10,11,29,30,31] [7,11] (λq:Nat×Int×List Int=>[(0,.v (.pointer (some ⟨V.v,0,none⟩))),(1,.v (.slice a n c)),(2,.v (.bool follow)),(7,.lp 7 0),(9,.v (.int .i64 (links:Int))),(10,.v (.int .i64 q.2.1)),(11,.lp 11 0),(29,.v (.slice a n c)),(30,.v (.int .i64 (n:Int))),(31,.v (.int .i64 (q.1:Int)))]) (λq=>[(7,b1,aA.zero.cells),(11,b4,(S.C q.2.1).cells)])
   (λq h'=>q.1<=n/\Keeps [V.sb] h h'/\h5.size<=h'.size/\At h' V M { X with seen:=q.2.2 }/\Sl h' a n c (bq l)/\(0<=q.2.1/\q.2.1<24)/\(S.C q.2.1).kind≠0/\(1∈q.2.2/\q.2.1∈q.2.2)/\dn (aY S) 1 follow (f-q.1) q.2.1 links (l.drop q.1)=R) (λq=>n-q.1) (0,1,lX s0 1) ?_ ?_
  ·(conv=>whnf);refine ⟨(0,1,lX s0 1),rfl,rfl,rfl,Nat.zero_le _,?_,Nat.le_refl _,A5,T5,(show (0:Int)<=1/\(1:Int)<24 by decide),hk1,⟨nR.2 (.inr rfl),nR.2 (.inr rfl)⟩,by simpa using r2⟩;exact (k2.trans k3).bS k35
  ·rintro ⟨i,at_,s6⟩ h6 ⟨hi,k6,z6,A6,T6,rat,UZ,m6,r6⟩;simp only at hi A6 rat UZ m6 r6;have bl6:=A6.blt;obtain ⟨f',hf'⟩:∃ f',f-i=f'+1:=by
    cases hfi:f-i with
    | zero=>
     exfalso;rw [hfi] at r6;apply hE;rw [<-r6];rfl
    | succ f'=>exact ⟨f',rfl⟩
   rw [hf'] at r6;have stop:∀ (e:Int) (h7 h8:Heap),e≠0->Keeps [V.sb] h h7->h1.size<=h7.size->(∃ s,At h7 V M { X with seen:=s }/\1∈s)->Keeps [b1] h7 h8->R=(0,e)->Keeps [V.sb] h h8/\Value.tuple #[.int .i64 0,.agg ⟨aA.zero.cells⟩,.int .i64 e]=mY S R/\∃ s,At h8 V M { X with seen:=s }/\1∈s/\(R.2=0->R.1∈s):=by
    intro e h7 h8 he k7 z7 ⟨s,A7,m7⟩ k8 hRe;refine ⟨k7.m1 k8 (by omega),?_,s,A7.keep k8 (λb hb=>by simp;exact nb1 b hb),m7,λh=>by rw [hRe] at h;exact absurd h he⟩;subst hRe;unfold mY;simp only;rw [if_neg he]
   (conv=>whnf);refine aj.i (λhc=>?_) (λhc=>?_)
   ·have hi1:i<l.length:=by
     have:(i:Int)<(n:Int):=by simpa using hc
     omega
    rw [List.drop_eq_getElem_cons hi1] at r6;obtain ⟨b7,off7,hb7,_,hcell⟩:=T6.at1 i (by rw [fE];exact hi1);have en:(bq l)[i]'(by rw [fE];exact hi1)=ba l[i]:=by simp [bq]
    rw [en] at hcell;have N6:=I.node at_ rat.1 rat.2;(conv=>whnf);refine aX.i i rfl (by omega) hb7 ?_;(conv=>whnf);refine ax.i hcell ?_;(conv=>whnf);refine ak.i (DZ A6 (S.C at_) N6.ok l[i]) λv h7 k7 hv=>?_;have A7:=A6.on k7;have T7:=T6.keep k7;have k07:Keeps [V.sb] h h7:=k6.bS k7;have z7:=k7.size;have z5:=k35.size;by_cases hk2:(S.C at_).kind=2
    ·obtain ⟨m,D⟩:=N6.dir hk2;rw [Mf D l[i]] at hv;simp only at hv;have U0:¬ ((aY S).kind at_≠2):=λh=>h hk2;rw [tL,if_neg U0,Mq] at r6;have Cf:=rR (name:=l[i]) D.str;cases hfe:bR (S.nm at_) l[i] with
     | none=>
      have hfr:jr (S.nm at_) l[i]=(0,false):=by unfold jr;rw [hfe]
      rw [hfr] at hv Cf;rw [<-Cf] at hv;subst hv;rw [hfe] at r6;(conv=>whnf);(try refine aV.pass ?_;conv=>whnf);refine aj.f rfl ?_;(conv=>whnf);(try refine aV.pass ?_;conv=>whnf);refine aj.t rfl ?_;(conv=>whnf);refine aK.i λh8 s8 k8=>?_;(conv=>whnf);exact stop 4 h7 h8 (by decide) k07 (by omega) ⟨_,A7,m6.1⟩ k8 r6.symm
     | some e=>
      have hfr:jr (S.nm at_) l[i]=(e.node,true):=by unfold jr;rw [hfe]
      rw [hfr] at hv Cf;rw [<-Cf] at hv;subst hv;rw [hfe] at r6;simp only [Option.map_some] at r6;obtain ⟨en0,en1,Ms⟩:=C.names at_ rat.1 rat.2 hk2 e (List.mem_of_find?_eq_some hfe);(conv=>whnf);(try refine aV.pass ?_;conv=>whnf);refine aj.f rfl ?_;(conv=>whnf);(try refine aV.pass ?_;conv=>whnf);refine aj.f rfl ?_;(conv=>whnf);refine ak.m (Mr A7 I (n:=e.node) ⟨en0,en1⟩ Ms) (by
       have q1:=λe=>nb1 V.sb msb e;have q2:=λe=>hb4 V.sb msb e;simp [au,aZ];exact ⟨λe=>q1 e.symm,λe=>q2 e.symm⟩) λv h8 k8 hv=>?_
      obtain ⟨rfl,A8⟩:=hv;(conv=>whnf);refine aK.i λh9 s9 k9=>?_;have A9:=A8.keep k9 (λb hb=>by simp;exact hb4 b hb);have T9:Sl h9 a n c (bq l):=(T7.je k8 (λb hb=>by simpa using a2 b hb)).je k9 (λb hb=>by
       have hlt:b<h2.size:=by
        obtain ⟨bb,oo,hbb,_,hcc⟩:=T2.at1 i (by rw [fE];exact hi1);rw [hbb] at hb;simp [ay] at hb;subst hb;exact vU hcc
       simp;omega)
      have k09:Keeps [V.sb] h h9:=(k07.trans k8).m1 k9 (by omega);have z8:=k8.size;(conv=>whnf);refine aj.f rfl ?_;have hdr:(l.drop (i+1)=[])↔i+1=n:=by
       rw [List.drop_eq_nil_iff];omega
      have Mt:IntKind.i64.wrap ((n:Int)-1)=((n-1:Nat):Int):=wrapN (by omega) (by omega);(conv=>whnf);by_cases hcnd:(aY S).kind e.node≠3\/(l.drop (i+1)=[]/\follow=false)
      ·rw [if_pos hcnd] at r6;refine aj.t ?_ ?_
       ·rw [Mt];rcases hcnd with h|⟨h,h'⟩
        ·have h:(S.C e.node).kind≠3:=h;simp [dm,h]
        ·have:=hdr.1 h;have h2:((i:Int)==((n-1:Nat):Int))=true:=by simp;omega
         rw [h',h2];simp [dm]
       (conv=>whnf);refine ⟨n-(i+1),by omega,?_⟩;(conv=>whnf);exact ⟨(i+1,e.node,lX s6 e.node),rfl,by rw [wrapN (x:=(i:Int)+1) (n:=i+1) (by simp) (by omega)],rfl,by simp only;omega,k09,by omega,A9,T9,⟨en0,en1⟩,Ms,⟨nR.2 (.inl m6.1),nR.2 (.inr rfl)⟩,by
        have:f-(i+1)=f':=by omega
        simp only [this];exact r6⟩
      ·rw [if_neg hcnd] at r6;have h3:(S.C e.node).kind=3:=by
        apply Classical.byContradiction;intro h;exact hcnd (.inl h)
       have hnf:¬ (i+1=n/\follow=false):=λh=>hcnd (.inr ⟨hdr.2 h.1,h.2⟩);refine aj.f ?_ ?_
       ·rw [Mt,h3];by_cases hin:i+1=n
        ·have:follow=true:=by
          cases follow with
          | true=>rfl
          | false=>exact absurd ⟨hin,rfl⟩ hnf
         rw [this];simp [dm,dJ]
        ·have h2:((i:Int)==((n-1:Nat):Int))=false:=by simp;omega
         rw [h2];simp [dm]
       have zm:IntKind.i64.wrap ((links:Int)+1)=((links+1:Nat):Int):=wrapN (by omega) (by omega);(conv=>whnf);rw [zm];by_cases h8:8<links+1
       ·rw [if_pos h8] at r6;refine aj.t (by simp;omega) ?_;(conv=>whnf);refine aK.i λh10 s10 k10=>?_;(conv=>whnf);exact stop 11 h9 h10 (by decide) k09 (by omega) ⟨_,A9,nR.2 (.inl m6.1)⟩ k10 r6.symm
       ·rw [if_neg h8] at r6;refine aj.f (by simp;omega) ?_;obtain ⟨mm,FF⟩:=(I.node e.node en0 en1).file (.inr h3);(conv=>whnf);refine ak.i (UY A9 FF) λv h10 k10 hv=>?_;have A10:=A9.on k10;have k010:=k09.bS k10;have z10:=k10.size;have hdat:(aY S).data e.node=S.aQ e.node:=rfl;rw [hdat] at r6;cases hp:bC (S.aQ e.node) with
        | none=>
         rw [hp] at hv r6;simp only at hv r6;subst hv;(conv=>whnf);refine aj.t rfl ?_;(conv=>whnf);refine aK.i λh11 s11 k11=>?_;(conv=>whnf);exact stop 15 h10 h11 (by decide) k010 (by omega) ⟨_,A10,nR.2 (.inl m6.1)⟩ k11 r6.symm
        | some head=>
         rw [hp] at hv r6;simp only at hv r6;obtain ⟨ah,kh,rfl,Th,nh⟩:=hv;obtain ⟨p1,p2,p3,p4⟩:=jX hp;(conv=>whnf);refine aj.f rfl ?_;have F3:IntKind.i64.wrap ((i:Int)+1)=((i+1:Nat):Int):=wrapN (by simp) (by omega);have T10:=T9.keep k10;(conv=>whnf);refine dw.i (i+1) n F3 rfl (by omega) T10.hcap ?_;have P:=T10.part (l:=i+1) (r:=n) (by omega) (Nat.le_refl _);have hbr:((bq l).take n).drop (i+1)=bq (l.drop (i+1)):=by
          have:(bq l).length=n:=by rw [fE];omega
          rw [<-this,List.take_length];simp [bq]
         rw [hbr] at P;have zn:∀ x∈head,x.length<=200:=by
          intro x hx;have h1:=wL hx;by_cases hh:head=[]
          ·rw [hh] at hx;cases hx
          ·rw [if_neg hh] at p4;rw [p4] at h1;omega
         have hxs:∀ x∈head++l.drop (i+1),x.length<=200:=by
          intro x hx;rcases List.mem_append.1 hx with h|h
          ·exact zn x h
          ·exact x2 x (List.mem_of_mem_drop h)
         (conv=>whnf);refine ak.i (Mv Th P (by rw [List.length_drop];omega) (λz hz=>by have:=hxs z hz;omega)) λv h11 k11 hv=>?_;obtain ⟨a',c',rfl,T11,n11⟩:=hv;have bl10:=A10.blt V.sb msb;(conv=>whnf);refine ⟨f',by show f'<f;omega,?_⟩;(conv=>whnf);refine ⟨⟨f',links+1,head++l.drop (i+1),a',(head++l.drop (i+1)).length,c',lX s6 e.node⟩,rfl,rfl,rfl,by simp only;omega,k010.bS k11,by have:=k11.size;omega,A10.on k11,T11,λb hb=>by have:=n11 b hb;omega,hxs,?_,r6⟩;simp only [List.length_append,List.length_drop];omega
    ·have hop:nL X.now (S.C at_) l[i]=(0,false,6):=by
      unfold nL fA;rw [if_pos hk2];rfl
     have hop':nL ({ X with seen:=s6 }:VS).now (S.C at_) l[i]=(0,false,6):=hop;rw [hop'] at hv;subst hv;(conv=>whnf);(try refine aV.pass ?_;conv=>whnf);refine aj.t rfl ?_;(conv=>whnf);refine aK.i λh8 s8 k8=>?_;(conv=>whnf);refine stop 6 h7 h8 (by decide) k07 (by omega) ⟨_,A7,m6.1⟩ k8 ?_;rw [<-r6];rw [tL,if_pos (show (aY S).kind at_≠2 from hk2)]
   ·have hi1:i=n:=by
     have:¬ ((i:Int)<(n:Int)):=by simpa using hc
     omega
    subst hi1;(conv=>whnf);refine aK.i λh7 s7 k7=>?_;(conv=>whnf);rw [nl,List.drop_length] at r6;have hR2:R=(at_,0):=by rw [<-r6];rfl
    have z5:=k35.size;refine ⟨k6.m1 k7 (by omega),?_,s6,A6.keep k7 (λb hb=>by simp;exact nb1 b hb),m6.1,λ_=>by rw [hR2];exact m6.2⟩;rw [hR2];unfold mY;simp only;rw [if_pos trivial];rfl
def aR (F:Fs)(path:List UInt8)(follow:Bool):Int×Int:=match bC path with|none=>(0,3)|some l=>dn F 1 follow 600 1 0 l
theorem FZ {X:VS}{S:FS}(C:gD S){follow:Bool}(f:Nat)(at_:Int)(links:Nat)(l:List (List UInt8))(h:0<=at_/\at_<24/\(S.C at_).kind≠0)(he:(dn (aY S) 1 follow f at_ links l).2=0) :
 0<=(dn (aY S) 1 follow f at_ links l).1/\(dn (aY S) 1 follow f at_ links l).1<24/\(S.C (dn (aY S) 1 follow f at_ links l).1).kind≠0:=by
 have A:Alike (aY S) (aY S) id (λn=>0<=n/\n<24/\(S.C n).kind≠0):=by
  refine ⟨λx _=>rfl,λx n _ _=>by simp,λx n y hx hk hf=>?_,λx _ _=>rfl⟩;have hf':(bR (S.nm x) n).map (·.node)=some y:=hf;cases hfe:bR (S.nm x) n with
  | none=>rw [hfe] at hf';cases hf'
  | some e=>
   rw [hfe] at hf';have:e.node=y:=by simpa using hf'
   rw [<-this];exact C.names x hx.1 hx.2.1 hk e (List.mem_of_find?_eq_some hfe)
 exact ((qE A (root:=1) ⟨by decide,by decide,by rw [C.root];decide⟩ f at_ links l h).2 he).2
theorem sU {path:List UInt8}{l:List (List UInt8)}(h:bC path=some l):∀ x∈l,x.length<=200:=by
 obtain ⟨p1,p2,p3,p4⟩:=jX h;intro x hx;have h1:=wL hx;by_cases hh:l=[]
 ·rw [hh] at hx;cases hx
 ·rw [if_neg hh] at p4;rw [p4] at h1;omega
theorem UR {h:Heap}{V:VL}{M:aS}{X:VS}(A:At h V M X){S:FS}(I:bK X.now S)(C:gD S)(path:List UInt8)(hp:path.length<=140737488351232)(follow:Bool) :
 aC Tryz.prog 58 [.pointer (some ⟨V.v,0,none⟩),.string (ba path),.bool follow] h (λv h'=>Keeps [V.sb] h h'/\v=mY S (aR (aY S) path follow)/\∃ s,At h' V M { X with seen:=s }/\(bC path≠none->1∈s/\((aR (aY S) path follow).2=0->(aR (aY S) path follow).1∈s))):=by
 have bl:=A.blt;have msb:V.sb∈V.blocks:=by simp [VL.blocks]
 refine aG aH Tryz.func58 rfl ok58 (by simp [Tryz.f58]) ?_;(conv=>whnf);refine aL.i λb1 h1 e1 s1 o1 k1=>?_;have nb1:∀ b∈V.blocks,b≠b1:=λb hb=>by have:=bl b hb;omega
 (conv=>whnf);refine aj.f rfl ?_;(conv=>whnf);refine ak.i (uS path hp h1) λv h2 k2 hv=>?_;have k02:=k1.trans k2;have z1:=k1.size;have z2:=k2.size;unfold aR;cases hpp:bC path with
 | none=>
  rw [hpp] at hv;have hv:v=.tuple #[.slice none 0 0,.int .i64 3]:=hv;subst hv;(conv=>whnf);refine aj.t rfl ?_;(conv=>whnf);refine aK.i λh3 s3 k3=>?_;(conv=>whnf);exact ⟨(k02.mono (by simp)).m1 k3 (by omega),rfl,X.seen,(A.on k02).keep k3 (λb hb=>by simp;exact nb1 b hb),λh=>absurd rfl h⟩
 | some l=>
  rw [hpp] at hv;obtain ⟨a,c,rfl,T2,n2⟩:=hv;obtain ⟨p1,p2,p3,p4⟩:=jX hpp;(conv=>whnf);refine aj.f rfl ?_;(conv=>whnf);refine ak.m (UU (A.on k02) I C follow T2 (λb hb=>by have:=n2 b hb;have:=bl V.sb msb;omega) p1 (sU hpp)) (by simp [au,aZ];exact λe=>nb1 V.sb msb e.symm) λv h3 k3 hv=>?_;obtain ⟨rfl,s,A3,m3⟩:=hv;unfold mY;(conv=>whnf);refine aK.i λh4 s4 k4=>?_;(conv=>whnf);exact ⟨((k02.mono (by simp)).trans k3).m1 k4 (by omega),rfl,s,A3.keep k4 (λb hb=>by simp;exact nb1 b hb),λ_=>m3⟩
theorem wM {h:Heap}{V:VL}{M:aS}{X:VS}(A:At h V M X){S:FS}(I:bK X.now S)(C:gD S)(path:List UInt8)(hp:path.length<=140737488351232)(follow:Bool) :
 aC Tryz.prog 58 [.pointer (some ⟨V.v,0,none⟩),.string (ba path),.bool follow] h (λv h'=>Keeps [V.sb] h h'/\v=mY S (aR (aY S) path follow)/\∃ s,At h' V M { X with seen:=s }):=
 (UR A I C path hp follow).mono λ_ _ ⟨k,e,s,A',_⟩=>⟨k,e,s,A'⟩
def bB (F:Fs)(path:List UInt8):Int×List UInt8×Int×Int:=
 match bC path with
 | none=>(0,[],0,3)
 | some l=>if l=[] then (0,[],0,1) else
  let r:=dn F 1 true 600 1 0 l.dropLast
  if r.2≠0 then (0,[],0,r.2) else if F.kind r.1≠2 then (0,[],0,6) else (r.1,l.getLast?.getD [],(F.find r.1 (l.getLast?.getD [])).getD 0,0)
def mZ (S:FS)(r:Int×List UInt8×Int×Int):List Value:=if r.2.2.2=0 then [.int .i64 r.1]++(S.C r.1).cells++[.string (ba r.2.1),.int .i64 r.2.2.1] else [.int .i64 0]++aA.zero.cells++[.string ⟨#[]⟩,.int .i64 0]
theorem zi {h:Heap}{V:VL}{M:aS}{X:VS}(A:At h V M X){S:FS}(I:bK X.now S)(C:gD S)(path:List UInt8)(hp:path.length<=140737488351232) :
 aC Tryz.prog 61 [.pointer (some ⟨V.v,0,none⟩),.string (ba path)] h (λv h'=>Keeps [V.sb] h h'/\v=.tuple #[.agg ⟨mZ S (bB (aY S) path)⟩,.int .i64 (bB (aY S) path).2.2.2]/\∃ s,At h' V M { X with seen:=s }):=by
 have bl:=A.blt;have msb:V.sb∈V.blocks:=by simp [VL.blocks]
 refine aG aH Tryz.func61 rfl ok61 (by simp [Tryz.f61]) ?_;(conv=>whnf);refine aL.i λb1 h1 e1 s1 o1 k1=>?_;have nb1:∀ b∈V.blocks,b≠b1:=λb hb=>by have:=bl b hb;omega
 (conv=>whnf);refine aj.f rfl ?_;(conv=>whnf);refine ak.i (UW path hp h1) λv h2 k2 hv=>?_;have k02:=k1.trans k2;have z1:=k1.size;have z2:=k2.size;have stop:∀ (h2 h3:Heap) (r:Int×List UInt8×Int×Int),Keeps [V.sb] h h2->(∃ s,At h2 V M { X with seen:=s })->Keeps [b1] h2 h3->r.2.2.2≠0->bB (aY S) path=r ->
  Keeps [V.sb] h h3/\Value.tuple #[.agg ⟨[.int .i64 0]++aA.zero.cells++[.string ⟨#[]⟩,.int .i64 0]⟩,.int .i64 r.2.2.2]=.tuple #[.agg ⟨mZ S (bB (aY S) path)⟩,.int .i64 (bB (aY S) path).2.2.2]/\∃ s,At h3 V M { X with seen:=s }:=by
  intro h2 h3 r k2 ⟨s,A2⟩ k3 hr he;refine ⟨k2.m1 k3 (by omega),?_,s,A2.keep k3 (λb hb=>by simp;exact nb1 b hb)⟩;rw [he];unfold mZ;rw [if_neg hr]
 have hpl:bB (aY S) path=bB (aY S) path:=rfl
 conv at hpl=>rhs;unfold bB
 cases hpp:bC path with
 | none=>
  rw [hpp] at hv hpl;simp only at hv hpl;subst hv;(conv=>whnf);refine aj.t rfl ?_;(conv=>whnf);refine aK.i λh3 s3 k3=>?_;(conv=>whnf);exact stop h2 h3 _ (k02.mono (by simp)) ⟨X.seen,A.on k02⟩ k3 (by decide) hpl
 | some l=>
  rw [hpp] at hv hpl;simp only at hv hpl;obtain ⟨p1,p2,p3,p4⟩:=jX hpp;by_cases h0:l=[]
  ·rw [if_pos h0] at hv hpl;subst hv;(conv=>whnf);refine aj.t rfl ?_;(conv=>whnf);refine aK.i λh3 s3 k3=>?_;(conv=>whnf);exact stop h2 h3 _ (k02.mono (by simp)) ⟨X.seen,A.on k02⟩ k3 (by decide) hpl
  ·rw [if_neg h0] at hv hpl;subst hv;have hall:l.dropLast.all dI=true:=List.all_eq_true.2 λx hx=>List.all_eq_true.1 p2 x (List.dropLast_subset _ hx);have hjl:(bM l.dropLast).length<=120:=by
    rw [List.dropLast_eq_take];have:=zk l (l.length-1);rw [if_neg h0] at p4;rw [p4] at this;omega
   have hup:bC (nX l.dropLast)=some l.dropLast:=Uv hall hjl;have Y2:(nX l.dropLast).length<=120:=by
    unfold nX;split
    ·simp
    ·exact hjl
   (conv=>whnf);refine aj.f rfl ?_;(conv=>whnf);refine ak.m (wM (A.on k02) I C (nX l.dropLast) (by omega) true) (by simp [au,aZ];exact λe=>nb1 V.sb msb e.symm) λv h3 k3 hv=>?_;obtain ⟨rfl,s,A3⟩:=hv;have hpa:aR (aY S) (nX l.dropLast) true=dn (aY S) 1 true 600 1 0 l.dropLast:=by
    unfold aR;rw [hup]
   rw [hpa];generalize hr:dn (aY S) 1 true 600 1 0 l.dropLast=r at hpl;unfold mY;(conv=>whnf);refine aL.i λb4 h4 e4 s4 o4 k4=>?_;(conv=>whnf);refine aK.i λh5 s5 k5=>?_;have z3:=k3.size;have k35:Keeps [] h3 h5:=k4.new1 k5 (by omega);have A5:=A3.on k35;have k05:Keeps [V.sb] h h5:=((k02.mono (by simp)).trans k3).bS k35;by_cases hr2:r.2=0
   ·rw [if_neg (λh=>h hr2)] at hpl;have hin:=FZ (X:=X) C (follow:=true) 600 1 0 l.dropLast ⟨by decide,by decide,by rw [C.root];decide⟩;rw [hr] at hin;obtain ⟨r0,r1,rk⟩:=hin hr2;rw [hr2];(conv=>whnf);refine aj.f rfl ?_;have N5:=I.node r.1 r0 r1;(conv=>whnf);refine ak.i (DZ A5 (S.C r.1) N5.ok (l.getLast?.getD [])) λv h6 k6 hv=>?_;have A6:=A5.on k6;have k06:=k05.bS k6;by_cases hk2:(S.C r.1).kind=2
    ·obtain ⟨m,D⟩:=N5.dir hk2;rw [Mf D] at hv;simp only at hv;subst hv;rw [if_neg (show ¬ ((aY S).kind r.1≠2) from λh=>h hk2)] at hpl;have hfr:(jr (S.nm r.1) (l.getLast?.getD [])).1=((aY S).find r.1 (l.getLast?.getD [])).getD 0:=by
      rw [Mq];unfold jr;cases bR (S.nm r.1) (l.getLast?.getD []) <;> rfl
     (conv=>whnf);refine aj.f rfl ?_;(conv=>whnf);refine aK.i λh7 s7 k7=>?_;(conv=>whnf);have z6:=k6.size;refine ⟨k06.m1 k7 (by omega),?_,s,A6.keep k7 (λb hb=>by simp;exact nb1 b hb)⟩;rw [hpl];unfold mZ;simp only;rw [if_pos trivial,hfr];rfl
    ·rw [if_pos (show (aY S).kind r.1≠2 from hk2)] at hpl;have hop:nL X.now (S.C r.1) (l.getLast?.getD [])=(0,false,6):=by
      unfold nL fA;rw [if_pos hk2];rfl
     have hop':nL ({ X with seen:=s }:VS).now (S.C r.1) (l.getLast?.getD [])=(0,false,6):=hop;rw [hop'] at hv;subst hv;(conv=>whnf);refine aj.t rfl ?_;(conv=>whnf);refine aK.i λh7 s7 k7=>?_;(conv=>whnf);have z6:=k6.size;exact stop h6 h7 _ k06 ⟨s,A6⟩ k7 (by decide) hpl
   ·rw [if_pos hr2] at hpl;(conv=>whnf);refine aj.t (by simp;exact hr2) ?_;(conv=>whnf);refine aK.i λh7 s7 k7=>?_;(conv=>whnf);exact stop h5 h7 _ k05 ⟨s,A5⟩ k7 hr2 hpl
theorem zq {name:List UInt8}:∀ {l:List aF},strict l->bR l name=(if dA l name=true then l[aP l name]? else none)
 | [],_=>rfl
 | x::l,hs=>by
  obtain ⟨h1,h2⟩:=List.pairwise_cons.1 hs;have ih:=zq (name:=name) h2;by_cases hx:blt x.name name=true
  ·have e1:aP (x::l) name=aP l name+1:=by unfold aP;rw [List.takeWhile_cons,if_pos hx];rfl
   have e2:dA (x::l) name=dA l name:=by unfold dA;rw [e1];rfl
   have hne:¬ x.name=name:=by rintro rfl;rw [nJ] at hx;cases hx
   rw [e2,e1];have e3:(x::l)[aP l name+1]?=l[aP l name]?:=rfl;rw [e3,<-ih];unfold bR;rw [List.find?_cons,decide_eq_false hne]
  ·have e1:aP (x::l) name=0:=by unfold aP;rw [List.takeWhile_cons,if_neg hx];rfl
   have e2:dA (x::l) name=decide (x.name=name):=by unfold dA;rw [e1];rfl
   rw [e2,e1];by_cases hne:x.name=name
   ·unfold bR;rw [List.find?_cons,decide_eq_true hne];rfl
   ·have hf:=rR (name:=name) hs;rw [e2,decide_eq_false hne] at hf;rw [decide_eq_false hne];cases hfe:bR (x::l) name with
    | none=>rfl
    | some e=>
     unfold jr at hf;rw [hfe] at hf;cases hf
theorem xu {name:List UInt8}{l:List aF}(hs:strict l)(h:bR l name=none):dA l name=false:=by
 rw [zq hs] at h;by_cases ht:dA l name=true
 ·obtain ⟨hk,_⟩:=tQ ht;rw [if_pos ht,List.getElem?_eq_getElem hk] at h;cases h
 ·simpa using ht
theorem vz {name:List UInt8}{l:List aF}(hs:strict l){e:aF}(h:bR l name=some e):dA l name=true/\∃ hk:aP l name<l.length,l[aP l name]=e/\e.name=name:=by
 rw [zq hs] at h;by_cases ht:dA l name=true
 ·obtain ⟨hk,hn⟩:=tQ ht;rw [if_pos ht,List.getElem?_eq_getElem hk] at h;have he:=Option.some.inj h;exact ⟨ht,hk,he,he ▸ hn⟩
 ·rw [if_neg ht] at h;cases h
def live (T:List aD)(i:Int):Prop:=inT T i/\(tn T i).kind≠0
def dX (l:List aF)(j:Int):Nat:=(l.map (·.node)).count j
def refs (T:List aD)(j:Int):Nat:=dX (T.flatMap (·.names)) j
theorem PD (j:Int):dX [] j=0:=rfl
theorem xA (l r:List aF)(j:Int):dX (l++r) j=dX l j+dX r j:=by unfold dX;rw [List.map_append,List.count_append]
theorem Iq (e:aF)(l:List aF)(j:Int):dX (e::l) j=dX l j+if e.node=j then 1 else 0:=by
 unfold dX;rw [List.map_cons,List.count_cons]
 congr 1
 by_cases h:e.node=j
 ·rw [if_pos (by simpa using h),if_pos h]
 ·rw [if_neg (by simpa using h),if_neg h]
theorem Ir {l r:List aF}(h:l.Perm r)(j:Int):dX l j=dX r j:=(h.map _).count_eq j
theorem Db (l:List aF)(e:aF)(j:Int):dX (bD l e) j=dX l j+if e.node=j then 1 else 0:=by
 rw [Ir (mF l e),Iq]
theorem eraseP {α:Type}:∀ {l:List α} {k:Nat} (hk:k<l.length),((l[k]'hk)::l.eraseIdx k).Perm l
 | x::l,0,_=>List.Perm.refl _
 | x::l,k+1,hk=>by
  have ih:=eraseP (l:=l) (k:=k) (by simpa using hk);show ((l[k]'(by simpa using hk))::x::l.eraseIdx k).Perm (x::l);exact (List.Perm.swap _ _ _).trans (ih.cons x)
theorem Im {l:List aF}{k:Nat}(hk:k<l.length)(j:Int):dX (l.eraseIdx k) j+(if (l[k]'hk).node=j then 1 else 0)=dX l j:=by
 rw [<-Ir (eraseP hk) j,Iq]
theorem Ip {l:List aF}{j:Int}:0<dX l j↔∃ e∈l,e.node=j:=by
 unfold dX;rw [List.count_pos_iff,List.mem_map]
theorem Pz (T:List aD)(x:aD)(j:Int):refs (T++[x]) j=refs T j+dX x.names j:=by
 unfold refs;rw [List.flatMap_append,xA];simp
theorem Iu:∀ (T:List aD) (k:Nat) (hk:k<T.length) (x:aD) (j:Int),refs (T.set k x) j+dX (T[k]'hk).names j=refs T j+dX x.names j
 | y::T,0,_,x,j=>by
  unfold refs;show dX ((x::T).flatMap (·.names)) j+dX y.names j=dX ((y::T).flatMap (·.names)) j+_;rw [List.flatMap_cons,List.flatMap_cons,xA,xA];omega
 | y::T,k+1,hk,x,j=>by
  have ih:=Iu T k (by simpa using hk) x j;unfold refs at ih ⊢;show dX ((y::T.set k x).flatMap (·.names)) j+dX (T[k]'(by simpa using hk)).names j=_;rw [List.flatMap_cons,List.flatMap_cons,xA,xA];omega
def bJ (T:List aD)(d:Int)(x:aD):List aD:=T.set d.toNat x
theorem oL (T:List aD)(d:Int)(x:aD):(bJ T d x).length=T.length:=by unfold bJ;simp
theorem lQ {T:List aD}{d:Int}(hd:inT T d)(x:aD){i:Int}(hi:0<=i):tn (bJ T d x) i=if i=d then x else tn T i:=by
 have h1:=hd.1;have h2:=hd.2;unfold tn bJ;rw [List.getElem?_set];by_cases e:i=d
 ·subst e;rw [if_pos rfl,if_pos (by omega),if_pos rfl];rfl
 ·rw [if_neg (by omega),if_neg e]
theorem rO {T:List aD}{d:Int}(hd:inT T d)(x:aD)(j:Int):refs (bJ T d x) j+dX (tn T d).names j=refs T j+dX x.names j:=by
 have h1:=hd.1;have h2:=hd.2;have:=Iu T d.toNat (by omega) x j;have e:tn T d=T[d.toNat]'(by omega):=by
  unfold tn;rw [List.getElem?_eq_getElem (by omega)];rfl
 rw [e];exact this
theorem xh {T:List aD}{d i:Int}(x:aD):inT (bJ T d x) i↔inT T i:=by unfold inT;rw [oL]
theorem zU {T:List aD}{d:Int}(hd:inT T d){e:aF}(he:e∈(tn T d).names):0<refs T e.node:=by
 have h1:=hd.1;have h2:=hd.2;unfold refs;refine Ip.2 ⟨e,List.mem_flatMap.2 ⟨tn T d,?_,he⟩,rfl⟩;unfold tn;rw [List.getElem?_eq_getElem (by omega)];exact List.getElem_mem _
structure bX (S:FS)(T:List aD)(num:List Int):Prop where
 len:num.length=T.length
 two:2<=T.length
 root:nu num 1=1/\(tn T 1).kind=2
 bH:∀ i,live T i->1<=nu num i/\nu num i<24
 inj:∀ i j,live T i->live T j->nu num i=nu num j->i=j
 kind:∀ i,live T i->(S.C (nu num i)).kind=(tn T i).kind/\1<=(tn T i).kind/\(tn T i).kind<=3
 links:∀ i,live T i->(S.C (nu num i)).links=(tn T i).links
 dir:∀ i,live T i->(tn T i).kind=2->S.nm (nu num i)=(tn T i).names.map (rn num)/\(∀ e∈(tn T i).names,live T e.node)/\strict (tn T i).names/\(tn T i).data=[]
 data:∀ i,live T i->(tn T i).kind≠2->(tn T i).data=S.aQ (nu num i)/\(tn T i).names=[]
 dead:∀ i,inT T i->(tn T i).kind=0->(tn T i).names=[]
 zero:(tn T 0).names=[]
 all:∀ n,0<=n->n<24->(S.C n).kind≠0->∃ i,live T i/\nu num i=n
 cnt:∀ i,live T i->i≠1->(tn T i).links=(refs T i:Int)
 top:refs T 1=0
 rank:∃ rk:Int->Nat,∀ i,live T i->(tn T i).kind=2->∀ e∈(tn T i).names,rk e.node<rk i
theorem bX.live1 {S:FS}{T:List aD}{num:List Int}(W:bX S T num):live T 1:=⟨⟨by omega,by have:=W.two;omega⟩,by rw [W.root.2];decide⟩
theorem bX.alike {S:FS}{T:List aD}{num:List Int}(W:bX S T num):Alike (aO T) (aY S) (nu num) (live T):=by
 refine ⟨λi hi=>(W.kind i hi).1,λi name hi hk=>?_,λi name y hi hk hf=>?_,λi hi hk=>?_⟩
 ·show (bR (S.nm (nu num i)) name).map (·.node)=((bR (tn T i).names name).map (·.node)).map (nu num);rw [(W.dir i hi hk).1,Df,Option.map_map,Option.map_map];rfl
 ·have hf':(bR (tn T i).names name).map (·.node)=some y:=hf;cases he:bR (tn T i).names name with
  | none=>rw [he] at hf';cases hf'
  | some e=>
   rw [he] at hf';have:e.node=y:=by simpa using hf'
   rw [<-this];exact (W.dir i hi hk).2.1 e (List.mem_of_find?_eq_some he)
 ·have:(tn T i).kind=3:=hk;exact ((W.data i hi (by omega)).1).symm
theorem bX.path {S:FS}{T:List aD}{num:List Int}(W:bX S T num)(path:List UInt8)(follow:Bool) :
 (aR (aY S) path follow).2=(aR (aO T) path follow).2/\((aR (aO T) path follow).2=0->(aR (aY S) path follow).1=nu num (aR (aO T) path follow).1/\live T (aR (aO T) path follow).1):=by
 unfold aR;cases bC path with
 | none=>exact ⟨rfl,λh=>by cases h⟩
 | some l=>
  have:=qE W.alike (root:=1) (follow:=follow) W.live1 600 1 0 l W.live1;rw [W.root.1] at this;exact this
theorem bX.place {S:FS}{T:List aD}{num:List Int}(W:bX S T num)(path:List UInt8) :
 (bB (aY S) path).2.2.2=(bB (aO T) path).2.2.2/\((bB (aO T) path).2.2.2=0->live T (bB (aO T) path).1/\(tn T (bB (aO T) path).1).kind=2/\(bB (aY S) path).1=nu num (bB (aO T) path).1/\(bB (aY S) path).2.1=(bB (aO T) path).2.1 /\
  (
   (bR (tn T (bB (aO T) path).1).names (bB (aO T) path).2.1=none/\(bB (aO T) path).2.2.1=0/\(bB (aY S) path).2.2.1=0) \/
   ∃ e,bR (tn T (bB (aO T) path).1).names (bB (aO T) path).2.1=some e/\(bB (aO T) path).2.2.1=e.node/\live T e.node/\(bB (aY S) path).2.2.1=nu num e.node)):=by
 unfold bB;cases bC path with
 | none=>exact ⟨rfl,λh=>by cases h⟩
 | some l=>
  simp only;by_cases h0:l=[]
  ·rw [if_pos h0,if_pos h0];exact ⟨rfl,λh=>by cases h⟩
  ·rw [if_neg h0,if_neg h0];have hal:=qE W.alike (root:=1) (follow:=true) W.live1 600 1 0 l.dropLast W.live1;rw [W.root.1] at hal;generalize dn (aY S) 1 true 600 1 0 l.dropLast=rv at hal ⊢;generalize dn (aO T) 1 true 600 1 0 l.dropLast=r at hal ⊢;obtain ⟨a1,a2⟩:=hal;rw [a1];by_cases hr:r.2=0
   ·have hrn:¬ (r.2≠0):=λh=>h hr;rw [if_neg hrn,if_neg hrn];obtain ⟨b1,b2⟩:=a2 hr;rw [b1,W.alike.kind r.1 b2];by_cases hk:(aO T).kind r.1=2
    ·have hkn:¬ ((aO T).kind r.1≠2):=λh=>h hk;rw [if_neg hkn,if_neg hkn];refine ⟨rfl,λ_=>⟨b2,hk,rfl,rfl,?_⟩⟩;show _\/_;simp only;rw [W.alike.find r.1 _ b2 hk];have hd:∀ nm,(aO T).find r.1 nm=(bR (tn T r.1).names nm).map (·.node):=λnm=>rfl;rw [hd];cases hfe:bR (tn T r.1).names (l.getLast?.getD []) with
     | none=>exact .inl ⟨rfl,rfl,rfl⟩
     | some e=>exact .inr ⟨e,rfl,rfl,(W.dir r.1 b2 hk).2.1 e (List.mem_of_find?_eq_some hfe),rfl⟩
    ·rw [if_pos hk,if_pos hk];exact ⟨rfl,λh=>by cases h⟩
   ·rw [if_pos hr,if_pos hr];exact ⟨rfl,λh=>absurd h hr⟩
theorem bX.fc {S:FS}{T:List aD}{num:List Int}(W:bX S T num):gD S:=by
 refine ⟨?_,λn n0 n1 hk e he=>?_⟩
 ·have:=W.kind 1 W.live1;rw [W.root.1] at this;rw [this.1];exact W.root.2
 ·obtain ⟨i,hi,rfl⟩:=W.all n n0 n1 (by rw [hk];decide);have hki:(tn T i).kind=2:=by rw [<-(W.kind i hi).1];exact hk
  obtain ⟨q1,q2,q3,_⟩:=W.dir i hi hki;rw [q1] at he;obtain ⟨e0,he0,rfl⟩:=List.mem_map.1 he;have hl:=q2 e0 he0;have hr:=W.bH e0.node hl;have hk2:=W.kind e0.node hl;have hn:(rn num e0).node=nu num e0.node:=rfl;rw [hn];exact ⟨by omega,hr.2,by rw [hk2.1];omega⟩
end Go.Proofs.YtoociceebodfeaaGreatDoor
