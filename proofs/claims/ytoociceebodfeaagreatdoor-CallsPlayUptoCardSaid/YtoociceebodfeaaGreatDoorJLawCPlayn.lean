/-
  Joined texts: MemC, LayA, LaiZ, CalH, NewT, LayB, CalI, CalK, PlyC, PlyD.
-/
import Derived.Test.YtoociceebodfeaaGreatDoorJLawCPlaym
import Derived.Test.YtoociceebodfeaaGreatDoorJLawCPlayh
import Derived.Test.YtoociceebodfeaaGreatDoorJLawCPlayl
import Derived.Test.YtoociceebodfeaaGreatDoorJLawCPlayj
import Derived.Test.YtoociceebodfeaaGreatDoorJLawCPlayg
import Derived.Test.YtoociceebodfeaaGreatDoorJLawCPlayk
import Derived.Test.YtoociceebodfeaaGreatDoorJLawCPlaye
import Derived.Test.YtoociceebodfeaaGreatDoorRows
set_option linter.all false
set_option maxRecDepth 100000
set_option maxHeartbeats 2000000
namespace Go.Proofs.YtoociceebodfeaaGreatDoor
open Go Go.aK
theorem MH {a:Int}{l1 l2:List Int}:(l1++a::l2).Nodup↔(a::(l1++l2)).Nodup:=List.perm_middle.nodup_iff
theorem Wt {h:Heap}{a:Option Addr}{n c:Nat}{ws:List UInt64}(O:Own h 46 1 a n c (ws.map wv))(hb:ws.length<=281474976710656):Sl h a n c ws:=by
 exact O.sl (α:=UInt64) (xW h ws) rfl (by decide) hb
theorem Wu {l:List (Int×UInt64)}{j:Nat}{n:Int}(hn:(l.map (·.1)).Nodup)(hj:(l[j]?).map (·.1)=some n)(k:Int):lk (l.eraseIdx j) k=if k=n then none else lk l k:=by
 induction l generalizing j with
 | nil=>simp at hj
 | cons p l ih=>
  obtain ⟨a,v⟩:=p;simp only [List.map_cons,List.nodup_cons] at hn;cases j with
  | zero=>
   simp at hj;subst hj;simp only [List.eraseIdx_cons_zero,lk];by_cases e:k=a
   ·rw [if_pos e,e];cases h:lk l a with
    | none=>rfl
    | some w=>
     exfalso;apply hn.1;clear ih hn
     induction l with
     | nil=>cases h
     | cons q l ih=>
      obtain ⟨b,u⟩:=q;simp only [lk] at h;simp only [List.map_cons,List.mem_cons];split at h
      ·rename_i e;exact .inl e
      ·exact .inr (ih h)
   ·rw [if_neg e,if_neg e]
  | succ j=>
   have hj':(l[j]?).map (·.1)=some n:=by simpa using hj
   have hna:n≠a:=by
    rintro rfl;apply hn.1;simp only [Option.map_eq_some_iff] at hj';obtain ⟨q,hq,rfl⟩:=hj';exact List.mem_map.2 ⟨q,List.mem_of_getElem? hq,rfl⟩
   simp only [List.eraseIdx_cons_succ,lk];rw [ih hn.2 hj'];by_cases e:k=a
   ·rw [if_pos e,if_pos e,if_neg (λx=>hna (x.symm.trans e))]
   ·rw [if_neg e,if_neg e]
theorem Wv (l:List (Int×UInt64))(j:Nat):(fD l).eraseIdx j=fD (l.eraseIdx j):=by
 unfold fD;exact wm _ l j
theorem FV {h:Heap}{r:Nat}{l:List (Int×UInt64)}(o:dw h r (fD l)):(l.map (·.1)).Nodup:=by
 obtain ⟨es,cl,_,_,g,_⟩:=o;have:(fD l).map (·.1)=l.map (·.1):=by simp [fD]
 rw [this] at g;exact g
theorem Ww {l:List (Int×UInt64)}{x:Int}{v:UInt64}(h:lk l x=some v):x∈l.map (·.1):=by
 induction l with
 | nil=>cases h
 | cons p l ih=>
  obtain ⟨a,w⟩:=p;simp only [lk] at h;simp only [List.map_cons,List.mem_cons];split at h
  ·rename_i e;exact .inl e
  ·exact .inr (ih h)
theorem Wx {l:List (Int×UInt64)}(h:fD l=[]):l=[]:=by
 unfold fD at h;exact List.map_eq_nil_iff.1 h
theorem Wy {h:Heap}{L:ML}{M:aU}(A:fG h L M)(O:lT h L M)(hu:M.fT = -1)(hs:M.sure.length<=1000000)(hw:∀ p∈M.way,lk M.loose p.1=some p.2/\M.there p.1=true):aC Tryz.prog 87 [.pointer (some ⟨L.m,0,none⟩)] h (λv h'=>Keeps L.blocks h h'/\v=.int .i64 0 /\
 ∃ N:aU,fG h' L N/\lT h' L N/\N.fT = -1/\N.sure.length=M.sure.length/\N.way=[]/\(∀ i,N.read i=M.read i)/\(∀ x,lk N.loose x≠none->lk M.loose x≠none/\lk M.way x=none)):=by
 have hc1:(M.call true).1=0:=by
  unfold aU.call;rw [hu];simp
 have hc2:(M.call true).2={ M with calls:=IntKind.i64.wrap (M.calls+1) }:=by
  unfold aU.call;rw [hu];simp
 refine aG aH Tryz.func87 rfl ok87 (by simp [Tryz.f87]) ?_;(conv=>whnf);refine ak.m (Cu A true) (by simp [ax]) λv h1 k1 hv=>?_;obtain ⟨rfl,A1⟩:=hv;rw [hc1];rw [hc2] at A1;have O1:lT h1 L { M with calls:=IntKind.i64.wrap (M.calls+1) }:=O.keep k1 (λb hb=>by simp;exact (A.ap2 b hb).1);(conv=>whnf);refine aj.f rfl ?_;(conv=>whnf);refine au.o A1.obj rfl ?_;(conv=>whnf);refine aP.range rfl A1.way λit hR ei si ki IR=>?_;have AR:=A1.on ki;have OR:lT hR L { M with calls:=IntKind.i64.wrap (M.calls+1) }:=Own.keep O1 ki (by simp);have bl:=A1.blt;have hwn:=FV A1.way;generalize hM1:({ M with calls:=IntKind.i64.wrap (M.calls+1) }:aU)=M1 at *;have hread1:∀ i,M1.read i=M.read i:=λi=>by subst hM1;rfl
 have hsure1:M1.sure=M.sure:=by subst hM1;rfl
 have hway1:M1.way=M.way:=by subst hM1;rfl
 have hloose1:M1.loose=M.loose:=by subst hM1;rfl
 have hunt1:M1.fT = -1:=by subst hM1;exact hu
 have yZ:∀ b∈L.blocks,b≠it:=λb hb=>by have:=bl b hb;omega
 (conv=>whnf);refine bO.on [0,15] [] (λq:List (Int×UInt64)×aU=>[(0,.v (.pointer (some ⟨L.m,0,none⟩))),(15,.v (.pointer (some ⟨it,0,none⟩)))])
  (λ_=>[]) (λq h'=>Keeps (it::L.blocks) hR h'/\(∃ last,nR h' it L.wb (fD q.1) last)/\fG h' L q.2/\lT h' L q.2/\q.2.fT = -1/\q.2.sure.length=M.sure.length/\(∀ i,q.2.read i=M.read i)/\(q.1.map (·.1)).Nodup/\(∀ p∈q.1,lk q.2.loose p.1=some p.2/\q.2.there p.1=true)/\(∀ x,lk q.2.loose x≠none->lk M.loose x≠none/\(lk M.way x=none\/x∈q.1.map (·.1)))) (λq=>q.1.length) (M1.way,M1) ?_ ?_
 ·(conv=>whnf);refine ⟨(M1.way,M1),rfl,rfl,rfl,Keeps.refl _ _,⟨none,IR⟩,AR,OR,hunt1,by rw [hsure1],hread1,hwn,λp hp=>?_,λx hx=>?_⟩
  ·rw [hway1] at hp;have:=hw p hp;rw [hloose1];refine ⟨this.1,?_⟩;unfold aU.there;rw [hsure1];exact this.2
  ·rw [hloose1] at hx;refine ⟨hx,?_⟩;rw [hway1];cases hl:lk M.way x with
   | none=>exact .inl rfl
   | some v=>exact .inr (Ww hl)
 ·rintro ⟨R,N⟩ h2 ⟨k2,⟨last,I2⟩,A2,O2,u2,s2,r2,n2,w2,y2⟩;simp only at I2 A2 O2 u2 s2 r2 n2 w2 y2;have Wz:it≠L.wb:=λe=>yZ L.wb (by simp [ML.blocks]) e.symm;(conv=>whnf);refine aP.next I2 (by simp [ax]) Wz (λhR0=>?_) (λR1 p R2 h3 hRR s3 k3 I3=>?_)
  ·(conv=>whnf);refine aj.f rfl ?_;(conv=>whnf);refine au.o A2.obj rfl ?_;(conv=>whnf);refine aP.WB rfl A2.way (by simp [ax]) λh3 s3 M3 k3=>?_;(conv=>whnf);have a3:=A2.ap3;refine ⟨?_,rfl,{ N with way:=[] },⟨k3.obj A2.obj (by simpa using a3.2),A2.sure.jB k3 (λb hb=>by simpa using (A2.ap2 b hb).2.2),A2.loose.keep k3 (by simpa using A2.ap1),M3,A2.ap1,A2.ap2,λb hb=>Nat.lt_of_lt_of_le (A2.lt b hb) k3.size⟩,Own.keep O2 k3 (λb hb=>by simpa using (A2.ap2 b hb).2.2),u2,s2,rfl,r2,λx hx=>?_⟩
   rotate_left
   ·obtain ⟨y3,y4⟩:=y2 x hx;refine ⟨y3,?_⟩;rcases y4 with h|h
    ·exact h
    ·have hR1:R=[]:=Wx hR0;rw [hR1] at h;simp at h
   have ka:Keeps L.blocks h hR:=(k1.mono (by simp [ML.blocks])).bV ki;have kb:Keeps L.blocks h h2:=ka.gI k2 (λx hx=>by
    rcases List.mem_cons.1 hx with rfl|hx
    ·right;have:=k1.size;omega
    ·exact .inl hx)
   exact kb.trans (k3.mono (by simp [ML.blocks]))
  ·obtain ⟨m1,q,m2,rfl,rfl,rfl,rfl⟩:=K7 hRR;obtain ⟨ql,qt⟩:=w2 q (by simp);(conv=>whnf);refine aj.t rfl ?_;(conv=>whnf);refine aP.entry I3 ?_;have A3:=A2.keep k3 (λb hb=>by simp;exact yZ b hb);have O3:lT h3 L N:=Own.keep O2 k3 (λb hb=>by simp;exact yZ b (by simp [ML.blocks,hb]));(conv=>whnf);refine au.o A3.obj rfl ?_;have hq0:0<=q.1/\q.1<N.sure.length:=by simpa [aU.there] using qt
   have hlen:=A3.sure.hlen;have hO:=O3;rcases hO with ⟨_,h0,_⟩|⟨b,cs,hb,ob,ht,hcl,hll,hcc⟩
   ·omega
   obtain ⟨i,hi⟩:∃ i:Nat,q.1=(i:Int):=⟨q.1.toNat,by omega⟩;have hi1:i<N.sure.length:=by omega
   have FW:b∈ay L.sa:=by rw [hb];simp [ay]
   have ap:=A2.ap2 b FW;(conv=>whnf);refine aS.i i (by exact hi) (by omega) hb ?_;(conv=>whnf);refine dJ.i ob ?_ (by simp [ax]) λh4 s4 o4 k4=>?_
   ·show 0+i*1+1<=cs.length;omega
   have hset:(cs.set i (wv q.2)).take (N.sure.set i q.2).length=(N.sure.set i q.2).map wv:=by
    rw [List.length_set,List.take_set,List.map_set];rw [List.length_map] at ht;rw [ht]
   have mh:h4[b]?=some (.cells ⟨cs.set i (wv q.2)⟩ 46 (0,0)):=by
    rw [o4];have e:bC (0+i*1) [wv q.2] cs=cs.set i (wv q.2):=by
     rw [show 0+i*1=i by omega,xQ _ _ _ (by omega)]
    exact congrArg (λx=>some (Obj.cells ⟨x⟩ 46 (0,0))) e
   have O4:lT h4 L { N with sure:=N.sure.set i q.2 }:=.inr ⟨b,_,hb,mh,by simpa using hset,by rw [List.length_set];exact hcl,by simpa using hll,hcc⟩;have kb4:∀ x∈L.blocks,x≠b->x∉[b]:=λx _ hx=>by simpa using hx
   have A4:fG h4 L { N with sure:=N.sure.set i q.2 }:=⟨k4.obj A3.obj (by simpa using λe=>ap.1 e.symm),Wt O4 (by rw [List.length_set];omega),A3.loose.keep k4 (by simpa using λe=>ap.2.1 e.symm),A3.way.keep k4 (by simpa using λe=>ap.2.2 e.symm),A3.ap1,A3.ap2,λx hx=>Nat.lt_of_lt_of_le (A3.lt x hx) k4.size⟩;(conv=>whnf);refine au.o A4.obj rfl ?_;(conv=>whnf);refine gF.is A4.loose (by rw [qi,ql]) ?_;(conv=>whnf);(try refine aQ.pass ?_;conv=>whnf);refine aj.t (by simp) ?_;(conv=>whnf);refine au.o A4.obj rfl ?_;(conv=>whnf);refine aP.del rfl rfl A4.loose (n:=q.1) (by rw [qi,ql];simp) (by simp [ax]) λh5 j hj hjn s5 M5 k5=>?_;have WC:(N.loose[j]?).map (·.1)=some q.1:=by
    have:((fD N.loose)[j]?).map (·.1)=some q.1:=hjn;unfold fD at this;rw [List.getElem?_map,Option.map_map] at this;exact this
   have hln:=FV A4.loose;rw [Wv] at M5;have a3:=A3.ap3;(conv=>whnf);refine ⟨(m1++m2).length,by simp,?_⟩;(conv=>whnf);have hN5:∀ x,lk (N.loose.eraseIdx j) x=if x=q.1 then none else lk N.loose x:=λx=>Wu hln WC x;refine ⟨(m1++m2,{ N with sure:=N.sure.set i q.2,loose:=N.loose.eraseIdx j }),rfl,rfl,rfl,?_,⟨some (q.1,wv q.2),?_⟩,⟨k5.obj A4.obj (by simpa using a3.1),A4.sure.jB k5 (λx hx=>by simpa using (A3.ap2 x hx).2.1),M5,A4.way.keep k5 (by simpa using A3.ap1.symm),A3.ap1,A3.ap2,λx hx=>Nat.lt_of_lt_of_le (A4.lt x hx) k5.size⟩,Own.keep O4 k5 (λx hx=>by simpa using (A3.ap2 x hx).2.1),u2,by simp only [List.length_set];exact s2,λx=>?_,?_,λp hp=>?_,λx hx=>?_⟩
   ·exact ((k2.trans (k3.mono (by simp))).trans (k4.mono (by simp;right;simp [ML.blocks,FW]))).trans (k5.mono (by simp [ML.blocks]))
   ·have:fD m1++fD m2=fD (m1++m2):=List.map_append.symm;have WE:nR h3 it L.wb (fD (m1++m2)) (some (q.1,wv q.2)):=by rw [<-this];exact I3
    refine (WE.keep k4 ?_ (by simpa using λe=>ap.2.2 e.symm)).keep k5 ?_ (by simpa using A3.ap1.symm)
    ·have:=yZ b (by simp [ML.blocks,FW]);simpa using λe=>this e.symm
    ·have:=yZ L.lb (by simp [ML.blocks]);simpa using λe=>this e.symm
   ·rw [<-r2 x];unfold aU.read aU.there;simp only [List.length_set];split
    ·rename_i hx;rw [hN5];by_cases e:x=q.1
     ·rw [if_pos e,e,ql,hi];simp [hi1]
     ·rw [if_neg e];have hne:x.toNat≠i:=by
       intro e2;apply e;have:0<=x:=by simp at hx;exact hx.1
       omega
      rw [List.getElem?_set_ne (λe=>hne e.symm)]
    ·rfl
   ·have:(m1++q::m2).map (·.1)=m1.map (·.1)++q.1::m2.map (·.1):=by simp
    rw [this] at n2;rw [List.map_append];exact (List.nodup_cons.1 (MH.1 n2)).2
   ·have hp':p∈m1++q::m2:=by
     simp only [List.mem_append,List.mem_cons] at hp ⊢;rcases hp with h|h
     ·exact .inl h
     ·exact .inr (.inr h)
    obtain ⟨p1,p2⟩:=w2 p hp';refine ⟨?_,?_⟩
    ·show lk (N.loose.eraseIdx j) p.1=some p.2;have hne:p.1≠q.1:=by
      intro e;have:(m1++q::m2).map (·.1)=m1.map (·.1)++q.1::m2.map (·.1):=by simp
      rw [this] at n2;have hnq:=MH.1 n2;rw [List.nodup_cons] at hnq;apply hnq.1;rw [<-e,<-List.map_append];exact List.mem_map.2 ⟨p,hp,rfl⟩
     rw [hN5,if_neg hne];exact p1
    ·unfold aU.there at p2 ⊢;simp only [List.length_set];exact p2
   ·have hx:lk (N.loose.eraseIdx j) x≠none:=hx;rw [hN5] at hx;have hne:x≠q.1:=by
     intro e;rw [if_pos e] at hx;exact hx rfl
    rw [if_neg hne] at hx;obtain ⟨y3,y4⟩:=y2 x hx;refine ⟨y3,?_⟩;rcases y4 with h|h
    ·exact .inl h
    ·right
     simp only [List.map_append,List.map_cons,List.mem_append,List.mem_cons] at h ⊢;rcases h with h|h|h
     ·exact .inl h
     ·exact absurd h hne
     ·exact .inr h
def pu:List UInt64:=([7021221306412823411,2824,0,0,0,0,0,0]:List UInt64)++(List.replicate 8 0++(fI (bZ 2 1)++List.replicate 2800 0))
theorem Wp:pu.length=2824:=by
 unfold pu;simp [fI]
theorem Wq (h:Heap):aC Tryz.prog 83 [] h (λv h'=>Keeps [] h h'/\∃ b,v=.slice (some ⟨b,0,none⟩) 2824 2824/\h.size<=b/\h'[b]?=some (.cells ⟨pu.map wv⟩ 46 (0,0))):=by
 refine aG aH Tryz.func83 rfl ok83 (by simp [Tryz.f83]) ?_;(conv=>whnf);refine ak.i (Cw h) λv h1 k1 hv=>?_;subst hv;(conv=>whnf);refine aP.make (n:=2824) rfl rfl rfl rfl rfl (by decide) (by decide) λb2 h2 e2 s2 o2 k2=>?_;(conv=>whnf);refine ak.i (QU h2) λv h3 k3 hv=>?_;obtain ⟨b3,rfl,hb3,_,o3⟩:=hv;have z1:=k1.size;have z2:=k2.size;have z3:=k3.size;have MG:(([7021221306412823411,2824,0,0,0,0,0,0]:List UInt64).map wv).length=8:=rfl;(conv=>whnf);refine aP.copy (sz:=1) (new:=([7021221306412823411,2824,0,0,0,0,0,0]:List UInt64).map wv) rfl rfl rfl (k3.obj o2 (by simp)) rfl (λj hj=>by simp only [Heap.cell?,o3];simp) (tZ _) (by rw [MG,List.length_replicate];decide) (by simp [ax]) λh4 s4 o4 k4=>?_;have hz:List.replicate 2824 (Value.int .u64 0)=List.replicate 8 (.int .u64 0)++(List.replicate 8 (.int .u64 0)++(List.replicate 8 (.int .u64 0)++List.replicate 2800 (.int .u64 0))):=by
  rw [List.replicate_append_replicate,List.replicate_append_replicate,List.replicate_append_replicate]
 have e4:bC 0 (([7021221306412823411,2824,0,0,0,0,0,0]:List UInt64).map wv) (List.replicate 2824 (.int .u64 0))=(([7021221306412823411,2824,0,0,0,0,0,0]:List UInt64).map wv)++(List.replicate 8 (.int .u64 0)++(List.replicate 8 (.int .u64 0)++List.replicate 2800 (.int .u64 0))):=by
  rw [hz];have:=Aq (A:=([7021221306412823411,2824,0,0,0,0,0,0]:List UInt64).map wv) (x:=Value.int .u64 0) (B:=List.replicate 8 (.int .u64 0)++(List.replicate 8 (.int .u64 0)++List.replicate 2800 (.int .u64 0)));rw [MG] at this;exact this
 rw [e4] at o4;(conv=>whnf);refine ak.i (Ef 2 1 h4) λv h5 k5 hv=>?_;rw [if_pos (by decide)] at hv;subst hv;(conv=>whnf);refine aO.i λb6 h6 e6 s6 o6 k6=>?_;(conv=>whnf);refine aM.i λh7 s7 k7=>?_;have k47:Keeps [] h4 h7:=(k5.trans k6).new1 k7 (by have:=k5.size;omega);obtain ⟨fo,fr⟩:=AL (kind:=2) (by decide) 1;(conv=>whnf);refine ak.i (Ed (bZ 2 1) fo h7) λv h8 k8 hv=>?_;rw [if_pos fr] at hv;obtain ⟨b8,rfl,hb8,o8⟩:=hv;(conv=>whnf);refine ak.i (sV 1 h8) λv h9 k9 hv=>?_;subst hv;(conv=>whnf);refine di.i 16 2824 rfl rfl (by decide) (by decide) ?_;(conv=>whnf);have eA:jc (some ⟨b2,0,none⟩) 2824 16 1=some ⟨b2,0+16*1,none⟩:=by
  unfold jc;rw [if_neg (by omega)];simp [addr_add]
 have Ws:jc (some ⟨b2,0,none⟩) 2824 16 Tryz.prog.types[46].size=some ⟨b2,0+16*1,none⟩:=eA;rw [Ws];have k49:=k47.trans (k8.trans k9);have hcw:(fI (bZ 2 1)).length=8:=rfl;refine aP.copy (sz:=1) (new:=(fI (bZ 2 1)).map wv) rfl rfl rfl (k49.obj o4 (by simp)) (by rw [List.length_map];rfl) (λj hj=>by simp only [Heap.cell?,k9.obj o8 (by simp)];simp) (tZ _) (by simp [hcw]) ?_ λh10 s10 o10 k10=>?_
 ·have:=k3.size;have:=k4.size;have:=k5.size;simp [ax,aZ];omega
 (conv=>whnf);have e10:bC (0+16*1) ((fI (bZ 2 1)).map wv) (([7021221306412823411,2824,0,0,0,0,0,0]:List UInt64).map wv++(List.replicate 8 (.int .u64 0)++(List.replicate 8 (.int .u64 0)++List.replicate 2800 (.int .u64 0))))=pu.map wv:=by
  have h1:([7021221306412823411,2824,0,0,0,0,0,0]:List UInt64).map wv++(List.replicate 8 (Value.int .u64 0)++(List.replicate 8 (.int .u64 0)++List.replicate 2800 (.int .u64 0)))=(([7021221306412823411,2824,0,0,0,0,0,0]:List UInt64).map wv++List.replicate 8 (.int .u64 0))++(List.replicate 8 (.int .u64 0)++List.replicate 2800 (.int .u64 0)):=by rw [List.append_assoc]
  rw [h1];have h2:=IL (A:=([7021221306412823411,2824,0,0,0,0,0,0]:List UInt64).map wv++List.replicate 8 (.int .u64 0)) (N:=(fI (bZ 2 1)).map wv) (L:=List.replicate 8 (.int .u64 0)++List.replicate 2800 (.int .u64 0));have hl:(([7021221306412823411,2824,0,0,0,0,0,0]:List UInt64).map wv++List.replicate 8 (Value.int .u64 0)).length=0+16*1:=by simp
  rw [hl] at h2;rw [h2];have h3:=Aq (A:=(fI (bZ 2 1)).map wv) (x:=Value.int .u64 0) (B:=List.replicate 2800 (.int .u64 0));rw [List.length_map,hcw] at h3;rw [h3];unfold pu;simp only [List.map_append,List.map_replicate,List.append_assoc];rfl
 rw [e10] at o10;refine ⟨?_,b2,rfl,by omega,o10⟩;exact ((k1.trans (k2.trans k3)).new1 k4 (by omega)).trans k49 |>.new1 k10 (by omega)
def fu (i:Int):UInt64:=if 0<=i/\i<2824 then pu[i.toNat]?.getD 0 else 0
theorem Wn {i:Int}:fu i=if i=0 then 7021221306412823411 else if i=1 then 2824 else if 16<=i/\i<24 then (fI (bZ 2 1))[(i-16).toNat]?.getD 0 else 0:=by
 unfold fu;by_cases h:0<=i/\i<2824
 ·rw [if_pos h];obtain ⟨n,rfl⟩:∃ n:Nat,i=(n:Int):=⟨i.toNat,by omega⟩;rw [Int.toNat_natCast];unfold pu;have hl0:([7021221306412823411,2824,0,0,0,0,0,0]:List UInt64).length=8:=rfl;have hl2:(fI (bZ 2 1)).length=8:=rfl;by_cases h8:n<8
  ·rw [List.getElem?_append_left (by rw [hl0];exact h8)];have:n=0\/n=1\/n=2\/n=3\/n=4\/n=5\/n=6\/n=7:=by omega
   rcases this with rfl|rfl|rfl|rfl|rfl|rfl|rfl|rfl <;> rfl
  ·rw [List.getElem?_append_right (by rw [hl0];omega),hl0,if_neg (by omega),if_neg (by omega)];by_cases h16:n<16
   ·rw [List.getElem?_append_left (by simp;omega),if_neg (by omega),List.getElem?_replicate,if_pos (by omega)];rfl
   ·rw [List.getElem?_append_right (by simp;omega),List.length_replicate];by_cases h24:n<24
    ·rw [List.getElem?_append_left (by rw [hl2];omega),if_pos (by omega)]
     congr 2
     omega
    ·rw [List.getElem?_append_right (by rw [hl2];omega),if_neg (by omega),List.getElem?_replicate];split <;> rfl
 ·rw [if_neg h,if_neg (by omega),if_neg (by omega),if_neg (by omega)]
def S0:FS:=⟨λn=>if n=1 then bZ 2 1 else fQ 0,λ_=>[],λ_=>[]⟩
theorem FU {k:Int}(h0:0<=k):fu (200+k)=0:=by
 rw [Wn,if_neg (by omega),if_neg (by omega),if_neg (by omega)]
theorem Wo:∀ n:Fin 24,bS fu (8+(n.val:Int)*8) 8=fI (if (n.val:Int)=1 then bZ 2 1 else fQ 0):=by decide +kernel
theorem fs0:bJ fu S0:=by
 have hno:∀ n:Int,0<=n->n<24->∀ x,0<=x->x<96->fu (200+x)≠w64 (n+1):=by
  intro n n0 n1 x x0 x1 e;rw [FU x0] at e;have h1:(w64 (n+1)).toNat=(n+1).toNat:=by
   unfold w64;rw [UInt64.toNat_ofNat'];omega
  rw [<-e] at h1;have:(0:UInt64).toNat=0:=rfl;omega
 refine ⟨λn n0 n1=>?_,λn n0 n1=>?_,rfl,λk k0 k1=>.inl (FU k0)⟩
 ·have:=Wo ⟨n.toNat,by omega⟩;simp only [Int.toNat_of_nonneg n0] at this;exact this
 ·by_cases h:n=1
  ·have:S0.C n=bZ 2 1:=if_pos h;rw [this];exact JF (by decide) 1 (hno n n0 n1)
  ·have:S0.C n=fQ 0:=if_neg h;rw [this];exact zH 0 (hno n n0 n1)
theorem Wj (s m a n:List Int)(ha:a=[]):bA fu ⟨fu,s,m,a,n⟩ 96=96:=by
 subst ha;unfold bA;rw [List.filter_eq_self.2 (λj hj=>?_),List.length_range];have hj:=List.mem_range.1 hj;unfold iF;have h0:fu (200+(j:Int))=0:=FU (by omega);simp [h0];omega
set_option maxHeartbeats 4000000
structure lS (S:FS)(K:Int->Int)(NM:Int->List aD)(BY:Int->List UInt8):Prop where
 k:∀ i,(S.C i).kind=K i
 n:∀ i,S.nm i=NM i
 b:∀ i,S.aJ i=BY i
def vf (K:Int->Int)(NM:Int->List aD)(BY:Int->List UInt8):Fs:=⟨K,λi name=>(cB (NM i) name).map (·.node),BY⟩
theorem lS.view {S:FS}{K:Int->Int}{NM:Int->List aD}{BY:Int->List UInt8}(Z:lS S K NM BY):aW S=vf K NM BY:=by
 have h1:(λi=>(S.C i).kind)=K:=funext Z.k;have h2:S.nm=NM:=funext Z.n;have h3:S.aJ=BY:=funext Z.b;unfold aW vf;rw [h1,h2,h3]
theorem lS.fc {S:FS}{K:Int->Int}{NM:Int->List aD}{BY:Int->List UInt8}(Z:lS S K NM BY)(h1:K 1=2)(h:∀ n:Fin 24,K (n.val:Int)=2->∀ e∈NM (n.val:Int),0<=e.node/\e.node<24/\K e.node≠0):gq S:=by
 refine ⟨(Z.k 1).trans h1,λn n0 n1 hk e he=>?_⟩;have:=h ⟨n.toNat,by omega⟩;simp only [Int.toNat_of_nonneg n0] at this;rw [Z.n] at he;have:=this ((Z.k n).symm.trans hk) e he;rw [Z.k];exact this
theorem lS.ns {S:FS}{K:Int->Int}{NM:Int->List aD}{BY:Int->List UInt8}(Z:lS S K NM BY)(h:∀ n:Fin 24,K (n.val:Int)=2->∀ e∈NM (n.val:Int),e.node≠(n.val:Int)):uN S:=by
 intro n n0 n1 hk e he;have:=h ⟨n.toNat,by omega⟩;simp only [Int.toNat_of_nonneg (show 0<=n by omega)] at this;rw [Z.n] at he;exact this ((Z.k n).symm.trans hk) e he
theorem MF {B:Int->UInt64}{X X':VS}{S:FS}{K:Int->Int}{NM:Int->List aD}{BY:Int->List UInt8}{path data nm:List UInt8}{kind n1:Int}{v:Value}(Z:lS S K NM BY)(hp:bD (vf K NM BY) path=(1,nm,0,0))
 (hfree:8<=bA B X 96) (hlen:(NM 1).length<10) (hn:2<=n1/\n1<24/\K n1=0) (hl:∀ k:Fin 24,2<=(k.val:Int)->(k.val:Int)<n1->K (k.val:Int)≠0) (R:kJ B X S path kind data v X') :
 v=.int .i64 0/\X'.away=X.away/\X'.bB=X.bB/\bA B X 96<=bA B X' 96+8/\∃ S',bJ X'.now S' /\
  lS S' (λi=>if i=1 then 2 else if i=n1 then kind else K i) (λi=>if i=1 then bE (NM 1) ⟨nm,n1⟩ else if i=n1 then [] else NM i) (λi=>if i=1 then BY 1 else if i=n1 then data else BY i) /\
  (S'.C n1).links=1/\∀ i,i≠1->i≠n1->S'.C i=S.C i:=by
 obtain ⟨e1,e2,H⟩:=R;have hv:=Z.view;rw [hv] at H;rcases H with ⟨he,_⟩|⟨d,gJ,nd,P,H⟩
 ·rw [hp] at he;exact absurd rfl he
 ·have hP:=P.is;rw [hv,hp] at hP;obtain ⟨t1,t2⟩:=Prod.mk.inj hP;obtain ⟨t2,t3⟩:=Prod.mk.inj t2;obtain ⟨t3,_⟩:=Prod.mk.inj t3;subst t1 t2 t3;rcases H with ⟨hnd,_⟩|⟨_,_,hc⟩|⟨_,hv0,hm,hf,n,Mk⟩
  ·exact absurd rfl hnd
  ·exfalso;rcases hc with hc|hc|hc
   ·omega
   ·rw [Z.n] at hc;omega
   ·exact hc n1 hn.1 hn.2.1 ((Z.k n1).trans hn.2.2)
  ·have hne:n=n1:=by
    have h1:=Mk.was;rw [Z.k] at h1;have h2:=Mk.bF;rcases Int.lt_trichotomy n n1 with h|h|h
    ·have:=hl ⟨n.toNat,by omega⟩;simp only [Int.toNat_of_nonneg (show 0<=n by omega)] at this;exact absurd h1 (this h2.1 h)
    ·exact h
    ·exact absurd ((Z.k n1).trans hn.2.2) (Mk.least n1 hn.1 h)
   subst hne;obtain ⟨c2,c1,k1,k2,k3,k4,I⟩:=Mk.fs;have hn1:n≠1:=by have:=hn.1;omega
   refine ⟨hv0,e1,e2,hf,_,I,⟨λi=>?_,λi=>?_,λi=>?_⟩,?_,λi h1 h2=>?_⟩
   ·show (if i=1 then c1 else if i=n then c2 else S.C i).kind=_;by_cases h1:i=1
    ·rw [if_pos h1,if_pos h1];exact k3
    ·rw [if_neg h1,if_neg h1];by_cases h2:i=n
     ·rw [if_pos h2,if_pos h2];exact k1
     ·rw [if_neg h2,if_neg h2];exact Z.k i
   ·show (if i=1 then bE (S.nm 1) ⟨nm,n⟩ else if i=n then [] else S.nm i)=_;rw [Z.n 1,Z.n i]
   ·show (if i=1 then S.aJ 1 else if i=n then data else S.aJ i)=_;rw [Z.b 1,Z.b i]
   ·show (if n=1 then c1 else if n=n then c2 else S.C n).links=1;rw [if_neg hn1,if_pos rfl];exact k2
   ·show (if i=1 then c1 else if i=n then c2 else S.C i)=_;rw [if_neg h1,if_neg h2]
def K0 (i:Int):Int:=if i=1 then 2 else 0
def N0 (i:Int):List aD:=[]
def B0 (i:Int):List UInt8:=[]
def K1 (i:Int):Int:=if i=1 then 2 else if i=2 then 1 else K0 i
def N1 (i:Int):List aD:=if i=1 then bE (N0 1) ⟨[102],2⟩ else if i=2 then [] else N0 i
def B1 (i:Int):List UInt8:=if i=1 then B0 1 else if i=2 then [] else B0 i
def K2 (i:Int):Int:=if i=1 then 2 else if i=3 then 3 else K1 i
def N2 (i:Int):List aD:=if i=1 then bE (N1 1) ⟨[108],3⟩ else if i=3 then [] else N1 i
def B2 (i:Int):List UInt8:=if i=1 then B1 1 else if i=3 then [47,102] else B1 i
def B3 (i:Int):List UInt8:=if i=2 then [104,105] else B2 i
def K4 (i:Int):Int:=if i=3 then 0 else if i=1 then 2 else K2 i
def N4 (i:Int):List aD:=if i=3 then [] else if i=1 then (N2 1).eraseIdx (aN (N2 1) [108]) else N2 i
def B4 (i:Int):List UInt8:=if i=3 then [] else if i=1 then B3 1 else B3 i
theorem sim0:lS S0 K0 N0 B0:=⟨λi=>by
 show (if i=1 then bZ 2 1 else fQ 0).kind=if i=1 then 2 else 0;by_cases h:i=1
 ·rw [if_pos h,if_pos h];rfl
 ·rw [if_neg h,if_neg h];rfl,λ_=>rfl,λ_=>rfl⟩
theorem pl0:bD (vf K0 N0 B0) [47,102]=(1,[102],0,0):=by decide +kernel
theorem pl1:bD (vf K1 N1 B1) [47,108]=(1,[108],0,0):=by decide +kernel
theorem pa2:aV (vf K2 N2 B2) [47,108] true=(2,0):=by decide +kernel
theorem pl3:bD (vf K2 N2 B3) [47,108]=(1,[108],3,0):=by decide +kernel
theorem pa4:aV (vf K4 N4 B4) [47,102] true=(2,0):=by decide +kernel
theorem pb4:aV (vf K4 N4 B4) [47,102] false=(2,0):=by decide +kernel
theorem fc0:∀ n:Fin 24,K0 (n.val:Int)=2->∀ e∈N0 (n.val:Int),0<=e.node/\e.node<24/\K0 e.node≠0:=by decide +kernel
theorem fc1:∀ n:Fin 24,K1 (n.val:Int)=2->∀ e∈N1 (n.val:Int),0<=e.node/\e.node<24/\K1 e.node≠0:=by decide +kernel
theorem fc2:∀ n:Fin 24,K2 (n.val:Int)=2->∀ e∈N2 (n.val:Int),0<=e.node/\e.node<24/\K2 e.node≠0:=by decide +kernel
theorem ns2:∀ n:Fin 24,K2 (n.val:Int)=2->∀ e∈N2 (n.val:Int),e.node≠(n.val:Int):=by decide +kernel
theorem fc4:∀ n:Fin 24,K4 (n.val:Int)=2->∀ e∈N4 (n.val:Int),0<=e.node/\e.node<24/\K4 e.node≠0:=by decide +kernel
theorem Wl {B:Int->UInt64}{X X':VS}{S:FS}{v:Value}(Z:lS S K2 N2 B2)(hfree:2<=bA B X 96)(R:qX B X S [47,108] 0 [104,105] v X') :
 v=.int .i64 0/\X'.away=X.away/\X'.bB=X.bB/\∃ S',bJ X'.now S'/\lS S' K2 N2 B3/\(S'.C 2).links=(S.C 2).links/\S'.C 3=S.C 3:=by
 obtain ⟨e1,e2,H⟩:=R;have hp:cu S [47,108]=(2,0):=by unfold cu;rw [Z.view];exact pa2
 have hk:(S.C 2).kind=1:=by rw [Z.k];decide +kernel
 have he:fU S [47,108]=0:=by
  unfold fU;rw [hp,if_neg (by rintro ⟨_,h⟩;rw [hk] at h;cases h)]
 have hb:S.aJ 2=[]:=by rw [Z.b];decide +kernel
 rw [he,hp] at H;simp only [hb] at H;have hr:eZ [] 0 [104,105]=([104,105],0):=by decide +kernel
 rw [hr] at H;rcases H with ⟨h,_⟩|⟨_,h,_⟩|⟨_,_,_,h⟩|⟨_,_,hv,_,c',hc1,hc2,I⟩
 ·exact absurd rfl h
 ·exact absurd rfl h
 ·exfalso;have:((0:Int).toNat+[(104:UInt8),105].length+127)/128-(0:Int).toNat/128+1=2:=by decide
  omega
 ·refine ⟨hv,e1,e2,_,I,⟨λi=>?_,λi=>?_,λi=>?_⟩,?_,?_⟩
  ·show (if i=2 then c' else S.C i).kind=_;by_cases h:i=2
   ·rw [if_pos h,h,hc1];exact Z.k 2
   ·rw [if_neg h];exact Z.k i
  ·show (if i=2 then S.nm 2 else S.nm i)=_;by_cases h:i=2
   ·rw [if_pos h,h];exact Z.n 2
   ·rw [if_neg h];exact Z.n i
  ·show (if i=2 then [104,105] else S.aJ i)=_;unfold B3;rw [Z.b i]
  ·show (if (2:Int)=2 then c' else S.C 2).links=_;rw [if_pos rfl];exact hc2
  ·show (if (3:Int)=2 then c' else S.C 3)=_;rw [if_neg (by decide)]
theorem Wm {X X':VS}{S:FS}{v:Value}(Z:lS S K2 N2 B3)(hl:(S.C 3).links=1)(R:mI X S [47,108] pE v X') :
 v=.int .i64 0/\X'.away=X.away/\X'.bB=X.bB/\∃ S',bJ X'.now S'/\lS S' K4 N4 B4/\S'.C 2=S.C 2:=by
 obtain ⟨e1,e2,H⟩:=R;have hv:=Z.view;rw [hv] at H;rcases H with ⟨he,_⟩|⟨d,gJ,nd,P,H⟩
 ·rw [pl3] at he;exact absurd rfl he
 ·have hP:=P.is;rw [hv,pl3] at hP;obtain ⟨t1,t2⟩:=Prod.mk.inj hP;obtain ⟨t2,t3⟩:=Prod.mk.inj t2;obtain ⟨t3,_⟩:=Prod.mk.inj t3;subst t1 t2 t3;have hk:(S.C 3).kind=3:=by rw [Z.k];decide +kernel
  have hm:pE (S.C 3)=0:=by
   unfold pE;rw [hk,if_neg (by decide)]
  rcases H with ⟨h,_⟩|⟨_,h,_⟩|⟨_,_,hv0,_,c1,k1,_,⟨h,_⟩|⟨_,vv,I⟩⟩
  ·cases h
  ·exact absurd hm h
  ·omega
  ·refine ⟨hv0,e1,e2,_,I,⟨λi=>?_,λi=>?_,λi=>?_⟩,?_⟩
   ·show (if i=3 then fQ vv else if i=1 then c1 else S.C i).kind=_;unfold K4;by_cases h3:i=3
    ·rw [if_pos h3,if_pos h3];rfl
    ·rw [if_neg h3,if_neg h3];by_cases h1:i=1
     ·rw [if_pos h1,if_pos h1];exact k1
     ·rw [if_neg h1,if_neg h1];exact Z.k i
   ·show (if i=3 then [] else if i=1 then (S.nm 1).eraseIdx (aN (S.nm 1) [108]) else S.nm i)=_;unfold N4;rw [Z.n 1,Z.n i]
   ·show (if i=3 then [] else if i=1 then S.aJ 1 else S.aJ i)=_;unfold B4;rw [Z.b 1,Z.b i]
   ·show (if (2:Int)=3 then fQ vv else if (2:Int)=1 then c1 else S.C 2)=_;rw [if_neg (by decide),if_neg (by decide)]
def L0:List bU:=[⟨⟨0,0,0,[],[]⟩,none,0,0⟩,⟨⟨1,2,1,[],[]⟩,none,0,0⟩]
theorem V8 (h:Heap):aC Tryz.prog 40 [] h (λv h'=>Keeps [] h h'/\∃ bT t,v=.pointer (some ⟨t,0,none⟩)/\h.size<=bT/\h.size<=t/\h'[t]?=some (.cells ⟨[.slice (some ⟨bT,0,none⟩) 2 2]⟩ 80 (0,0))/\h'[bT]?=some (.cells ⟨fK L0⟩ 77 (0,0))):=by
 refine aG aH Tryz.func40 rfl ok40 (by simp [Tryz.f40]) ?_;(conv=>whnf);refine aO.i λb1 h1 e1 s1 o1 k1=>?_;(conv=>whnf);refine aO.i λb2 h2 e2 s2 o2 k2=>?_;(conv=>whnf);exact ⟨k1.trans k2,b1,b2,rfl,by omega,by omega,o2,k2.obj o1 (by simp)⟩
structure sJ (B:Int->UInt64)(at_:Nat)(N:aU):Prop where
 u:N.fT = -1
 len:N.sure.length=2824
 read:∀ i,N.read i=if i<at_ then fu i else B i
 way:∀ i,lk N.way i=lk N.loose i
 bF:∀ i,lk N.loose i≠none->0<=i/\i<2824
theorem FX {N:aU}(hu:N.fT = -1)(t:Bool):N.call t=(if t then 0 else 1,{ N with calls:=IntKind.i64.wrap (N.calls+1) }):=by
 unfold aU.call;rw [hu];cases t <;> rfl
theorem WL {i:Int}(hi:0<=i):lU i<=i/\i<lU i+8:=by
 unfold lU;rw [Int.tmod_eq_emod_of_nonneg hi];omega
theorem sJ.step {B:Int->UInt64}{a:Nat}{N:aU}(I:sJ B a N)(ha:a<2824):∀ (c1 c2:Int),sJ B (a+1) { N with calls:=c2,loose:=gP N.loose a (fu a),way:=kH (gP N.loose a (fu a)) N.way (lU a) 8 }:=by
 intro c1 c2;have hl:=WL (i:=(a:Int)) (by omega);refine ⟨I.u,I.len,λi=>?_,λi=>?_,λi hi=>?_⟩
 ·have hr:=I.read i;unfold aU.read aU.there at hr ⊢;simp only at hr ⊢;rw [rC];by_cases e:i=(a:Int)
  ·rw [if_pos e];have h1:(decide (0<=i)&&decide (i<(N.sure.length:Int)))=true:=by rw [I.len];simp;omega
   rw [if_pos h1,if_pos (by omega),e];rfl
  ·rw [if_neg e,hr];by_cases h2:i<(a:Int)
   ·rw [if_pos h2,if_pos (by omega)]
   ·rw [if_neg h2,if_neg (by omega)]
 ·show lk (kH _ _ _ 8) i=lk (gP _ _ _) i;rw [MI,rC,I.way i];by_cases h1:lU (a:Int)<=i/\i<lU (a:Int)+((8:Nat):Int)
  ·rw [if_pos h1];by_cases e:i=(a:Int)
   ·rw [if_pos e]
   ·rw [if_neg e];cases lk N.loose i <;> rfl
  ·rw [if_neg h1,if_neg (by intro e;apply h1;omega)]
 ·have hi':lk (gP N.loose (a:Int) (fu (a:Int))) i≠none:=hi;rw [rC] at hi';by_cases e:i=(a:Int)
  ·omega
  ·rw [if_neg e] at hi';exact I.bF i hi'
theorem sJ.skip {B:Int->UInt64}{a:Nat}{N:aU}(I:sJ B a N)(h:N.read a=fu a):sJ B (a+1) N:=by
 refine ⟨I.u,I.len,λi=>?_,I.way,I.bF⟩;by_cases e:i=(a:Int)
 ·rw [if_pos (by omega),e];exact h
 ·rw [I.read i];by_cases h2:i<(a:Int)
  ·rw [if_pos h2,if_pos (by omega)]
  ·rw [if_neg h2,if_neg (by omega)]
theorem WM {l:List (Int×UInt64)}(h:∀ x,lk l x=none):l=[]:=by
 cases l with
 | nil=>rfl
 | cons p l=>
  have:=h p.1;simp [lk] at this
theorem V5 {h:Heap}{L:ML}{M:aU}(A:fG h L M)(O:lT h L M)(hu:M.fT = -1)(hs:M.sure.length=2824)(hl0:M.loose=[])(hw0:M.way=[]):aC Tryz.prog 38 [.pointer (some ⟨L.m,0,none⟩)] h (λv h'=>Keeps L.blocks h h'/\v=.int .i64 0 /\
 ∃ N:aU,fG h' L N/\N.fT = -1/\N.sure.length=2824/\(∀ i,N.read i=fu i)/\N.loose=[]):=by
 have bl:=A.blt;refine aG aH Tryz.func38 rfl ok38 (by simp [Tryz.f38]) ?_;(conv=>whnf);refine ak.i (Wq h) λv h1 k1 hv=>?_;obtain ⟨b1,rfl,hb1,o1⟩:=hv;(conv=>whnf);refine ak.i (GZ (A.on k1)) λv h2 k2 hv=>?_;subst hv;rw [hs];(conv=>whnf);refine aj.f rfl ?_;have I0:sJ M.read 0 M:=⟨hu,hs,λi=>by
  by_cases h:i<((0:Nat):Int)
  ·rw [if_pos h];have h1:fu i=0:=by
    unfold fu;rw [if_neg (by omega)]
   have h2:M.there i=false:=by
    unfold aU.there;rw [decide_eq_false (by omega)];rfl
   unfold aU.read;rw [h1,h2];rfl
  ·rw [if_neg h],λi=>by rw [hl0,hw0],λi hi=>by rw [hl0] at hi;exact absurd rfl hi⟩
 have nb1:∀ b∈L.blocks,b≠b1:=λb hb=>by have:=bl b hb;omega
 have k12:=k1.trans k2;have WO:=Wp;(conv=>whnf);refine bO.on [0,13,14,15] [] (λq:Nat×aU=>[(0,.v (.pointer (some ⟨L.m,0,none⟩))),(13,.v (.slice (some ⟨b1,0,none⟩) 2824 2824)),(14,.v (.int .i64 2824)),(15,.v (.int .i64 (q.1:Int)))]) (λ_=>[])
  (λq h'=>q.1<=2824/\Keeps L.blocks h h'/\h'[b1]?=some (.cells ⟨pu.map wv⟩ 46 (0,0))/\fG h' L q.2/\lT h' L q.2/\sJ M.read q.1 q.2) (λq=>2824-q.1) (0,M) ?_ ?_
 ·(conv=>whnf);exact ⟨(0,M),rfl,rfl,rfl,Nat.zero_le _,k12.mono (by simp),k2.obj o1 (by simp),A.on k12,Own.keep O k12 (by simp),I0⟩
 ·rintro ⟨a,N⟩ h3 ⟨ha,k3,o3,A3,O3,I3⟩;simp only at ha A3 O3 I3;(conv=>whnf);refine aj.i (λhc=>?_) (λhc=>?_)
  ·have ha1:a<2824:=by
    have:(a:Int)<2824:=by simpa using hc
    omega
   have hla:(pu[a]'(by omega))=fu (a:Int):=by
    unfold fu;rw [if_pos (by omega),Int.toNat_natCast,List.getElem?_eq_getElem (by omega)];rfl
   have hth:N.there (a:Int)=true:=by unfold aU.there;rw [I3.len];simp;omega
   (conv=>whnf);(try refine aQ.pass ?_;conv=>whnf);refine aS.i a rfl ha1 rfl ?_;(conv=>whnf);refine au.o (v:=wv (pu[a]'(by omega))) o3 ?_ ?_
   ·rw [mM];show (pu.map wv)[0+a*1]?=_;rw [show 0+a*1=a by omega];simp [WO,ha1]
   rw [hla];(conv=>whnf);refine ak.i (zN A3 (a:Int)) λv h4 k4 hv=>?_;subst hv;have A4:=A3.on k4;have O4:lT h4 L N:=Own.keep O3 k4 (by simp);have o4:=k4.obj o3 (by simp);(conv=>whnf);refine aj.i (λhd=>?_) (λhd=>?_)
   ·have he:N.read (a:Int)=fu (a:Int):=by
     have:(((N.read (a:Int)).toNat:Nat):Int)=(((fu (a:Int)).toNat:Nat):Int):=by simpa using hd
     exact UInt64.toNat_inj.1 (by omega)
    (conv=>whnf);refine ⟨2824-(a+1),by omega,?_⟩;(conv=>whnf);exact ⟨(a+1,N),rfl,by rw [wrapN (x:=(a:Int)+1) (n:=a+1) (by simp) (by omega)],rfl,by simp only;omega,k3.bV k4,o4,A4,O4,I3.skip he⟩
   ·have hst:N.store (a:Int) (fu (a:Int))=(0,{ N with calls:=IntKind.i64.wrap (N.calls+1),loose:=gP N.loose (a:Int) (fu (a:Int)) }):=by
     unfold aU.store;rw [FX I3.u,hth];rfl
    (conv=>whnf);refine ak.m (Gf A4 (a:Int) (fu (a:Int))) (by simp [ax]) λv h5 k5 hv=>?_;rw [hst] at hv;obtain ⟨rfl,A5⟩:=hv;(conv=>whnf);(try refine aQ.pass ?_;conv=>whnf);refine aj.t rfl ?_;have I5:=I3.step ha1;generalize hN5:({ N with calls:=IntKind.i64.wrap (N.calls+1),loose:=gP N.loose (a:Int) (fu (a:Int)) }:aU)=N5 at A5;have hth5:N5.there (a:Int)=true:=by subst hN5;exact hth
    have hu5:N5.fT = -1:=by subst hN5;exact I3.u
    have O5:lT h5 L N5:=by
     have:lT h5 L N:=Own.keep O4 k5 (λb hb=>by have:=A4.ap2 b hb;simp;exact ⟨this.1,this.2.1⟩);subst hN5;exact this
    have o5:=k5.obj o4 (by
     have q1:=nb1 L.m (by simp [ML.blocks]);have q2:=nb1 L.lb (by simp [ML.blocks]);simp;exact ⟨λe=>q1 e.symm,λe=>q2 e.symm⟩)
    (conv=>whnf);refine ak.m (WJ A5 (a:Int) (by omega) (by rw [FX hu5,hth5];rfl)) (by simp [ax]) λv h6 k6 hv=>?_;obtain ⟨rfl,A6⟩:=hv;rw [FX hu5] at A6;(conv=>whnf);refine aj.f rfl ?_;(conv=>whnf);refine ⟨2824-(a+1),by omega,?_⟩;(conv=>whnf);have hN6:({ ({ N5 with calls:=IntKind.i64.wrap (N5.calls+1) }:aU) with way:=kH ({ N5 with calls:=IntKind.i64.wrap (N5.calls+1) }:aU).loose ({ N5 with calls:=IntKind.i64.wrap (N5.calls+1) }:aU).way (lU (a:Int)) 8 }:aU)={ N with calls:=IntKind.i64.wrap (IntKind.i64.wrap (N.calls+1)+1),loose:=gP N.loose (a:Int) (fu (a:Int)),way:=kH (gP N.loose (a:Int) (fu (a:Int))) N.way (lU (a:Int)) 8 }:=by subst hN5;rfl
    have WQ:fG h6 L { N with calls:=IntKind.i64.wrap (IntKind.i64.wrap (N.calls+1)+1),loose:=gP N.loose (a:Int) (fu (a:Int)),way:=kH (gP N.loose (a:Int) (fu (a:Int))) N.way (lU (a:Int)) 8 }:=by rw [<-hN6];exact A6
    refine ⟨(a+1,_),rfl,by rw [wrapN (x:=(a:Int)+1) (n:=a+1) (by simp) (by omega)],rfl,by simp only;omega,?_,?_,WQ,?_,I5 0 _⟩
    ·exact ((k3.bV k4).trans (k5.mono (by simp [ML.blocks]))).trans (k6.mono (by simp [ML.blocks]))
    ·refine k6.obj o5 ?_;have q1:=nb1 L.m (by simp [ML.blocks]);have q2:=nb1 L.wb (by simp [ML.blocks]);simp;exact ⟨λe=>q1 e.symm,λe=>q2 e.symm⟩
    ·have:lT h6 L N5:=Own.keep O5 k6 (λb hb=>by have:=A5.ap2 b hb;simp;exact ⟨this.1,this.2.2⟩);subst hN5;exact this
  ·have ha1:a=2824:=by
    have:¬ ((a:Int)<2824):=by simpa using hc
    omega
   subst ha1;have WT:=FV A3.way;(conv=>whnf);refine ak.m (Wy A3 O3 I3.u (by rw [I3.len];decide) (λp hp=>?_)) (by simp [ax]) λv h4 k4 hv=>?_
   ·have h1:=vV WT hp;rw [I3.way] at h1;have h2:=I3.bF p.1 (by rw [h1];simp);refine ⟨h1,?_⟩;unfold aU.there;rw [I3.len];simp;omega
   obtain ⟨rfl,N',A4,_,u4,l4,_,r4,y4⟩:=hv;(conv=>whnf);refine ⟨k3.trans k4,rfl,N',A4,u4,by rw [l4,I3.len],λi=>?_,WM λx=>?_⟩
   rotate_left
   ·apply Classical.byContradiction;intro hx;obtain ⟨q1,q2⟩:=y4 x hx;rw [I3.way] at q2;exact q1 q2
   rw [r4,I3.read];by_cases h:i<((2824:Nat):Int)
   ·rw [if_pos h]
   ·rw [if_neg h];have h1:fu i=0:=by
     unfold fu;rw [if_neg (by omega)]
    have h2:M.there i=false:=by
     unfold aU.there;rw [hs,decide_eq_false (show ¬ (i<((2824:Nat):Int)) from h)];simp
    unfold aU.read;rw [h1,h2];rfl
theorem F4 (h:Heap):aC Tryz.prog 11 [] h (λv h'=>Keeps [] h h'/\∃ (w t bT:Nat) (V:VL) (N:aU),v=.pointer (some ⟨w,0,none⟩) /\
 h'[w]?=some (.cells ⟨[.pointer (some ⟨V.mem.m,0,none⟩),.pointer (some ⟨V.v,0,none⟩),.pointer (some ⟨t,0,none⟩)]⟩ 31 (0,0))/\h'[t]?=some (.cells ⟨[.slice (some ⟨bT,0,none⟩) 2 2]⟩ 80 (0,0))/\h'[bT]?=some (.cells ⟨fK L0⟩ 77 (0,0)) /\
 At h' V N ⟨fu,[],[],[],[]⟩/\N.read=fu/\N.fT = -1/\N.sure.length=2824/\N.loose=[]/\V.ab=none/\V.jX=none/\(∀ b∈V.blocks,h.size<=b/\b<bT/\b<t/\b<w)):=by
 refine aG aH Tryz.func11 rfl ok11 (by simp [Tryz.f11]) ?_;(conv=>whnf);refine ak.i (V3 2824 (by decide) (by decide) h) λv h1 k1 hv=>?_;obtain ⟨ML1,rfl,A1,O1,n1⟩:=hv;have z1:=k1.size;(conv=>whnf);refine ak.m (V5 A1 O1 rfl rfl rfl rfl) (by simp [ax]) λv h2 k2 hv=>?_;obtain ⟨rfl,N,A2,hu,hs,hr,hlo⟩:=hv;have z2:=k2.size;(conv=>whnf);refine aj.f rfl ?_;(conv=>whnf);refine ak.i (Qe A2) λv h3 k3 hv=>?_;rw [if_pos hs] at hv;obtain ⟨V,rfl,ME,hab,jA,V7,A3⟩:=hv;have z3:=k3.size;have hr2:N.read=fu:=funext hr;rw [hr2] at A3;(conv=>whnf);refine ak.i (V8 h3) λv h4 k4 hv=>?_;obtain ⟨bT,t,rfl,FN,ht,V9,Wd⟩:=hv;have z4:=k4.size;(conv=>whnf);refine aO.i λw h5 e5 s5 o5 k5=>?_;have k35:Keeps [] h3 h5:=k4.trans k5;have A5:=A3.on k35;have Wh:∀ b∈V.blocks,b<h3.size:=A3.blt;have Wi:∀ b∈V.blocks,h.size<=b:=by
  intro b hb;have hb2:b∈[V.v,V.ob,V.sb,V.mb]\/b∈ML1.blocks:=by
   unfold VL.blocks at hb;rw [ME,hab,jA] at hb;simp only [List.mem_cons,List.mem_append,Option.toList,List.not_mem_nil,or_false] at hb ⊢;rcases hb with h|h|h|h|h <;> simp [h]
  rcases hb2 with h|h
  ·have:=V7 b h;omega
  ·exact n1 b h
 have k05:Keeps [] h h5:=(k1.dO k2 (λb hb=>n1 b hb)).trans (k3.trans k35);(conv=>whnf);refine au.o o5 rfl ?_;(conv=>whnf);refine aj.f rfl ?_;(conv=>whnf);refine ⟨k05,w,t,bT,V,N,rfl,?_,k5.obj V9 (by simp),k5.obj Wd (by simp),A5,hr2,hu,hs,hlo,hab,jA,λb hb=>⟨Wi b hb,?_⟩⟩
 ·rw [ME];exact o5
 ·have:=Wh b hb;omega
theorem Ni (h:Heap):aC Tryz.prog 10 [] h (λv h'=>Keeps [] h h'/\v=.bool true):=by
 refine aG aH Tryz.func10 rfl ok10 (by simp [Tryz.f10]) ?_;(conv=>whnf);refine ak.i (F4 h) λv h1 k1 hv=>?_;obtain ⟨w,t,bT,V,N,rfl,o1,_,_,A1,hr,hu,hs,hlo,hab,jA,hV⟩:=hv;have XC:=hV V.ob (by simp [VL.blocks]);have XD:=hV V.sb (by simp [VL.blocks]);have XE:=hV V.mb (by simp [VL.blocks]);have hf0:bA N.read ⟨fu,[],[],[],[]⟩ 96=96:=by rw [hr];exact Wj _ _ _ _ rfl
 (conv=>whnf);refine au.o o1 rfl ?_;(conv=>whnf);refine aj.t rfl ?_;(conv=>whnf);refine ak.m (Ce A1 fs0 (sim0.fc rfl fc0) rfl [47,102] (by decide) (kind:=1) (.inl rfl)) (by simp [ax]) λv h2 k2 hv=>?_;obtain ⟨X2,A2,R2⟩:=hv;obtain ⟨rfl,a2,n2,f2,S1,I2,Z2,l2,c2⟩:=MF (n1:=2) sim0 pl0 (by omega) (by decide) (by decide) (by decide +kernel) R2;have o2:=k2.obj o1 (by simp;omega);have Z2:lS S1 K1 N1 B1:=Z2;(conv=>whnf);refine au.o o2 rfl ?_;(conv=>whnf);refine aj.t rfl ?_;(conv=>whnf);refine ak.m (Gp A2 I2 (Z2.fc rfl fc1) n2 [47,108] [47,102] (by decide) (by decide)) (by simp [ax]) λv h3 k3 hv=>?_;obtain ⟨X3,A3,R3⟩:=hv;have R3:kJ N.read X2 S1 [47,108] 3 [47,102] v X3:=by
  rcases R3 with ⟨hpn,_⟩|⟨_,R3⟩
  ·exact absurd hpn (by decide +kernel)
  ·exact R3
 obtain ⟨rfl,a3,n3,f3,S2,I3,Z3,l3,c3⟩:=MF (n1:=3) Z2 pl1 (by omega) (by decide +kernel) (by decide +kernel) (by decide +kernel) R3;have o3:=k3.obj o2 (by simp;omega);have Z3:lS S2 K2 N2 B2:=Z3;(conv=>whnf);refine au.o o3 rfl ?_;(conv=>whnf);refine aj.t rfl ?_;(conv=>whnf);refine ak.m (Gr A3 I3 (Z3.fc rfl fc2) [47,108] (by decide) 0 [104,105]) (by simp [ax]) λv h4 k4 hv=>?_;obtain ⟨X4,A4,R4⟩:=hv;obtain ⟨rfl,a4,n4,S3,I4,Z4,l4,c4⟩:=Wl Z3 (by omega) R4;have o4:=k4.obj o3 (by simp;omega);(conv=>whnf);refine au.o o4 rfl ?_;(conv=>whnf);refine aj.t rfl ?_;(conv=>whnf);refine ak.m (Gq A4 I4 (Z4.fc rfl fc2) (Z4.ns ns2) [47,108] (by decide)) (by simp [ax]) λv h5 k5 hv=>?_;obtain ⟨X5,A5,R5⟩:=hv;obtain ⟨rfl,a5,n5,S4,I5,Z5,c5⟩:=Wm Z4 (by rw [c4];exact l3) R5;have o5:=k5.obj o4 (by simp;omega);(conv=>whnf);refine aj.f rfl ?_;have hp5:cu S4 [47,102]=(2,0):=by unfold cu;rw [Z5.view];exact pa4
 have hk5:(S4.C 2).kind=1:=by rw [Z5.k];decide +kernel
 have he5:fU S4 [47,102]=0:=by
  unfold fU;rw [hp5,if_neg (by rintro ⟨_,h⟩;rw [hk5] at h;cases h)]
 have hb5:S4.aJ 2=[104,105]:=by rw [Z5.b];decide +kernel
 have hr5:iP [104,105] 0 9=([104,105],0):=by decide +kernel
 have hq5:aV (aW S4) [47,102] false=(2,0):=by rw [Z5.view];exact pb4
 have hl5:(S4.C 2).links=1:=by rw [c5,l4,c3 2 (by decide) (by decide)];exact l2
 have hs5:(S4.C 2).size=2:=by
  obtain ⟨m,F⟩:=(I5.node 2 (by decide) (by decide)).file (.inl hk5);rw [F.size,hb5];rfl
 (conv=>whnf);refine au.o o5 rfl ?_;(conv=>whnf);refine ak.m (Gs A5 I5 (Z5.fc rfl fc4) [47,102] (by decide) 0 9) (by simp [ax]) λv h6 k6 hv=>?_;obtain ⟨⟨s6,A6⟩,hv⟩:=hv;rw [he5,if_pos rfl,hp5] at hv;simp only [hb5] at hv;rw [hr5] at hv;subst hv;have o6:=k6.obj o5 (by simp;omega);(conv=>whnf);refine au.o o6 rfl ?_;(conv=>whnf);refine ak.m (Gt A6 I5 (Z5.fc rfl fc4) [47,102] (by decide)) (by simp [ax]) λv h7 k7 hv=>?_;obtain ⟨⟨s7,A7⟩,hv⟩:=hv;rw [hq5,if_pos rfl] at hv;simp only [hl5,hs5] at hv;subst hv;(conv=>whnf);refine aO.i λb8 h8 e8 s8 o8 k8=>?_;(conv=>whnf);refine aM.i λh9 s9 k9=>?_;(conv=>whnf);have z1:=k1.size;have z2:=k2.size;have z3:=k3.size;have z4:=k4.size;have z5:=k5.size;have z6:=k6.size;have z7:=k7.size;have sub:∀ {a b:Heap},Keeps [V.ob,V.sb,V.mb] a b->∀ x∈[V.ob,V.sb,V.mb],h.size<=x:=λ_ x hx=>by
  simp at hx;omega
 have k05:Keeps [] h h5:=(((k1.dO k2 (sub k2)).dO k3 (sub k3)).dO k4 (sub k4)).dO k5 (sub k5);have k07:Keeps [] h h7:=(k05.dO k6 (λx hx=>by simp at hx;omega)).dO k7 (λx hx=>by simp at hx;omega);refine ⟨k07.trans (k8.new1 k9 (by omega)),?_⟩;have hs:((ba [104,105]).toList==(ByteArray.mk #[104,105]).toList)=true:=by
  have h1:((ba [104,105]).toList==(ba [104,105]).toList)=true:=beq_self_eq_true _;exact h1
 rw [hs];rfl
instance:Rp cK where
 n:=6
 iD _ vs x:=vs=x.cells/\x.ok
 len h:=by rw [h.1];rfl
 keep _ h:=h
instance:Flat cK:=⟨λh=>h⟩
section
variable {H:Type} {enc:TypeId×Value->H} {W:World} {sp:Nat->Bool} {held:Bool}
theorem Na:Opens enc Tryz.prog W sp held 43 cK:=by
 intro fuel cs x h hw;obtain ⟨hl,f',hp⟩:=PG Tryz.underlying43 h hw;obtain ⟨a,b,c,d,e,f,rfl⟩:∃ a b c d e f,cs=[a,b,c,d,e,f]:=by
  match cs,hl with
  | [a,b,c,d,e,f],_=>exact ⟨a,b,c,d,e,f,rfl⟩
 obtain ⟨y0,h0,w0⟩:=hp _ (List.mem_cons_self);obtain ⟨y1,h1,w1⟩:=hp _ (List.mem_cons_of_mem _ List.mem_cons_self);obtain ⟨y2,h2,w2⟩:=hp _ (List.mem_cons_of_mem _ (List.mem_cons_of_mem _ List.mem_cons_self));obtain ⟨y3,h3,w3⟩:=hp _ (List.mem_cons_of_mem _ (List.mem_cons_of_mem _ (List.mem_cons_of_mem _ List.mem_cons_self)));obtain ⟨y4,h4,w4⟩:=hp _ (List.mem_cons_of_mem _ (List.mem_cons_of_mem _ (List.mem_cons_of_mem _ (List.mem_cons_of_mem _ List.mem_cons_self))));obtain ⟨y5,h5,w5⟩:=hp _ (List.mem_cons_of_mem _ (List.mem_cons_of_mem _ (List.mem_cons_of_mem _ (List.mem_cons_of_mem _ (List.mem_cons_of_mem _ List.mem_cons_self)))));obtain ⟨n,e0,g0⟩:=DR (W:=W) Tryz.underlying3 f' _ _ h0 w0;obtain ⟨s,e1,g1⟩:=DN (W:=W) Tryz.underlying9 f' _ _ h1 w1;obtain ⟨t,e2,g2⟩:=DN (W:=W) Tryz.underlying9 f' _ _ h2 w2;obtain ⟨u,e3,g3⟩:=DN (W:=W) Tryz.underlying9 f' _ _ h3 w3;obtain ⟨m,e4,g4⟩:=DR (W:=W) Tryz.underlying3 f' _ _ h4 w4;obtain ⟨k,e5,g5⟩:=DR (W:=W) Tryz.underlying3 f' _ _ h5 w5;cases e0;cases e1;cases e2;cases e3;cases e4;cases e5;obtain ⟨l1,rfl⟩:∃ l:List UInt8,s=⟨l.toArray⟩:=⟨s.data.toList,rfl⟩;obtain ⟨l2,rfl⟩:∃ l:List UInt8,t=⟨l.toArray⟩:=⟨t.data.toList,rfl⟩;obtain ⟨l3,rfl⟩:∃ l:List UInt8,u=⟨l.toArray⟩:=⟨u.data.toList,rfl⟩;exact ⟨⟨n,l1,l2,l3,m,k⟩,rfl,g0,by have:=g1;unfold mP at this;rwa [dN] at this,by have:=g2;unfold mP at this;rwa [dN] at this,by have:=g3;unfold mP at this;rwa [dN] at this,g4,g5⟩
end
theorem tn0 (i:Int)(hi:inT (aB L0) i):i=1:=by
 have h1:=hi.1;have h2:i<2:=hi.2;omega
theorem rel0:bW S0 (aB L0) [0,1]:=by
 have l1:∀ i,live (aB L0) i->i=1:=λi hi=>tn0 i hi.1;refine ⟨rfl,by decide,⟨rfl,rfl⟩,λi hi=>?_,λi j hi hj _=>by rw [l1 i hi,l1 j hj],λi hi=>?_,λi hi=>?_,λi hi _=>?_,λi hi h=>?_,λi hi h=>?_,rfl,λn n0 n24 hk=>?_,λi hi h=>absurd (l1 i hi) h,rfl,⟨λ_=>0,λi hi _ e he=>?_⟩⟩
 ·rw [l1 i hi];decide
 ·rw [l1 i hi];exact ⟨rfl,by decide,by decide⟩
 ·rw [l1 i hi];rfl
 ·rw [l1 i hi];exact ⟨rfl,λe he=>(by cases he),List.Pairwise.nil,rfl⟩
 ·rw [l1 i hi] at h;exact absurd rfl h
 ·rw [tn0 i hi];rfl
 ·refine ⟨1,⟨⟨by decide,by decide⟩,by decide⟩,?_⟩;show (1:Int)=n;have hk':(if n=1 then bZ 2 1 else fQ 0).kind≠0:=hk;by_cases h1:n=1
  ·exact h1.symm
  ·rw [if_neg h1] at hk';exact absurd rfl hk'
 ·rw [l1 i hi] at he;cases he
theorem sml0:iX (aB L0) 0:=⟨by decide,λx hx=>by
 have:x=⟨0,0,0,[],[]⟩\/x=⟨1,2,1,[],[]⟩:=by simpa [aB,L0] using hx
 rcases this with rfl|rfl
 ·exact ⟨Nat.zero_le _,λh=>by cases h⟩
 ·exact ⟨Nat.zero_le _,λh=>by cases h⟩⟩
theorem Nf {h:Heap}{a:Option Addr}{n c:Nat}{xs:List cK}(S:Sl h a n c xs):aC Tryz.prog 13 [.slice a n c] h (λv h'=>Keeps [] h h'/\∃ c',v=.slice a (min n 60) c'/\Sl h' a (min n 60) c' (xs.take 60)):=by
 have hl:=S.hlen;have hc:=S.hcap;refine aG aH Tryz.func13 rfl ok13 (by simp [Tryz.f13]) ?_;(conv=>whnf);refine di.i 0 (min n 60) rfl (by split <;> omega) (Nat.zero_le _) (by omega) ?_;(conv=>whnf);have P:=S.part (l:=0) (r:=min n 60) (Nat.zero_le _) (by omega);rw [List.drop_zero] at P;have e:xs.take (min n 60)=xs.take 60:=by
  rw [hl,<-List.take_take];exact List.take_of_length_le (by rw [List.length_take];omega)
 rw [e,kI] at P;refine ⟨Keeps.refl _ _,_,?_,P⟩;rw [kI];rfl
theorem Ng {h0 h:Heap}(hb:h0.size<=h.size){w t bT:Nat}{V:VL}{N:aU}
 (hw:h[w]?=some (.cells ⟨[.pointer (some ⟨V.mem.m,0,none⟩),.pointer (some ⟨V.v,0,none⟩),.pointer (some ⟨t,0,none⟩)]⟩ 31 (0,0))) (ht:h[t]?=some (.cells ⟨[.slice (some ⟨bT,0,none⟩) 2 2]⟩ 80 (0,0))) (hT:h[bT]?=some (.cells ⟨fK L0⟩ 77 (0,0)))
 (A:At h V N ⟨fu,[],[],[],[]⟩) (hu:N.fT = -1) (hs:N.sure.length=2824) (hab:V.ab=none) (jA:V.jX=none) (hV:∀ b∈V.blocks,h0.size<=b/\b<bT/\b<t/\b<w) (hw0:h0.size<=w) :
 kY h h0.size w V N ⟨fu,[],[],[],[]⟩ S0 (min bT t) t (some ⟨bT,0,none⟩) 2 L0 [0,1] 0:=by
 refine ⟨hw,A,fs0,rel0,sml0,⟨ht,.inr ⟨bT,_,rfl,hT,rfl,rfl,rfl,Nat.le_refl _⟩,λx hx=>?_,by omega,λb hb=>?_⟩,⟨hab,jA⟩,⟨hu,hs⟩,⟨hw0,λb hb=>(hV b hb).1⟩,λhx=>by have:=(hV w hx).2.2.2;omega⟩
 ·have:x=⟨⟨0,0,0,[],[]⟩,none,0,0⟩\/x=⟨⟨1,2,1,[],[]⟩,none,0,0⟩:=by simpa [L0] using hx
  rcases this with rfl|rfl
  ·exact ⟨rfl,.inl ⟨rfl,rfl,rfl,rfl⟩,λb hb=>(by cases hb),λe he=>(by cases he),Nat.zero_le _⟩
  ·exact ⟨rfl,.inl ⟨rfl,rfl,rfl,rfl⟩,λb hb=>(by cases hb),λe he=>(by cases he),Nat.zero_le _⟩
 ·have:b=bT:=by simpa [ay] using hb
  omega
theorem _root_.Go.aK.Sl.Nh {h:Heap}{a:Option Addr}{n c:Nat}{xs:List cK}(S:Sl h a n c xs)(hn:0<n):∀ b∈ay a,b<h.size:=by
 have hl:=S.hlen;obtain ⟨b,o,hb,cs,⟨rfl,_⟩,hc⟩:=S.at_ 0 (by omega);intro x hx;rw [hb] at hx;simp [ay] at hx;subst hx;exact wo (hc 0 (by simp [cK.cells]))
theorem kY.on {h h':Heap}{b0 w:Nat}{V:VL}{M:aU}{X:VS}{S:FS}{z t:Nat}{aT:Option Addr}{cT:Nat}{L:List bU}{num:List Int}{N:Nat}(P:kY h b0 w V M X S z t aT cT L num N)(k:Keeps [] h h'):kY h' b0 w V M X S z t aT cT L num N:=
 ⟨k.obj P.obj (by simp),P.at_.on k,P.fs,P.rel,P.qW,P.tree.keep k (by simp),P.ab,P.calm,P.new,P.apart⟩
theorem MP {h:Heap}{a:Option Addr}{n c:Nat}{W:List cK}(SW:Sl h a n c W)(hp:∀ x∈W,x.path.length<=1048576/\x.path2.length<=1048576):aC Tryz.prog 4 [.slice a n c] h (λv h'=>Keeps [] h h'/\v=.bool true):=by
 refine aG aH Tryz.func4 rfl ok4 (by simp [Tryz.f4]) ?_;(conv=>whnf);refine ak.i (Ni h) λv h1 k1 hv=>?_;subst hv;(conv=>whnf);refine aj.f rfl ?_;(conv=>whnf);refine ak.i (F4 h1) λv h2 k2 hv=>?_;obtain ⟨w,t,bT,V,N,rfl,hw,ht,hT,A,hr,hu,hs,hlo,hab,jA,hV⟩:=hv;have k02:=k1.trans k2;have z1:=k1.size;have z2:=k2.size;have hw1:h.size<=w:=by have:=hV V.v (by simp [VL.blocks]);omega
 have P0:=Ng (h0:=h) (by omega) hw ht hT A hu hs hab jA (λb hb=>by have:=hV b hb;omega) hw1;(conv=>whnf);refine aj.f rfl ?_;(conv=>whnf);refine ak.i (Nf (SW.keep k02)) λv h3 k3 hv=>?_;obtain ⟨c3,rfl,S3⟩:=hv;have kh3:=k02.trans k3;have hm3:min n 60<=60:=Nat.min_le_right _ _;have hb3:0<min n 60->∀ b∈ay a,b<h.size:=λhp=>SW.Nh (by omega);have hp3:∀ x∈W.take 60,x.path.length<=1048576/\x.path2.length<=1048576:=λx hx=>hp x (List.mem_of_mem_take hx);generalize min n 60=n3 at *;generalize W.take 60=W at *;have hl3:=S3.hlen;(conv=>whnf);refine bO.on [0,3,4] [] (λi:Nat=>[(0,.v (.slice a n3 c3)),(3,.v (.pointer (some ⟨w,0,none⟩))),(4,.v (.int .i64 (i:Int)))]) (λ_=>[])
  (λi h'=>i<=n3/\Keeps [] h h'/\Sl h' a n3 c3 W/\∃ V M X S z t aT cT L num,kY h' h.size w V M X S z t aT cT L num i/\X.now=M.read) (λi=>n3-i) 0 ?_ ?_
 ·(conv=>whnf);have kk3:=k02.trans k3;exact ⟨0,rfl,rfl,rfl,Nat.zero_le _,kk3,S3,V,N,⟨fu,[],[],[],[]⟩,S0,min bT t,t,some ⟨bT,0,none⟩,2,L0,[0,1],P0.on k3,hr.symm⟩
 ·rintro i h4 ⟨hi,k4,S4,V4,M4,X4,FS4,z4,t4,aT4,cT4,L4,num4,P4,hn4⟩;have hz4:=k4.size;(conv=>whnf);refine aj.i (λhd=>?_) (λhd=>?_)
  ·have hi1:i<W.length:=by simp at hd;omega
   obtain ⟨b5,o5,hb5,_,⟨rfl,hok⟩,hc5⟩:=S4.at_ i hi1;have hem:=List.getElem_mem hi1;have hps:=hp3 _ hem;(conv=>whnf);refine aS.i i rfl (by omega) hb5 ?_;(conv=>whnf);refine eU.i (vs:=(W[i]'hi1).cells) rfl (λj hj=>hc5 j hj) ?_;(conv=>whnf);refine ak.m (Nj P4 hz4 hn4 (by omega) (W[i]'hi1) hok hps.1 hps.2) (by simp [ax]) λv h6 k6 hv=>?_;obtain ⟨rfl,V6,M6,X6,FS6,z6,t6,aT6,cT6,L6,num6,P6,hn6⟩:=hv;have hnew:∀ x∈[w,V4.ob,V4.sb,V4.mb,V4.v,V4.mem.m,V4.mem.lb],h.size<=x:=λx hx=>by
    rcases List.mem_cons.1 hx with rfl|hx
    ·exact P4.new.1
    ·refine P4.new.2 x ?_;simp only [List.mem_cons,List.not_mem_nil,or_false] at hx;rcases hx with rfl|rfl|rfl|rfl|rfl|rfl <;> simp [VL.blocks,ML.blocks]
   have k06:Keeps [] h h6:=k4.dO k6 hnew;(conv=>whnf);refine aj.f rfl ?_;(conv=>whnf);refine ⟨n3-(i+1),by omega,?_⟩;(conv=>whnf);refine ⟨i+1,rfl,by rw [wrapN (n:=i+1) (by simp) (by omega)],rfl,by omega,k06,S4.jB k6 (λb hb hx=>by have:=hb3 (by omega) b hb;have:=hnew b hx;omega),V6,M6,X6,FS6,z6,t6,aT6,cT6,L6,num6,P6,hn6⟩
  ·(conv=>whnf);exact ⟨k4,rfl⟩
theorem y9 {H:Type}:∀ {l:List (DataW H)} {d:DataW H},d∈l->Rows.uptoBulk d<=Rows.uptoBulkAll l
 | x::r,d,h=>by
  simp only [Rows.uptoBulkAll];rcases List.mem_cons.1 h with rfl|h
  ·omega
  ·have:=y9 h;omega
section
variable {H:Type} {enc:TypeId×Value->H} {W:World} {sp:Nat->Bool} {held:Bool}
theorem MN:Opens enc Tryz.prog W sp held 22 (List cK):=M9 Tryz.underlying22 (by kernel_rfl) (by decide) (of_decide_eq_true (by kernel_rfl)) Na
theorem F3 {fuel:Nat}{s:ByteArray}{x:DataW H×List MemPlace}(h:DataW.trod enc Tryz.prog W 0 sp held fuel 9 [.string s]=some x):s.data.toList.length<=Rows.uptoBulk x.1:=by
 obtain ⟨s',h1,h2,_⟩:=DataW.trod_string Tryz.underlying9 h;have:s=s':=by simpa using h1
 subst this;rw [h2];simp only [Rows.uptoBulk];omega
theorem Nb {fuel:Nat}{c:cK}{x:DataW H×List MemPlace}(h:DataW.trod enc Tryz.prog W 0 sp held fuel 43 c.cells=some x):c.path.length<=Rows.uptoBulk x.1/\c.path2.length<=Rows.uptoBulk x.1:=by
 obtain ⟨xs,n,rfl,rfl,_,hl,hf⟩:=DataW.trod_struct Tryz.underlying43 h;have hl:xs.length=6:=hl;have h1:=hf 1 _ rfl;have h2:=hf 2 _ rfl;have g1:xs[1]?=some (xs[1]'(by omega)):=List.getElem?_eq_getElem _;have g2:xs[2]?=some (xs[2]'(by omega)):=List.getElem?_eq_getElem _;rw [g1] at h1;rw [g2] at h2;have b1:=F3 (s:=ba c.path) h1;have b2:=F3 (s:=ba c.path2) h2;have m1:=y9 (List.mem_map_of_mem (f:=(·.1)) (List.getElem_mem (show 1<xs.length by omega)));have m2:=y9 (List.mem_map_of_mem (f:=(·.1)) (List.getElem_mem (show 2<xs.length by omega)));have e1:(ba c.path).data.toList.length=c.path.length:=by unfold ba;simp
 have e2:(ba c.path2).data.toList.length=c.path2.length:=by unfold ba;simp
 simp only [Rows.uptoBulk];omega
theorem MQ {a:Option Addr}{n c:Nat}{d:DataW H}{p:List MemPlace}(h:DataW.Trod enc Tryz.prog W 0 sp held 22 (.slice a n c) d p){L:List cK}(S:Sl W.heap a n c L)(hb:Rows.uptoBulk d<=1048576):∀ x∈L,x.path.length<=1048576/\x.path2.length<=1048576:=by
 obtain ⟨fuel,hf⟩:=h;have hcs:(Value.slice a n c).cells.toList=[.slice a n c]:=by simp [Value.cells]
 rw [hcs] at hf;have hl:=S.hlen;rcases DataW.trod_slice Tryz.underlying22 hf with ⟨h1,_⟩|⟨ad,len,cap,elems,rest,m,_,h1,h2,_,_,_,he,hel,_⟩
 ·have:n=0:=by simp at h1;exact h1.2.1
  intro x hx;have:L=[]:=List.eq_nil_of_length_eq_zero (by omega);subst this;cases hx
 ·have e1:a=some ad/\n=len/\c=cap:=by simpa using h1
  obtain ⟨rfl,rfl,rfl⟩:=e1;have hd:d=.slice (elems.map (·.1)) (rest.map (·.1)):=congrArg Prod.fst h2;rw [hd] at hb;simp only [Rows.uptoBulk] at hb;intro x hx;obtain ⟨i,hi,rfl⟩:=List.getElem_of_mem hx;have hi1:i<elems.length:=by omega
  have g:=hel i (by omega);rw [List.getElem?_eq_getElem hi1] at g;have hn6:Tryz.prog.cellsOf 43=6:=by kernel_rfl
  rw [hn6] at g;cases hcell:W.cells? 0 (ad.add (i*6)) 6 with
  | none=>rw [hcell] at g;cases g
  | some cs=>
   rw [hcell] at g;have g:DataW.trod enc Tryz.prog W 0 sp held m 43 cs=some (elems[i]'hi1):=g;obtain ⟨b,off,q1,q2,q3⟩:=BV hcell (by decide);obtain ⟨b',off',hb',cs',⟨rfl,_⟩,hc'⟩:=S.at_ i hi;have hadd:ad=⟨b',off',none⟩:=Option.some.inj hb';rw [hadd,addr_add] at q1;have eb:b'=b/\off'+i*6=off:=by
    have:=q1;simp only [Addr.mk.injEq,and_true] at this;exact this
   obtain ⟨rfl,rfl⟩:=eb;have Nc:cs=(L[i]'hi).cells:=by
    apply List.ext_getElem?;intro j;by_cases hj:j<6
    ·have a1:=q3 j (by omega);have a2:=hc' j (by simpa [cK.cells] using hj);rw [<-a1];exact a2
    ·rw [List.getElem?_eq_none (by omega),List.getElem?_eq_none (by simp [cK.cells];omega)]
   rw [Nc] at g;have hcl:=Nb g;have hm:=y9 (List.mem_map_of_mem (f:=(·.1)) (List.getElem_mem hi1));omega
end
end Go.Proofs.YtoociceebodfeaaGreatDoor
