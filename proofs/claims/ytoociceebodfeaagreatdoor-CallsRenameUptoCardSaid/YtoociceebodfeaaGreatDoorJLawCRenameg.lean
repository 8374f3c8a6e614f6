/-
  Joined texts: FolM, FolN, ChgB, BodyY, ChgA, FileF, FileG, FolO, FolQ, FolR, FolT, FolU, FolV, FolW, FolX.
-/
import Derived.Test.YtoociceebodfeaaGreatDoorJLawCRenamef
import Derived.Test.YtoociceebodfeaaGreatDoorJLawCRenamee
import Derived.Shelf.SlLaysF0
import Derived.Test.YtoociceebodfeaaGreatDoorProg
import Derived.Shelf.SlSortCmp.NoneTotal
set_option linter.all false
set_option maxRecDepth 100000
set_option maxHeartbeats 1000000
namespace Go.Proofs.YtoociceebodfeaaGreatDoor
open Go Go.aN
def iW (B:Int->UInt64)(X:VS)(node:Int)(c:aA)(name:List UInt8)(target:Int):aA×Int×VS:=
 if ¬ (0<=node/\node<24)\/target<1\/24<=target then (aA.zero,1,X)
 else if (fA X.now c).1≠0 then (aA.zero,(fA X.now c).1,X)
 else if (jr (fA X.now c).2.2 name).2=true then (aA.zero,5,X)
 else if dI name=false then (aA.zero,3,X)
 else
  let f:=j5 B X node (fA X.now c).2.1 (wordsAt X.now (fA X.now c).2.1) (bU name)
  if f.e≠0 then (aA.zero,f.e,f.X)
  else eH B { f.X with now:=bZ f.X.now (aU f.m f.pl.toNat) (setSlot (f.W f.pl) f.k.toNat (w64 target::dM name 2)) } node { c with size:=c.size+1 } f.m
def qH (m:List Int):Prop:=m.length=21/\∀ x∈m,x = -1\/(0<=x/\x<96)
theorem qH.aU {m:List Int}(R:qH m)(i:Nat):aU m i = -1\/(0<=aU m i/\aU m i<96):=by
 unfold Proofs.YtoociceebodfeaaGreatDoor.aU;cases h:m[i]? with
 | none=>exact .inl rfl
 | some x=>exact R.2 x (List.mem_of_getElem? h)
theorem qH.in64 {m:List Int}(R:qH m):∀ x∈m,inI64 x:=λx hx=>by
 unfold inI64;rcases R.2 x hx with h|h <;> omega
theorem Qv {now:Int->UInt64}{c:aA}(h:(fA now c).1=0):qH (fA now c).2.1/\((fA now c).2.2.length:Int)=c.size:=by
 unfold fA at h ⊢;split at h
 ·simp at h
 ·rename_i hk;rw [if_neg hk];split at h
  ·simp at h
  ·rename_i m hm;split at h
   ·rename_i hc;rw [if_pos hc];refine ⟨⟨vL hm,λx hx=>?_⟩,by simp only;rw [(rT _).length_eq];exact hc.2.2⟩;obtain ⟨i,hi,rfl⟩:=List.mem_iff_getElem.1 hx;have hl:=vL hm;have:=xJ hc.1 (i:=i) (by simp only at hi;omega);have e:aU m i=m[i]'hi:=by unfold aU;rw [List.getElem?_eq_getElem hi];rfl
    unfold kK vJ at this;rw [e] at this;by_cases h1:m[i]'hi = -1
    ·exact .inl h1
    ·rw [decide_eq_false h1] at this;simp only [Bool.false_or,Bool.and_eq_true] at this;exact .inr (of_decide_eq_true this.1)
   ·simp at h
theorem Qw {B:Int->UInt64}{X:VS}{node:Int}{m:List Int}{W:Int->List UInt64}{bk:Nat}(R:qH m)(he:(j5 B X node m W bk).e=0) :
 ∃ pl k:Nat,(j5 B X node m W bk).pl=(pl:Int)/\(j5 B X node m W bk).k=(k:Int)/\pl<21/\k<5/\aU (j5 B X node m W bk).m pl ≠ -1/\qH (j5 B X node m W bk).m:=by
 unfold j5 at he ⊢;cases hs:gP W m eu 4 bk with
 | some q=>
  have:=vH hs;obtain ⟨pl,k⟩:=q;exact ⟨pl,k,rfl,rfl,this.1,this.2.2.1,this.2.1,R⟩
 | none=>
  rw [hs] at he;simp only at he ⊢;unfold nH at he ⊢;cases hg:kH m 4 bk with
  | none=>rw [hg] at he;simp at he
  | some pl=>
   rw [hg] at he;simp only at he ⊢;split at he
   ·rename_i h0;rw [if_pos h0];have hr:=vF h0;have hg2:=Af hg;refine ⟨pl,0,rfl,rfl,hg2.1,by decide,?_,by rw [List.length_set];exact R.1,λx hx=>?_⟩
    ·rw [xC (by rw [R.1];exact hg2.1),if_pos rfl];omega
    ·rcases List.mem_or_eq_of_mem_set hx with hx|rfl
     ·exact R.2 x hx
     ·exact .inr hr
   ·rename_i h0;simp only at he;exact absurd he h0
theorem Qx {h:Heap}{V:VL}{M:aS}{X:VS}(A:At h V M X)(node:Int)(c:aA)(hc:c.ok)(name:List UInt8)(hnl:name.length<=140737488351232)(target:Int) :
 aC Tryz.prog 110 [.pointer (some ⟨V.v,0,none⟩),.int .i64 node,.agg ⟨c.cells⟩,.string ⟨name.toArray⟩,.int .i64 target] h (λv h'=>Keeps [V.ob] h h' /\
  v=.tuple #[.agg ⟨(iW M.read X node c name target).1.cells⟩,.int .i64 (iW M.read X node c name target).2.1]/\At h' V M (iW M.read X node c name target).2.2):=by
 have hvb:=A.blt;have Je:=DL X.now c;unfold iW;refine aG aH Tryz.func110 rfl ok110 (by simp [Tryz.f110]) ?_;(conv=>whnf);refine aL.i λb1 h1 e1 s1 o1 k1=>?_;(conv=>whnf);refine aL.i λb2 h2 e2 s2 o2 k2=>?_;(conv=>whnf);refine ak.i (DN node h2) λv h3 k3 hv=>?_;subst hv;have k03:=(k1.trans k2).trans k3;(conv=>whnf);refine aj.i (λhq=>?_) (λhq=>?_)
 ·have hbad:¬ (0<=node/\node<24)\/target<1\/24<=target:=by
   by_cases hn:0<=node/\node<24
   ·rw [if_pos hn] at hq;simp [dm] at hq;omega
   ·exact .inl hn
  (conv=>whnf);refine aK.i λh4 s4 k4=>?_;(conv=>whnf);rw [if_pos hbad];have kk:Keeps [] h h4:=k03.new1 k4 (by have:=k1.size;omega);exact ⟨kk.mono (by simp),rfl,A.on kk⟩
 have hgood:¬ (¬ (0<=node/\node<24)\/target<1\/24<=target):=by
  by_cases hn:0<=node/\node<24
  ·rw [if_pos hn] at hq;simp [dm] at hq;omega
  ·rw [if_neg hn] at hq;simp [dm] at hq
 rw [if_neg hgood];(conv=>whnf);refine ak.i (xK (A.on k03) c hc) λv h4 k4 hv=>?_;have k04:=k03.trans k4;have vM:=Qv (now:=X.now) (c:=c);generalize fA X.now c=r at hv Je vM;have z1:=k1.size;have z2:=k2.size;have z3:=k3.size;have z4:=k4.size;unfold rW at hv;by_cases h0:r.1=0
 ·rw [if_pos h0] at hv;obtain ⟨b,L,a,cc,rfl,B4,nB,O4,nO,ok⟩:=hv;obtain ⟨mR,hsz⟩:=vM h0;obtain ⟨e0,m,l⟩:=r;simp only at h0 mR hsz O4 ok B4 Je ⊢;subst h0;rw [if_neg (show ¬ (0:Int)≠0 by simp)];have xL:∀ x∈BL.blocks b L,x∉V.blocks:=λx hx hx2=>by have:=nB x hx;have:=hvb x hx2;omega
  have qM:=hvb V.ob (by simp [VL.blocks]);have done:∀ (h' h'':Heap) (e:Int),Keeps [] h h'->Keeps [b2] h' h''->Keeps [V.ob] h h''/\(Value.tuple #[.agg ⟨aA.zero.cells⟩,.int .i64 e]=.tuple #[.agg ⟨aA.zero.cells⟩,.int .i64 e])/\At h'' V M X:=by
   intro h' h'' e q1 q2;have kk:Keeps [] h h'':=q1.new1 q2 (by omega);exact ⟨kk.mono (by simp),rfl,A.on kk⟩
  (conv=>whnf);refine aj.f rfl ?_;have Aq:=kr O4 ok (by omega);have key:∀ (h5:Heap) (sv:Value) (et:Int),Keeps [] h4 h5->True:=λ_ _ _ _=>trivial;rcases Nat.lt_or_ge 16 name.length with hlong|hshort
  ·have hnb:dI name=false:=by
    unfold dI;rw [decide_eq_false (show ¬ name.length<=14 by omega)];simp
   (conv=>whnf);refine ak.i (Qy name 2 h4 (by decide) (by omega) hnl) λv h5 k5 hv=>?_;subst hv;(conv=>whnf);refine ak.i (find_spec (Aq.keep k5) (by omega) name) λv h6 k6 hv=>?_;subst hv;(conv=>whnf);refine aj.i (λhth=>?_) (λhth=>?_)
   ·(conv=>whnf);refine aK.i λh7 s7 k7=>?_;(conv=>whnf);rw [if_pos hth];exact done _ _ 5 ((k04.trans k5).trans k6) k7
   ·(conv=>whnf);refine aj.f rfl ?_;(conv=>whnf);refine aj.t rfl ?_;(conv=>whnf);refine aK.i λh7 s7 k7=>?_;(conv=>whnf);rw [if_neg (by rw [hth];decide),if_pos hnb];exact done _ _ 3 ((k04.trans k5).trans k6) k7
  ·(conv=>whnf);refine ak.i (Jf ⟨name.toArray⟩ 2 h4 (by decide) (by rw [dP];exact hshort)) λv h5 k5 hv=>?_;obtain ⟨tb,rfl,tb0,tb1,ot⟩:=hv;(conv=>whnf);refine ak.i (find_spec (Aq.keep k5) (by omega) name) λv h6 k6 hv=>?_;subst hv;(conv=>whnf);refine aj.i (λhth=>?_) (λhth=>?_)
   ·(conv=>whnf);refine aK.i λh7 s7 k7=>?_;(conv=>whnf);rw [if_pos hth];exact done _ _ 5 ((k04.trans k5).trans k6) k7
   ·rw [if_neg (by rw [hth];decide)];(conv=>whnf);refine aj.t rfl ?_;(conv=>whnf);refine ak.i (DR name hnl h6) λv h7 k7 hv=>?_;subst hv;have k07:=((k04.trans k5).trans k6).trans k7;(conv=>whnf);refine aj.i (λhnr=>?_) (λhnr=>?_)
    ·(conv=>whnf);refine aK.i λh8 s8 k8=>?_;(conv=>whnf);have hnb:dI name=false:=by simpa using hnr
     rw [if_pos hnb];exact done _ _ 3 k07 k8
    ·have hnb:dI name=true:=by simpa using hnr
     rw [if_neg (by rw [hnb];decide)];have k47:=(k5.trans k6).trans k7;have B7:=B4.on k47;have FS:=Qz (A.on k07) node B7 xL name hnl;have ff:=Qw (B:=M.read) (X:=X) (node:=node) (W:=wordsAt X.now m) (bk:=bU name) mR;simp only;generalize j5 M.read X node m (wordsAt X.now m) (bU name)=f at FS ff;(conv=>whnf);refine ak.m FS ?_ λv h8 k8 hv=>?_
     ·intro y hy hx2;have hy2:y=b1\/y=b2:=by simpa [au,aZ] using hy
      simp only [List.mem_cons] at hx2;rcases hx2 with rfl|hx2
      ·omega
      ·have:=nB y hx2;omega
     obtain ⟨rfl,A8,hbk⟩:=hv;have kk8:Keeps [V.ob] h h8:=(k07.mono (by simp)).gQ k8 (λy hy=>by
      simp only [List.mem_cons] at hy;rcases hy with rfl|hy
      ·exact .inl (by simp)
      ·have:=nB y hy;right;omega)
     have z7:=k07.size;have z8:=k8.size;have z47:=k47.size;(conv=>whnf);refine aj.i (λhfe=>?_) (λhfe=>?_)
     ·have he1:f.e≠0:=by simpa using hfe
      (conv=>whnf);refine aK.i λh9 s9 k9=>?_;(conv=>whnf);rw [if_pos he1];exact ⟨kk8.gQ k9 (λy hy=>by simp at hy;right;omega),rfl,A8.keep k9 (λy hy=>by have:=hvb y hy;simp;omega)⟩
     ·have he1:f.e=0:=by simpa using hfe
      rw [if_neg (show ¬ f.e≠0 by rw [he1];simp)];obtain ⟨L',B8,n8⟩:=hbk he1;obtain ⟨pl,k,Jg,ek,hpl,hk5,jJ,fR⟩:=ff he1;obtain ⟨YQ,fk,fe,fX,fm,fW⟩:=f;simp only at he1 B8 Jg ek jJ fR A8 ⊢;subst Jg;subst ek;subst he1;have hdis8:∀ x∈BL.blocks b L',x∉V.blocks:=λx hx hx2=>by
       rcases n8 x hx with g|g
       ·exact xL x g hx2
       ·have:=hvb x hx2;omega
      have nB8:∀ x∈BL.blocks b L',h3.size<=x:=λx hx=>by
       rcases n8 x hx with g|g
       ·exact nB x g
       ·omega
      have ot8:h8[tb]?=some (.cells ⟨(dM name 2).map wv⟩ 46 (0,0)):=by
       refine k8.obj ((k6.trans k7).obj ot (by simp)) ?_;simp only [List.mem_cons,not_or];refine ⟨by omega,λhx=>?_⟩;have:=B4.lt tb hx;omega
      (conv=>whnf);refine aL.i λb9 h9 e9 s9 o9 k9=>?_;(conv=>whnf);refine aL.i λb10 h10 e10 s10 o10 k10=>?_;have vO:=k10.obj o9 (by simp);have ot10:=(k9.trans k10).obj ot8 (by simp);have k8_10:=k9.trans k10;have z810:=k8_10.size;have S1:Sl h10 (some ⟨b9,0,none⟩) 1 1 [w64 target]:=by
       refine Sl.mJ (α:=UInt64) (n:=1) (T:=46) (fz:=(0,0)) ?_ (by simp [One.ok]) rfl (by simp);rw [vO];show some (Obj.cells ⟨[.int .u64 (IntKind.u64.wrap target)]⟩ _ _)=_;rw [<-Ar];rfl
      have S2:Sl h10 (some ⟨tb,0,none⟩) 2 2 (dM name 2):=Sl.mJ (α:=UInt64) (n:=2) ot10 (by simp [One.ok]) (oO _ _).symm (by rw [oO];decide);have S12:Sl h10 (some ⟨b10,0,none⟩) 2 2 [[w64 target],dM name 2]:=by
       refine ⟨rfl,Nat.le_refl _,by simp,λi hi=>⟨b10,0,rfl,?_⟩⟩;have hi2:i=0\/i=1:=by simp at hi;omega
       rcases hi2 with rfl|rfl
       ·refine ⟨[.slice (some ⟨b9,0,none⟩) 1 1],⟨_,_,_,rfl,S1⟩,λj hj=>?_⟩;have:j=0:=by simpa using hj
        subst this;unfold Heap.cell?;rw [o10];rfl
       ·refine ⟨[.slice (some ⟨tb,0,none⟩) 2 2],⟨_,_,_,rfl,S2⟩,λj hj=>?_⟩;have:j=0:=by simpa using hj
        subst this;unfold Heap.cell?;rw [o10];rfl
      (conv=>whnf);refine ak.i (QA S12 (by simp [oO]) (by decide)) λv h11 k11 hv=>?_;obtain ⟨a11,c11,rfl,O11,n11⟩:=hv;have hfl:([[w64 target],dM name 2].flatten)=w64 target::dM name 2:=by simp
      have hfn:(w64 target::dM name 2).length=3:=by simp [oO]
      rw [hfl,hfn] at O11;have S11:Sl h11 a11 3 c11 (w64 target::dM name 2):=O11.sl (xM h11 _) rfl (by decide) (by rw [hfn];decide);obtain ⟨sb,so,rfl⟩:=S11.rX (by decide);have k8_11:=k8_10.trans k11;have A11:=A8.on k8_11;have B11:=B8.on k8_11;have zV:=(fR.aU pl).resolve_left jJ;have PS:=Jh A11 B11 hdis8 hpl jJ zV hk5 S11;(conv=>whnf);rw [hfl,hfn];refine ak.m PS ?_ λv h12 k12 hv=>?_
      ·intro y hy hx2;have hy2:y=b1\/y=b2:=by simpa [au,aZ] using hy
       simp only [List.mem_cons] at hx2;rcases hx2 with rfl|hx2
       ·omega
       ·have:=nB8 y hx2;omega
      obtain ⟨rfl,A12,ob12,pl12⟩:=hv;have kk12:Keeps [V.ob] h h12:=(kk8.bS k8_11).gQ k12 (λy hy=>by
       simp only [List.mem_cons] at hy;rcases hy with rfl|hy
       ·exact .inl (by simp)
       ·have:=nB8 y hy;right;omega)
      (conv=>whnf);refine aj.f rfl ?_;(conv=>whnf);refine aK.i λh13 s13 k13=>?_;have hwr:IntKind.i64.wrap (c.size+1)=c.size+1:=by rw [<-hsz];exact dR (by omega) (by omega)
      have hL1:∀ y∈BL.blocks b L',y∉[b1]:=λy hy=>by have:=nB8 y hy;simp;omega
      have A13:=A12.keep k13 (λy hy=>by have:=hvb y hy;simp;omega);have ob13:=k13.obj ob12 (hL1 b (by simp [BL.blocks]));have pl13:fD h13 L'.pb fm L'.sp:=k13.obj pl12 (hL1 _ (by simp [BL.blocks]));have SM:=pl13.sl fR.in64 (n:=21) (cap:=L'.iG) fR.1.symm B8.cap (by rw [fR.1];decide);have QB:V.ob≠L'.pb:=λe=>hdis8 L'.pb (by simp [BL.blocks]) (e ▸ by simp [VL.blocks]);(conv=>whnf);refine ax.o ob13 rfl ?_;(conv=>whnf);have xN:({ c with size:=c.size+1 }:aA).cells=bF (0+2) (cellsOf (.int .i64 (IntKind.i64.wrap (c.size+1)))) c.cells:=by rw [hwr];rfl
      have KS:=Au A13 node { c with size:=c.size+1 } SM (λ_=>by simp [ay];exact QB);rw [xN] at KS;refine ak.m KS ?_ λv h14 k14 hv=>?_
      ·intro y hy hx2;have hy2:y=b1\/y=b2:=by simpa [au,aZ] using hy
       simp at hx2;omega
      obtain ⟨rfl,A14⟩:=hv;(conv=>whnf);refine aK.i λh15 s15 k15=>?_;(conv=>whnf);have kk15:Keeps [V.ob] h h15:=((kk12.gQ k13 (λy hy=>by simp at hy;right;omega)).trans k14).gQ k15 (λy hy=>by simp at hy;right;omega);exact ⟨kk15,rfl,A14.keep k15 (λy hy=>by have:=hvb y hy;simp;omega)⟩
 ·rw [if_neg h0] at hv;subst hv;(conv=>whnf);refine aj.t (by simpa using h0) ?_;(conv=>whnf);refine aK.i λh5 s5 k5=>?_;(conv=>whnf);rw [if_pos h0];have kk:Keeps [] h h5:=k04.new1 k5 (by omega);exact ⟨kk.mono (by simp),rfl,A.on kk⟩
theorem Qs (c:UInt8):(bif (bif (bif (bif !(bif decide ((c.toNat:Int)>=97) then decide ((c.toNat:Int)<=122) else false) then !(bif decide ((c.toNat:Int)>=48) then decide ((c.toNat:Int)<=57) else false) else false) then ((c.toNat:Int) != 46) else false) then ((c.toNat:Int) != 45) else false) then ((c.toNat:Int) != 95) else false)=!jM c:=by
 have h1:(c=46)↔c.toNat=46:=⟨λh=>by rw [h];rfl,λh=>UInt8.toNat_inj.1 h⟩;have h2:(c=45)↔c.toNat=45:=⟨λh=>by rw [h];rfl,λh=>UInt8.toNat_inj.1 h⟩;have h3:(c=95)↔c.toNat=95:=⟨λh=>by rw [h];rfl,λh=>UInt8.toNat_inj.1 h⟩;rw [Bool.eq_iff_iff];simp only [dJ];unfold jM;have g1:decide (c=46)=decide (c.toNat=46):=decide_eq_decide.2 h1;have g2:decide (c=45)=decide (c.toNat=45):=decide_eq_decide.2 h2;have g3:decide (c=95)=decide (c.toNat=95):=decide_eq_decide.2 h3;rw [g1,g2,g3];simp;omega
theorem Jc (l:List UInt8)(hl:l.length<=140737488351232)(h:Heap):aC Tryz.prog 200 [.string ⟨l.toArray⟩] h (λv h'=>Keeps [] h h'/\v=.bool (dI l)):=by
 refine aG aH Tryz.func200 rfl ok200 (by simp [Tryz.f200]) ?_;(conv=>whnf);refine bP.on [0,3] [] (λi:Nat=>[(0,.v (.string ⟨l.toArray⟩)),(3,.v (.int .i64 (i:Int)))]) (λ_=>[]) (λi h'=>i<=l.length/\Keeps [] h h'/\(l.take i).all jM=true) (λi=>l.length-i) 0 ?_ ?_
 ·exact ⟨0,rfl,rfl,rfl,Nat.zero_le _,Keeps.refl _ _,by simp⟩
 ·rintro i h1 ⟨hi,k1,ha⟩;(conv=>whnf);refine aj.i (λhd=>?_) (λhd=>?_)
  ·have hi1:i<l.length:=by rw [dP] at hd;simp at hd;omega
   (conv=>whnf);refine dO.i i rfl (by rw [dP];exact hi1) ?_;have htk:(l.take (i+1)).all jM=jM l[i]:=by
    rw [List.take_succ_eq_append_getElem hi1,List.all_append,ha];simp
   (conv=>whnf);rw [qL,List.getElem?_eq_getElem hi1,Option.getD_some,Qs];refine aj.i (λhs=>?_) (λhs=>?_)
   ·(conv=>whnf);refine ⟨k1,?_⟩;have hf:l.all jM=false:=by
     have:jM l[i]=false:=by simpa using hs
     rw [<-Bool.not_eq_true,List.all_eq_true];intro hx;rw [hx _ (List.getElem_mem hi1)] at this;cases this
    simp [dI,hf]
   ·(conv=>whnf);refine ⟨l.length-(i+1),by omega,?_⟩;(conv=>whnf);refine ⟨i+1,rfl,by rw [wrapN (n:=i+1) (by simp) (by omega)],rfl,by omega,k1,?_⟩;rw [htk];simpa using hs
  ·have hi1:i=l.length:=by rw [dP] at hd;simp at hd;omega
   subst hi1;rw [List.take_length] at ha;(conv=>whnf);refine ⟨k1,?_⟩;unfold dI;have hc:decide ((l.length:Int)<=14)=decide (l.length<=14):=decide_eq_decide.2 (by omega);have hc0:decide ((l.length:Int)>=1)=decide (l≠[]):=decide_eq_decide.2 (by cases l <;> simp;omega);have e1:(ByteArray.mk #[46])=⟨([46]:List UInt8).toArray⟩:=rfl;have e2:(ByteArray.mk #[46,46])=⟨([46,46]:List UInt8).toArray⟩:=rfl;rw [ha,dP,hc0,hc,e1,e2,iZ,iZ];simp only [dJ];by_cases h0:l=[] <;> by_cases h1:l.length<=14 <;> by_cases h2:l=[46] <;> by_cases h3:l=[46,46] <;> simp_all
theorem Jd:∀ (n:Nat) (a b:List UInt8),n<=a.length->n<=b.length->a.take n=b.take n->blt a b=blt (a.drop n) (b.drop n)
 | 0,a,b,_,_,_=>rfl
 | n+1,[],b,h,_,_=>by simp at h
 | n+1,_::_,[],_,h,_=>by simp at h
 | n+1,x::a,y::b,h1,h2,h3=>by
  simp only [List.take_succ_cons,List.cons.injEq] at h3;obtain ⟨rfl,h3⟩:=h3;have ih:=Jd n a b (by simpa using h1) (by simpa using h2) h3;rw [List.drop_succ_cons,List.drop_succ_cons,<-ih];rw [Bool.eq_iff_iff,xH]
  constructor
  ·rintro (h|⟨_,h⟩)
   ·exact absurd h (by simp [UInt8.lt_iff_toNat_lt])
   ·exact h
  ·exact λh=>.inr ⟨rfl,h⟩
theorem Qt (a b:List UInt8)(ha:a.length<=140737488351232)(hb:b.length<=140737488351232)(h:Heap):aC Tryz.prog 201 [.string ⟨a.toArray⟩,.string ⟨b.toArray⟩] h (λv h'=>Keeps [] h h'/\v=.bool (blt a b)):=by
 refine aG aH Tryz.func201 rfl ok201 (by simp [Tryz.f201]) ?_;(conv=>whnf);refine bP.on [0,1,5] [] (λi:Nat=>[(0,.v (.string ⟨a.toArray⟩)),(1,.v (.string ⟨b.toArray⟩)),(5,.v (.int .i64 (i:Int)))]) (λ_=>[]) (λi h'=>i<=a.length/\i<=b.length/\Keeps [] h h'/\a.take i=b.take i) (λi=>a.length-i) 0 ?_ ?_
 ·exact ⟨0,rfl,rfl,rfl,Nat.zero_le _,Nat.zero_le _,Keeps.refl _ _,by simp⟩
 ·rintro i h1 ⟨hia,hib,k1,he⟩;have hpre:=Jd i a b hia hib he;(conv=>whnf);refine aj.i (λhd=>?_) (λhd=>?_)
  ·have hi:i<a.length/\i<b.length:=by rw [dP,dP,dJ] at hd;simp at hd;omega
   have ga:a.drop i=a[i]::a.drop (i+1):=List.drop_eq_getElem_cons hi.1;have gb:b.drop i=b[i]::b.drop (i+1):=List.drop_eq_getElem_cons hi.2;(conv=>whnf);refine dO.i i rfl (by rw [dP];exact hi.1) ?_;(conv=>whnf);refine dO.i i rfl (by rw [dP];exact hi.2) ?_;(conv=>whnf);rw [qL,qL,List.getElem?_eq_getElem hi.1,List.getElem?_eq_getElem hi.2,Option.getD_some,Option.getD_some];refine aj.i (λhn=>?_) (λhn=>?_)
   ·have hne:a[i].toNat≠b[i].toNat:=by simp at hn;omega
    (conv=>whnf);refine dO.i i rfl (by rw [dP];exact hi.1) ?_;(conv=>whnf);refine dO.i i rfl (by rw [dP];exact hi.2) ?_;(conv=>whnf);rw [qL,qL,List.getElem?_eq_getElem hi.1,List.getElem?_eq_getElem hi.2,Option.getD_some,Option.getD_some];refine ⟨k1,?_⟩;rw [hpre,ga,gb]
    congr 1
    rw [Bool.eq_iff_iff,xH,UInt8.lt_iff_toNat_lt]
    constructor
    ·intro h;exact .inl (by simp at h;omega)
    ·rintro (h|⟨h,_⟩)
     ·simp;omega
     ·exact absurd (by rw [h]) hne
   ·have heq:a[i]=b[i]:=UInt8.toNat_inj.1 (by simp at hn;omega);(conv=>whnf);refine ⟨a.length-(i+1),by omega,?_⟩;(conv=>whnf);refine ⟨i+1,rfl,by rw [wrapN (n:=i+1) (by simp) (by omega)],rfl,by omega,by omega,k1,?_⟩;rw [List.take_succ_eq_append_getElem hi.1,List.take_succ_eq_append_getElem hi.2,he,heq]
  ·have hi:i=a.length\/i=b.length:=by rw [dP,dP,dJ] at hd;simp at hd;omega
   (conv=>whnf);refine ⟨k1,?_⟩;rw [hpre,dP,dP];rcases hi with hi|hi
   ·rw [show a.drop i=[] from List.drop_eq_nil_of_le (by omega)];cases hb2:b.drop i with
    | nil=>
     have:b.length<=i:=by
      have:=congrArg List.length hb2;simp at this;omega
     rw [Ap]
     congr 1
     exact decide_eq_false (by omega)
    | cons y r=>
     have:i<b.length:=by
      have:=congrArg List.length hb2;simp at this;omega
     show _=Value.bool true
     congr 1
     exact decide_eq_true (by omega)
   ·rw [show b.drop i=[] from List.drop_eq_nil_of_le (by omega),Ap]
    congr 1
    exact decide_eq_false (by omega)
def aP (l:List aF)(name:List UInt8):Nat:=(l.takeWhile λe=>blt e.name name).length
def dA (l:List aF)(name:List UInt8):Bool:=match l[aP l name]? with|some e=>decide (e.name=name)|none=>false
theorem vK (l:List aF)(name:List UInt8):aP l name<=l.length:=(List.takeWhile_prefix _).length_le
theorem IY {l:List aF}{name:List UInt8}{i:Nat}(hi:i<aP l name):∃ hl:i<l.length,blt (l[i]).name name=true:=by
 have hl:=vK l name;refine ⟨by omega,?_⟩;have hp:=List.takeWhile_prefix (p:=λe:aF=>blt e.name name) (l:=l);have:(l.takeWhile λe=>blt e.name name)[i]'hi=l[i]'(by omega):=hp.getElem hi;rw [<-this];exact List.all_eq_true.1 (List.all_takeWhile (p:=λe:aF=>blt e.name name) (l:=l)) _ (List.getElem_mem _)
theorem Qu {l:List aF}{name:List UInt8}{i:Nat}(hi:i<=aP l name)(hl:i<l.length)(h:blt (l[i]).name name=false):i=aP l name:=by
 rcases Nat.lt_or_ge i (aP l name) with h1|h1
 ·obtain ⟨_,h2⟩:=IY h1;rw [h] at h2;cases h2
 ·omega
theorem DK:∀ {l:List aF} {name:List UInt8} {i:Nat},i<=aP l name->(hl:i<l.length)->blt (l[i]).name name=true->i+1<=aP l name
 | [],_,_,_,hl,_=>by simp at hl
 | x::l,name,0,_,_,h=>by
  unfold aP;have h':blt x.name name=true:=h;rw [List.takeWhile_cons,if_pos h'];simp
 | x::l,name,i+1,hi,hl,h=>by
  by_cases hx:blt x.name name=true
  ·have e:aP (x::l) name=aP l name+1:=by unfold aP;rw [List.takeWhile_cons,if_pos hx];rfl
   rw [e] at hi ⊢;have:=DK (l:=l) (name:=name) (i:=i) (by omega) (by simpa using hl) (by simpa using h);omega
  ·have e:aP (x::l) name=0:=by unfold aP;rw [List.takeWhile_cons,if_neg hx];rfl
   omega
theorem xI {h:Heap}{a:Option Addr}{n c:Nat}{l:List aF}(S:Sl h a n c l)(hn:n<=1000000000)(name:List UInt8)(hnl:name.length<=140737488351232) :
 aC Tryz.prog 128 [.slice a n c,.string ⟨name.toArray⟩] h (λv h'=>Keeps [] h h'/\v=.tuple #[.int .i64 (aP l name:Int),.bool (dA l name)]):=by
 have hl:=S.hlen;refine aG aH Tryz.func128 rfl ok128 (by simp [Tryz.f128]) ?_;(conv=>whnf);refine bP.on [0,1,6] [] (λi:Nat=>[(0,.v (.slice a n c)),(1,.v (.string ⟨name.toArray⟩)),(6,.v (.int .i64 (i:Int)))]) (λ_=>[]) (λi h'=>i<=aP l name/\Keeps [] h h') (λi=>l.length-i) 0 ?_ ?_
 ·exact ⟨0,rfl,rfl,rfl,Nat.zero_le _,Keeps.refl _ _⟩
 ·rintro i h1 ⟨hi,k1⟩;have YP:=vK l name;have S1:=S.keep k1;rcases Nat.lt_or_ge i l.length with hlt|hge
  ·obtain ⟨b,off,hb,cs,⟨hcs,hok⟩,hcell⟩:=S1.at_ i hlt;subst hcs;(conv=>whnf);refine aX.i i rfl (by omega) hb ?_;(conv=>whnf);refine ax.i (v:=.string ⟨l[i].name.toArray⟩) (hcell 0 (by simp [aF.cells])) ?_;(conv=>whnf);refine aj.t (by simp;omega) ?_;(conv=>whnf);refine ak.i (Qt l[i].name name hok.1 hnl h1) λv h2 k2 hv=>?_;subst hv;(conv=>whnf);refine aj.i (λhd=>?_) (λhd=>?_)
   ·have hd2:blt l[i].name name=true:=by rw [dJ] at hd;simpa using (Bool.and_eq_true _ _ ▸ hd).2
    (conv=>whnf);refine ⟨l.length-(i+1),by omega,?_⟩;(conv=>whnf);exact ⟨i+1,rfl,by rw [wrapN (n:=i+1) (by simp) (by omega)],rfl,DK hi hlt hd2,k1.trans k2⟩
   ·have hd2:blt l[i].name name=false:=by
     rw [dJ] at hd;have:decide ((i:Int)<(n:Int))=true:=by simp;omega
     rw [this] at hd;simpa using hd
    have hik:=Qu hi hlt hd2;obtain ⟨b',off',hb',cs,⟨hcs,hok'⟩,hcell'⟩:=(S1.keep k2).at_ i hlt;subst hcs;(conv=>whnf);refine aX.i i rfl (by omega) hb' ?_;(conv=>whnf);refine ax.i (v:=.string ⟨l[i].name.toArray⟩) (hcell' 0 (by simp [aF.cells])) ?_;(conv=>whnf);refine ⟨k1.trans k2,?_⟩;have hpt:dA l name=decide (l[i].name=name):=by
     unfold dA;rw [<-hik,List.getElem?_eq_getElem hlt]
    rw [hpt,iZ,<-hik];have:decide ((i:Int)<(n:Int))=true:=by simp;omega
    rw [this];rfl
  ·have hik:i=aP l name:=by omega
   have hf:decide ((i:Int)<(n:Int))=false:=by simp;omega
   (conv=>whnf);refine aX.u 0 0 0 (λhx=>by rw [hf] at hx;cases hx) ?_;(conv=>whnf);refine ax.u (.string ⟨#[]⟩) (λhx=>by rw [hf] at hx;cases hx) ?_;(conv=>whnf);refine aj.f hf ?_;(conv=>whnf);refine aj.f (by rw [hf];rfl) ?_;(conv=>whnf);refine aX.u 0 0 0 (λhx=>by rw [hf] at hx;cases hx) ?_;(conv=>whnf);refine ax.u (.string ⟨#[]⟩) (λhx=>by rw [hf] at hx;cases hx) ?_;(conv=>whnf);refine ⟨k1,?_⟩;have hpt:dA l name=false:=by
    unfold dA;rw [<-hik,List.getElem?_eq_none (by omega)]
   rw [hpt,<-hik,hf];rfl
def jc (l:List (Int×UInt64)):List Value:=l.flatMap λp=>[.int .i64 p.1,wv p.2]
theorem Cc (l:List (Int×UInt64)):(jc l).length=l.length*2:=by
 induction l with
 | nil=>rfl
 | cons x l ih=>simp only [jc,List.flatMap_cons,List.length_append,List.length_cons,List.length_nil] at ih ⊢;omega
theorem Uq (l m:List (Int×UInt64)):jc (l++m)=jc l++jc m:=by simp [jc]
def LW:Prop:=∀ (h:Heap) (a:Option Addr) (n c:Nat) (l:List (Int×UInt64)),Own h 124 2 a n c (jc l)->l.length<=2824->(∀ p∈l,0<=p.1/\p.1<4096) ->
 aC Tryz.prog 69 [.slice a n c,.func (.func 70) #[] #[]] h (λv h'=>Keeps (ay a) h h'/\v=.tuple #[]/\∃ l',l'.Perm l/\l'.Pairwise (λx y=>x.1<=y.1)/\Own h' 124 2 a n c (jc l'))
def iE (now old:Int->UInt64):List (Int×UInt64):=((List.range 2824).filter λ(i:Nat)=>decide (now (i:Int)≠old (i:Int))).map λ(i:Nat)=>((i:Int),now (i:Int))
theorem Cb {a:Int}(h:jR a=true):0<=a/\a<2824:=by
 simp [jR] at h;omega
theorem wK:∀ {l:List (Int×UInt64)} {p:Int×UInt64},(l.map (·.1)).Nodup->p∈l->lk l p.1=some p.2
 | [],p,_,h=>nomatch h
 | (k,v)::l,p,hn,h=>by
  simp only [List.map_cons,List.nodup_cons] at hn;unfold lk;rcases List.mem_cons.1 h with rfl|h
  ·rw [if_pos rfl]
  ·rw [if_neg (λe=>hn.1 (by rw [<-e];exact List.mem_map_of_mem h))];exact wK hn.2 h
theorem LY:∀ {l:List (Int×UInt64)} {k:Int} {w:UInt64},lk l k=some w->(k,w)∈l
 | [],k,w,h=>by cases h
 | (k',v)::l,k,w,h=>by
  unfold lk at h;split at h
  ·rename_i e;subst e;cases h;exact List.mem_cons_self
  ·exact List.mem_cons_of_mem _ (LY h)
theorem LZ {α β:Type}(f:α->β):∀ {l:List α},(l.map f).Nodup->l.Nodup
 | [],_=>List.nodup_nil
 | x::l,h=>by
  simp only [List.map_cons,List.nodup_cons] at h;exact List.nodup_cons.2 ⟨λhx=>h.1 (List.mem_map_of_mem hx),LZ f h.2⟩
theorem Ur {l:List (Int×UInt64)}(hn:(l.map (·.1)).Nodup)(ho:∀ p∈l,jR p.1=true):l.length<=2824:=by
 have h1:(l.map (·.1)) ⊆ (List.range 2824).map λ(i:Nat)=>(i:Int):=by
  intro x hx;obtain ⟨p,hp,rfl⟩:=List.mem_map.1 hx;have:=Cb (ho p hp);exact List.mem_map.2 ⟨p.1.toNat,by simp;omega,by omega⟩
 have:=hn.length_le_of_subset h1;simpa using this
theorem L8 (now old:Int->UInt64):(iE now old).Pairwise (λx y=>x.1<y.1):=by
 unfold iE;rw [List.pairwise_map];exact (List.pairwise_lt_range.filter _).imp λh=>by simpa using h
theorem Us {own l:List (Int×UInt64)}{now old:Int->UInt64}(hn:(own.map (·.1)).Nodup)(ho:∀ a,lk own a≠none->jR a=true)(hx:∀ a,now a=(lk own a).getD (old a))
 (hp:l.Perm (own.filter λp=>decide (p.2≠old p.1))) (hs:l.Pairwise (λx y=>x.1<=y.1)):l=iE now old:=by
 have hmem:∀ p,p∈l↔p∈iE now old:=by
  intro p;rw [hp.mem_iff,List.mem_filter];unfold iE;simp only [List.mem_map,List.mem_filter,List.mem_range,decide_eq_true_eq]
  constructor
  ·rintro ⟨h1,h2⟩;have hl:=wK hn h1;have hr:=Cb (ho p.1 (by rw [hl];simp));have hw:=hx p.1;rw [hl] at hw;have e:((p.1.toNat:Nat):Int)=p.1:=by omega
   refine ⟨p.1.toNat,⟨by omega,?_⟩,?_⟩
   ·rw [e,hw];exact h2
   ·rw [e,hw];rfl
  ·rintro ⟨i,⟨_,h1⟩,rfl⟩;have hw:=hx (i:Int);cases hl:lk own (i:Int) with
   | none=>rw [hl] at hw;exact absurd hw h1
   | some w=>
    rw [hl] at hw;have hw':now (i:Int)=w:=hw;rw [hw'] at h1 ⊢;exact ⟨LY hl,h1⟩
 have hnl:l.Nodup:=hp.symm.nodup (LZ (·.1) hn |>.sublist List.filter_sublist);have hnc:(iE now old).Nodup:=(L8 now old).imp λh e=>by rw [e] at h;omega
 refine List.Perm.eq_of_pairwise (le:=λx y=>x.1<=y.1) ?_ hs ((L8 now old).imp λh=>Int.le_of_lt h) ((List.perm_ext_iff_of_nodup hnl hnc).2 hmem);intro x y h1 h2 h3 h4;have e:x.1=y.1:=by omega
 have k1:x∈own:=(List.mem_filter.1 (hp.mem_iff.1 h1)).1;have k2:y∈own:=(List.mem_filter.1 (hp.mem_iff.1 ((hmem y).2 h2))).1;have l1:=wK hn k1;have l2:=wK hn k2;rw [e,l2] at l1;exact Prod.ext e (Option.some.inj l1).symm
theorem L9 {m:List (Int×UInt64)}{R1 R2:List (Int×Value)}{p:Int×Value}(h:fJ m=R1++p::R2):∃ m1 q m2,m=m1++q::m2/\R1=fJ m1/\R2=fJ m2/\p=(q.1,wv q.2):=by
 unfold fJ at h;obtain ⟨m1,m',rfl,h1,h2⟩:=List.map_eq_append_iff.1 h;obtain ⟨q,m2,rfl,h3,h4⟩:=List.map_eq_cons_iff.1 h2;exact ⟨m1,q,m2,rfl,h1.symm,h4.symm,h3.symm⟩
theorem Ut (hsort:LW){h:Heap}{V:VL}{M:aS}{X:VS}(A:At h V M X):aC Tryz.prog 25 [.pointer (some ⟨V.v,0,none⟩)] h (λv h'=>Keeps [] h h' /\
 ∃ a c,v=.slice a (iE X.now M.read).length c/\(∀ b∈ay a,h.size<=b)/\Own h' 124 2 a (iE X.now M.read).length c (jc (iE X.now M.read))):=by
 obtain ⟨own,O,hx,ho⟩:=A.own;have hn:(own.map (·.1)).Nodup:=by
  obtain ⟨es,cl,_,_,g,_⟩:=O;have:(fJ own).map (·.1)=own.map (·.1):=by simp [fJ]
  rw [this] at g;exact g
 have hop:∀ p∈own,jR p.1=true:=λp hp=>ho p.1 (by rw [wK hn hp];simp);have hlen:=Ur hn hop;have Y0:=A.blt V.ob (by simp [VL.blocks]);refine aG aH Tryz.func25 rfl ok25 (by simp [Tryz.f25]) ?_;(conv=>whnf);refine aj.f rfl ?_;(conv=>whnf);refine ax.o A.obj rfl ?_;(conv=>whnf);refine aW.range rfl O λit hR ei si ki IR=>?_;have AR:=A.on ki;(conv=>whnf);refine bP.on [0,3,12] [] (λq:List (Int×UInt64)×List (Int×UInt64)×Option Addr×Nat=>[(0,.v (.pointer (some ⟨V.v,0,none⟩))),(3,.v (.slice q.2.2.1 (q.2.1.filter λp=>decide (p.2≠M.read p.1)).length q.2.2.2)),(12,.v (.pointer (some ⟨it,0,none⟩)))])
  (λ_=>[]) (λq h'=>Keeps [it] hR h'/\(∃ last,oG h' it V.ob (fJ q.1) last)/\(q.2.1++q.1).Perm own/\Own h' 124 2 q.2.2.1 (q.2.1.filter λp=>decide (p.2≠M.read p.1)).length q.2.2.2 (jc (q.2.1.filter λp=>decide (p.2≠M.read p.1)))/\∀ b∈ay q.2.2.1,hR.size<=b) (λq=>q.1.length) (own,[],none,0) ?_ ?_
 ·(conv=>whnf);exact ⟨(own,[],none,0),rfl,rfl,rfl,Keeps.refl _ _,⟨none,IR⟩,List.Perm.refl _,Own.nil _ _ _,by simp [ay]⟩
 ·rintro ⟨R,D,a,ca⟩ h2 ⟨k2,⟨last,I2⟩,pm,O2,n2⟩;simp only at I2 pm O2 n2;have A2:=AR.keep k2 (by intro b hb hx;have:=A.blt b hb;simp at hx;omega);(conv=>whnf);refine aW.next I2 (by simp [au]) (by omega) (λhR0=>?_) (λR1 p R2 h3 hRR s3 k3 I3=>?_)
  ·have hR1:R=[]:=by simpa [fJ] using hR0
   subst hR1;rw [List.append_nil] at pm;(conv=>whnf);refine aj.f rfl ?_;have pf:=pm.filter λp=>decide (p.2≠M.read p.1);have hpl:=pf.length_eq;have hfl:(own.filter λp=>decide (p.2≠M.read p.1)).length<=own.length:=List.length_filter_le _ _;(conv=>whnf);refine ak.m (hsort h2 a _ ca _ O2 (by omega) (λp hp=>?_)) (by simp [au]) λv h4 k4 hv=>?_
   ·have:=Cb (hop p (List.mem_filter.1 (pf.mem_iff.1 hp)).1);omega
   obtain ⟨rfl,l',q1,q2,O4⟩:=hv;(conv=>whnf);have hl':l'=iE X.now M.read:=Us hn ho hx (q1.trans pf) q2;have hll:(D.filter λp=>decide (p.2≠M.read p.1)).length=(iE X.now M.read).length:=by rw [<-hl'];exact q1.length_eq.symm
   rw [hl',hll] at O4;rw [hll];have k04:Keeps [] h h4:=(ki.new1 k2 (by omega)).cZ k4 (λx hx=>by have:=n2 x hx;omega);exact ⟨k04,a,ca,rfl,λb hb=>by have:=n2 b hb;omega,O4⟩
  ·obtain ⟨m1,q,m2,rfl,rfl,rfl,rfl⟩:=L9 hRR;(conv=>whnf);refine aj.t rfl ?_;(conv=>whnf);refine aW.entry I3 ?_;have A3:=A2.keep k3 (by intro b hb hx;have:=A.blt b hb;simp at hx;omega);(conv=>whnf);refine ax.o A3.obj rfl ?_;(conv=>whnf);refine ak.i (Bn A3.mem q.1) λv h4 k4 hv=>?_;subst hv;have k24:=k3.bS k4;have z3:=k2.size;have z4:=k4.size;have I4:=I3.keep k4 (by simp) (by simp);have O4:=(O2.keep k3 (by intro b hb hx;have:=n2 b hb;simp at hx;omega)).keep k4 (by simp);have Ma:((D++[q])++(m1++m2)).Perm own:=by
    refine List.Perm.trans ?_ pm;rw [List.append_assoc];exact List.Perm.append_left D (show (q::(m1++m2)).Perm (m1++q::m2) from List.perm_middle.symm)
   have hmw:fJ m1++fJ m2=fJ (m1++m2):=List.map_append.symm;rw [hmw] at I4;(conv=>whnf);(try refine aV.pass ?_;conv=>whnf);refine aj.i (λhc=>?_) (λhc=>?_)
   ·have hne:q.2≠M.read q.1:=by
     intro e;rw [e] at hc;simp at hc
    (conv=>whnf);refine aL.i λb5 h5 e5 s5 o5 k5=>?_;have Y1:(D.filter λp=>decide (p.2≠M.read p.1)).length<=2824:=by
     have h1:=List.length_filter_le (λp:Int×UInt64=>decide (p.2≠M.read p.1)) D;have h2:=pm.length_eq;simp only [List.length_append] at h2;omega
    (conv=>whnf);refine jO (e:=124) (sz:=2) (aQ:=16) (new:=[.int .i64 q.1,wv q.2]) rfl rfl rfl rfl rfl rfl rfl (O4.keep k5 (by simp)) rfl ?_ rfl (by omega) (by omega) ?_ ?_
    ·intro j hj;have yx:h5[b5]?=some (.cells ⟨[.int .i64 q.1,wv q.2]⟩ 124 (0,0)):=o5;simp only [Heap.cell?,yx,Nat.zero_add];simp
    ·intro b hb hx;cases hx
    intro a6 c6 h6 O6 k6 n6;(conv=>whnf);refine ⟨(m1++m2).length,by simp,?_⟩;(conv=>whnf);have hf:((D++[q]).filter λp=>decide (p.2≠M.read p.1))=(D.filter λp=>decide (p.2≠M.read p.1))++[q]:=by simp [List.filter_append,hne]
    refine ⟨(m1++m2,D++[q],a6,c6),rfl,?_,rfl,?_,⟨_,(I4.keep k5 (by simp) (by simp)).keep k6 (λhx=>by have:=n2 _ hx;omega) (λhx=>by have:=n2 _ hx;omega)⟩,Ma,?_,?_⟩
    ·simp only [hf,List.length_append,List.length_cons,List.length_nil]
    ·exact ((k2.trans k24).bS k5).gQ k6 (λx hx=>.inr (n2 x hx))
    ·simp only [hf,List.length_append,List.length_cons,List.length_nil,Uq];exact O6
    ·intro b hb;have z5:=k5.size;rcases n6 b hb with h|h
     ·exact n2 b h
     ·omega
   ·have he:q.2=M.read q.1:=by
     simp at hc;exact UInt64.toNat_inj.1 (by omega)
    (conv=>whnf);refine ⟨(m1++m2).length,by simp,?_⟩;(conv=>whnf);have hf:((D++[q]).filter λp=>decide (p.2≠M.read p.1))=D.filter λp=>decide (p.2≠M.read p.1):=by simp [List.filter_append,he]
    refine ⟨(m1++m2,D++[q],a,ca),rfl,?_,rfl,k2.trans k24,⟨_,I4⟩,Ma,?_,n2⟩
    ·simp only [hf]
    ·simp only [hf];exact O4
end Go.Proofs.YtoociceebodfeaaGreatDoor
namespace Go.Proofs.YtoociceebodfeaaGreatDoor
open Go Go.Shelf
def Uo:Go.Shelf.Ren:=⟨fun|6=>69|15=>118|14=>117|28=>191|29=>192|20=>183|21=>184|22=>185|23=>186|24=>187|25=>188|26=>189|27=>190|46=>237|47=>238|48=>239|49=>240|50=>241|57=>271|n=>n,fun|22=>61|24=>124|25=>126|3=>3|39=>183|0=>0|53=>258|55=>46|4=>4|46=>252|45=>251|50=>200|5=>5|9=>9|66=>294|70=>298|76=>324|77=>325|n=>n,λn=>n⟩
theorem LX:SlLaysF0.n6 Tryz.prog Uo:={
 mixed:=by kernel_rfl,
 f6:=⟨Tryz.f69.name,by decide,Tryz.func69.trans (congrArg some (by kernel_rfl))⟩,
 f14:=⟨Tryz.f117.name,by decide,Tryz.func117.trans (congrArg some (by kernel_rfl))⟩,
 f15:=Tryz.func118.trans (congrArg some (by kernel_rfl)),
 f20:=⟨Tryz.f183.name,by decide,Tryz.func183.trans (congrArg some (by kernel_rfl))⟩,
 f21:=⟨Tryz.f184.name,by decide,Tryz.func184.trans (congrArg some (by kernel_rfl))⟩,
 f22:=⟨Tryz.f185.name,by decide,Tryz.func185.trans (congrArg some (by kernel_rfl))⟩,
 f23:=⟨Tryz.f186.name,by decide,Tryz.func186.trans (congrArg some (by kernel_rfl))⟩,
 f24:=⟨Tryz.f187.name,by decide,Tryz.func187.trans (congrArg some (by kernel_rfl))⟩,
 f25:=⟨Tryz.f188.name,by decide,Tryz.func188.trans (congrArg some (by kernel_rfl))⟩,
 f26:=⟨Tryz.f189.name,by decide,Tryz.func189.trans (congrArg some (by kernel_rfl))⟩,
 f27:=⟨Tryz.f190.name,by decide,Tryz.func190.trans (congrArg some (by kernel_rfl))⟩,
 f28:=Tryz.func191.trans (congrArg some (by kernel_rfl)),
 f29:=Tryz.func192.trans (congrArg some (by kernel_rfl)),
 f46:=⟨Tryz.f237.name,by decide,Tryz.func237.trans (congrArg some (by kernel_rfl))⟩,
 f47:=Tryz.func238.trans (congrArg some (by kernel_rfl)),
 f48:=Tryz.func239.trans (congrArg some (by kernel_rfl)),
 f49:=⟨Tryz.f240.name,by decide,Tryz.func240.trans (congrArg some (by kernel_rfl))⟩,
 f50:=⟨Tryz.f241.name,by decide,Tryz.func241.trans (congrArg some (by kernel_rfl))⟩,
 f57:=⟨Tryz.f271.name,by decide,Tryz.func271.trans (congrArg some (by kernel_rfl))⟩,
 t0:=Tryz.underlying0,
 a0:=Tryz.isAgg0,
 z0:=Tryz.sizeOf0,
 v0:=Tryz.zeroValue0,
 t3:=Tryz.underlying3,
 a3:=Tryz.isAgg3,
 z3:=Tryz.sizeOf3,
 v3:=Tryz.zeroValue3,
 t4:=Tryz.underlying4,
 a4:=Tryz.isAgg4,
 z4:=Tryz.sizeOf4,
 v4:=Tryz.zeroValue4,
 t5:=Tryz.underlying5,
 a5:=Tryz.isAgg5,
 z5:=Tryz.sizeOf5,
 v5:=Tryz.zeroValue5,
 t9:=Tryz.underlying9,
 a9:=Tryz.isAgg9,
 z9:=Tryz.sizeOf9,
 v9:=Tryz.zeroValue9,
 t22:=Tryz.underlying61,
 a22:=Tryz.isAgg61,
 z22:=Tryz.sizeOf61,
 v22:=Tryz.zeroValue61,
 t25:=Tryz.underlying126,
 a25:=Tryz.isAgg126,
 z25:=Tryz.sizeOf126,
 v25:=Tryz.zeroValue126,
 t39:=Tryz.underlying183,
 a39:=Tryz.isAgg183,
 z39:=Tryz.sizeOf183,
 v39:=Tryz.zeroValue183,
 t45:=Tryz.underlying251,
 a45:=Tryz.isAgg251,
 z45:=Tryz.sizeOf251,
 v45:=Tryz.zeroValue251,
 t46:=Tryz.underlying252,
 a46:=Tryz.isAgg252,
 z46:=Tryz.sizeOf252,
 v46:=Tryz.zeroValue252,
 t50:=Tryz.underlying200,
 a50:=Tryz.isAgg200,
 z50:=Tryz.sizeOf200,
 v50:=Tryz.zeroValue200,
 t53:=Tryz.underlying258,
 a53:=Tryz.isAgg258,
 z53:=Tryz.sizeOf258,
 v53:=Tryz.zeroValue258,
 t55:=Tryz.underlying46,
 a55:=Tryz.isAgg46,
 z55:=Tryz.sizeOf46,
 v55:=Tryz.zeroValue46,
 t66:=Tryz.underlying294,
 a66:=Tryz.isAgg294,
 z66:=Tryz.sizeOf294,
 v66:=Tryz.zeroValue294,
 t70:=Tryz.underlying298,
 a70:=Tryz.isAgg298,
 z70:=Tryz.sizeOf298,
 v70:=Tryz.zeroValue298,
 t76:=Tryz.underlying324,
 a76:=Tryz.isAgg324,
 z76:=Tryz.sizeOf324,
 v76:=Tryz.zeroValue324,
 t77:=Tryz.underlying325,
 a77:=Tryz.isAgg325,
 z77:=Tryz.sizeOf325,
 v77:=Tryz.zeroValue325 }
end Go.Proofs.YtoociceebodfeaaGreatDoor
set_option maxHeartbeats 2000000
namespace Go.Proofs.YtoociceebodfeaaGreatDoor
open Go Go.aN Go.Shelf Go.RowKit Go.Sort
def encS (x:Fin 4096×UInt64):List Value:=[.int .i64 (x.1.val:Int),wv x.2]
def pJ (x y:Fin 4096×UInt64):Int:=(x.1.val:Int)-y.1.val
theorem Uk (x y:Fin 4096×UInt64)(W:World):Calls Tryz.prog 70 #[.agg #[.int .i64 (x.1.val:Int),wv x.2],.agg #[.int .i64 (y.1.val:Int),wv y.2]] W λe w'=>e=.returned (.int .i64 (pJ x y))/\∃ q os',w'=grow (W.drewN q) os':=by
 obtain ⟨x,v⟩:=x;obtain ⟨y,u⟩:=y;have hw:IntKind.i64.wrap ((x.val:Int)-y.val)=(x.val:Int)-y.val:=by
  have:=x.isLt;have:=y.isLt;exact dR (by omega) (by omega)
 unfold pJ wv;simp only;generalize (v.toNat:Int)=v at *;generalize (u.toNat:Int)=u at *;generalize (x.val:Int)=x at *;generalize (y.val:Int)=y at *
 go_enter Tryz.func70,Tryz.ntmps70
 go_wp2
 go_ret
 exact ⟨rfl,0,_,by rw [alloc_eq_grow,alloc_eq_grow,grow_grow];rfl⟩
theorem Ul:SWO (ltOf pJ) where
 irrefl x:=decide_eq_false (by unfold pJ;omega)
 trans x y z h1 h2:=by
  have a:=of_decide_eq_true h1;have b:=of_decide_eq_true h2;unfold pJ at a b;exact decide_eq_true (by unfold pJ;omega)
 ntrans x y z h1 h2:=by
  have a:=of_decide_eq_false h1;have b:=of_decide_eq_false h2;unfold pJ at a b;exact decide_eq_false (by unfold pJ;omega)
def nV (x:Fin 4096×UInt64):Int×UInt64:=((x.1.val:Int),x.2)
def toS (p:Int×UInt64):Fin 4096×UInt64:=(⟨p.1.toNat%4096,Nat.mod_lt _ (by decide)⟩,p.2)
theorem Um {p:Int×UInt64}(h:0<=p.1/\p.1<4096):nV (toS p)=p:=by
 unfold nV toS;have:(((p.1.toNat%4096:Nat)):Int)=p.1:=by omega
 exact Prod.ext this rfl
theorem LU:∀ (l:List (Fin 4096×UInt64)) (j:Nat) (h:j<l.length*2),(jc (l.map nV))[j]?=(encS (l[j/2]'(by omega)))[j%2]?
 | [],j,h=>by simp at h
 | x::l,0,h=>rfl
 | x::l,1,h=>rfl
 | x::l,j+2,h=>by
  have h':j<l.length*2:=by simp at h;omega
  have ih:=LU l j h';have e1:(j+2)/2=j/2+1:=by omega
  have e2:(j+2)%2=j%2:=by omega
  simp only [e1,e2,List.getElem_cons_succ];rw [<-ih];rfl
theorem LV (d:Array (Fin 4096×UInt64)):flatK encS 2 d=⟨jc (d.toList.map nV)⟩:=by
 have hl:=Cc (d.toList.map nV);simp at hl;apply Array.ext
 ·rw [size_flatK];show d.size*2=(jc (d.toList.map nV)).length;omega
 ·intro j h1 h2;have hj:j<d.size*2:=by rw [size_flatK] at h1;exact h1
  have g:=LU d.toList j (by simpa using hj);have hd:j/2<d.size:=by omega
  have hm:j%2<(encS d[j/2]).length:=by unfold encS;simp;omega
  have e1:=get_flatK encS 2 d j hj;rw [getElem!_pos (flatK encS 2 d) j h1,getElem!_pos d (j/2) hd,getElem!_pos (encS d[j/2]) (j%2) hm] at e1;rw [e1];show _=(jc (d.toList.map nV))[j];have h3:j<(jc (d.toList.map nV)).length:=by omega
  rw [List.getElem?_eq_getElem h3] at g;have g2:(encS (d.toList[j/2]'(by simpa using hd)))[j%2]?=some (encS d[j/2])[j%2]:=by
   rw [Array.getElem_toList];exact List.getElem?_eq_getElem hm
  rw [g2] at g;exact (Option.some.inj g).symm
theorem Un:LW:=by
 intro h a n c l O hlen hr w hw;subst hw;have eg:∀ args w,(callFunc 70 args).run Tryz.prog w=.ok (.enter 70 args) w:=enters_of Tryz.func70 (by kernel_rfl) rfl;have hcl:=Cc l;rcases O with ⟨rfl,rfl,rfl,hl⟩|⟨b,cs,rfl,ho,ht,h1,h2,h3⟩
 ·have:l=[]:=List.eq_nil_of_length_eq_zero (by rw [hl] at hcl;simp at hcl;omega);subst this;refine (AnyF.slices_SortFunc_none LX none 0 (.func (.func 70) #[] #[]) w).mono λe w' ⟨he,hw⟩=>?_;subst hw;exact ⟨_,he,dG.refl _,Keeps.refl _ _,rfl,[],List.Perm.refl _,List.Pairwise.nil,.inl ⟨rfl,rfl,rfl,rfl⟩⟩
 ·let d:Array (Fin 4096×UInt64):=(l.map toS).toArray
  have hds:d.size=l.length:=by simp [d]
  have hmap:d.toList.map nV=l:=by
   simp only [d,List.map_map]
   conv=>rhs;rw [<-List.map_id l]
   exact List.map_congr_left λp hp=>Um (hr p hp)
  have hn:n=d.size:=by omega
  subst hn;have hfl:flatK encS 2 d=⟨jc l⟩:=by rw [LV,hmap]
  have hH:HoldsK encS 2 w b 0 d:=by
   intro j hj;rw [size_flatK] at hj;have hjl:j<(jc l).length:=by omega
   have hjc:j<cs.length:=by
    have:d.size*2<=c*2:=by omega
    omega
   constructor
   ·have e:(flatK encS 2 d)[j]! = (jc l)[j]:=by
     rw [hfl,getElem!_pos _ j (by simpa using hjl)];rfl
    show w.cell? ⟨b,0+j,none⟩=some (flatK encS 2 d)[j]!;rw [e];have e2:(jc l)[j]=cs[j]:=by
     have:(cs.take (jc l).length)[j]?=(jc l)[j]?:=by rw [ht]
     rw [List.getElem?_take,if_pos hjl,List.getElem?_eq_getElem hjc,List.getElem?_eq_getElem hjl] at this;exact (Option.some.inj this).symm
    rw [e2];simp only [World.cell?,ho,Nat.zero_add];simp [hjc]
   ·simp [World.frozen?,ho]
  have hblk:b<w.heap.size:=eU ho;have hcmp:CmpLays Tryz.prog 70 #[] encS 2 pJ b 0 d.size w:=λ_ _ _ _ x y=>Uk x y _;refine (AnyQ.slices_SortFunc LX 2 Tryz.isAgg124 Tryz.sizeOf124 encS (λ_=>rfl) (λx v hv=>by simp [encS] at hv;rcases hv with rfl|rfl <;> rfl) pJ Ul 70 #[] b 0 c d w eg hcmp hH hblk (by omega)).mono λe w' ⟨he,d',m,os,hp,hs,hw⟩=>?_;subst hw;have hds':d'.size=d.size:=hp.1;have hperm:d'.toList.Perm d.toList:=by
   have:=hp.2.2;rw [Array.extract_eq_self_of_le (Nat.le_refl _)] at this
   rwa [<-hds',Array.extract_eq_self_of_le (Nat.le_refl _)] at this
  have hheap:(sortWorldK encS 2 w b 0 m d' os).heap=w.heap.modify b (onCells (putCells id 0 (flatK encS 2 d')))++os:=rfl;refine ⟨_,he,⟨rfl,rfl,rfl⟩,⟨?_,?_⟩,rfl,d'.toList.map nV,?_,?_,?_⟩
  ·rw [hheap];simp
  ·intro x hx hxb;rw [hheap,Array.getElem?_append_left (by simpa using hx),Array.getElem?_modify];simp [ay] at hxb;rw [if_neg (λe=>hxb e.symm)]
  ·rw [<-hmap];exact hperm.map nV
  ·rw [List.pairwise_map,List.pairwise_iff_getElem];intro i j hi hj hij;have hj2:j<d'.size:=by simpa using hj
   have hi2:i<d'.size:=by omega
   have:=hs i j (Nat.zero_le _) hij (by omega);rw [getElem!_pos d' i hi2,getElem!_pos d' j hj2] at this;have h:=of_decide_eq_false this;unfold pJ at h;simp only [Array.getElem_toList,nV];omega
  ·refine .inr ⟨b,(putCells id 0 (flatK encS 2 d') ⟨cs⟩).toList,rfl,?_,?_,?_,?_,h3⟩
   ·rw [hheap,Array.getElem?_append_left (by simpa using hblk),Array.getElem?_modify,if_pos rfl,ho];rfl
   ·have hl2:=Cc (d'.toList.map nV);simp at hl2;rw [LV];apply List.ext_getElem
    ·simp [putCells];omega
    ·intro j hj1 hj2;have hjc:j<cs.length:=by simp [putCells] at hj1;omega
     simp only [List.getElem_take,putCells,Array.toList_mapIdx,List.getElem_mapIdx];rw [if_pos ⟨Nat.zero_le _,by simpa using hj2⟩];simp only [id,Nat.sub_zero];rw [getElem!_pos _ j (by simpa using hj2)];rfl
   ·simp [putCells];exact h1
   ·rw [Cc];simp [hds']
end Go.Proofs.YtoociceebodfeaaGreatDoor
namespace Go.Proofs.YtoociceebodfeaaGreatDoor
open Go Go.aN
theorem Ug {M:aS}(hu:M.gy = -1){i:Int}(hi:M.there i=true)(w:UInt64):(M.store i w).2={ M with calls:=IntKind.i64.wrap (M.calls+1),loose:=gY M.loose i w }:=by
 unfold aS.store aS.call;rw [hi,hu];rfl
def nU (M:aS)(l:List (Int×UInt64)):aS:=l.foldl (λM p=>(M.store p.1 p.2).2) M
theorem LM (now:Int->UInt64):∀ (l:List (Int×UInt64)) (M:aS),M.gy = -1->M.sure.length=2824->(∀ p∈l,(0<=p.1/\p.1<2824)/\p.2=now p.1) ->
 (nU M l).gy = -1/\(nU M l).sure.length=2824/\∀ a,(nU M l).read a=if a∈l.map (·.1) then now a else M.read a
 | [],M,hu,hs,_=>⟨hu,hs,λa=>by simp [nU]⟩
 | p::l,M,hu,hs,h=>by
  obtain ⟨hp,hw⟩:=h p List.mem_cons_self;have ht:M.there p.1=true:=by unfold aS.there;rw [hs];simp;omega
  have e:=Ug hu ht p.2;obtain ⟨i1,i2,i3⟩:=LM now l (M.store p.1 p.2).2 (by rw [e];exact hu) (by rw [e];exact hs) (λq hq=>h q (List.mem_cons_of_mem _ hq));refine ⟨i1,i2,λa=>?_⟩;show (nU (M.store p.1 p.2).2 l).read a=_;rw [i3 a];have hr:(M.store p.1 p.2).2.read a=if a=p.1 then p.2 else M.read a:=by
   rw [e];have hth:∀ x,aS.there { M with calls:=IntKind.i64.wrap (M.calls+1),loose:=gY M.loose p.1 p.2 } x=M.there x:=λ_=>rfl;unfold aS.read;rw [hth];simp only [su];by_cases ha:a=p.1
   ·subst ha;simp [ht]
   ·simp [ha]
  by_cases h1:a∈l.map (·.1)
  ·rw [if_pos h1,if_pos (by simp only [List.map_cons,List.mem_cons];exact .inr h1)]
  ·rw [if_neg h1,hr];by_cases h2:a=p.1
   ·rw [if_pos h2,if_pos (by simp only [List.map_cons,List.mem_cons];exact .inl h2),h2,hw]
   ·rw [if_neg h2,if_neg (by simp only [List.map_cons,List.mem_cons];rintro (x|x);exact h2 x;exact h1 x)]
theorem LP {now old:Int->UInt64}{p:Int×UInt64}(h:p∈iE now old):(0<=p.1/\p.1<2824)/\p.2=now p.1:=by
 unfold iE at h;simp only [List.mem_map,List.mem_filter,List.mem_range] at h;obtain ⟨i,⟨h1,_⟩,rfl⟩:=h;exact ⟨⟨by simp,by simp;omega⟩,rfl⟩
theorem Uh {now old:Int->UInt64}{a:Int}:a∈(iE now old).map (·.1)↔(0<=a/\a<2824)/\now a≠old a:=by
 unfold iE;simp only [List.map_map,List.mem_map,List.mem_filter,List.mem_range,decide_eq_true_eq,Function.comp]
 constructor
 ·rintro ⟨i,⟨h1,h2⟩,rfl⟩;exact ⟨⟨by omega,by omega⟩,h2⟩
 ·rintro ⟨⟨h0,h1⟩,h2⟩;refine ⟨a.toNat,⟨by omega,?_⟩,by omega⟩
  rwa [show ((a.toNat:Nat):Int)=a by omega]
theorem Ui {h:Heap}{V:VL}{M:aS}{X:VS}(A:At h V M X)(hu:M.gy = -1)(hs:M.sure.length=2824) :
 (nU M (iE X.now M.read)).gy = -1/\(nU M (iE X.now M.read)).sure.length=2824/\(nU M (iE X.now M.read)).read=X.now:=by
 obtain ⟨i1,i2,i3⟩:=LM X.now (iE X.now M.read) M hu hs λp hp=>LP hp;refine ⟨i1,i2,funext λa=>?_⟩;rw [i3 a];by_cases h1:a∈(iE X.now M.read).map (·.1)
 ·rw [if_pos h1]
 ·rw [if_neg h1];obtain ⟨own,_,hx,ho⟩:=A.own;cases hl:lk own a with
  | none=>rw [hx a,hl];rfl
  | some w=>
   have hr:=Cb (ho a (by rw [hl];simp));rw [Uh] at h1;exact (Classical.byContradiction λh=>h1 ⟨hr,λe=>h e.symm⟩)
theorem At.store {h h':Heap}{V:VL}{M M':aS}{X:VS}(A:At h V M X)(hab:V.ab=none)(jI:V.jY=none)(k:Keeps [V.mem.m,V.mem.lb] h h')(R:fT h' V.mem M'):∃ now,At h' V M' { X with now:=now }:=by
 obtain ⟨own,O,hx,ho⟩:=A.own;have nb:∀ b∈[V.v,V.ob,V.sb,V.mb],b∉[V.mem.m,V.mem.lb]:=by
  intro b hb hm;refine A.ap2 b hb ?_;simp only [ML.blocks];simp at hm ⊢;rcases hm with h|h <;> simp [h]
 exact ⟨λa=>(lk own a).getD (M'.read a),{
  mem:=R
  obj:=k.obj A.obj (nb V.v (by simp))
  own:=⟨own,O.keep k (nb V.ob (by simp)),λa=>rfl,ho⟩
  seen:=A.seen.keep k (nb V.sb (by simp))
  mine:=A.mine.keep k (nb V.mb (by simp))
  away:=A.away.keep k (by rw [hab];simp)
  bG:=A.bG.keep k (by rw [jI];simp)
  ap1:=A.ap1
  ap2:=A.ap2
  ap3:=A.ap3
  bH:=A.bH }⟩
theorem LQ (h:Heap):∀ l:List (Int×UInt64),(∀ p∈l,inI64 p.1)->iR h (jc l) (l.map λp=>(⟨p.1,p.2⟩:AO))
 | [],_=>rfl
 | p::l,hl=>⟨[.int .i64 p.1,wv p.2],jc l,rfl,⟨rfl,hl p List.mem_cons_self⟩,LQ h l λq hq=>hl q (List.mem_cons_of_mem _ hq)⟩
theorem Uj (M:aS)(l:List (Int×UInt64))(i:Nat)(hi:i<l.length):nU M (l.take (i+1))=((nU M (l.take i)).store l[i].1 l[i].2).2:=by
 unfold nU;rw [List.take_succ_eq_append_getElem hi,List.foldl_append];rfl
structure Idle (h:Heap)(V:VL)(M:aS):Prop where
 at_:At h V M ⟨M.read,[],[],[],[]⟩
 ab:V.ab=none
 jY:V.jY=none
 calm:M.gy = -1
 size:M.sure.length=2824
theorem Idle.on {h h':Heap}{V:VL}{M:aS}(I:Idle h V M)(k:Keeps [] h h'):Idle h' V M:=⟨I.at_.on k,I.ab,I.jY,I.calm,I.size⟩
def Ak (e:aF):Prop:=1<=e.node/\e.node<=23/\dI e.name=true
theorem Qp {ws:List UInt64}{place k:Nat}(h:iY ws place k=true):∀ e∈fC ws k,Ak e/\bU e.name=place%8:=by
 intro e he;unfold fC at he;split at he
 ·cases he
 ·rename_i hx;simp only [List.mem_cons,List.not_mem_nil,or_false] at he;subst he;unfold iY at h;have hx2:eu ws k=false:=by simpa using hx
  rw [hx2,Bool.false_or] at h;unfold lm at h;simp only [Bool.and_eq_true,decide_eq_true_eq] at h;obtain ⟨_,h1,h2,h3,h4⟩:=h;refine ⟨⟨?_,?_,h1⟩,h2⟩
  ·simp only [jf,uf];rw [dR (by omega) (by omega)];omega
  ·simp only [jf,uf];rw [dR (by omega) (by omega)];omega
theorem IW {now:Int->UInt64}{m:List Int}{i:Nat}(h:kK now m i=true):∀ e∈gH now m i,Ak e/\bU e.name=i%8:=by
 intro e he;unfold gH at he;split at he
 ·cases he
 ·rename_i hx;unfold kK vJ at h;rw [decide_eq_false hx,Bool.false_or] at h;simp only [Bool.and_eq_true] at h;obtain ⟨k,hk,hk2⟩:=List.mem_flatMap.1 he;exact Qp (List.all_eq_true.1 h.2.2 k hk) e hk2
theorem Qq {now:Int->UInt64}{c:aA}(h:(fA now c).1=0):∃ m,mapOf now c=some m/\c.kind=2/\(List.range 21).all (kK now m)=true/\((dV now m).map (·.name)).Nodup/\((dV now m).length:Int)=c.size/\fA now c=(0,m,qK (dV now m)):=by
 have h0:=h;unfold fA at h;split at h
 ·simp at h
 ·rename_i hk;split at h
  ·simp at h
  ·rename_i m hm;split at h
   ·rename_i hc;refine ⟨m,hm,by omega,hc.1,hc.2.1,hc.2.2,?_⟩;unfold fA;rw [if_neg hk,hm];simp only;rw [if_pos hc]
   ·simp at h
def strict (l:List aF):Prop:=l.Pairwise λx y=>blt x.name y.name=true
theorem Qr {l:List aF}(hs:l.Pairwise (λx y=>iX x y=true))(hn:(l.map (·.name)).Nodup):strict l:=by
 rw [List.nodup_iff_pairwise_ne,List.pairwise_map] at hn;refine List.Pairwise.imp₂ (λx y h1 h2=>?_) hs hn;unfold iX at h1;rw [Bool.not_eq_true'] at h1;rcases oz x.name y.name with h|h|h
 ·exact h
 ·exact absurd h h2
 ·rw [h] at h1;cases h1
theorem Qc {now:Int->UInt64}{c:aA}(h:(fA now c).1=0):strict (fA now c).2.2/\∀ e∈(fA now c).2.2,Ak e:=by
 obtain ⟨m,hm,hk,ha,hn,hl,e⟩:=Qq h;rw [e];simp only;have hp:=rT (dV now m);refine ⟨Qr (Aj _) ((hp.map _).nodup_iff.2 hn),λx hx=>?_⟩;have:=hp.mem_iff.1 hx;obtain ⟨i,hi,hxi⟩:=List.mem_flatMap.1 this;exact (IW (List.all_eq_true.1 ha i hi) x hxi).1
theorem rR {name:List UInt8}:∀ {l:List aF},strict l->(jr l name).2=dA l name
 | [],_=>rfl
 | x::l,hs=>by
  obtain ⟨h1,h2⟩:=List.pairwise_cons.1 hs;have ih:=rR (name:=name) h2;by_cases hx:blt x.name name=true
  ·have e1:aP (x::l) name=aP l name+1:=by unfold aP;rw [List.takeWhile_cons,if_pos hx];rfl
   have e2:dA (x::l) name=dA l name:=by unfold dA;rw [e1];rfl
   have hne:¬ x.name=name:=by rintro rfl;rw [nJ] at hx;cases hx
   rw [e2,<-ih];unfold jr bR;rw [List.find?_cons,decide_eq_false hne]
  ·have e1:aP (x::l) name=0:=by unfold aP;rw [List.takeWhile_cons,if_neg hx];rfl
   have e2:dA (x::l) name=decide (x.name=name):=by unfold dA;rw [e1];rfl
   rw [e2];unfold jr bR;rw [List.find?_cons];by_cases hne:x.name=name
   ·rw [decide_eq_true hne]
   ·rw [decide_eq_false hne];have hgt:blt name x.name=true:=by
     rcases oz x.name name with g|g|g
     ·exact absurd g hx
     ·exact absurd g hne
     ·exact g
    have:l.find? (λe=>decide (e.name=name))=none:=by
     rw [List.find?_eq_none];intro y hy;have:=rV hgt (h1 y hy);simp only [decide_eq_true_eq];rintro rfl;rw [nJ] at this;cases this
    simp only [this]
theorem Qh (w:UInt64)(i:Nat):(oC w i).toNat=w.toNat/2 ^ (8*(i%8))%256:=by
 unfold oC;simp [UInt8.toNat_ofNat]
theorem IZ (w:UInt64)(j:Nat):iQ ((List.range 8).map λi=>oC w (8*j+i))=w.toNat:=by
 have hw:=w.toNat_lt;have h:∀ i,i<8->(oC w (8*j+i)).toNat=w.toNat/2 ^ (8*i)%256:=by
  intro i hi;rw [Qh]
  congr 4
  omega
 have e:(List.range 8)=[0,1,2,3,4,5,6,7]:=rfl;rw [e];simp only [List.map_cons,List.map_nil,iQ];rw [h 0 (by decide),h 1 (by decide),h 2 (by decide),h 3 (by decide),h 4 (by decide),h 5 (by decide),h 6 (by decide),h 7 (by decide)];simp only [Nat.mul_zero,Nat.pow_zero,Nat.div_one,Nat.reduceMul,Nat.reducePow];omega
theorem Qd {ws vs:List UInt64}(hl:ws.length=vs.length)(h:iy ws (8*ws.length)=iy vs (8*ws.length)):ws=vs:=by
 apply List.ext_getElem hl;intro j h1 h2;have key:∀ (us:List UInt64) (hj:j<us.length),((iy us (8*us.length)).drop (8*j)).take 8=(List.range 8).map λi=>oC us[j] (8*j+i):=by
  intro us hj;apply List.ext_getElem
  ·simp [iy];omega
  ·intro i i1 i2;have hi:i<8:=by simpa using i2
   simp only [iy,List.getElem_take,List.getElem_drop,List.getElem_map,List.getElem_range];have:(8*j+i)/8=j:=by omega
   rw [this,List.getElem?_eq_getElem hj];rfl
 have k1:=key ws h1;have k2:=key vs h2;rw [h,hl,k2] at k1;apply UInt64.toNat_inj.1;rw [<-IZ ws[j] j,<-IZ vs[j] j,k1]
theorem qI {ws new:List UInt64}{k i:Nat}(hl:ws.length=16)(hk:k<5)(hn:new.length=3):eD (setSlot ws k new) i=if 3*k<=i/\i<3*k+3 then eD new (i-3*k) else eD ws i:=by
 unfold eD setSlot;have h1:(ws.take (3*k)).length=3*k:=by simp;omega
 by_cases ha:i<3*k
 ·rw [if_neg (by omega),List.append_assoc,List.getElem?_append_left (by omega),List.getElem?_take,if_pos ha]
 ·by_cases hb:i<3*k+3
  ·rw [if_pos ⟨by omega,hb⟩,List.append_assoc,List.getElem?_append_right (by omega),h1,List.getElem?_append_left (by omega)]
  ·rw [if_neg (by omega),List.getElem?_append_right (by simp;omega)];have h2:(ws.take (3*k)++new).length=3*k+3:=by simp;omega
   rw [h2,List.getElem?_drop]
   congr 2
   omega
theorem Qi {ws vs:List UInt64}{k place:Nat}(h0:eD vs (3*k)=eD ws (3*k))(h1:eD vs (3*k+1)=eD ws (3*k+1))(h2:eD vs (3*k+2)=eD ws (3*k+2)):iY vs place k=iY ws place k/\fC vs k=fC ws k:=by
 have e1:eu vs k=eu ws k:=by unfold eu;rw [h0,h1,h2]
 have e2:jg vs k=jg ws k:=by unfold jg;rw [h1,h2]
 have e3:jf vs k=jf ws k:=by unfold jf jL uf;rw [e2,h0]
 have e4:lm vs k place=lm ws k place:=by unfold lm jL;rw [e2,h0]
 constructor
 ·unfold iY;rw [e1,e4]
 ·unfold fC;rw [e1,e3]
theorem Ao {ws new:List UInt64}{k j place:Nat}(hl:ws.length=16)(hk:k<5)(hn:new.length=3)(hj:j≠k):iY (setSlot ws k new) place j=iY ws place j/\fC (setSlot ws k new) j=fC ws j:=by
 refine Qi ?_ ?_ ?_ <;> rw [qI hl hk hn,if_neg (by omega)]
def jC (e:aF):List UInt64:=w64 e.node::dM e.name 2
theorem Dv (e:aF):(jC e).length=3:=by simp [jC,oO]
theorem Qj {c:UInt8}(h:jM c=true):c≠0:=by
 rintro rfl
 revert h;decide
theorem Ja:∀ (l:List UInt8) (n:Nat),l.all nz=true->(l++zeros n).takeWhile nz=l/\((l++zeros n).dropWhile nz).all ez=true
 | [],n,_=>by
  cases n with
  | zero=>exact ⟨rfl,rfl⟩
  | succ n=>
   constructor
   ·simp [zeros,List.replicate_succ,nz]
   ·simp [zeros,List.replicate_succ,nz,ez]
 | c::l,n,h=>by
  simp only [List.all_cons,Bool.and_eq_true] at h;obtain ⟨h1,h2⟩:=Ja l n h.2;rw [List.cons_append,List.takeWhile_cons,if_pos h.1,List.dropWhile_cons,if_pos h.1,h1];exact ⟨rfl,h2⟩
theorem Qk {p:UInt8->Bool}{l:List UInt8}{n:Nat}(h:l.all p=true):(l.drop n).all p=true:=by
 rw [List.all_eq_true] at h ⊢;exact λx hx=>h x (List.mem_of_mem_drop hx)
theorem Ql {e:aF}(hn:dI e.name=true):iy [kg e.name 0,kg e.name 1] 16=e.name++zeros (16-e.name.length):=by
 have hlen:e.name.length<=14:=by
  unfold dI at hn;simp only [Bool.and_eq_true,decide_eq_true_eq] at hn;exact hn.2.1.1.2
 apply List.ext_getElem
 ·simp [iy,zeros];omega
 ·intro i h1 h2;have hi:i<16:=by simpa [iy] using h1
  simp only [iy,List.getElem_map,List.getElem_range];have hw:([kg e.name 0,kg e.name 1]:List UInt64)[i/8]?.getD 0=kg e.name (i/8):=by
   have:i/8=0\/i/8=1:=by omega
   rcases this with h|h <;> rw [h] <;> rfl
  rw [hw,Jb];rcases Nat.lt_or_ge i e.name.length with h|h
  ·rw [List.getElem_append_left h,List.getElem?_eq_getElem h];rfl
  ·rw [List.getElem_append_right h,List.getElem?_eq_none h];simp [zeros]
theorem Qm {ws:List UInt64}{k place:Nat}{e:aF}(hl:ws.length=16)(hk:k<5)(hn:dI e.name=true)(h1:1<=e.node)(h2:e.node<24)(hb:bU e.name=place%8):iY (setSlot ws k (jC e)) place k=true/\fC (setSlot ws k (jC e)) k=[e]:=by
 have hlen:=Dv e;have w0:eD (setSlot ws k (jC e)) (3*k)=w64 e.node:=by rw [qI hl hk hlen,if_pos ⟨by omega,by omega⟩,Nat.sub_self];rfl
 have w1:eD (setSlot ws k (jC e)) (3*k+1)=kg e.name 0:=by rw [qI hl hk hlen,if_pos ⟨by omega,by omega⟩,show 3*k+1-3*k=1 by omega];rfl
 have w2:eD (setSlot ws k (jC e)) (3*k+2)=kg e.name 1:=by rw [qI hl hk hlen,if_pos ⟨by omega,by omega⟩,show 3*k+2-3*k=2 by omega];rfl
 have hw:((w64 e.node).toNat:Int)=e.node:=by rw [qJ];omega
 have hall:e.name.all nz=true:=by
  unfold dI at hn;simp only [Bool.and_eq_true] at hn;rw [List.all_eq_true] at hn ⊢;intro c hc;have:=Qj (hn.1 c hc);simpa [nz] using this
 have hT:jg (setSlot ws k (jC e)) k=e.name++zeros (16-e.name.length):=by
  unfold jg;rw [w1,w2,Ql hn]
 obtain ⟨t1,t2⟩:=Ja e.name (16-e.name.length) hall;have hN:jL (setSlot ws k (jC e)) k=e.name:=by unfold jL oP;rw [hT,t1]
 have hV:uf (setSlot ws k (jC e)) k=e.node:=by unfold uf;rw [w0,hw,dR (by omega) (by omega)]
 have hE:eu (setSlot ws k (jC e)) k=false:=by
  unfold eu;rw [w0,decide_eq_false (λh=>by rw [h] at hw;simp at hw;omega)];rfl
 have hB:lm (setSlot ws k (jC e)) k place=true:=by
  unfold lm;rw [hN,w0,hn,hT];unfold jN;rw [Qk t2,hb];have g1:1<=(w64 e.node).toNat:=by omega
  have g2:(w64 e.node).toNat<24:=by omega
  simp [g1,g2]
 constructor
 ·unfold iY;rw [hB,Bool.or_true]
 ·unfold fC;rw [hE];simp only [Bool.false_eq_true,if_false];unfold jf;rw [hN,hV]
theorem Qn {ws:List UInt64}{k place:Nat}(hl:ws.length=16)(hk:k<5):iY (setSlot ws k [0,0,0]) place k=true/\fC (setSlot ws k [0,0,0]) k=[]:=by
 have hE:eu (setSlot ws k [0,0,0]) k=true:=by
  unfold eu;rw [qI hl hk rfl,qI hl hk rfl,qI hl hk rfl,if_pos ⟨by omega,by omega⟩,if_pos ⟨by omega,by omega⟩,if_pos ⟨by omega,by omega⟩,Nat.sub_self,show 3*k+1-3*k=1 by omega,show 3*k+2-3*k=2 by omega];rfl
 constructor
 ·unfold iY;rw [hE];rfl
 ·unfold fC;rw [if_pos hE]
def mI (ws:List UInt64)(place:Nat):Bool:=decide (eD ws 15=0)&&(List.range 5).all (iY ws place)
def kJ (ws:List UInt64):List aF:=(List.range 5).flatMap (fC ws)
theorem Am {α β:Type}{f g:α->List β}{a:α}:∀ {l:List α},l.Nodup->a∈l->(∀ x∈l,x≠a->f x=g x)->(l.flatMap f++g a).Perm (l.flatMap g++f a)
 | [],_,h,_=>by cases h
 | x::l,hn,ha,he=>by
  obtain ⟨h1,h2⟩:=List.nodup_cons.1 hn;rw [List.flatMap_cons,List.flatMap_cons];by_cases e:x=a
  ·subst e;have hfg:l.flatMap f=l.flatMap g:=by
    have:∀ y∈l,f y=g y:=λy hy=>he y (by simp [hy]) (λh=>h1 (h ▸ hy));clear ha he hn h1 h2
    induction l with
    | nil=>rfl
    | cons z l ih=>
     rw [List.flatMap_cons,List.flatMap_cons,this z (by simp),ih (λy hy=>this y (by simp [hy]))]
   rw [hfg];have p1:(f x++l.flatMap g++g x).Perm (g x++(f x++l.flatMap g)):=List.perm_append_comm;refine p1.trans ?_;rw [List.append_assoc];exact List.Perm.append_left _ List.perm_append_comm
  ·have ha2:a∈l:=by
    rcases List.mem_cons.1 ha with h|h
    ·exact absurd h.symm e
    ·exact h
   have ih:=Am h2 ha2 (λy hy hne=>he y (by simp [hy]) hne);rw [he x (by simp) e,List.append_assoc,List.append_assoc];exact List.Perm.append_left _ ih
theorem PU {ws:List UInt64}{k place:Nat}{e:aF}(hl:ws.length=16)(hk:k<5)(hn:dI e.name=true)(h1:1<=e.node)(h2:e.node<24)(hb:bU e.name=place%8)(ho:mI ws place=true)(he:eu ws k=true):mI (setSlot ws k (jC e)) place=true/\(kJ (setSlot ws k (jC e))).Perm (e::kJ ws):=by
 obtain ⟨g1,g2⟩:=Qm (place:=place) hl hk hn h1 h2 hb;have hlen:=Dv e;unfold mI at ho ⊢;simp only [Bool.and_eq_true] at ho
 constructor
 ·rw [qI hl hk hlen,if_neg (by omega),ho.1,Bool.true_and,List.all_eq_true];intro j hj;by_cases e:j=k
  ·subst e;exact g1
  ·rw [(Ao hl hk hlen e).1];exact List.all_eq_true.1 ho.2 j hj
 ·have hse:fC ws k=[]:=by unfold fC;rw [if_pos he]
  have p:=Am (f:=fC (setSlot ws k (jC e))) (g:=fC ws) (a:=k) (l:=List.range 5) List.nodup_range (by simpa using hk) (λj _ hne=>(Ao (place:=place) hl hk hlen hne).2);rw [hse,g2,List.append_nil] at p;exact p.trans (List.perm_append_comm (l₂:=[e]))
theorem Qo {ws:List UInt64}{k place:Nat}(hl:ws.length=16)(hk:k<5)(ho:mI ws place=true)(he:eu ws k=false):mI (setSlot ws k [0,0,0]) place=true/\(jf ws k::kJ (setSlot ws k [0,0,0])).Perm (kJ ws):=by
 obtain ⟨g1,g2⟩:=Qn (place:=place) hl hk;unfold mI at ho ⊢;simp only [Bool.and_eq_true] at ho
 constructor
 ·rw [qI hl hk rfl,if_neg (by omega),ho.1,Bool.true_and,List.all_eq_true];intro j hj;by_cases e:j=k
  ·subst e;exact g1
  ·rw [(Ao hl hk rfl e).1];exact List.all_eq_true.1 ho.2 j hj
 ·have hse:fC ws k=[jf ws k]:=by unfold fC;rw [if_neg (by rw [he];decide)]
  have p:=Am (f:=fC (setSlot ws k [0,0,0])) (g:=fC ws) (a:=k) (l:=List.range 5) List.nodup_range (by simpa using hk) (λj _ hne=>(Ao (place:=place) hl hk rfl hne).2);rw [hse,g2,List.append_nil] at p;exact (List.perm_append_comm (l₁:=[jf ws k])).trans p
theorem IU (place:Nat):mI (List.replicate 16 0) place=true/\kJ (List.replicate 16 0)=[]:=by
 have h:∀ k,k<5->eu (List.replicate 16 0) k=true:=by decide
 constructor
 ·unfold mI;rw [show eD (List.replicate 16 0) 15=0 from rfl,decide_eq_true rfl,Bool.true_and,List.all_eq_true];intro k hk;unfold iY;rw [h k (by simpa using hk)];rfl
 ·unfold kJ;rw [List.flatMap_eq_nil_iff];intro k hk;unfold fC;rw [if_pos (h k (by simpa using hk))]
structure eG (now:Int->UInt64)(node:Int)(c:aA)(m:List Int)(l:List aF):Prop where
 map:mapOf now c=some m
 wk:Wk now node c.more m
 kind:c.kind=2/\c.links=1
 size:c.size=(l.length:Int)
 ok:∀ i,i<21->aU m i ≠ -1->mI (di now (aU m i)) i=true
 lU:(dV now m).Perm l
 str:strict l
 kY:c.more = -1↔(m.drop 5).any eO=false
theorem Wk.rQ {now:Int->UInt64}{node more:Int}{m:List Int}(W:Wk now node more m):qH m:=⟨W.len,λx hx=>W.bH x (List.mem_cons_of_mem _ hx)⟩
theorem Ik {l:List aF}(h:strict l):(l.map (·.name)).Nodup:=by
 rw [List.nodup_iff_pairwise_ne,List.pairwise_map];refine h.imp λ{x y} hxy e=>?_;rw [e,nJ] at hxy;cases hxy
theorem Qa {l:List aF}(h:strict l):l.Pairwise (λx y=>iX x y=true):=h.imp λ{x y} hxy=>by unfold iX;rw [vI hxy];rfl
theorem Qb {now:Int->UInt64}{m:List Int}(R:qH m){i:Nat}(h:aU m i ≠ -1->mI (di now (aU m i)) i=true):kK now m i=true:=by
 unfold kK;by_cases e:aU m i = -1
 ·rw [decide_eq_true e];rfl
 ·rw [decide_eq_false e,Bool.false_or];unfold vJ;rw [decide_eq_true ((R.aU i).resolve_left e),Bool.true_and];exact h e
theorem eG.all {now:Int->UInt64}{node:Int}{c:aA}{m:List Int}{l:List aF}(D:eG now node c m l):(List.range 21).all (kK now m)=true:=
 List.all_eq_true.2 λi hi=>Qb D.wk.rQ (D.ok i (by simpa using hi))
theorem eG.open_ {now:Int->UInt64}{node:Int}{c:aA}{m:List Int}{l:List aF}(D:eG now node c m l):fA now c=(0,m,l):=by
 unfold fA;rw [if_neg (by rw [D.kind.1];simp),D.map];simp only;have hnd:((dV now m).map (·.name)).Nodup:=(D.lU.map _).nodup_iff.2 (Ik D.str);rw [if_pos ⟨D.all,hnd,by rw [D.lU.length_eq,D.size]⟩]
 congr 2
 exact DC ((rT _).trans D.lU) (((rT _).map _).nodup_iff.2 hnd) (Aj _) (Qa D.str)
theorem eG.few {now:Int->UInt64}{node:Int}{c:aA}{m:List Int}{l:List aF}(D:eG now node c m l):l.length<=105:=by
 rw [<-D.lU.length_eq];exact DF _ _
theorem eG.good {now:Int->UInt64}{node:Int}{c:aA}{m:List Int}{l:List aF}(D:eG now node c m l):∀ e∈l,Ak e:=by
 have h:(fA now c).1=0:=by rw [D.open_]
 have:=(Qc h).2
 rwa [D.open_] at this
theorem eG.DI {now:Int->UInt64}{node:Int}{c:aA}{m:List Int}{l:List aF}(D:eG now node c m l):∀ e∈l,e.ok:=λe he=>IX e (D.lU.mem_iff.2 he)
theorem eG.right {now:Int->UInt64}{node:Int}{c:aA}{m:List Int}{l:List aF}(D:eG now node c m l):fV c=true/\c.ok:=by
 have hd:=DJ D.map;have hs:=D.few;have hz:=D.size;have hm:=D.wk.bH c.more List.mem_cons_self;have hk:=D.kind;have hr:∀ x∈c.direct,-1<=x/\x<96:=by
  intro x hx;have:=D.wk.bH x (List.mem_cons_of_mem _ (hd x hx));unfold nK at this;omega
 unfold nK at hm
 constructor
 ·unfold fV;rw [hk.1,hk.2];have h1:c.direct.all lV=true:=by
   rw [List.all_eq_true];intro x hx;have:=hr x hx;unfold lV;simp;omega
  rw [h1];unfold lV;simp;omega
 ·refine ⟨by rw [hk.1];exact ⟨by decide,by decide⟩,by rw [hk.2];exact ⟨by decide,by decide⟩,?_,λx hx=>?_,?_⟩
  ·unfold inI64;omega
  ·have:=hr x hx;unfold inI64;omega
  ·unfold inI64;omega
theorem PV {f g:Int->UInt64}{m:List Int}(h:∀ p,p<2688->fb g m p=fb f m p){i:Nat}(hi:i<21)(hu:aU m i ≠ -1):di g (aU m i)=di f (aU m i):=by
 have hb:∀ now:Int->UInt64,dD now (aU m i)=iy (di now (aU m i)) 128:=by
  intro now;unfold dD;rw [if_neg hu];rfl
 have hq:dD g (aU m i)=dD f (aU m i):=by
  apply List.ext_getElem?;intro q;rcases Nat.lt_or_ge q 128 with hq|hq
  ·have:=h (128*i+q) (by omega);unfold fb at this;have e1:(128*i+q)/128=i:=by omega
   have e2:(128*i+q)%128=q:=by omega
   rw [e1,e2] at this;have l1:=kZ g (aU m i);have l2:=kZ f (aU m i);have hp:m[i]?.getD (-1)=aU m i:=rfl;rw [hp] at this;rw [List.getElem?_eq_getElem (by omega),List.getElem?_eq_getElem (by omega)] at this ⊢;simpa using this
  ·rw [List.getElem?_eq_none (by rw [kZ];exact hq),List.getElem?_eq_none (by rw [kZ];exact hq)]
 rw [hb,hb] at hq;refine Qd (by rw [tV,tV]) ?_;rw [tV];exact hq
theorem Wk.gY {now:Int->UInt64}{node more:Int}{m:List Int}(W:Wk now node more m){i:Nat}(hi:i<21)(hu:aU m i ≠ -1){ws:List UInt64}(hw:ws.length=16) :
 Wk (bZ now (aU m i) ws) node more m/\Fr node now (bZ now (aU m i) ws)/\di (bZ now (aU m i) ws) (aU m i)=ws/\(∀ j,j<21->j≠i->aU m j ≠ -1->di (bZ now (aU m i) ws) (aU m j)=di now (aU m j)):=by
 have hl:=W.len;have hm:aU m i∈m:=by
  unfold aU;rw [List.getElem?_eq_getElem (by omega)];exact List.getElem_mem _
 have hk:0<=aU m i/\aU m i<96:=(W.rQ.aU i).resolve_left hu;have ho:∀ k,0<=k->k<96->bZ now (aU m i) ws (200+k)=now (200+k):=λk _ h=>xD (by omega) hk.1 h;have hown:now (200+aU m i)=w64 (node+1):=(W.own _ hk.1 hk.2).1 (nI.2 ⟨.inr hm,hu⟩);refine ⟨⟨W.len,W.bH,W.jv,λk h0 h1=>by rw [ho k h0 h1];exact W.own k h0 h1⟩,⟨λk h0 h1 hf=>⟨.inl (ho k h0 h1),λ_=>?_⟩,λk h0 h1 hf=>.inl (by rw [ho k h0 h1];exact hf),λ_ ha=>Al hk.1 ha⟩,?_,λj hj hne Qe=>?_⟩
 ·refine rU (by omega) ?_;rintro rfl;exact hf hown
 ·unfold di;rw [Dw (by omega)];unfold lg;rw [hw];simp
 ·unfold di;refine rU (by omega) λe=>hne ?_;exact W.inj hj hi e.symm Qe
theorem IL {f g:Int->UInt64}{m m':List Int}{i:Nat}(hi:i<21)(h:∀ j,j<21->j≠i->gH f m j=gH g m' j):(dV f m++gH g m' i).Perm (dV g m'++gH f m i):=
 Am List.nodup_range (by simpa using hi) λj hj hne=>h j (by simpa using hj) hne
theorem kI {now:Int->UInt64}{m:List Int}{i:Nat}(h:aU m i ≠ -1):gH now m i=kJ (di now (aU m i)):=by
 unfold gH;rw [if_neg h];rfl
theorem nG {now:Int->UInt64}{m:List Int}{i:Nat}(h:aU m i = -1):gH now m i=[]:=by
 unfold gH;rw [if_pos h]
theorem IK {f g:Int->UInt64}{m:List Int}(h:∀ i,i<21->aU m i ≠ -1->di f (aU m i)=di g (aU m i)):dV f m=dV g m:=by
 unfold dV;have:∀ i∈List.range 21,gH f m i=gH g m i:=by
  intro i hi;by_cases e:aU m i = -1
  ·rw [nG e,nG e]
  ·rw [kI e,kI e,h i (by simpa using hi) e]
 revert this
 generalize List.range 21=L;intro this
 induction L with
 | nil=>rfl
 | cons x L ih=>rw [List.flatMap_cons,List.flatMap_cons,this x (by simp),ih (λi hi=>this i (by simp [hi]))]
def bD (l:List aF)(e:aF):List aF:=l.take (aP l e.name)++e::l.drop (aP l e.name)
theorem mF (l:List aF)(e:aF):(bD l e).Perm (e::l):=by
 unfold bD;refine List.perm_middle.trans ?_;rw [List.take_append_drop]
theorem Qf {l:List aF}{name:List UInt8}(hs:strict l):dA l name=false->∀ e∈l.drop (aP l name),blt name e.name=true:=by
 intro ht e he;obtain ⟨j,hj,rfl⟩:=List.mem_iff_getElem.1 he;rw [List.getElem_drop];have hl:aP l name+j<l.length:=by simp at hj;omega
 have h0:aP l name<l.length:=by omega
 have hx:blt (l[aP l name]).name name=false:=by
  rw [<-Bool.not_eq_true];intro h;have:=DK (Nat.le_refl _) h0 h;omega
 have hne:(l[aP l name]).name≠name:=by
  unfold dA at ht;rw [List.getElem?_eq_getElem h0] at ht;simpa using ht
 have hgt:blt name (l[aP l name]).name=true:=by
  rcases oz (l[aP l name]).name name with g|g|g
  ·rw [g] at hx;cases hx
  ·exact absurd g hne
  ·exact g
 rcases Nat.eq_zero_or_pos j with rfl|hj0
 ·exact hgt
 ·exact rV hgt (List.pairwise_iff_getElem.1 hs (aP l name) (aP l name+j) h0 hl (by omega))
theorem vC {l:List aF}{e:aF}(hs:strict l)(ht:dA l e.name=false):strict (bD l e):=by
 unfold bD strict;rw [List.pairwise_append];have hsplit:l.take (aP l e.name)++l.drop (aP l e.name)=l:=List.take_append_drop _ _;have hs2:strict (l.take (aP l e.name)++l.drop (aP l e.name)):=by rw [hsplit];exact hs
 unfold strict at hs2;rw [List.pairwise_append] at hs2;have hafter:=Qf hs ht;have Qg:∀ x∈l.take (aP l e.name),blt x.name e.name=true:=by
  intro x hx;obtain ⟨j,hj,rfl⟩:=List.mem_iff_getElem.1 hx;rw [List.getElem_take];exact (IY (by simp at hj;omega)).2
 refine ⟨hs2.1,List.pairwise_cons.2 ⟨hafter,hs2.2.1⟩,λx hx y hy=>?_⟩;rcases List.mem_cons.1 hy with rfl|hy
 ·exact Qg x hx
 ·exact hs2.2.2 x hx y hy
theorem Ae {B:Int->UInt64}{X:VS}(h:1<=bE B X 96):jZ B X 96 0≠none:=by
 intro hf;have:=Dx hf;unfold bE at h;have:((List.range 96).filter λ(i:Nat)=>iF B X (i:Int))=[]:=by
  rw [List.filter_eq_nil_iff];intro k hk;rw [this k (Nat.zero_le _) (by simpa using hk)];simp
 rw [this] at h;simp at h
theorem count_one {p q:Nat->Bool}{k:Nat}(hp:p k=true)(hq:q k=false):∀ {n:Nat},k<n->(∀ j,j<n->j≠k->p j=q j)->((List.range n).filter p).length=((List.range n).filter q).length+1
 | 0,h,_=>by omega
 | n+1,h,hs=>by
  rw [List.range_succ,List.filter_append,List.filter_append,List.length_append,List.length_append];by_cases e:k=n
  ·subst e;have:(List.range k).filter p=(List.range k).filter q:=List.filter_congr λj hj=>hs j (by have:=List.mem_range.1 hj;omega) (by have:=List.mem_range.1 hj;omega);rw [this];simp [hp,hq]
  ·have ih:=count_one hp hq (n:=n) (by omega) λj hj hne=>hs j (by omega) hne;rw [ih];have:p n=q n:=hs n (by omega) (λx=>e x.symm);simp only [List.filter_cons,this,List.filter_nil];omega
theorem Dm {B:Int->UInt64}{X:VS}{node:Int}(hn:0<=node/\node<24)(h:(bL B X node).2.1=0):bE B X 96=bE B (bL B X node).2.2 96+1:=by
 unfold bL at h ⊢;rw [if_pos hn] at h ⊢;cases hf:jZ B X 96 0 with
 | none=>rw [hf] at h;simp at h
 | some k=>
  simp only;have hk:=Ah hf;unfold bE;have hk2:0<=(k:Int)/\(k:Int)<96:=by omega
  have how:∀ j:Nat,j<96->(bZ (upd X.now (200+(k:Int)) (w64 (node+1))) (k:Int) []) (200+(j:Int))=if (j:Int)=(k:Int) then w64 (node+1) else X.now (200+(j:Int)):=λj hj=>Ai (now:=X.now) (node:=node) hk2 (by omega) (by omega);refine count_one (k:=k) hk.1 ?_ (by omega) λj hj hne=>?_
  ·have e:=how k (by omega);rw [if_pos rfl] at e;unfold iF;have h3:decide ((bZ (upd X.now (200+(k:Int)) (w64 (node+1))) (k:Int) []) (200+(k:Int))=0)=false:=decide_eq_false (by rw [e];exact ig hn);simp only [h3,Bool.false_and,Bool.and_false]
  ·have e:=how j hj;rw [if_neg (by omega)] at e;unfold iF;simp only [e]
theorem Dt {B:Int->UInt64}{node:Int}(hn:0<=node/\node<24){X:VS}{c:aA}{m:List Int}(W:Wk X.now node c.more m)(h:1<=bE B X 96):Du node X c m (eH B X node c m):=by
 rcases tY (B:=B) hn W with ⟨h9,_,hm,hu⟩|K
 ·exfalso;unfold eH at h9;rw [if_pos ⟨hn,W.len,W.drops⟩,if_neg (by rw [hu];decide),if_pos hm] at h9;rcases Ag (B:=B) (X:=X) hn with ⟨e0,k0,k1,kn,kx⟩|⟨e9,kx,kf⟩
  ·simp only [e0,if_true,if_pos (show 0<=(bL B X node).1/\(bL B X node).1<96 from ⟨k0,k1⟩)] at h9;cases h9
  ·exact Ae h kf
 ·exact K
theorem Dy {p:List UInt64->Nat->Bool}{ws:List UInt64}:∀ {f k:Nat},jK p ws f k=none->∀ q,k<=q->q<k+f->p ws q=false
 | 0,_,_,q,_,_=>by omega
 | f+1,k,h,q,h1,h2=>by
  unfold jK at h;split at h
  ·cases h
  ·rename_i hp;by_cases e:q=k
   ·subst e;simpa using hp
   ·exact Dy h q (by omega) (by omega)
theorem Dz {W:Int->List UInt64}{m:List Int}{p:List UInt64->Nat->Bool}:∀ {f pl:Nat},gP W m p f pl=none->∀ j,j<f->pl+8*j<21->aU m (pl+8*j) = -1\/jK p (W ((pl+8*j:Nat):Int)) 5 0=none
 | 0,_,_,j,hj,_=>by omega
 | f+1,pl,h,j,hj,hl=>by
  unfold gP at h;rw [if_pos (by omega)] at h;cases j with
  | zero=>
   split at h
   ·left;assumption
   ·split at h
    ·cases h
    ·right;assumption
  | succ j=>
   have ih:gP W m p f (pl+8)=none->_:=λg=>Dz g j (by omega) (by omega);have e:pl+8+8*j=pl+8*(j+1):=by omega
   rw [e] at ih;split at h
   ·exact ih h
   ·split at h
    ·cases h
    ·exact ih h
theorem IV {m:List Int}:∀ {f pl:Nat},kH m f pl=none->∀ j,j<f->pl+8*j<21->aU m (pl+8*j) ≠ -1
 | 0,_,_,j,hj,_=>by omega
 | f+1,pl,h,j,hj,hl=>by
  unfold kH at h;rw [if_pos (by omega)] at h;split at h
  ·cases h
  ·rename_i hp;cases j with
   | zero=>exact hp
   | succ j=>
    have:=IV h j (by omega) (by omega)
    rwa [show pl+8+8*j=pl+8*(j+1) by omega] at this
def qb (l:List aF)(name:List UInt8):Nat:=(l.filter λe=>decide (bU e.name=bU name)).length
def ow (bk:Nat):Nat:=if bk<5 then 15 else 10
theorem PZ (now:Int->UInt64)(m:List Int)(bk:Nat)(hok:(List.range 21).all (kK now m)=true):((dV now m).filter λe=>decide (bU e.name=bk)).length=((List.range 21).map λi=>if i%8=bk then (gH now m i).length else 0).sum:=by
 have hk:∀ i∈List.range 21,kK now m i=true:=λi hi=>List.all_eq_true.1 hok i hi;unfold dV
 revert hk
 generalize List.range 21=L;intro hk
 induction L with
 | nil=>rfl
 | cons i L ih=>
  rw [List.flatMap_cons,List.filter_append,List.length_append,ih (λj hj=>hk j (by simp [hj])),List.map_cons,List.sum_cons]
  congr 1
  have hg:=IW (hk i (by simp));by_cases e:i%8=bk
  ·rw [if_pos e,List.filter_eq_self.2];intro x hx;rw [(hg x hx).2];exact decide_eq_true e
  ·rw [if_neg e,List.filter_eq_nil_iff.2]
   ·rfl
   ·intro x hx;rw [(hg x hx).2];simpa using e
theorem P5 (f:Nat->Nat)(bk:Nat)(h:bk<8):((List.range 21).map λi=>if i%8=bk then f i else 0).sum=f bk+f (bk+8)+(if bk<5 then f (bk+16) else 0):=by
 have:bk=0\/bk=1\/bk=2\/bk=3\/bk=4\/bk=5\/bk=6\/bk=7:=by omega
 rcases this with rfl|rfl|rfl|rfl|rfl|rfl|rfl|rfl <;> simp [List.range_succ] <;> omega
theorem P9 {ws:List UInt64}(h:∀ k,k<5->eu ws k=false):(kJ ws).length=5:=by
 unfold kJ;have e:List.range 5=[0,1,2,3,4]:=rfl;have g:∀ k,k<5->fC ws k=[jf ws k]:=λk hk=>by unfold fC;rw [if_neg (by rw [h k hk];decide)]
 rw [e];simp [g 0 (by decide),g 1 (by decide),g 2 (by decide),g 3 (by decide),g 4 (by decide)]
theorem PX {ws:List UInt64}{k:Nat}(hk:k<5)(h:eu ws k=true):(kJ ws).length<=4:=by
 unfold kJ;have e:List.range 5=[0,1,2,3,4]:=rfl;have g:fC ws k=[]:=by unfold fC;rw [if_pos h]
 have l0:=tZ ws 0;have l1:=tZ ws 1;have l2:=tZ ws 2;have l3:=tZ ws 3;have l4:=tZ ws 4;rw [e];simp only [List.flatMap_cons,List.flatMap_nil,List.length_append,List.length_nil];have:k=0\/k=1\/k=2\/k=3\/k=4:=by omega
 rcases this with rfl|rfl|rfl|rfl|rfl <;> rw [g] <;> simp <;> omega
theorem eG.had {now:Int->UInt64}{node:Int}{c:aA}{m:List Int}{l:List aF}(D:eG now node c m l)(name:List UInt8):qb l name=(gH now m (bU name)).length+(gH now m (bU name+8)).length+(if bU name<5 then (gH now m (bU name+16)).length else 0):=by
 unfold qb;rw [<-((D.lU.filter _).length_eq),PZ now m _ D.all,P5 _ _ (qG name)]
theorem eG.IQ {now:Int->UInt64}{node:Int}{c:aA}{m:List Int}{l:List aF}(D:eG now node c m l)(name:List UInt8){pl:Nat}(hp:pl<21)(hb:pl%8=bU name)(hl:(gH now m pl).length<=4):qb l name<ow (bU name):=by
 have hbk:=qG name;rw [D.had];have h0:=xG now m (bU name);have h1:=xG now m (bU name+8);have h2:=xG now m (bU name+16);have hc:pl=bU name\/pl=bU name+8\/(pl=bU name+16/\bU name<5):=by omega
 unfold ow;rcases hc with rfl|rfl|⟨rfl,hc⟩
 ·split <;> omega
 ·split <;> omega
 ·rw [if_pos hc,if_pos hc];omega
theorem eG.full {now:Int->UInt64}{node:Int}{c:aA}{m:List Int}{l:List aF}(D:eG now node c m l)(name:List UInt8)(h1:gP (wordsAt now m) m eu 4 (bU name)=none)(h2:kH m 4 (bU name)=none):ow (bU name)<=qb l name:=by
 have hbk:=qG name;rw [D.had];have key:∀ j,j<4->bU name+8*j<21->(gH now m (bU name+8*j)).length=5:=by
  intro j hj hl;have g1:=IV h2 j hj hl;have g2:=(Dz h1 j hj hl).resolve_left g1;rw [kI g1];have e:wordsAt now m ((bU name+8*j:Nat):Int)=di now (aU m (bU name+8*j)):=by unfold wordsAt;rw [Int.toNat_natCast]
  rw [e] at g2;exact P9 λk hk=>Dy g2 k (Nat.zero_le _) (by omega)
 have k0:=key 0 (by decide) (by omega);have k1:=key 1 (by decide) (by omega);simp only [Nat.mul_zero,Nat.add_zero,Nat.mul_one] at k0 k1;rw [k0,k1];unfold ow;by_cases h:bU name<5
 ·rw [if_pos h,if_pos h];have k2:=key 2 (by decide) (by omega);simp only [Nat.reduceMul] at k2;rw [k2];omega
 ·rw [if_neg h,if_neg h];omega
def lT (l:List aF)(name:List UInt8)(target:Int):List aF×Int:=
 if target<1\/24<=target then ([],1)
 else if dI name=false then ([],3)
 else if dA l name=true then ([],5)
 else (bD l ⟨name,target⟩,0)
theorem vG (now:Int->UInt64)(m:List Int)(p:Nat):wordsAt now m (p:Int)=di now (aU m p):=by unfold wordsAt;rw [Int.toNat_natCast]
theorem Dn {B:Int->UInt64}{X:VS}{k:Int}{ws:List UInt64}(hk:0<=k)(hw:ws.length<=16):bE B { X with now:=bZ X.now k ws } 96=bE B X 96:=by
 unfold bE
 congr 1
 refine List.filter_congr λj hj=>?_;have hj':j<96:=by simpa using hj
 unfold iF;have:(bZ X.now k ws) (200+(j:Int))=X.now (200+(j:Int)):=xD hw hk (by omega);simp only [this]
theorem IJ {B:Int->UInt64}{node:Int}(hn:0<=node/\node<24){X:VS}{c:aA}{m:List Int}{l:List aF}{name:List UInt8}{target:Int}{pl k:Nat}
 (W:Wk X.now node c.more m) (ok:∀ i,i<21->aU m i ≠ -1->mI (di X.now (aU m i)) i=true) (lU:(dV X.now m).Perm l) (str:strict l) (kind:c.kind=2/\c.links=1) (size:c.size=(l.length:Int))
 (hpl:pl<21) (jJ:aU m pl ≠ -1) (hk:k<5) (he:eu (di X.now (aU m pl)) k=true) (hb:pl%8=bU name) (hname:dI name=true) (ht:1<=target/\target<24) (hnt:dA l name=false)
 {Y:VS} (hY:Y={ X with now:=bZ X.now (aU m pl) (setSlot (di X.now (aU m pl)) k (jC ⟨name,target⟩)) }) :
 Wk Y.now node c.more m/\Fr node X.now Y.now/\bE B Y 96=bE B X 96/\(∀ r,Du node Y { c with size:=c.size+1 } m r->eG r.2.2.now node r.1 m (bD l ⟨name,target⟩)/\Fr node X.now r.2.2.now):=by
 have hlen:=tV X.now (aU m pl);have hsl:(setSlot (di X.now (aU m pl)) k (jC ⟨name,target⟩)).length=16:=by
  unfold setSlot;simp [Dv,hlen];omega
 obtain ⟨W2,F2,b1,b2⟩:=W.gY hpl jJ hsl;have hk0:0<=aU m pl:=by have:=(W.rQ.aU pl).resolve_left jJ;omega
 have hp:=PU (place:=pl) (e:=⟨name,target⟩) hlen hk hname ht.1 ht.2 hb.symm (ok pl hpl jJ) he;subst hY;refine ⟨W2,F2,Dn hk0 (by omega),λr K=>?_⟩;have hby:∀ i,i<21->aU m i ≠ -1->di r.2.2.now (aU m i)=di (bZ X.now (aU m pl) (setSlot (di X.now (aU m pl)) k (jC ⟨name,target⟩))) (aU m i):=λi hi hu=>PV K.aQ hi hu;refine ⟨⟨K.map,K.wk,?_,?_,λi hi hu=>?_,?_,vC str hnt,K.kY⟩,F2.trans K.fr (ig hn)⟩
 ·rw [K.c_];exact kind
 ·rw [K.c_];show c.size+1=_;rw [size,(mF l _).length_eq];simp
 ·rw [hby i hi hu];by_cases e:i=pl
  ·subst e;rw [b1];exact hp.1
  ·rw [b2 i hi e hu];exact ok i hi hu
 ·rw [IK hby];refine List.Perm.trans ?_ (mF l _).symm;have p:=IL (f:=X.now) (g:=bZ X.now (aU m pl) (setSlot (di X.now (aU m pl)) k (jC ⟨name,target⟩))) (m:=m) (m':=m) hpl λj hj hne=>by
   by_cases e:aU m j = -1
   ·rw [nG e,nG e]
   ·rw [kI e,kI e,b2 j hj hne e]
  rw [kI jJ,kI jJ,b1] at p;have p2:(dV X.now m++kJ (setSlot (di X.now (aU m pl)) k (jC ⟨name,target⟩))).Perm ((⟨name,target⟩::l)++kJ (di X.now (aU m pl))):=by
   refine (lU.append hp.2).trans ?_;rw [List.cons_append];exact List.perm_middle
  exact (List.perm_append_right_iff _).1 (p.symm.trans p2)
theorem PW {B:Int->UInt64}{X:VS}{node:Int}(hn:0<=node/\node<24){c:aA}{m:List Int}{l:List aF}(D:eG X.now node c m l)(name:List UInt8)(target:Int) :
 ((iW B X node c name target).2.1=(lT l name target).2/\(lT l name target).2≠0/\(lT l name target).2≠9) \/
 ((lT l name target).2=0/\(iW B X node c name target).2.1=9/\(ow (bU name)<=qb l name\/bE B X 96<2)) \/
 ((lT l name target)=(bD l ⟨name,target⟩,0)/\(iW B X node c name target).2.1=0/\qb l name<ow (bU name)/\∃ m',eG (iW B X node c name target).2.2.now node (iW B X node c name target).1 m' (bD l ⟨name,target⟩)/\Fr node X.now (iW B X node c name target).2.2.now):=by
 have hbk:=qG name;unfold iW lT;by_cases ht:target<1\/24<=target
 ·left
  rw [if_pos (.inr ht),if_pos ht];exact ⟨rfl,by simp,by simp⟩
 rw [if_neg (show ¬ (¬ (0<=node/\node<24)\/target<1\/24<=target) from λh=>h.elim (λh=>h hn) ht),if_neg ht,D.open_];simp only [ne_eq,not_true_eq_false,if_false];rw [rR D.str];by_cases hr:dI name=false
 ·left
  have hnp:dA l name=false:=by
   rw [<-Bool.not_eq_true];intro h;rw [<-rR D.str] at h;unfold jr at h;cases hf:bR l name with
   | none=>rw [hf] at h;cases h
   | some e=>
    unfold bR at hf;have h1:=List.find?_some hf;have h2:=D.good e (List.mem_of_find?_eq_some hf);have h3:e.name=name:=by simpa using h1
    have:=h2.2.2;rw [h3,hr] at this;cases this
  rw [if_neg (by rw [hnp];simp),if_pos hr,if_pos hr];exact ⟨rfl,by simp,by simp⟩
 rw [if_neg hr,if_neg hr];have hrt:dI name=true:=by simpa using hr
 by_cases hp:dA l name=true
 ·left
  rw [if_pos hp,if_pos hp];exact ⟨rfl,by simp,by simp⟩
 rw [if_neg hp,if_neg hp];have hpf:dA l name=false:=by simpa using hp
 right
 have htr:1<=target/\target<24:=by omega
 unfold j5;cases hs:gP (wordsAt X.now m) m eu 4 (bU name) with
 | some q=>
  obtain ⟨pl,k⟩:=q;obtain ⟨q1,q2,q3,q4,q5⟩:=vH hs;simp only at q1 q2 q3 q4 q5 ⊢;rw [vG] at q4;simp only [not_true_eq_false,if_false,Int.toNat_natCast,vG];have hlt:=D.IQ name q1 (by omega) (by rw [kI q2];exact PX q3 q4);obtain ⟨W2,F2,fr2,HK⟩:=IJ (B:=B) (name:=name) (target:=target) hn D.wk D.ok D.lU D.str D.kind D.size q1 q2 q3 q4 (by omega) hrt htr hpf (Y:=_) rfl;by_cases hfree:1<=bE B X 96
  ·right
   have K:=Dt (B:=B) (c:={ c with size:=c.size+1 }) hn W2 (by rw [fr2];exact hfree);obtain ⟨R1,R2⟩:=HK _ K;exact ⟨trivial,K.e,hlt,m,R1,R2⟩
  ·rcases tY (B:=B) (c:={ c with size:=c.size+1 }) hn W2 with ⟨p9,_⟩|K
   ·left
    exact ⟨trivial,p9,.inr (by omega)⟩
   ·right
    obtain ⟨R1,R2⟩:=HK _ K;exact ⟨trivial,K.e,hlt,m,R1,R2⟩
 | none=>
  simp only;unfold nH;cases hg:kH m 4 (bU name) with
  | none=>
   left
   simp only;exact ⟨trivial,rfl,.inl (D.full name hs hg)⟩
  | some pl=>
   obtain ⟨q1,q2,q3,q4⟩:=Af hg;simp only;rcases Ag (B:=B) (X:=X) hn with ⟨e0,k0,k1,kn,kx⟩|⟨e9,kx,kf⟩
   ·have hft:=Dm hn e0;simp only [e0,if_true,not_true_eq_false,if_false,Int.toNat_natCast];rw [kx] at hft ⊢;generalize (bL B X node).1=blk at k0 k1 kn hft;obtain ⟨W1,F1,_,YO⟩:=D.wk.take_at hn ⟨k0,k1⟩ kn q1 q2;have hml:=D.wk.len;have hset:∀ i,aU (m.set pl blk) i=if i=pl then blk else aU m i:=λi=>xC (by omega);have hnew:di (gG X.now node blk) blk=List.replicate 16 0:=by
     unfold di gG;rw [Dw (by simp)];rfl
    have hold:∀ i,i<21->i≠pl->aU m i ≠ -1->di (gG X.now node blk) (aU m i)=di X.now (aU m i):=by
     intro i hi hne hu;have hr:=(D.wk.rQ.aU i).resolve_left hu;refine xE ⟨k0,k1⟩ hr.1 λe=>?_;have hm:aU m i∈m:=by
      unfold aU;rw [List.getElem?_eq_getElem (by omega)];exact List.getElem_mem _
     have:=(D.wk.own _ hr.1 hr.2).1 (nI.2 ⟨.inr hm,hu⟩);rw [e,kn] at this;exact ig hn this.symm
    have hat:aU (m.set pl blk) pl=blk:=by rw [hset,if_pos rfl]
    have PY:dV (gG X.now node blk) (m.set pl blk)=dV X.now m:=by
     unfold dV;have:∀ i∈List.range 21,gH (gG X.now node blk) (m.set pl blk) i=gH X.now m i:=by
      intro i hi;have hi:i<21:=by simpa using hi
      by_cases e:i=pl
      ·subst e;rw [kI (by rw [hat];omega),hat,hnew,nG q2];exact (IU 0).2
      ·by_cases e2:aU m i = -1
       ·rw [nG e2,nG (by rw [hset,if_neg e];exact e2)]
       ·rw [kI e2,kI (by rw [hset,if_neg e];exact e2),hset,if_neg e,hold i hi e e2]
     revert this
     generalize List.range 21=L;intro this
     induction L with
     | nil=>rfl
     | cons x L ih=>rw [List.flatMap_cons,List.flatMap_cons,this x (by simp),ih (λi hi=>this i (by simp [hi]))]
    have hlt:=D.IQ name q1 (by omega) (by rw [nG q2];simp);have hW:qa (wordsAt X.now m) pl (pl:Int)=di (gG X.now node blk) (aU (m.set pl blk) pl):=by
     unfold qa;rw [if_pos rfl,hat,hnew]
    obtain ⟨W2,F2,fr2,HK⟩:=IJ (B:=B) (X:={ X with now:=gG X.now node blk }) (m:=m.set pl blk) (pl:=pl) (k:=0) (name:=name) (target:=target) hn W1 (λi hi hu=>by
     by_cases e:i=pl
     ·subst e;rw [hat];show mI (di (gG X.now node blk) blk) i=true;rw [hnew];exact (IU i).1
     ·rw [hset,if_neg e] at hu ⊢;show mI (di (gG X.now node blk) (aU m i)) i=true;rw [hold i hi e hu];exact D.ok i hi hu) (by show (dV (gG X.now node blk) (m.set pl blk)).Perm l;rw [PY];exact D.lU) D.str D.kind D.size q1 (by rw [hat];omega) (by decide) (by show eu (di (gG X.now node blk) _) 0=true;rw [hat,hnew];rfl) (by omega) hrt htr hpf (Y:=_) rfl
    rw [hW];by_cases hfree:1<=bE B { X with now:=gG X.now node blk } 96
    ·right
     have K:=Dt (B:=B) (c:={ c with size:=c.size+1 }) hn W2 (by rw [fr2];exact hfree);obtain ⟨R1,R2⟩:=HK _ K;exact ⟨trivial,K.e,hlt,_,R1,F1.trans R2 (ig hn)⟩
    ·rcases tY (B:=B) (c:={ c with size:=c.size+1 }) hn W2 with ⟨p9,_⟩|K
     ·left
      exact ⟨trivial,p9,.inr (by omega)⟩
     ·right
      obtain ⟨R1,R2⟩:=HK _ K;exact ⟨trivial,K.e,hlt,_,R1,F1.trans R2 (ig hn)⟩
   ·left
    simp only [e9];refine ⟨trivial,rfl,.inr ?_⟩;rcases Nat.lt_or_ge (bE B X 96) 1 with h|h
    ·omega
    ·exact absurd kf (Ae h)
def kE (l:List aF)(name:List UInt8):List aF×Int×Int:=
 if dA l name=true then (l.eraseIdx (aP l name),(l[aP l name]?.getD ⟨[],0⟩).node,0) else ([],0,4)
theorem tQ {l:List aF}{name:List UInt8}(h:dA l name=true):∃ hk:aP l name<l.length,(l[aP l name]'hk).name=name:=by
 unfold dA at h;cases he:l[aP l name]? with
 | none=>rw [he] at h;cases h
 | some e=>
  rw [he] at h;obtain ⟨hk,hh⟩:=List.getElem?_eq_some_iff.1 he;exact ⟨hk,by rw [hh];simpa using h⟩
theorem Da {l:List aF}(hs:strict l){x y:aF}(hx:x∈l)(hy:y∈l)(e:x.name=y.name):x=y:=by
 obtain ⟨i,hi,rfl⟩:=List.mem_iff_getElem.1 hx;obtain ⟨j,hj,rfl⟩:=List.mem_iff_getElem.1 hy;rcases Nat.lt_trichotomy i j with h|h|h
 ·have:=List.pairwise_iff_getElem.1 hs i j hi hj h;rw [e,nJ] at this;cases this
 ·subst h;rfl
 ·have:=List.pairwise_iff_getElem.1 hs j i hj hi h;rw [e,nJ] at this;cases this
theorem UK {l:List aF}{name:List UInt8}(hs:strict l)(h:dA l name=true):(jr l name).1=(l[aP l name]?.getD ⟨[],0⟩).node:=by
 obtain ⟨hk,hn⟩:=tQ h;rw [<-rR hs] at h;unfold jr at h ⊢;cases hf:bR l name with
 | none=>rw [hf] at h;cases h
 | some e=>
  unfold bR at hf;have h1:e.name=name:=by simpa using List.find?_some hf
  have h2:=List.mem_of_find?_eq_some hf;rw [List.getElem?_eq_getElem hk];show e.node=(l[aP l name]'hk).node;rw [Da hs h2 (List.getElem_mem hk) (by rw [h1,hn])]
theorem UL {name:List UInt8}{ws:List UInt64}{k:Nat}(h:jD name ws k=true):jL ws k=name/\eu ws k=false:=by
 unfold jD lm at h;simp only [Bool.and_eq_true,decide_eq_true_eq] at h;refine ⟨h.2,?_⟩;have h1:=h.1.2.2.2.1;unfold eu;rw [decide_eq_false (λe=>by rw [e] at h1;simp at h1)];rfl
theorem UI {now:Int->UInt64}{node:Int}{c:aA}{m:List Int}{l:List aF}(D:eG now node c m l){name:List UInt8}(h:dA l name=true) :
 ∃ pl k,gP (wordsAt now m) m (jD name) 4 (bU name)=some (pl,k)/\pl<21/\aU m pl ≠ -1/\k<5/\eu (di now (aU m pl)) k=false/\jf (di now (aU m pl)) k=l[aP l name]?.getD ⟨[],0⟩:=by
 have hbk:=qG name;obtain ⟨hk,hn⟩:=tQ h;have hm:l[aP l name]∈dV now m:=D.lU.mem_iff.2 (List.getElem_mem hk);cases hs:gP (wordsAt now m) m (jD name) 4 (bU name) with
 | some q=>
  obtain ⟨pl,k⟩:=q;obtain ⟨q1,q2,q3,q4,q5⟩:=vH hs;simp only at q1 q2 q3 q4 q5;rw [vG] at q4;obtain ⟨g1,g2⟩:=UL q4;refine ⟨pl,k,rfl,q1,q2,q3,g2,?_⟩;rw [List.getElem?_eq_getElem hk];refine Da D.str (D.lU.mem_iff.1 ?_) (List.getElem_mem hk) (g1.trans hn.symm);unfold dV;rw [List.mem_flatMap];refine ⟨pl,by simpa using q1,?_⟩;rw [kI q2];unfold kJ;rw [List.mem_flatMap];refine ⟨k,by simpa using q3,?_⟩;unfold fC;rw [if_neg (by rw [g2];decide)];simp
 | none=>
  exfalso;unfold dV at hm;rw [List.mem_flatMap] at hm;obtain ⟨i,hi,he⟩:=hm;have hi:i<21:=by simpa using hi
  have hu:aU m i ≠ -1:=λe=>by rw [nG e] at he;cases he
  rw [kI hu] at he;unfold kJ at he;rw [List.mem_flatMap] at he;obtain ⟨k,hk5,hse⟩:=he;have hk5:k<5:=by simpa using hk5
  have ho:=D.ok i hi hu;unfold mI at ho;simp only [Bool.and_eq_true] at ho;have hso:=List.all_eq_true.1 ho.2 k (by simpa using hk5);unfold fC at hse;by_cases hem:eu (di now (aU m i)) k=true
  ·rw [if_pos hem] at hse;cases hse
  rw [if_neg hem,List.mem_singleton] at hse;unfold iY at hso;have hem2:eu (di now (aU m i)) k=false:=by simpa using hem
  rw [hem2,Bool.false_or] at hso;have hnm:jL (di now (aU m i)) k=name:=by rw [<-hn,hse];rfl
  have hb:bU name=i%8:=by
   have:=hso;unfold lm at this;simp only [Bool.and_eq_true,decide_eq_true_eq] at this;rw [<-hnm];exact this.2.2.1
  have hj:=Dz hs (i/8) (by omega) (by omega);have e:bU name+8*(i/8)=i:=by omega
  rw [e,vG] at hj;have:=Dy (hj.resolve_left hu) k (Nat.zero_le _) (by omega);have hib:jD name (di now (aU m i)) k=true:=by
   unfold jD;rw [decide_eq_true hnm,Bool.and_true];unfold lm at hso ⊢;rw [hb,Nat.mod_mod];exact hso
  rw [hib] at this;cases this
theorem UJ {node:Int}(hn:0<=node/\node<24){now:Int->UInt64}{c:aA}{m:List Int}{l:List aF}(D:eG now node c m l){name:List UInt8}(ht:dA l name=true){pl k:Nat}
 (hpl:pl<21) (jJ:aU m pl ≠ -1) (hk:k<5) (he:eu (di now (aU m pl)) k=false) (hee:jf (di now (aU m pl)) k=l[aP l name]?.getD ⟨[],0⟩) :
 eG (bZ now (aU m pl) (setSlot (di now (aU m pl)) k [0,0,0])) node { c with size:=c.size-1 } m (l.eraseIdx (aP l name))/\Fr node now (bZ now (aU m pl) (setSlot (di now (aU m pl)) k [0,0,0])):=by
 obtain ⟨hkl,hnm⟩:=tQ ht;have hlen:=tV now (aU m pl);have hsl:(setSlot (di now (aU m pl)) k [0,0,0]).length=16:=by
  unfold setSlot;simp [hlen];omega
 obtain ⟨W2,F2,b1,b2⟩:=D.wk.gY hpl jJ hsl;have hp:=Qo (place:=pl) hlen hk (D.ok pl hpl jJ) he;have hml:=D.wk.len;have hxm:aU m pl∈m:=by
  unfold aU;rw [List.getElem?_eq_getElem (by omega)];exact List.getElem_mem _
 refine ⟨⟨?_,W2,D.kind,?_,λi hi hu=>?_,?_,?_,D.kY⟩,F2⟩
 ·have hm:=D.map;unfold mapOf at hm ⊢;by_cases e:c.more = -1
  ·rw [if_pos e] at hm ⊢;exact hm
  ·rw [if_neg e] at hm ⊢;have e2:dB (bZ now (aU m pl) (setSlot (di now (aU m pl)) k [0,0,0])) c.more=dB now c.more:=J4 (by omega) (D.wk.Ee hxm jJ);simp only [e2];exact hm
 ·show c.size-1=_;rw [D.size,List.length_eraseIdx_of_lt hkl];omega
 ·by_cases e:i=pl
  ·subst e;rw [b1];exact hp.1
  ·rw [b2 i hi e hu];exact D.ok i hi hu
 ·have p:=IL (f:=now) (g:=bZ now (aU m pl) (setSlot (di now (aU m pl)) k [0,0,0])) (m:=m) (m':=m) hpl λj hj hne=>by
   by_cases e:aU m j = -1
   ·rw [nG e,nG e]
   ·rw [kI e,kI e,b2 j hj hne e]
  rw [kI jJ,kI jJ,b1] at p;have hE:jf (di now (aU m pl)) k=l[aP l name]:=by rw [hee,List.getElem?_eq_getElem hkl];rfl
  have hq:=hp.2;rw [hE] at hq;have pl1:(l[aP l name]::l.eraseIdx (aP l name)).Perm l:=by
   rw [List.eraseIdx_eq_take_drop_succ];refine List.perm_middle.symm.trans ?_;rw [List.getElem_cons_drop,List.take_append_drop]
  have s1:(dV (bZ now (aU m pl) (setSlot (di now (aU m pl)) k [0,0,0])) m++kJ (di now (aU m pl))).Perm (l.eraseIdx (aP l name)++kJ (di now (aU m pl))):=by
   refine p.symm.trans ?_;refine (List.Perm.append_right _ (D.lU.trans pl1.symm)).trans ?_;rw [List.cons_append];refine List.perm_middle.symm.trans ?_;exact List.Perm.append_left _ hq
  exact (List.perm_append_right_iff _).1 s1
 ·exact List.Pairwise.sublist (List.eraseIdx_sublist _ _) D.str
theorem UH {h:Heap}{V:VL}{M:aS}{X:VS}(A:At h V M X){node:Int}(hn:0<=node/\node<24){c:aA}{m:List Int}{l:List aF}(D:eG X.now node c m l)(name:List UInt8)(hnl:name.length<=140737488351232) :
 aC Tryz.prog 109 [.pointer (some ⟨V.v,0,none⟩),.int .i64 node,.agg ⟨c.cells⟩,.string ⟨name.toArray⟩] h (λv h'=>Keeps [V.ob] h h'/\∃ c' X',v=.tuple #[.agg ⟨c'.cells⟩,.int .i64 (kE l name).2.1,.int .i64 (kE l name).2.2]/\At h' V M X'/\X'.away=X.away/\X'.bG=X.bG /\
  ((kE l name).2.2=0->eG X'.now node c' m (kE l name).1/\Fr node X.now X'.now)/\X'={ X with now:=X'.now }/\((kE l name).2.2=0->c'={ c with size:=c.size-1 })):=by
 have hvb:=A.blt;have qM:=hvb V.ob (by simp [VL.blocks]);obtain ⟨_,hc⟩:=D.right;have hop:=D.open_;refine aG aH Tryz.func109 rfl ok109 (by simp [Tryz.f109]) ?_;(conv=>whnf);refine aL.i λb1 h1 e1 s1 o1 k1=>?_;(conv=>whnf);refine aL.i λb2 h2 e2 s2 o2 k2=>?_;(conv=>whnf);refine aL.i λb3 h3 e3 s3 o3 k3=>?_;(conv=>whnf);refine ak.i (DN node h3) λv h4 k4 hv=>?_;subst hv;rw [if_pos hn];have k04:=((k1.trans k2).trans k3).trans k4;(conv=>whnf);refine aj.f rfl ?_;(conv=>whnf);refine ak.i (xK (A.on k04) c hc) λv h5 k5 hv=>?_;have k05:=k04.trans k5;unfold rW at hv;rw [hop,if_pos rfl] at hv;obtain ⟨b,L,a,cc,rfl,B5,nB,O5,nO,ok⟩:=hv;have hlf:=D.few;have z1:=k1.size;have z2:=k2.size;have z3:=k3.size;have z4:=k4.size;have z5:=k5.size;have xL:∀ x∈BL.blocks b L,x∉V.blocks:=λx hx hx2=>by have:=nB x hx;have:=hvb x hx2;omega
 (conv=>whnf);refine aj.f rfl ?_;simp only at B5 O5 ok ⊢;have Aq:=kr O5 ok (by omega);have o25:h5[b2]?=some (.cells ⟨[.string ⟨name.toArray⟩]⟩ 9 (0,0)):=((k3.trans k4).trans k5).obj o2 (by simp);(conv=>whnf);refine ax.o o25 rfl ?_;(conv=>whnf);refine ak.i (find_spec Aq (by omega) name) λv h6 k6 hv=>?_;subst hv;have k06:=k05.trans k6;have z6:=k6.size;rw [rR D.str];(conv=>whnf);refine aj.i (λhth=>?_) (λhth=>?_)
 ·have ht:dA l name=false:=by simpa using hth
  (conv=>whnf);refine aK.i λh7 s7 k7=>?_;(conv=>whnf);have kk:Keeps [] h h7:=k06.new1 k7 (by omega);unfold kE;rw [if_neg (by rw [ht];decide)];exact ⟨kk.mono (by simp),aA.zero,X,rfl,A.on kk,rfl,rfl,(λe=>by cases e),rfl,λe=>by cases e⟩
 ·have ht:dA l name=true:=by simpa using hth
  obtain ⟨pl,k,hsp,hpl,jJ,hk5,hem,hee⟩:=UI D ht;have B6:=B5.keep k6 (by simp);have o26:h6[b2]?=some (.cells ⟨[.string ⟨name.toArray⟩]⟩ 9 (0,0)):=k6.obj o25 (by simp);have SP:=QJ B6 name hnl o26;rw [hsp] at SP;(conv=>whnf);refine ax.o o26 rfl ?_;(conv=>whnf);refine ak.i SP λv h7 k7 hv=>?_;subst hv;(conv=>whnf);refine aW.make (n:=3) rfl rfl rfl rfl rfl (by decide) (by decide) λb8 h8 e8 s8 o8 k8=>?_;have S8:Sl h8 (some ⟨b8,0,none⟩) 3 3 ([0,0,0]:List UInt64):=Sl.mJ (α:=UInt64) (n:=3) o8 (by simp [One.ok]) rfl (by simp);have k78:=k7.trans k8;have A8:=A.on (k06.trans k78);have B8:=B6.keep k78 (by simp);have zV:=(D.wk.rQ.aU pl).resolve_left jJ;have PS:=Jh A8 B8 xL hpl jJ zV hk5 S8;have z78:=k78.size;(conv=>whnf);refine ak.m PS ?_ λv h9 k9 hv=>?_
  ·intro y hy hx2;have hy2:y=b1\/y=b3:=by simpa [au,aZ,or_comm] using hy
   simp only [List.mem_cons] at hx2;rcases hx2 with rfl|hx2
   ·omega
   ·have:=nB y hx2;omega
  obtain ⟨rfl,A9,_,_⟩:=hv;have kk9:Keeps [V.ob] h h9:=((k06.trans k78).mono (by simp)).gQ k9 (λy hy=>by
   simp only [List.mem_cons] at hy;rcases hy with rfl|hy
   ·exact .inl (by simp)
   ·have:=nB y hy;right;omega)
  rw [vG] at A9;obtain ⟨D9,F9⟩:=UJ hn D ht hpl jJ hk5 hem hee;(conv=>whnf);refine aj.f rfl ?_;(conv=>whnf);refine aK.i λh10 s10 k10=>?_;(conv=>whnf);refine aK.i λh11 s11 k11=>?_;(conv=>whnf);have z9:=k9.size;have kk11:Keeps [V.ob] h h11:=(kk9.gQ k10 (λy hy=>by simp at hy;right;omega)).gQ k11 (λy hy=>by simp at hy;right;omega);have A11:=(A9.keep k10 (λy hy=>by have:=hvb y hy;simp;omega)).keep k11 (λy hy=>by have:=hvb y hy;simp;omega);have hwr:IntKind.i64.wrap (c.size-1)=c.size-1:=by rw [D.size];exact dR (by omega) (by omega)
  have er:kE l name=(l.eraseIdx (aP l name),(l[aP l name]?.getD ⟨[],0⟩).node,0):=by unfold kE;rw [if_pos ht]
  rw [er];refine ⟨kk11,{ c with size:=c.size-1 },_,?_,A11,rfl,rfl,(λ_=>⟨D9,F9⟩),rfl,λ_=>rfl⟩;rw [UK D.str ht];have xN:({ c with size:=c.size-1 }:aA).cells=bF (0+2) (cellsOf (.int .i64 (IntKind.i64.wrap (c.size-1)))) c.cells:=by rw [hwr];rfl
  rw [xN];rfl
end Go.Proofs.YtoociceebodfeaaGreatDoor
