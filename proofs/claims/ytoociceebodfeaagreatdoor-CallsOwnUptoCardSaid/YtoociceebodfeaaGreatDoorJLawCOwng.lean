/-
  Joined texts: FolM, FolN, ChgB, BodyY, ChgA, FileF, FileG, FolO, FolQ, FolR, FolT, FolU, FolV, FolW, FolX, FomA, FomB, FomC, FomD, FomE, WalD, FileH, FileJ.
-/
import Derived.Test.YtoociceebodfeaaGreatDoorJLawCOwnf
import Derived.Test.YtoociceebodfeaaGreatDoorJLawCOwne
import Derived.Shelf.SlLaysF0
import Derived.Test.YtoociceebodfeaaGreatDoorProg
import Derived.Shelf.SlSortCmp.NoneTotal
set_option linter.all false
set_option maxRecDepth 100000
set_option maxHeartbeats 1000000
namespace Go.Proofs.YtoociceebodfeaaGreatDoor
open Go Go.aK
def iQ (B:Int->UInt64)(X:VS)(node:Int)(c:aB)(name:List UInt8)(target:Int):aB×Int×VS:=
 if ¬ (0<=node/\node<24)\/target<1\/24<=target then (aB.zero,1,X)
 else if (fu X.now c).1≠0 then (aB.zero,(fu X.now c).1,X)
 else if (jk (fu X.now c).2.2 name).2=true then (aB.zero,5,X)
 else if dG name=false then (aB.zero,3,X)
 else
  let f:=jT B X node (fu X.now c).2.1 (wordsAt X.now (fu X.now c).2.1) (bR name)
  if f.e≠0 then (aB.zero,f.e,f.X)
  else eD B { f.X with now:=bX f.X.now (aM f.m f.pl.toNat) (setSlot (f.W f.pl) f.k.toNat (w64 target::dK name 2)) } node { c with size:=c.size+1 } f.m
def qG (m:List Int):Prop:=m.length=21/\∀ x∈m,x = -1\/(0<=x/\x<96)
theorem qG.aM {m:List Int}(R:qG m)(i:Nat):aM m i = -1\/(0<=aM m i/\aM m i<96):=by
 unfold Proofs.YtoociceebodfeaaGreatDoor.aM;cases h:m[i]? with
 | none=>exact .inl rfl
 | some x=>exact R.2 x (List.mem_of_getElem? h)
theorem qG.in64 {m:List Int}(R:qG m):∀ x∈m,inI64 x:=λx hx=>by
 unfold inI64;rcases R.2 x hx with h|h <;> omega
theorem Rz {now:Int->UInt64}{c:aB}(h:(fu now c).1=0):qG (fu now c).2.1/\((fu now c).2.2.length:Int)=c.size:=by
 unfold fu at h ⊢;split at h
 ·simp at h
 ·rename_i hk;rw [if_neg hk];split at h
  ·simp at h
  ·rename_i m hm;split at h
   ·rename_i hc;rw [if_pos hc];refine ⟨⟨vF hm,λx hx=>?_⟩,by simp only;rw [(rX _).length_eq];exact hc.2.2⟩;obtain ⟨i,hi,rfl⟩:=List.mem_iff_getElem.1 hx;have hl:=vF hm;have:=yh hc.1 (i:=i) (by simp only at hi;omega);have e:aM m i=m[i]'hi:=by unfold aM;rw [List.getElem?_eq_getElem hi];rfl
    unfold kC vL at this;rw [e] at this;by_cases h1:m[i]'hi = -1
    ·exact .inl h1
    ·rw [decide_eq_false h1] at this;simp only [Bool.false_or,Bool.and_eq_true] at this;exact .inr (of_decide_eq_true this.1)
   ·simp at h
theorem RF {B:Int->UInt64}{X:VS}{node:Int}{m:List Int}{W:Int->List UInt64}{bk:Nat}(R:qG m)(he:(jT B X node m W bk).e=0) :
 ∃ pl k:Nat,(jT B X node m W bk).pl=(pl:Int)/\(jT B X node m W bk).k=(k:Int)/\pl<21/\k<5/\aM (jT B X node m W bk).m pl ≠ -1/\qG (jT B X node m W bk).m:=by
 unfold jT at he ⊢;cases hs:gK W m dY 4 bk with
 | some q=>
  have:=vJ hs;obtain ⟨pl,k⟩:=q;exact ⟨pl,k,rfl,rfl,this.1,this.2.2.1,this.2.1,R⟩
 | none=>
  rw [hs] at he;simp only at he ⊢;unfold mW at he ⊢;cases hg:kr m 4 bk with
  | none=>rw [hg] at he;simp at he
  | some pl=>
   rw [hg] at he;simp only at he ⊢;split at he
   ·rename_i h0;rw [if_pos h0];have hr:=vG h0;have hg2:=AQ hg;refine ⟨pl,0,rfl,rfl,hg2.1,by decide,?_,by rw [List.length_set];exact R.1,λx hx=>?_⟩
    ·rw [xW (by rw [R.1];exact hg2.1),if_pos rfl];omega
    ·rcases List.mem_or_eq_of_mem_set hx with hx|rfl
     ·exact R.2 x hx
     ·exact .inr hr
   ·rename_i h0;simp only at he;exact absurd he h0
theorem Og {h:Heap}{V:VL}{M:aV}{X:VS}(A:At h V M X)(node:Int)(c:aB)(hc:c.ok)(name:List UInt8)(hnl:name.length<=140737488351232)(target:Int) :
 aD Tryz.prog 110 [.pointer (some ⟨V.v,0,none⟩),.int .i64 node,.agg ⟨c.cells⟩,.string ⟨name.toArray⟩,.int .i64 target] h (λv h'=>Keeps [V.ob] h h' /\
  v=.tuple #[.agg ⟨(iQ M.read X node c name target).1.cells⟩,.int .i64 (iQ M.read X node c name target).2.1]/\At h' V M (iQ M.read X node c name target).2.2):=by
 have hvb:=A.blt;have JY:=JZ X.now c;unfold iQ;refine aH aI Tryz.func110 rfl ok110 (by simp [Tryz.f110]) ?_;(conv=>whnf);refine aR.i λb1 h1 e1 s1 o1 k1=>?_;(conv=>whnf);refine aR.i λb2 h2 e2 s2 o2 k2=>?_;(conv=>whnf);refine au.i (ES node h2) λv h3 k3 hv=>?_;subst hv;have k03:=(k1.trans k2).trans k3;(conv=>whnf);refine ak.i (λhq=>?_) (λhq=>?_)
 ·have hbad:¬ (0<=node/\node<24)\/target<1\/24<=target:=by
   by_cases hn:0<=node/\node<24
   ·rw [if_pos hn] at hq;simp [di] at hq;omega
   ·exact .inl hn
  (conv=>whnf);refine aN.i λh4 s4 k4=>?_;(conv=>whnf);rw [if_pos hbad];have kk:Keeps [] h h4:=k03.new1 k4 (by have:=k1.size;omega);exact ⟨kk.mono (by simp),rfl,A.on kk⟩
 have hgood:¬ (¬ (0<=node/\node<24)\/target<1\/24<=target):=by
  by_cases hn:0<=node/\node<24
  ·rw [if_pos hn] at hq;simp [di] at hq;omega
  ·rw [if_neg hn] at hq;simp [di] at hq
 rw [if_neg hgood];(conv=>whnf);refine au.i (yj (A.on k03) c hc) λv h4 k4 hv=>?_;have k04:=k03.trans k4;have vO:=Rz (now:=X.now) (c:=c);generalize fu X.now c=r at hv JY vO;have z1:=k1.size;have z2:=k2.size;have z3:=k3.size;have z4:=k4.size;unfold r9 at hv;by_cases h0:r.1=0
 ·rw [if_pos h0] at hv;obtain ⟨b,L,a,cc,rfl,B4,nB,O4,nO,ok⟩:=hv;obtain ⟨mR,hsz⟩:=vO h0;obtain ⟨e0,m,l⟩:=r;simp only at h0 mR hsz O4 ok B4 JY ⊢;subst h0;rw [if_neg (show ¬ (0:Int)≠0 by simp)];have yu:∀ x∈BL.blocks b L,x∉V.blocks:=λx hx hx2=>by have:=nB x hx;have:=hvb x hx2;omega
  have qC:=hvb V.ob (by simp [VL.blocks]);have done:∀ (h' h'':Heap) (e:Int),Keeps [] h h'->Keeps [b2] h' h''->Keeps [V.ob] h h''/\(Value.tuple #[.agg ⟨aB.zero.cells⟩,.int .i64 e]=.tuple #[.agg ⟨aB.zero.cells⟩,.int .i64 e])/\At h'' V M X:=by
   intro h' h'' e q1 q2;have kk:Keeps [] h h'':=q1.new1 q2 (by omega);exact ⟨kk.mono (by simp),rfl,A.on kk⟩
  (conv=>whnf);refine ak.f rfl ?_;have Bf:=jX O4 ok (by omega);have key:∀ (h5:Heap) (sv:Value) (et:Int),Keeps [] h4 h5->True:=λ_ _ _ _=>trivial;rcases Nat.lt_or_ge 16 name.length with hlong|hshort
  ·have hnb:dG name=false:=by
    unfold dG;rw [decide_eq_false (show ¬ name.length<=14 by omega)];simp
   (conv=>whnf);refine au.i (RG name 2 h4 (by decide) (by omega) hnl) λv h5 k5 hv=>?_;subst hv;(conv=>whnf);refine au.i (find_spec (Bf.keep k5) (by omega) name) λv h6 k6 hv=>?_;subst hv;(conv=>whnf);refine ak.i (λhth=>?_) (λhth=>?_)
   ·(conv=>whnf);refine aN.i λh7 s7 k7=>?_;(conv=>whnf);rw [if_pos hth];exact done _ _ 5 ((k04.trans k5).trans k6) k7
   ·(conv=>whnf);refine ak.f rfl ?_;(conv=>whnf);refine ak.t rfl ?_;(conv=>whnf);refine aN.i λh7 s7 k7=>?_;(conv=>whnf);rw [if_neg (by rw [hth];decide),if_pos hnb];exact done _ _ 3 ((k04.trans k5).trans k6) k7
  ·(conv=>whnf);refine au.i (IY ⟨name.toArray⟩ 2 h4 (by decide) (by rw [dN];exact hshort)) λv h5 k5 hv=>?_;obtain ⟨tb,rfl,tb0,tb1,ot⟩:=hv;(conv=>whnf);refine au.i (find_spec (Bf.keep k5) (by omega) name) λv h6 k6 hv=>?_;subst hv;(conv=>whnf);refine ak.i (λhth=>?_) (λhth=>?_)
   ·(conv=>whnf);refine aN.i λh7 s7 k7=>?_;(conv=>whnf);rw [if_pos hth];exact done _ _ 5 ((k04.trans k5).trans k6) k7
   ·rw [if_neg (by rw [hth];decide)];(conv=>whnf);refine ak.t rfl ?_;(conv=>whnf);refine au.i (ET name hnl h6) λv h7 k7 hv=>?_;subst hv;have k07:=((k04.trans k5).trans k6).trans k7;(conv=>whnf);refine ak.i (λhnr=>?_) (λhnr=>?_)
    ·(conv=>whnf);refine aN.i λh8 s8 k8=>?_;(conv=>whnf);have hnb:dG name=false:=by simpa using hnr
     rw [if_pos hnb];exact done _ _ 3 k07 k8
    ·have hnb:dG name=true:=by simpa using hnr
     rw [if_neg (by rw [hnb];decide)];have k47:=(k5.trans k6).trans k7;have B7:=B4.on k47;have FS:=RH (A.on k07) node B7 yu name hnl;have ff:=RF (B:=M.read) (X:=X) (node:=node) (W:=wordsAt X.now m) (bk:=bR name) mR;simp only;generalize jT M.read X node m (wordsAt X.now m) (bR name)=f at FS ff;(conv=>whnf);refine au.m FS ?_ λv h8 k8 hv=>?_
     ·intro y hy hx2;have hy2:y=b1\/y=b2:=by simpa [aA,bg] using hy
      simp only [List.mem_cons] at hx2;rcases hx2 with rfl|hx2
      ·omega
      ·have:=nB y hx2;omega
     obtain ⟨rfl,A8,hbk⟩:=hv;have kk8:Keeps [V.ob] h h8:=(k07.mono (by simp)).gL k8 (λy hy=>by
      simp only [List.mem_cons] at hy;rcases hy with rfl|hy
      ·exact .inl (by simp)
      ·have:=nB y hy;right;omega)
     have z7:=k07.size;have z8:=k8.size;have z47:=k47.size;(conv=>whnf);refine ak.i (λhfe=>?_) (λhfe=>?_)
     ·have he1:f.e≠0:=by simpa using hfe
      (conv=>whnf);refine aN.i λh9 s9 k9=>?_;(conv=>whnf);rw [if_pos he1];exact ⟨kk8.gL k9 (λy hy=>by simp at hy;right;omega),rfl,A8.keep k9 (λy hy=>by have:=hvb y hy;simp;omega)⟩
     ·have he1:f.e=0:=by simpa using hfe
      rw [if_neg (show ¬ f.e≠0 by rw [he1];simp)];obtain ⟨L',B8,n8⟩:=hbk he1;obtain ⟨pl,k,J2,ek,hpl,hk5,jE,fR⟩:=ff he1;obtain ⟨WE,fk,fe,fX,fm,fW⟩:=f;simp only at he1 B8 J2 ek jE fR A8 ⊢;subst J2;subst ek;subst he1;have hdis8:∀ x∈BL.blocks b L',x∉V.blocks:=λx hx hx2=>by
       rcases n8 x hx with g|g
       ·exact yu x g hx2
       ·have:=hvb x hx2;omega
      have nB8:∀ x∈BL.blocks b L',h3.size<=x:=λx hx=>by
       rcases n8 x hx with g|g
       ·exact nB x g
       ·omega
      have ot8:h8[tb]?=some (.cells ⟨(dK name 2).map wv⟩ 46 (0,0)):=by
       refine k8.obj ((k6.trans k7).obj ot (by simp)) ?_;simp only [List.mem_cons,not_or];refine ⟨by omega,λhx=>?_⟩;have:=B4.lt tb hx;omega
      (conv=>whnf);refine aR.i λb9 h9 e9 s9 o9 k9=>?_;(conv=>whnf);refine aR.i λb10 h10 e10 s10 o10 k10=>?_;have EU:=k10.obj o9 (by simp);have ot10:=(k9.trans k10).obj ot8 (by simp);have k8_10:=k9.trans k10;have z810:=k8_10.size;have S1:Sl h10 (some ⟨b9,0,none⟩) 1 1 [w64 target]:=by
       refine Sl.l7 (α:=UInt64) (n:=1) (T:=46) (fz:=(0,0)) ?_ (by simp [One.ok]) rfl (by simp);rw [EU];show some (Obj.cells ⟨[.int .u64 (IntKind.u64.wrap target)]⟩ _ _)=_;rw [<-Au];rfl
      have S2:Sl h10 (some ⟨tb,0,none⟩) 2 2 (dK name 2):=Sl.l7 (α:=UInt64) (n:=2) ot10 (by simp [One.ok]) (oI _ _).symm (by rw [oI];decide);have S12:Sl h10 (some ⟨b10,0,none⟩) 2 2 [[w64 target],dK name 2]:=by
       refine ⟨rfl,Nat.le_refl _,by simp,λi hi=>⟨b10,0,rfl,?_⟩⟩;have hi2:i=0\/i=1:=by simp at hi;omega
       rcases hi2 with rfl|rfl
       ·refine ⟨[.slice (some ⟨b9,0,none⟩) 1 1],⟨_,_,_,rfl,S1⟩,λj hj=>?_⟩;have:j=0:=by simpa using hj
        subst this;unfold Heap.cell?;rw [o10];rfl
       ·refine ⟨[.slice (some ⟨tb,0,none⟩) 2 2],⟨_,_,_,rfl,S2⟩,λj hj=>?_⟩;have:j=0:=by simpa using hj
        subst this;unfold Heap.cell?;rw [o10];rfl
      (conv=>whnf);refine au.i (RI S12 (by simp [oI]) (by decide)) λv h11 k11 hv=>?_;obtain ⟨a11,c11,rfl,O11,n11⟩:=hv;have hfl:([[w64 target],dK name 2].flatten)=w64 target::dK name 2:=by simp
      have hfn:(w64 target::dK name 2).length=3:=by simp [oI]
      rw [hfl,hfn] at O11;have S11:Sl h11 a11 3 c11 (w64 target::dK name 2):=O11.sl (xR h11 _) rfl (by decide) (by rw [hfn];decide);obtain ⟨sb,so,rfl⟩:=S11.rR (by decide);have k8_11:=k8_10.trans k11;have A11:=A8.on k8_11;have B11:=B8.on k8_11;have Bg:=(fR.aM pl).resolve_left jE;have PS:=J3 A11 B11 hdis8 hpl jE Bg hk5 S11;(conv=>whnf);rw [hfl,hfn];refine au.m PS ?_ λv h12 k12 hv=>?_
      ·intro y hy hx2;have hy2:y=b1\/y=b2:=by simpa [aA,bg] using hy
       simp only [List.mem_cons] at hx2;rcases hx2 with rfl|hx2
       ·omega
       ·have:=nB8 y hx2;omega
      obtain ⟨rfl,A12,ob12,pl12⟩:=hv;have kk12:Keeps [V.ob] h h12:=(kk8.cu k8_11).gL k12 (λy hy=>by
       simp only [List.mem_cons] at hy;rcases hy with rfl|hy
       ·exact .inl (by simp)
       ·have:=nB8 y hy;right;omega)
      (conv=>whnf);refine ak.f rfl ?_;(conv=>whnf);refine aN.i λh13 s13 k13=>?_;have hwr:IntKind.i64.wrap (c.size+1)=c.size+1:=by rw [<-hsz];exact dQ (by omega) (by omega)
      have hL1:∀ y∈BL.blocks b L',y∉[b1]:=λy hy=>by have:=nB8 y hy;simp;omega
      have A13:=A12.keep k13 (λy hy=>by have:=hvb y hy;simp;omega);have ob13:=k13.obj ob12 (hL1 b (by simp [BL.blocks]));have pl13:fw h13 L'.pb fm L'.sp:=k13.obj pl12 (hL1 _ (by simp [BL.blocks]));have SM:=pl13.sl fR.in64 (n:=21) (cap:=L'.iH) fR.1.symm B8.cap (by rw [fR.1];decide);have RJ:V.ob≠L'.pb:=λe=>hdis8 L'.pb (by simp [BL.blocks]) (e ▸ by simp [VL.blocks]);(conv=>whnf);refine ax.o ob13 rfl ?_;(conv=>whnf);have yw:({ c with size:=c.size+1 }:aB).cells=bC (0+2) (cellsOf (.int .i64 (IntKind.i64.wrap (c.size+1)))) c.cells:=by rw [hwr];rfl
      have KS:=AB A13 node { c with size:=c.size+1 } SM (λ_=>by simp [ay];exact RJ);rw [yw] at KS;refine au.m KS ?_ λv h14 k14 hv=>?_
      ·intro y hy hx2;have hy2:y=b1\/y=b2:=by simpa [aA,bg] using hy
       simp at hx2;omega
      obtain ⟨rfl,A14⟩:=hv;(conv=>whnf);refine aN.i λh15 s15 k15=>?_;(conv=>whnf);have kk15:Keeps [V.ob] h h15:=((kk12.gL k13 (λy hy=>by simp at hy;right;omega)).trans k14).gL k15 (λy hy=>by simp at hy;right;omega);exact ⟨kk15,rfl,A14.keep k15 (λy hy=>by have:=hvb y hy;simp;omega)⟩
 ·rw [if_neg h0] at hv;subst hv;(conv=>whnf);refine ak.t (by simpa using h0) ?_;(conv=>whnf);refine aN.i λh5 s5 k5=>?_;(conv=>whnf);rw [if_pos h0];have kk:Keeps [] h h5:=k04.new1 k5 (by omega);exact ⟨kk.mono (by simp),rfl,A.on kk⟩
theorem Rw (c:UInt8):(bif (bif (bif (bif !(bif decide ((c.toNat:Int)>=97) then decide ((c.toNat:Int)<=122) else false) then !(bif decide ((c.toNat:Int)>=48) then decide ((c.toNat:Int)<=57) else false) else false) then ((c.toNat:Int) != 46) else false) then ((c.toNat:Int) != 45) else false) then ((c.toNat:Int) != 95) else false)=!jH c:=by
 have h1:(c=46)↔c.toNat=46:=⟨λh=>by rw [h];rfl,λh=>UInt8.toNat_inj.1 h⟩;have h2:(c=45)↔c.toNat=45:=⟨λh=>by rw [h];rfl,λh=>UInt8.toNat_inj.1 h⟩;have h3:(c=95)↔c.toNat=95:=⟨λh=>by rw [h];rfl,λh=>UInt8.toNat_inj.1 h⟩;rw [Bool.eq_iff_iff];simp only [dB];unfold jH;have g1:decide (c=46)=decide (c.toNat=46):=decide_eq_decide.2 h1;have g2:decide (c=45)=decide (c.toNat=45):=decide_eq_decide.2 h2;have g3:decide (c=95)=decide (c.toNat=95):=decide_eq_decide.2 h3;rw [g1,g2,g3];simp;omega
theorem JW (l:List UInt8)(hl:l.length<=140737488351232)(h:Heap):aD Tryz.prog 200 [.string ⟨l.toArray⟩] h (λv h'=>Keeps [] h h'/\v=.bool (dG l)):=by
 refine aH aI Tryz.func200 rfl ok200 (by simp [Tryz.f200]) ?_;(conv=>whnf);refine bP.on [0,3] [] (λi:Nat=>[(0,.v (.string ⟨l.toArray⟩)),(3,.v (.int .i64 (i:Int)))]) (λ_=>[]) (λi h'=>i<=l.length/\Keeps [] h h'/\(l.take i).all jH=true) (λi=>l.length-i) 0 ?_ ?_
 ·exact ⟨0,rfl,rfl,rfl,Nat.zero_le _,Keeps.refl _ _,by simp⟩
 ·rintro i h1 ⟨hi,k1,ha⟩;(conv=>whnf);refine ak.i (λhd=>?_) (λhd=>?_)
  ·have hi1:i<l.length:=by rw [dN] at hd;simp at hd;omega
   (conv=>whnf);refine fC.i i rfl (by rw [dN];exact hi1) ?_;have htk:(l.take (i+1)).all jH=jH l[i]:=by
    rw [List.take_succ_eq_append_getElem hi1,List.all_append,ha];simp
   (conv=>whnf);rw [qJ,List.getElem?_eq_getElem hi1,Option.getD_some,Rw];refine ak.i (λhs=>?_) (λhs=>?_)
   ·(conv=>whnf);refine ⟨k1,?_⟩;have hf:l.all jH=false:=by
     have:jH l[i]=false:=by simpa using hs
     rw [<-Bool.not_eq_true,List.all_eq_true];intro hx;rw [hx _ (List.getElem_mem hi1)] at this;cases this
    simp [dG,hf]
   ·(conv=>whnf);refine ⟨l.length-(i+1),by omega,?_⟩;(conv=>whnf);refine ⟨i+1,rfl,by rw [wrapN (n:=i+1) (by simp) (by omega)],rfl,by omega,k1,?_⟩;rw [htk];simpa using hs
  ·have hi1:i=l.length:=by rw [dN] at hd;simp at hd;omega
   subst hi1;rw [List.take_length] at ha;(conv=>whnf);refine ⟨k1,?_⟩;unfold dG;have hc:decide ((l.length:Int)<=14)=decide (l.length<=14):=decide_eq_decide.2 (by omega);have hc0:decide ((l.length:Int)>=1)=decide (l≠[]):=decide_eq_decide.2 (by cases l <;> simp;omega);have e1:(ByteArray.mk #[46])=⟨([46]:List UInt8).toArray⟩:=rfl;have e2:(ByteArray.mk #[46,46])=⟨([46,46]:List UInt8).toArray⟩:=rfl;rw [ha,dN,hc0,hc,e1,e2,iV,iV];simp only [dB];by_cases h0:l=[] <;> by_cases h1:l.length<=14 <;> by_cases h2:l=[46] <;> by_cases h3:l=[46,46] <;> simp_all
theorem JX:∀ (n:Nat) (a b:List UInt8),n<=a.length->n<=b.length->a.take n=b.take n->blt a b=blt (a.drop n) (b.drop n)
 | 0,a,b,_,_,_=>rfl
 | n+1,[],b,h,_,_=>by simp at h
 | n+1,_::_,[],_,h,_=>by simp at h
 | n+1,x::a,y::b,h1,h2,h3=>by
  simp only [List.take_succ_cons,List.cons.injEq] at h3;obtain ⟨rfl,h3⟩:=h3;have ih:=JX n a b (by simpa using h1) (by simpa using h2) h3;rw [List.drop_succ_cons,List.drop_succ_cons,<-ih];rw [Bool.eq_iff_iff,yc]
  constructor
  ·rintro (h|⟨_,h⟩)
   ·exact absurd h (by simp [UInt8.lt_iff_toNat_lt])
   ·exact h
  ·exact λh=>.inr ⟨rfl,h⟩
theorem Rx (a b:List UInt8)(ha:a.length<=140737488351232)(hb:b.length<=140737488351232)(h:Heap):aD Tryz.prog 201 [.string ⟨a.toArray⟩,.string ⟨b.toArray⟩] h (λv h'=>Keeps [] h h'/\v=.bool (blt a b)):=by
 refine aH aI Tryz.func201 rfl ok201 (by simp [Tryz.f201]) ?_;(conv=>whnf);refine bP.on [0,1,5] [] (λi:Nat=>[(0,.v (.string ⟨a.toArray⟩)),(1,.v (.string ⟨b.toArray⟩)),(5,.v (.int .i64 (i:Int)))]) (λ_=>[]) (λi h'=>i<=a.length/\i<=b.length/\Keeps [] h h'/\a.take i=b.take i) (λi=>a.length-i) 0 ?_ ?_
 ·exact ⟨0,rfl,rfl,rfl,Nat.zero_le _,Nat.zero_le _,Keeps.refl _ _,by simp⟩
 ·rintro i h1 ⟨hia,hib,k1,he⟩;have hpre:=JX i a b hia hib he;(conv=>whnf);refine ak.i (λhd=>?_) (λhd=>?_)
  ·have hi:i<a.length/\i<b.length:=by rw [dN,dN,dB] at hd;simp at hd;omega
   have ga:a.drop i=a[i]::a.drop (i+1):=List.drop_eq_getElem_cons hi.1;have gb:b.drop i=b[i]::b.drop (i+1):=List.drop_eq_getElem_cons hi.2;(conv=>whnf);refine fC.i i rfl (by rw [dN];exact hi.1) ?_;(conv=>whnf);refine fC.i i rfl (by rw [dN];exact hi.2) ?_;(conv=>whnf);rw [qJ,qJ,List.getElem?_eq_getElem hi.1,List.getElem?_eq_getElem hi.2,Option.getD_some,Option.getD_some];refine ak.i (λhn=>?_) (λhn=>?_)
   ·have hne:a[i].toNat≠b[i].toNat:=by simp at hn;omega
    (conv=>whnf);refine fC.i i rfl (by rw [dN];exact hi.1) ?_;(conv=>whnf);refine fC.i i rfl (by rw [dN];exact hi.2) ?_;(conv=>whnf);rw [qJ,qJ,List.getElem?_eq_getElem hi.1,List.getElem?_eq_getElem hi.2,Option.getD_some,Option.getD_some];refine ⟨k1,?_⟩;rw [hpre,ga,gb]
    congr 1
    rw [Bool.eq_iff_iff,yc,UInt8.lt_iff_toNat_lt]
    constructor
    ·intro h;exact .inl (by simp at h;omega)
    ·rintro (h|⟨h,_⟩)
     ·simp;omega
     ·exact absurd (by rw [h]) hne
   ·have heq:a[i]=b[i]:=UInt8.toNat_inj.1 (by simp at hn;omega);(conv=>whnf);refine ⟨a.length-(i+1),by omega,?_⟩;(conv=>whnf);refine ⟨i+1,rfl,by rw [wrapN (n:=i+1) (by simp) (by omega)],rfl,by omega,by omega,k1,?_⟩;rw [List.take_succ_eq_append_getElem hi.1,List.take_succ_eq_append_getElem hi.2,he,heq]
  ·have hi:i=a.length\/i=b.length:=by rw [dN,dN,dB] at hd;simp at hd;omega
   (conv=>whnf);refine ⟨k1,?_⟩;rw [hpre,dN,dN];rcases hi with hi|hi
   ·rw [show a.drop i=[] from List.drop_eq_nil_of_le (by omega)];cases hb2:b.drop i with
    | nil=>
     have:b.length<=i:=by
      have:=congrArg List.length hb2;simp at this;omega
     rw [Be]
     congr 1
     exact decide_eq_false (by omega)
    | cons y r=>
     have:i<b.length:=by
      have:=congrArg List.length hb2;simp at this;omega
     show _=Value.bool true
     congr 1
     exact decide_eq_true (by omega)
   ·rw [show b.drop i=[] from List.drop_eq_nil_of_le (by omega),Be]
    congr 1
    exact decide_eq_false (by omega)
def aO (l:List aF)(name:List UInt8):Nat:=(l.takeWhile λe=>blt e.name name).length
def dx (l:List aF)(name:List UInt8):Bool:=match l[aO l name]? with|some e=>decide (e.name=name)|none=>false
theorem vM (l:List aF)(name:List UInt8):aO l name<=l.length:=(List.takeWhile_prefix _).length_le
theorem JR {l:List aF}{name:List UInt8}{i:Nat}(hi:i<aO l name):∃ hl:i<l.length,blt (l[i]).name name=true:=by
 have hl:=vM l name;refine ⟨by omega,?_⟩;have hp:=List.takeWhile_prefix (p:=λe:aF=>blt e.name name) (l:=l);have:(l.takeWhile λe=>blt e.name name)[i]'hi=l[i]'(by omega):=hp.getElem hi;rw [<-this];exact List.all_eq_true.1 (List.all_takeWhile (p:=λe:aF=>blt e.name name) (l:=l)) _ (List.getElem_mem _)
theorem Ry {l:List aF}{name:List UInt8}{i:Nat}(hi:i<=aO l name)(hl:i<l.length)(h:blt (l[i]).name name=false):i=aO l name:=by
 rcases Nat.lt_or_ge i (aO l name) with h1|h1
 ·obtain ⟨_,h2⟩:=JR h1;rw [h] at h2;cases h2
 ·omega
theorem ER:∀ {l:List aF} {name:List UInt8} {i:Nat},i<=aO l name->(hl:i<l.length)->blt (l[i]).name name=true->i+1<=aO l name
 | [],_,_,_,hl,_=>by simp at hl
 | x::l,name,0,_,_,h=>by
  unfold aO;have h':blt x.name name=true:=h;rw [List.takeWhile_cons,if_pos h'];simp
 | x::l,name,i+1,hi,hl,h=>by
  by_cases hx:blt x.name name=true
  ·have e:aO (x::l) name=aO l name+1:=by unfold aO;rw [List.takeWhile_cons,if_pos hx];rfl
   rw [e] at hi ⊢;have:=ER (l:=l) (name:=name) (i:=i) (by omega) (by simpa using hl) (by simpa using h);omega
  ·have e:aO (x::l) name=0:=by unfold aO;rw [List.takeWhile_cons,if_neg hx];rfl
   omega
theorem yg {h:Heap}{a:Option Addr}{n c:Nat}{l:List aF}(S:Sl h a n c l)(hn:n<=1000000000)(name:List UInt8)(hnl:name.length<=140737488351232) :
 aD Tryz.prog 128 [.slice a n c,.string ⟨name.toArray⟩] h (λv h'=>Keeps [] h h'/\v=.tuple #[.int .i64 (aO l name:Int),.bool (dx l name)]):=by
 have hl:=S.hlen;refine aH aI Tryz.func128 rfl ok128 (by simp [Tryz.f128]) ?_;(conv=>whnf);refine bP.on [0,1,6] [] (λi:Nat=>[(0,.v (.slice a n c)),(1,.v (.string ⟨name.toArray⟩)),(6,.v (.int .i64 (i:Int)))]) (λ_=>[]) (λi h'=>i<=aO l name/\Keeps [] h h') (λi=>l.length-i) 0 ?_ ?_
 ·exact ⟨0,rfl,rfl,rfl,Nat.zero_le _,Keeps.refl _ _⟩
 ·rintro i h1 ⟨hi,k1⟩;have WC:=vM l name;have S1:=S.keep k1;rcases Nat.lt_or_ge i l.length with hlt|hge
  ·obtain ⟨b,off,hb,cs,⟨hcs,hok⟩,hcell⟩:=S1.at_ i hlt;subst hcs;(conv=>whnf);refine aQ.i i rfl (by omega) hb ?_;(conv=>whnf);refine ax.i (v:=.string ⟨l[i].name.toArray⟩) (hcell 0 (by simp [aF.cells])) ?_;(conv=>whnf);refine ak.t (by simp;omega) ?_;(conv=>whnf);refine au.i (Rx l[i].name name hok.1 hnl h1) λv h2 k2 hv=>?_;subst hv;(conv=>whnf);refine ak.i (λhd=>?_) (λhd=>?_)
   ·have hd2:blt l[i].name name=true:=by rw [dB] at hd;simpa using (Bool.and_eq_true _ _ ▸ hd).2
    (conv=>whnf);refine ⟨l.length-(i+1),by omega,?_⟩;(conv=>whnf);exact ⟨i+1,rfl,by rw [wrapN (n:=i+1) (by simp) (by omega)],rfl,ER hi hlt hd2,k1.trans k2⟩
   ·have hd2:blt l[i].name name=false:=by
     rw [dB] at hd;have:decide ((i:Int)<(n:Int))=true:=by simp;omega
     rw [this] at hd;simpa using hd
    have hik:=Ry hi hlt hd2;obtain ⟨b',off',hb',cs,⟨hcs,hok'⟩,hcell'⟩:=(S1.keep k2).at_ i hlt;subst hcs;(conv=>whnf);refine aQ.i i rfl (by omega) hb' ?_;(conv=>whnf);refine ax.i (v:=.string ⟨l[i].name.toArray⟩) (hcell' 0 (by simp [aF.cells])) ?_;(conv=>whnf);refine ⟨k1.trans k2,?_⟩;have hpt:dx l name=decide (l[i].name=name):=by
     unfold dx;rw [<-hik,List.getElem?_eq_getElem hlt]
    rw [hpt,iV,<-hik];have:decide ((i:Int)<(n:Int))=true:=by simp;omega
    rw [this];rfl
  ·have hik:i=aO l name:=by omega
   have hf:decide ((i:Int)<(n:Int))=false:=by simp;omega
   (conv=>whnf);refine aQ.u 0 0 0 (λhx=>by rw [hf] at hx;cases hx) ?_;(conv=>whnf);refine ax.u (.string ⟨#[]⟩) (λhx=>by rw [hf] at hx;cases hx) ?_;(conv=>whnf);refine ak.f hf ?_;(conv=>whnf);refine ak.f (by rw [hf];rfl) ?_;(conv=>whnf);refine aQ.u 0 0 0 (λhx=>by rw [hf] at hx;cases hx) ?_;(conv=>whnf);refine ax.u (.string ⟨#[]⟩) (λhx=>by rw [hf] at hx;cases hx) ?_;(conv=>whnf);refine ⟨k1,?_⟩;have hpt:dx l name=false:=by
    unfold dx;rw [<-hik,List.getElem?_eq_none (by omega)]
   rw [hpt,<-hik,hf];rfl
theorem KV:∀ {l:List (Int×UInt64)} {p:Int×UInt64},(l.map (·.1)).Nodup->p∈l->lk l p.1=some p.2
 | [],p,_,h=>nomatch h
 | (k,v)::l,p,hn,h=>by
  simp only [List.map_cons,List.nodup_cons] at hn;unfold lk;rcases List.mem_cons.1 h with rfl|h
  ·rw [if_pos rfl]
  ·rw [if_neg (λe=>hn.1 (by rw [<-e];exact List.mem_map_of_mem h))];exact KV hn.2 h
theorem KW {m:List (Int×UInt64)}{R1 R2:List (Int×Value)}{p:Int×Value}(h:fH m=R1++p::R2):∃ m1 q m2,m=m1++q::m2/\R1=fH m1/\R2=fH m2/\p=(q.1,wv q.2):=by
 unfold fH at h;obtain ⟨m1,m',rfl,h1,h2⟩:=List.map_eq_append_iff.1 h;obtain ⟨q,m2,rfl,h3,h4⟩:=List.map_eq_cons_iff.1 h2;exact ⟨m1,q,m2,rfl,h1.symm,h4.symm,h3.symm⟩
end Go.Proofs.YtoociceebodfeaaGreatDoor
namespace Go.Proofs.YtoociceebodfeaaGreatDoor
open Go Go.Shelf
end Go.Proofs.YtoociceebodfeaaGreatDoor
set_option maxHeartbeats 2000000
namespace Go.Proofs.YtoociceebodfeaaGreatDoor
open Go Go.aK Go.Shelf Go.RowKit Go.Sort
end Go.Proofs.YtoociceebodfeaaGreatDoor
namespace Go.Proofs.YtoociceebodfeaaGreatDoor
open Go Go.aK
theorem At.store {h h':Heap}{V:VL}{M M':aV}{X:VS}(A:At h V M X)(hab:V.ab=none)(lQ:V.lS=none)(k:Keeps [V.mem.m,V.mem.lb] h h')(R:fG h' V.mem M'):∃ now,At h' V M' { X with now:=now }:=by
 obtain ⟨own,O,hx,ho⟩:=A.own;have nb:∀ b∈[V.v,V.ob,V.sb,V.mb],b∉[V.mem.m,V.mem.lb]:=by
  intro b hb hm;refine A.ap2 b hb ?_;simp only [ML.blocks];simp at hm ⊢;rcases hm with h|h <;> simp [h]
 exact ⟨λa=>(lk own a).getD (M'.read a),{
  mem:=R
  obj:=k.obj A.obj (nb V.v (by simp))
  own:=⟨own,O.keep k (nb V.ob (by simp)),λa=>rfl,ho⟩
  seen:=A.seen.keep k (nb V.sb (by simp))
  mine:=A.mine.keep k (nb V.mb (by simp))
  away:=A.away.keep k (by rw [hab];simp)
  bE:=A.bE.keep k (by rw [lQ];simp)
  ap1:=A.ap1
  ap2:=A.ap2
  ap3:=A.ap3
  bG:=A.bG }⟩
structure Idle (h:Heap)(V:VL)(M:aV):Prop where
 at_:At h V M ⟨M.read,[],[],[],[]⟩
 ab:V.ab=none
 lS:V.lS=none
 calm:M.iq = -1
 size:M.sure.length=2824
theorem Idle.on {h h':Heap}{V:VL}{M:aV}(I:Idle h V M)(k:Keeps [] h h'):Idle h' V M:=⟨I.at_.on k,I.ab,I.lS,I.calm,I.size⟩
def Ba (e:aF):Prop:=1<=e.node/\e.node<=23/\dG e.name=true
theorem Rt {ws:List UInt64}{place k:Nat}(h:iU ws place k=true):∀ e∈fA ws k,Ba e/\bR e.name=place%8:=by
 intro e he;unfold fA at he;split at he
 ·cases he
 ·rename_i hx;simp only [List.mem_cons,List.not_mem_nil,or_false] at he;subst he;unfold iU at h;have hx2:dY ws k=false:=by simpa using hx
  rw [hx2,Bool.false_or] at h;unfold kS at h;simp only [Bool.and_eq_true,decide_eq_true_eq] at h;obtain ⟨_,h1,h2,h3,h4⟩:=h;refine ⟨⟨?_,?_,h1⟩,h2⟩
  ·simp only [ja,uo];rw [dQ (by omega) (by omega)];omega
  ·simp only [ja,uo];rw [dQ (by omega) (by omega)];omega
theorem JP {now:Int->UInt64}{m:List Int}{i:Nat}(h:kC now m i=true):∀ e∈gy now m i,Ba e/\bR e.name=i%8:=by
 intro e he;unfold gy at he;split at he
 ·cases he
 ·rename_i hx;unfold kC vL at h;rw [decide_eq_false hx,Bool.false_or] at h;simp only [Bool.and_eq_true] at h;obtain ⟨k,hk,hk2⟩:=List.mem_flatMap.1 he;exact Rt (List.all_eq_true.1 h.2.2 k hk) e hk2
theorem Ru {now:Int->UInt64}{c:aB}(h:(fu now c).1=0):∃ m,mapOf now c=some m/\c.kind=2/\(List.range 21).all (kC now m)=true/\((dS now m).map (·.name)).Nodup/\((dS now m).length:Int)=c.size/\fu now c=(0,m,qI (dS now m)):=by
 have h0:=h;unfold fu at h;split at h
 ·simp at h
 ·rename_i hk;split at h
  ·simp at h
  ·rename_i m hm;split at h
   ·rename_i hc;refine ⟨m,hm,by omega,hc.1,hc.2.1,hc.2.2,?_⟩;unfold fu;rw [if_neg hk,hm];simp only;rw [if_pos hc]
   ·simp at h
def strict (l:List aF):Prop:=l.Pairwise λx y=>blt x.name y.name=true
theorem Rv {l:List aF}(hs:l.Pairwise (λx y=>iT x y=true))(hn:(l.map (·.name)).Nodup):strict l:=by
 rw [List.nodup_iff_pairwise_ne,List.pairwise_map] at hn;refine List.Pairwise.imp₂ (λx y h1 h2=>?_) hs hn;unfold iT at h1;rw [Bool.not_eq_true'] at h1;rcases nR x.name y.name with h|h|h
 ·exact h
 ·exact absurd h h2
 ·rw [h] at h1;cases h1
theorem Rb {now:Int->UInt64}{c:aB}(h:(fu now c).1=0):strict (fu now c).2.2/\∀ e∈(fu now c).2.2,Ba e:=by
 obtain ⟨m,hm,hk,ha,hn,hl,e⟩:=Ru h;rw [e];simp only;have hp:=rX (dS now m);refine ⟨Rv (AZ _) ((hp.map _).nodup_iff.2 hn),λx hx=>?_⟩;have:=hp.mem_iff.1 hx;obtain ⟨i,hi,hxi⟩:=List.mem_flatMap.1 this;exact (JP (List.all_eq_true.1 ha i hi) x hxi).1
theorem rW {name:List UInt8}:∀ {l:List aF},strict l->(jk l name).2=dx l name
 | [],_=>rfl
 | x::l,hs=>by
  obtain ⟨h1,h2⟩:=List.pairwise_cons.1 hs;have ih:=rW (name:=name) h2;by_cases hx:blt x.name name=true
  ·have e1:aO (x::l) name=aO l name+1:=by unfold aO;rw [List.takeWhile_cons,if_pos hx];rfl
   have e2:dx (x::l) name=dx l name:=by unfold dx;rw [e1];rfl
   have hne:¬ x.name=name:=by rintro rfl;rw [mZ] at hx;cases hx
   rw [e2,<-ih];unfold jk cK;rw [List.find?_cons,decide_eq_false hne]
  ·have e1:aO (x::l) name=0:=by unfold aO;rw [List.takeWhile_cons,if_neg hx];rfl
   have e2:dx (x::l) name=decide (x.name=name):=by unfold dx;rw [e1];rfl
   rw [e2];unfold jk cK;rw [List.find?_cons];by_cases hne:x.name=name
   ·rw [decide_eq_true hne]
   ·rw [decide_eq_false hne];have hgt:blt name x.name=true:=by
     rcases nR x.name name with g|g|g
     ·exact absurd g hx
     ·exact absurd g hne
     ·exact g
    have:l.find? (λe=>decide (e.name=name))=none:=by
     rw [List.find?_eq_none];intro y hy;have:=rZ hgt (h1 y hy);simp only [decide_eq_true_eq];rintro rfl;rw [mZ] at this;cases this
    simp only [this]
theorem Rj (w:UInt64)(i:Nat):(nP w i).toNat=w.toNat/2 ^ (8*(i%8))%256:=by
 unfold nP;simp [UInt8.toNat_ofNat]
theorem JS (w:UInt64)(j:Nat):iL ((List.range 8).map λi=>nP w (8*j+i))=w.toNat:=by
 have hw:=w.toNat_lt;have h:∀ i,i<8->(nP w (8*j+i)).toNat=w.toNat/2 ^ (8*i)%256:=by
  intro i hi;rw [Rj]
  congr 4
  omega
 have e:(List.range 8)=[0,1,2,3,4,5,6,7]:=rfl;rw [e];simp only [List.map_cons,List.map_nil,iL];rw [h 0 (by decide),h 1 (by decide),h 2 (by decide),h 3 (by decide),h 4 (by decide),h 5 (by decide),h 6 (by decide),h 7 (by decide)];simp only [Nat.mul_zero,Nat.pow_zero,Nat.div_one,Nat.reduceMul,Nat.reducePow];omega
theorem Rc {ws vs:List UInt64}(hl:ws.length=vs.length)(h:gX ws (8*ws.length)=gX vs (8*ws.length)):ws=vs:=by
 apply List.ext_getElem hl;intro j h1 h2;have key:∀ (us:List UInt64) (hj:j<us.length),((gX us (8*us.length)).drop (8*j)).take 8=(List.range 8).map λi=>nP us[j] (8*j+i):=by
  intro us hj;apply List.ext_getElem
  ·simp [gX];omega
  ·intro i i1 i2;have hi:i<8:=by simpa using i2
   simp only [gX,List.getElem_take,List.getElem_drop,List.getElem_map,List.getElem_range];have:(8*j+i)/8=j:=by omega
   rw [this,List.getElem?_eq_getElem hj];rfl
 have k1:=key ws h1;have k2:=key vs h2;rw [h,hl,k2] at k1;apply UInt64.toNat_inj.1;rw [<-JS ws[j] j,<-JS vs[j] j,k1]
theorem qH {ws new:List UInt64}{k i:Nat}(hl:ws.length=16)(hk:k<5)(hn:new.length=3):dZ (setSlot ws k new) i=if 3*k<=i/\i<3*k+3 then dZ new (i-3*k) else dZ ws i:=by
 unfold dZ setSlot;have h1:(ws.take (3*k)).length=3*k:=by simp;omega
 by_cases ha:i<3*k
 ·rw [if_neg (by omega),List.append_assoc,List.getElem?_append_left (by omega),List.getElem?_take,if_pos ha]
 ·by_cases hb:i<3*k+3
  ·rw [if_pos ⟨by omega,hb⟩,List.append_assoc,List.getElem?_append_right (by omega),h1,List.getElem?_append_left (by omega)]
  ·rw [if_neg (by omega),List.getElem?_append_right (by simp;omega)];have h2:(ws.take (3*k)++new).length=3*k+3:=by simp;omega
   rw [h2,List.getElem?_drop]
   congr 2
   omega
theorem Rk {ws vs:List UInt64}{k place:Nat}(h0:dZ vs (3*k)=dZ ws (3*k))(h1:dZ vs (3*k+1)=dZ ws (3*k+1))(h2:dZ vs (3*k+2)=dZ ws (3*k+2)):iU vs place k=iU ws place k/\fA vs k=fA ws k:=by
 have e1:dY vs k=dY ws k:=by unfold dY;rw [h0,h1,h2]
 have e2:jc vs k=jc ws k:=by unfold jc;rw [h1,h2]
 have e3:ja vs k=ja ws k:=by unfold ja jG uo;rw [e2,h0]
 have e4:kS vs k place=kS ws k place:=by unfold kS jG;rw [e2,h0]
 constructor
 ·unfold iU;rw [e1,e4]
 ·unfold fA;rw [e1,e3]
theorem Bd {ws new:List UInt64}{k j place:Nat}(hl:ws.length=16)(hk:k<5)(hn:new.length=3)(hj:j≠k):iU (setSlot ws k new) place j=iU ws place j/\fA (setSlot ws k new) j=fA ws j:=by
 refine Rk ?_ ?_ ?_ <;> rw [qH hl hk hn,if_neg (by omega)]
def jv (e:aF):List UInt64:=w64 e.node::dK e.name 2
theorem EI (e:aF):(jv e).length=3:=by simp [jv,oI]
theorem Rl {c:UInt8}(h:jH c=true):c≠0:=by
 rintro rfl
 revert h;decide
theorem JU:∀ (l:List UInt8) (n:Nat),l.all nz=true->(l++zeros n).takeWhile nz=l/\((l++zeros n).dropWhile nz).all ez=true
 | [],n,_=>by
  cases n with
  | zero=>exact ⟨rfl,rfl⟩
  | succ n=>
   constructor
   ·simp [zeros,List.replicate_succ,nz]
   ·simp [zeros,List.replicate_succ,nz,ez]
 | c::l,n,h=>by
  simp only [List.all_cons,Bool.and_eq_true] at h;obtain ⟨h1,h2⟩:=JU l n h.2;rw [List.cons_append,List.takeWhile_cons,if_pos h.1,List.dropWhile_cons,if_pos h.1,h1];exact ⟨rfl,h2⟩
theorem Rm {p:UInt8->Bool}{l:List UInt8}{n:Nat}(h:l.all p=true):(l.drop n).all p=true:=by
 rw [List.all_eq_true] at h ⊢;exact λx hx=>h x (List.mem_of_mem_drop hx)
theorem Rn {e:aF}(hn:dG e.name=true):gX [jP e.name 0,jP e.name 1] 16=e.name++zeros (16-e.name.length):=by
 have hlen:e.name.length<=14:=by
  unfold dG at hn;simp only [Bool.and_eq_true,decide_eq_true_eq] at hn;exact hn.2.1.1.2
 apply List.ext_getElem
 ·simp [gX,zeros];omega
 ·intro i h1 h2;have hi:i<16:=by simpa [gX] using h1
  simp only [gX,List.getElem_map,List.getElem_range];have hw:([jP e.name 0,jP e.name 1]:List UInt64)[i/8]?.getD 0=jP e.name (i/8):=by
   have:i/8=0\/i/8=1:=by omega
   rcases this with h|h <;> rw [h] <;> rfl
  rw [hw,JV];rcases Nat.lt_or_ge i e.name.length with h|h
  ·rw [List.getElem_append_left h,List.getElem?_eq_getElem h];rfl
  ·rw [List.getElem_append_right h,List.getElem?_eq_none h];simp [zeros]
theorem Ro {ws:List UInt64}{k place:Nat}{e:aF}(hl:ws.length=16)(hk:k<5)(hn:dG e.name=true)(h1:1<=e.node)(h2:e.node<24)(hb:bR e.name=place%8):iU (setSlot ws k (jv e)) place k=true/\fA (setSlot ws k (jv e)) k=[e]:=by
 have hlen:=EI e;have w0:dZ (setSlot ws k (jv e)) (3*k)=w64 e.node:=by rw [qH hl hk hlen,if_pos ⟨by omega,by omega⟩,Nat.sub_self];rfl
 have w1:dZ (setSlot ws k (jv e)) (3*k+1)=jP e.name 0:=by rw [qH hl hk hlen,if_pos ⟨by omega,by omega⟩,show 3*k+1-3*k=1 by omega];rfl
 have w2:dZ (setSlot ws k (jv e)) (3*k+2)=jP e.name 1:=by rw [qH hl hk hlen,if_pos ⟨by omega,by omega⟩,show 3*k+2-3*k=2 by omega];rfl
 have hw:((w64 e.node).toNat:Int)=e.node:=by rw [qA];omega
 have hall:e.name.all nz=true:=by
  unfold dG at hn;simp only [Bool.and_eq_true] at hn;rw [List.all_eq_true] at hn ⊢;intro c hc;have:=Rl (hn.1 c hc);simpa [nz] using this
 have hT:jc (setSlot ws k (jv e)) k=e.name++zeros (16-e.name.length):=by
  unfold jc;rw [w1,w2,Rn hn]
 obtain ⟨t1,t2⟩:=JU e.name (16-e.name.length) hall;have hN:jG (setSlot ws k (jv e)) k=e.name:=by unfold jG oJ;rw [hT,t1]
 have hV:uo (setSlot ws k (jv e)) k=e.node:=by unfold uo;rw [w0,hw,dQ (by omega) (by omega)]
 have hE:dY (setSlot ws k (jv e)) k=false:=by
  unfold dY;rw [w0,decide_eq_false (λh=>by rw [h] at hw;simp at hw;omega)];rfl
 have hB:kS (setSlot ws k (jv e)) k place=true:=by
  unfold kS;rw [hN,w0,hn,hT];unfold jI;rw [Rm t2,hb];have g1:1<=(w64 e.node).toNat:=by omega
  have g2:(w64 e.node).toNat<24:=by omega
  simp [g1,g2]
 constructor
 ·unfold iU;rw [hB,Bool.or_true]
 ·unfold fA;rw [hE];simp only [Bool.false_eq_true,if_false];unfold ja;rw [hN,hV]
theorem Rq {ws:List UInt64}{k place:Nat}(hl:ws.length=16)(hk:k<5):iU (setSlot ws k [0,0,0]) place k=true/\fA (setSlot ws k [0,0,0]) k=[]:=by
 have hE:dY (setSlot ws k [0,0,0]) k=true:=by
  unfold dY;rw [qH hl hk rfl,qH hl hk rfl,qH hl hk rfl,if_pos ⟨by omega,by omega⟩,if_pos ⟨by omega,by omega⟩,if_pos ⟨by omega,by omega⟩,Nat.sub_self,show 3*k+1-3*k=1 by omega,show 3*k+2-3*k=2 by omega];rfl
 constructor
 ·unfold iU;rw [hE];rfl
 ·unfold fA;rw [if_pos hE]
def mq (ws:List UInt64)(place:Nat):Bool:=decide (dZ ws 15=0)&&(List.range 5).all (iU ws place)
def kz (ws:List UInt64):List aF:=(List.range 5).flatMap (fA ws)
theorem Bc {α β:Type}{f g:α->List β}{a:α}:∀ {l:List α},l.Nodup->a∈l->(∀ x∈l,x≠a->f x=g x)->(l.flatMap f++g a).Perm (l.flatMap g++f a)
 | [],_,h,_=>by cases h
 | x::l,hn,ha,he=>by
  obtain ⟨h1,h2⟩:=List.nodup_cons.1 hn;rw [List.flatMap_cons,List.flatMap_cons];by_cases e:x=a
  ·subst e;have hfg:l.flatMap f=l.flatMap g:=by
    have:∀ y∈l,f y=g y:=λy hy=>he y (by simp [hy]) (λh=>h1 (h ▸ hy));clear ha he hn h1 h2
    induction l with
    | nil=>rfl
    | cons z l ih=>
     rw [List.flatMap_cons,List.flatMap_cons,this z (by simp),ih (λy hy=>this y (by simp [hy]))]
   rw [hfg];have p1:(f x++l.flatMap g++g x).Perm (g x++(f x++l.flatMap g)):=List.perm_append_comm;refine p1.trans ?_;rw [List.append_assoc];exact List.Perm.append_left _ List.perm_append_comm
  ·have ha2:a∈l:=by
    rcases List.mem_cons.1 ha with h|h
    ·exact absurd h.symm e
    ·exact h
   have ih:=Bc h2 ha2 (λy hy hne=>he y (by simp [hy]) hne);rw [he x (by simp) e,List.append_assoc,List.append_assoc];exact List.Perm.append_left _ ih
theorem QW {ws:List UInt64}{k place:Nat}{e:aF}(hl:ws.length=16)(hk:k<5)(hn:dG e.name=true)(h1:1<=e.node)(h2:e.node<24)(hb:bR e.name=place%8)(ho:mq ws place=true)(he:dY ws k=true):mq (setSlot ws k (jv e)) place=true/\(kz (setSlot ws k (jv e))).Perm (e::kz ws):=by
 obtain ⟨g1,g2⟩:=Ro (place:=place) hl hk hn h1 h2 hb;have hlen:=EI e;unfold mq at ho ⊢;simp only [Bool.and_eq_true] at ho
 constructor
 ·rw [qH hl hk hlen,if_neg (by omega),ho.1,Bool.true_and,List.all_eq_true];intro j hj;by_cases e:j=k
  ·subst e;exact g1
  ·rw [(Bd hl hk hlen e).1];exact List.all_eq_true.1 ho.2 j hj
 ·have hse:fA ws k=[]:=by unfold fA;rw [if_pos he]
  have p:=Bc (f:=fA (setSlot ws k (jv e))) (g:=fA ws) (a:=k) (l:=List.range 5) List.nodup_range (by simpa using hk) (λj _ hne=>(Bd (place:=place) hl hk hlen hne).2);rw [hse,g2,List.append_nil] at p;exact p.trans (List.perm_append_comm (l₂:=[e]))
theorem Rs {ws:List UInt64}{k place:Nat}(hl:ws.length=16)(hk:k<5)(ho:mq ws place=true)(he:dY ws k=false):mq (setSlot ws k [0,0,0]) place=true/\(ja ws k::kz (setSlot ws k [0,0,0])).Perm (kz ws):=by
 obtain ⟨g1,g2⟩:=Rq (place:=place) hl hk;unfold mq at ho ⊢;simp only [Bool.and_eq_true] at ho
 constructor
 ·rw [qH hl hk rfl,if_neg (by omega),ho.1,Bool.true_and,List.all_eq_true];intro j hj;by_cases e:j=k
  ·subst e;exact g1
  ·rw [(Bd hl hk rfl e).1];exact List.all_eq_true.1 ho.2 j hj
 ·have hse:fA ws k=[ja ws k]:=by unfold fA;rw [if_neg (by rw [he];decide)]
  have p:=Bc (f:=fA (setSlot ws k [0,0,0])) (g:=fA ws) (a:=k) (l:=List.range 5) List.nodup_range (by simpa using hk) (λj _ hne=>(Bd (place:=place) hl hk rfl hne).2);rw [hse,g2,List.append_nil] at p;exact (List.perm_append_comm (l₁:=[ja ws k])).trans p
theorem JN (place:Nat):mq (List.replicate 16 0) place=true/\kz (List.replicate 16 0)=[]:=by
 have h:∀ k,k<5->dY (List.replicate 16 0) k=true:=by decide
 constructor
 ·unfold mq;rw [show dZ (List.replicate 16 0) 15=0 from rfl,decide_eq_true rfl,Bool.true_and,List.all_eq_true];intro k hk;unfold iU;rw [h k (by simpa using hk)];rfl
 ·unfold kz;rw [List.flatMap_eq_nil_iff];intro k hk;unfold fA;rw [if_pos (h k (by simpa using hk))]
structure eu (now:Int->UInt64)(node:Int)(c:aB)(m:List Int)(l:List aF):Prop where
 map:mapOf now c=some m
 wk:Wk now node c.more m
 kind:c.kind=2/\c.links=1
 size:c.size=(l.length:Int)
 ok:∀ i,i<21->aM m i ≠ -1->mq (dh now (aM m i)) i=true
 lq:(dS now m).Perm l
 str:strict l
 kG:c.more = -1↔(m.drop 5).any eH=false
theorem Wk.rV {now:Int->UInt64}{node more:Int}{m:List Int}(W:Wk now node more m):qG m:=⟨W.len,λx hx=>W.bG x (List.mem_cons_of_mem _ hx)⟩
theorem Q8 {l:List aF}(h:strict l):(l.map (·.name)).Nodup:=by
 rw [List.nodup_iff_pairwise_ne,List.pairwise_map];refine h.imp λ{x y} hxy e=>?_;rw [e,mZ] at hxy;cases hxy
theorem Q9 {l:List aF}(h:strict l):l.Pairwise (λx y=>iT x y=true):=h.imp λ{x y} hxy=>by unfold iT;rw [vK hxy];rfl
theorem Ra {now:Int->UInt64}{m:List Int}(R:qG m){i:Nat}(h:aM m i ≠ -1->mq (dh now (aM m i)) i=true):kC now m i=true:=by
 unfold kC;by_cases e:aM m i = -1
 ·rw [decide_eq_true e];rfl
 ·rw [decide_eq_false e,Bool.false_or];unfold vL;rw [decide_eq_true ((R.aM i).resolve_left e),Bool.true_and];exact h e
theorem eu.all {now:Int->UInt64}{node:Int}{c:aB}{m:List Int}{l:List aF}(D:eu now node c m l):(List.range 21).all (kC now m)=true:=
 List.all_eq_true.2 λi hi=>Ra D.wk.rV (D.ok i (by simpa using hi))
theorem eu.open_ {now:Int->UInt64}{node:Int}{c:aB}{m:List Int}{l:List aF}(D:eu now node c m l):fu now c=(0,m,l):=by
 unfold fu;rw [if_neg (by rw [D.kind.1];simp),D.map];simp only;have hnd:((dS now m).map (·.name)).Nodup:=(D.lq.map _).nodup_iff.2 (Q8 D.str);rw [if_pos ⟨D.all,hnd,by rw [D.lq.length_eq,D.size]⟩]
 congr 2
 exact EN ((rX _).trans D.lq) (((rX _).map _).nodup_iff.2 hnd) (AZ _) (Q9 D.str)
theorem eu.few {now:Int->UInt64}{node:Int}{c:aB}{m:List Int}{l:List aF}(D:eu now node c m l):l.length<=105:=by
 rw [<-D.lq.length_eq];exact EO _ _
theorem eu.good {now:Int->UInt64}{node:Int}{c:aB}{m:List Int}{l:List aF}(D:eu now node c m l):∀ e∈l,Ba e:=by
 have h:(fu now c).1=0:=by rw [D.open_]
 have:=(Rb h).2
 rwa [D.open_] at this
theorem eu.EP {now:Int->UInt64}{node:Int}{c:aB}{m:List Int}{l:List aF}(D:eu now node c m l):∀ e∈l,e.ok:=λe he=>JQ e (D.lq.mem_iff.2 he)
theorem eu.right {now:Int->UInt64}{node:Int}{c:aB}{m:List Int}{l:List aF}(D:eu now node c m l):gq c=true/\c.ok:=by
 have hd:=EQ D.map;have hs:=D.few;have hz:=D.size;have hm:=D.wk.bG c.more List.mem_cons_self;have hk:=D.kind;have hr:∀ x∈c.direct,-1<=x/\x<96:=by
  intro x hx;have:=D.wk.bG x (List.mem_cons_of_mem _ (hd x hx));unfold ng at this;omega
 unfold ng at hm
 constructor
 ·unfold gq;rw [hk.1,hk.2];have h1:c.direct.all lG=true:=by
   rw [List.all_eq_true];intro x hx;have:=hr x hx;unfold lG;simp;omega
  rw [h1];unfold lG;simp;omega
 ·refine ⟨by rw [hk.1];exact ⟨by decide,by decide⟩,by rw [hk.2];exact ⟨by decide,by decide⟩,?_,λx hx=>?_,?_⟩
  ·unfold inI64;omega
  ·have:=hr x hx;unfold inI64;omega
  ·unfold inI64;omega
theorem QX {f g:Int->UInt64}{m:List Int}(h:∀ p,p<2688->fb g m p=fb f m p){i:Nat}(hi:i<21)(hu:aM m i ≠ -1):dh g (aM m i)=dh f (aM m i):=by
 have hb:∀ now:Int->UInt64,dz now (aM m i)=gX (dh now (aM m i)) 128:=by
  intro now;unfold dz;rw [if_neg hu];rfl
 have hq:dz g (aM m i)=dz f (aM m i):=by
  apply List.ext_getElem?;intro q;rcases Nat.lt_or_ge q 128 with hq|hq
  ·have:=h (128*i+q) (by omega);unfold fb at this;have e1:(128*i+q)/128=i:=by omega
   have e2:(128*i+q)%128=q:=by omega
   rw [e1,e2] at this;have l1:=kP g (aM m i);have l2:=kP f (aM m i);have hp:m[i]?.getD (-1)=aM m i:=rfl;rw [hp] at this;rw [List.getElem?_eq_getElem (by omega),List.getElem?_eq_getElem (by omega)] at this ⊢;simpa using this
  ·rw [List.getElem?_eq_none (by rw [kP];exact hq),List.getElem?_eq_none (by rw [kP];exact hq)]
 rw [hb,hb] at hq;refine Rc (by rw [uj,uj]) ?_;rw [uj];exact hq
theorem Wk.iA {now:Int->UInt64}{node more:Int}{m:List Int}(W:Wk now node more m){i:Nat}(hi:i<21)(hu:aM m i ≠ -1){ws:List UInt64}(hw:ws.length=16) :
 Wk (bX now (aM m i) ws) node more m/\Fr node now (bX now (aM m i) ws)/\dh (bX now (aM m i) ws) (aM m i)=ws/\(∀ j,j<21->j≠i->aM m j ≠ -1->dh (bX now (aM m i) ws) (aM m j)=dh now (aM m j)):=by
 have hl:=W.len;have hm:aM m i∈m:=by
  unfold aM;rw [List.getElem?_eq_getElem (by omega)];exact List.getElem_mem _
 have hk:0<=aM m i/\aM m i<96:=(W.rV.aM i).resolve_left hu;have ho:∀ k,0<=k->k<96->bX now (aM m i) ws (200+k)=now (200+k):=λk _ h=>xX (by omega) hk.1 h;have hown:now (200+aM m i)=w64 (node+1):=(W.own _ hk.1 hk.2).1 (mY.2 ⟨.inr hm,hu⟩);refine ⟨⟨W.len,W.bG,W.jm,λk h0 h1=>by rw [ho k h0 h1];exact W.own k h0 h1⟩,⟨λk h0 h1 hf=>⟨.inl (ho k h0 h1),λ_=>?_⟩,λk h0 h1 hf=>.inl (by rw [ho k h0 h1];exact hf),λ_ ha=>Bb hk.1 ha⟩,?_,λj hj hne Rf=>?_⟩
 ·refine rY (by omega) ?_;rintro rfl;exact hf hown
 ·unfold dh;rw [EJ (by omega)];unfold kL;rw [hw];simp
 ·unfold dh;refine rY (by omega) λe=>hne ?_;exact W.inj hj hi e.symm Rf
theorem JL {f g:Int->UInt64}{m m':List Int}{i:Nat}(hi:i<21)(h:∀ j,j<21->j≠i->gy f m j=gy g m' j):(dS f m++gy g m' i).Perm (dS g m'++gy f m i):=
 Bc List.nodup_range (by simpa using hi) λj hj hne=>h j (by simpa using hj) hne
theorem ku {now:Int->UInt64}{m:List Int}{i:Nat}(h:aM m i ≠ -1):gy now m i=kz (dh now (aM m i)):=by
 unfold gy;rw [if_neg h];rfl
theorem mV {now:Int->UInt64}{m:List Int}{i:Nat}(h:aM m i = -1):gy now m i=[]:=by
 unfold gy;rw [if_pos h]
theorem JK {f g:Int->UInt64}{m:List Int}(h:∀ i,i<21->aM m i ≠ -1->dh f (aM m i)=dh g (aM m i)):dS f m=dS g m:=by
 unfold dS;have:∀ i∈List.range 21,gy f m i=gy g m i:=by
  intro i hi;by_cases e:aM m i = -1
  ·rw [mV e,mV e]
  ·rw [ku e,ku e,h i (by simpa using hi) e]
 revert this
 generalize List.range 21=L;intro this
 induction L with
 | nil=>rfl
 | cons x L ih=>rw [List.flatMap_cons,List.flatMap_cons,this x (by simp),ih (λi hi=>this i (by simp [hi]))]
def bF (l:List aF)(e:aF):List aF:=l.take (aO l e.name)++e::l.drop (aO l e.name)
theorem mX (l:List aF)(e:aF):(bF l e).Perm (e::l):=by
 unfold bF;refine List.perm_middle.trans ?_;rw [List.take_append_drop]
theorem Rh {l:List aF}{name:List UInt8}(hs:strict l):dx l name=false->∀ e∈l.drop (aO l name),blt name e.name=true:=by
 intro ht e he;obtain ⟨j,hj,rfl⟩:=List.mem_iff_getElem.1 he;rw [List.getElem_drop];have hl:aO l name+j<l.length:=by simp at hj;omega
 have h0:aO l name<l.length:=by omega
 have hx:blt (l[aO l name]).name name=false:=by
  rw [<-Bool.not_eq_true];intro h;have:=ER (Nat.le_refl _) h0 h;omega
 have hne:(l[aO l name]).name≠name:=by
  unfold dx at ht;rw [List.getElem?_eq_getElem h0] at ht;simpa using ht
 have hgt:blt name (l[aO l name]).name=true:=by
  rcases nR (l[aO l name]).name name with g|g|g
  ·rw [g] at hx;cases hx
  ·exact absurd g hne
  ·exact g
 rcases Nat.eq_zero_or_pos j with rfl|hj0
 ·exact hgt
 ·exact rZ hgt (List.pairwise_iff_getElem.1 hs (aO l name) (aO l name+j) h0 hl (by omega))
theorem xY {l:List aF}{e:aF}(hs:strict l)(ht:dx l e.name=false):strict (bF l e):=by
 unfold bF strict;rw [List.pairwise_append];have hsplit:l.take (aO l e.name)++l.drop (aO l e.name)=l:=List.take_append_drop _ _;have hs2:strict (l.take (aO l e.name)++l.drop (aO l e.name)):=by rw [hsplit];exact hs
 unfold strict at hs2;rw [List.pairwise_append] at hs2;have hafter:=Rh hs ht;have Ri:∀ x∈l.take (aO l e.name),blt x.name e.name=true:=by
  intro x hx;obtain ⟨j,hj,rfl⟩:=List.mem_iff_getElem.1 hx;rw [List.getElem_take];exact (JR (by simp at hj;omega)).2
 refine ⟨hs2.1,List.pairwise_cons.2 ⟨hafter,hs2.2.1⟩,λx hx y hy=>?_⟩;rcases List.mem_cons.1 hy with rfl|hy
 ·exact Ri x hx
 ·exact hs2.2.2 x hx y hy
theorem AO {B:Int->UInt64}{X:VS}(h:1<=bB B X 96):jQ B X 96 0≠none:=by
 intro hf;have:=EK hf;unfold bB at h;have:((List.range 96).filter λ(i:Nat)=>iF B X (i:Int))=[]:=by
  rw [List.filter_eq_nil_iff];intro k hk;rw [this k (Nat.zero_le _) (by simpa using hk)];simp
 rw [this] at h;simp at h
theorem count_one {p q:Nat->Bool}{k:Nat}(hp:p k=true)(hq:q k=false):∀ {n:Nat},k<n->(∀ j,j<n->j≠k->p j=q j)->((List.range n).filter p).length=((List.range n).filter q).length+1
 | 0,h,_=>by omega
 | n+1,h,hs=>by
  rw [List.range_succ,List.filter_append,List.filter_append,List.length_append,List.length_append];by_cases e:k=n
  ·subst e;have:(List.range k).filter p=(List.range k).filter q:=List.filter_congr λj hj=>hs j (by have:=List.mem_range.1 hj;omega) (by have:=List.mem_range.1 hj;omega);rw [this];simp [hp,hq]
  ·have ih:=count_one hp hq (n:=n) (by omega) λj hj hne=>hs j (by omega) hne;rw [ih];have:p n=q n:=hs n (by omega) (λx=>e x.symm);simp only [List.filter_cons,this,List.filter_nil];omega
theorem EB {B:Int->UInt64}{X:VS}{node:Int}(hn:0<=node/\node<24)(h:(bI B X node).2.1=0):bB B X 96=bB B (bI B X node).2.2 96+1:=by
 unfold bI at h ⊢;rw [if_pos hn] at h ⊢;cases hf:jQ B X 96 0 with
 | none=>rw [hf] at h;simp at h
 | some k=>
  simp only;have hk:=Ar hf;unfold bB;have hk2:0<=(k:Int)/\(k:Int)<96:=by omega
  have how:∀ j:Nat,j<96->(bX (upd X.now (200+(k:Int)) (w64 (node+1))) (k:Int) []) (200+(j:Int))=if (j:Int)=(k:Int) then w64 (node+1) else X.now (200+(j:Int)):=λj hj=>AX (now:=X.now) (node:=node) hk2 (by omega) (by omega);refine count_one (k:=k) hk.1 ?_ (by omega) λj hj hne=>?_
  ·have e:=how k (by omega);rw [if_pos rfl] at e;unfold iF;have h3:decide ((bX (upd X.now (200+(k:Int)) (w64 (node+1))) (k:Int) []) (200+(k:Int))=0)=false:=decide_eq_false (by rw [e];exact ic hn);simp only [h3,Bool.false_and,Bool.and_false]
  ·have e:=how j hj;rw [if_neg (by omega)] at e;unfold iF;simp only [e]
theorem EG {B:Int->UInt64}{node:Int}(hn:0<=node/\node<24){X:VS}{c:aB}{m:List Int}(W:Wk X.now node c.more m)(h:1<=bB B X 96):EH node X c m (eD B X node c m):=by
 rcases ul (B:=B) hn W with ⟨h9,_,hm,hu⟩|K
 ·exfalso;unfold eD at h9;rw [if_pos ⟨hn,W.len,W.drops⟩,if_neg (by rw [hu];decide),if_pos hm] at h9;rcases AU (B:=B) (X:=X) hn with ⟨e0,k0,k1,kn,kx⟩|⟨e9,kx,kf⟩
  ·simp only [e0,if_true,if_pos (show 0<=(bI B X node).1/\(bI B X node).1<96 from ⟨k0,k1⟩)] at h9;cases h9
  ·exact AO h kf
 ·exact K
theorem EL {p:List UInt64->Nat->Bool}{ws:List UInt64}:∀ {f k:Nat},jF p ws f k=none->∀ q,k<=q->q<k+f->p ws q=false
 | 0,_,_,q,_,_=>by omega
 | f+1,k,h,q,h1,h2=>by
  unfold jF at h;split at h
  ·cases h
  ·rename_i hp;by_cases e:q=k
   ·subst e;simpa using hp
   ·exact EL h q (by omega) (by omega)
theorem EM {W:Int->List UInt64}{m:List Int}{p:List UInt64->Nat->Bool}:∀ {f pl:Nat},gK W m p f pl=none->∀ j,j<f->pl+8*j<21->aM m (pl+8*j) = -1\/jF p (W ((pl+8*j:Nat):Int)) 5 0=none
 | 0,_,_,j,hj,_=>by omega
 | f+1,pl,h,j,hj,hl=>by
  unfold gK at h;rw [if_pos (by omega)] at h;cases j with
  | zero=>
   split at h
   ·left;assumption
   ·split at h
    ·cases h
    ·right;assumption
  | succ j=>
   have ih:gK W m p f (pl+8)=none->_:=λg=>EM g j (by omega) (by omega);have e:pl+8+8*j=pl+8*(j+1):=by omega
   rw [e] at ih;split at h
   ·exact ih h
   ·split at h
    ·cases h
    ·exact ih h
theorem JO {m:List Int}:∀ {f pl:Nat},kr m f pl=none->∀ j,j<f->pl+8*j<21->aM m (pl+8*j) ≠ -1
 | 0,_,_,j,hj,_=>by omega
 | f+1,pl,h,j,hj,hl=>by
  unfold kr at h;rw [if_pos (by omega)] at h;split at h
  ·cases h
  ·rename_i hp;cases j with
   | zero=>exact hp
   | succ j=>
    have:=JO h j (by omega) (by omega)
    rwa [show pl+8+8*j=pl+8*(j+1) by omega] at this
def pz (l:List aF)(name:List UInt8):Nat:=(l.filter λe=>decide (bR e.name=bR name)).length
def nL (bk:Nat):Nat:=if bk<5 then 15 else 10
theorem Q0 (now:Int->UInt64)(m:List Int)(bk:Nat)(hok:(List.range 21).all (kC now m)=true):((dS now m).filter λe=>decide (bR e.name=bk)).length=((List.range 21).map λi=>if i%8=bk then (gy now m i).length else 0).sum:=by
 have hk:∀ i∈List.range 21,kC now m i=true:=λi hi=>List.all_eq_true.1 hok i hi;unfold dS
 revert hk
 generalize List.range 21=L;intro hk
 induction L with
 | nil=>rfl
 | cons i L ih=>
  rw [List.flatMap_cons,List.filter_append,List.length_append,ih (λj hj=>hk j (by simp [hj])),List.map_cons,List.sum_cons]
  congr 1
  have hg:=JP (hk i (by simp));by_cases e:i%8=bk
  ·rw [if_pos e,List.filter_eq_self.2];intro x hx;rw [(hg x hx).2];exact decide_eq_true e
  ·rw [if_neg e,List.filter_eq_nil_iff.2]
   ·rfl
   ·intro x hx;rw [(hg x hx).2];simpa using e
theorem Q5 (f:Nat->Nat)(bk:Nat)(h:bk<8):((List.range 21).map λi=>if i%8=bk then f i else 0).sum=f bk+f (bk+8)+(if bk<5 then f (bk+16) else 0):=by
 have:bk=0\/bk=1\/bk=2\/bk=3\/bk=4\/bk=5\/bk=6\/bk=7:=by omega
 rcases this with rfl|rfl|rfl|rfl|rfl|rfl|rfl|rfl <;> simp [List.range_succ] <;> omega
theorem Q7 {ws:List UInt64}(h:∀ k,k<5->dY ws k=false):(kz ws).length=5:=by
 unfold kz;have e:List.range 5=[0,1,2,3,4]:=rfl;have g:∀ k,k<5->fA ws k=[ja ws k]:=λk hk=>by unfold fA;rw [if_neg (by rw [h k hk];decide)]
 rw [e];simp [g 0 (by decide),g 1 (by decide),g 2 (by decide),g 3 (by decide),g 4 (by decide)]
theorem QY {ws:List UInt64}{k:Nat}(hk:k<5)(h:dY ws k=true):(kz ws).length<=4:=by
 unfold kz;have e:List.range 5=[0,1,2,3,4]:=rfl;have g:fA ws k=[]:=by unfold fA;rw [if_pos h]
 have l0:=um ws 0;have l1:=um ws 1;have l2:=um ws 2;have l3:=um ws 3;have l4:=um ws 4;rw [e];simp only [List.flatMap_cons,List.flatMap_nil,List.length_append,List.length_nil];have:k=0\/k=1\/k=2\/k=3\/k=4:=by omega
 rcases this with rfl|rfl|rfl|rfl|rfl <;> rw [g] <;> simp <;> omega
theorem eu.had {now:Int->UInt64}{node:Int}{c:aB}{m:List Int}{l:List aF}(D:eu now node c m l)(name:List UInt8):pz l name=(gy now m (bR name)).length+(gy now m (bR name+8)).length+(if bR name<5 then (gy now m (bR name+16)).length else 0):=by
 unfold pz;rw [<-((D.lq.filter _).length_eq),Q0 now m _ D.all,Q5 _ _ (qF name)]
theorem eu.JM {now:Int->UInt64}{node:Int}{c:aB}{m:List Int}{l:List aF}(D:eu now node c m l)(name:List UInt8){pl:Nat}(hp:pl<21)(hb:pl%8=bR name)(hl:(gy now m pl).length<=4):pz l name<nL (bR name):=by
 have hbk:=qF name;rw [D.had];have h0:=x9 now m (bR name);have h1:=x9 now m (bR name+8);have h2:=x9 now m (bR name+16);have hc:pl=bR name\/pl=bR name+8\/(pl=bR name+16/\bR name<5):=by omega
 unfold nL;rcases hc with rfl|rfl|⟨rfl,hc⟩
 ·split <;> omega
 ·split <;> omega
 ·rw [if_pos hc,if_pos hc];omega
theorem eu.full {now:Int->UInt64}{node:Int}{c:aB}{m:List Int}{l:List aF}(D:eu now node c m l)(name:List UInt8)(h1:gK (wordsAt now m) m dY 4 (bR name)=none)(h2:kr m 4 (bR name)=none):nL (bR name)<=pz l name:=by
 have hbk:=qF name;rw [D.had];have key:∀ j,j<4->bR name+8*j<21->(gy now m (bR name+8*j)).length=5:=by
  intro j hj hl;have g1:=JO h2 j hj hl;have g2:=(EM h1 j hj hl).resolve_left g1;rw [ku g1];have e:wordsAt now m ((bR name+8*j:Nat):Int)=dh now (aM m (bR name+8*j)):=by unfold wordsAt;rw [Int.toNat_natCast]
  rw [e] at g2;exact Q7 λk hk=>EL g2 k (Nat.zero_le _) (by omega)
 have k0:=key 0 (by decide) (by omega);have k1:=key 1 (by decide) (by omega);simp only [Nat.mul_zero,Nat.add_zero,Nat.mul_one] at k0 k1;rw [k0,k1];unfold nL;by_cases h:bR name<5
 ·rw [if_pos h,if_pos h];have k2:=key 2 (by decide) (by omega);simp only [Nat.reduceMul] at k2;rw [k2];omega
 ·rw [if_neg h,if_neg h];omega
def lm (l:List aF)(name:List UInt8)(target:Int):List aF×Int:=
 if target<1\/24<=target then ([],1)
 else if dG name=false then ([],3)
 else if dx l name=true then ([],5)
 else (bF l ⟨name,target⟩,0)
theorem vI (now:Int->UInt64)(m:List Int)(p:Nat):wordsAt now m (p:Int)=dh now (aM m p):=by unfold wordsAt;rw [Int.toNat_natCast]
theorem EC {B:Int->UInt64}{X:VS}{k:Int}{ws:List UInt64}(hk:0<=k)(hw:ws.length<=16):bB B { X with now:=bX X.now k ws } 96=bB B X 96:=by
 unfold bB
 congr 1
 refine List.filter_congr λj hj=>?_;have hj':j<96:=by simpa using hj
 unfold iF;have:(bX X.now k ws) (200+(j:Int))=X.now (200+(j:Int)):=xX hw hk (by omega);simp only [this]
theorem JJ {B:Int->UInt64}{node:Int}(hn:0<=node/\node<24){X:VS}{c:aB}{m:List Int}{l:List aF}{name:List UInt8}{target:Int}{pl k:Nat}
 (W:Wk X.now node c.more m) (ok:∀ i,i<21->aM m i ≠ -1->mq (dh X.now (aM m i)) i=true) (lq:(dS X.now m).Perm l) (str:strict l) (kind:c.kind=2/\c.links=1) (size:c.size=(l.length:Int))
 (hpl:pl<21) (jE:aM m pl ≠ -1) (hk:k<5) (he:dY (dh X.now (aM m pl)) k=true) (hb:pl%8=bR name) (hname:dG name=true) (ht:1<=target/\target<24) (hnt:dx l name=false)
 {Y:VS} (hY:Y={ X with now:=bX X.now (aM m pl) (setSlot (dh X.now (aM m pl)) k (jv ⟨name,target⟩)) }) :
 Wk Y.now node c.more m/\Fr node X.now Y.now/\bB B Y 96=bB B X 96/\(∀ r,EH node Y { c with size:=c.size+1 } m r->eu r.2.2.now node r.1 m (bF l ⟨name,target⟩)/\Fr node X.now r.2.2.now):=by
 have hlen:=uj X.now (aM m pl);have hsl:(setSlot (dh X.now (aM m pl)) k (jv ⟨name,target⟩)).length=16:=by
  unfold setSlot;simp [EI,hlen];omega
 obtain ⟨W2,F2,b1,b2⟩:=W.iA hpl jE hsl;have hk0:0<=aM m pl:=by have:=(W.rV.aM pl).resolve_left jE;omega
 have hp:=QW (place:=pl) (e:=⟨name,target⟩) hlen hk hname ht.1 ht.2 hb.symm (ok pl hpl jE) he;subst hY;refine ⟨W2,F2,EC hk0 (by omega),λr K=>?_⟩;have hby:∀ i,i<21->aM m i ≠ -1->dh r.2.2.now (aM m i)=dh (bX X.now (aM m pl) (setSlot (dh X.now (aM m pl)) k (jv ⟨name,target⟩))) (aM m i):=λi hi hu=>QX K.aL hi hu;refine ⟨⟨K.map,K.wk,?_,?_,λi hi hu=>?_,?_,xY str hnt,K.kG⟩,F2.trans K.fr (ic hn)⟩
 ·rw [K.c_];exact kind
 ·rw [K.c_];show c.size+1=_;rw [size,(mX l _).length_eq];simp
 ·rw [hby i hi hu];by_cases e:i=pl
  ·subst e;rw [b1];exact hp.1
  ·rw [b2 i hi e hu];exact ok i hi hu
 ·rw [JK hby];refine List.Perm.trans ?_ (mX l _).symm;have p:=JL (f:=X.now) (g:=bX X.now (aM m pl) (setSlot (dh X.now (aM m pl)) k (jv ⟨name,target⟩))) (m:=m) (m':=m) hpl λj hj hne=>by
   by_cases e:aM m j = -1
   ·rw [mV e,mV e]
   ·rw [ku e,ku e,b2 j hj hne e]
  rw [ku jE,ku jE,b1] at p;have p2:(dS X.now m++kz (setSlot (dh X.now (aM m pl)) k (jv ⟨name,target⟩))).Perm ((⟨name,target⟩::l)++kz (dh X.now (aM m pl))):=by
   refine (lq.append hp.2).trans ?_;rw [List.cons_append];exact List.perm_middle
  exact (List.perm_append_right_iff _).1 (p.symm.trans p2)
theorem Od {B:Int->UInt64}{X:VS}{node:Int}(hn:0<=node/\node<24){c:aB}{m:List Int}{l:List aF}(D:eu X.now node c m l)(name:List UInt8)(target:Int) :
 ((iQ B X node c name target).2.1=(lm l name target).2/\(lm l name target).2≠0/\(lm l name target).2≠9) \/
 ((lm l name target).2=0/\(iQ B X node c name target).2.1=9/\(nL (bR name)<=pz l name\/bB B X 96<2)) \/
 ((lm l name target)=(bF l ⟨name,target⟩,0)/\(iQ B X node c name target).2.1=0/\pz l name<nL (bR name)/\∃ m',eu (iQ B X node c name target).2.2.now node (iQ B X node c name target).1 m' (bF l ⟨name,target⟩)/\Fr node X.now (iQ B X node c name target).2.2.now):=by
 have hbk:=qF name;unfold iQ lm;by_cases ht:target<1\/24<=target
 ·left
  rw [if_pos (.inr ht),if_pos ht];exact ⟨rfl,by simp,by simp⟩
 rw [if_neg (show ¬ (¬ (0<=node/\node<24)\/target<1\/24<=target) from λh=>h.elim (λh=>h hn) ht),if_neg ht,D.open_];simp only [ne_eq,not_true_eq_false,if_false];rw [rW D.str];by_cases hr:dG name=false
 ·left
  have hnp:dx l name=false:=by
   rw [<-Bool.not_eq_true];intro h;rw [<-rW D.str] at h;unfold jk at h;cases hf:cK l name with
   | none=>rw [hf] at h;cases h
   | some e=>
    unfold cK at hf;have h1:=List.find?_some hf;have h2:=D.good e (List.mem_of_find?_eq_some hf);have h3:e.name=name:=by simpa using h1
    have:=h2.2.2;rw [h3,hr] at this;cases this
  rw [if_neg (by rw [hnp];simp),if_pos hr,if_pos hr];exact ⟨rfl,by simp,by simp⟩
 rw [if_neg hr,if_neg hr];have hrt:dG name=true:=by simpa using hr
 by_cases hp:dx l name=true
 ·left
  rw [if_pos hp,if_pos hp];exact ⟨rfl,by simp,by simp⟩
 rw [if_neg hp,if_neg hp];have hpf:dx l name=false:=by simpa using hp
 right
 have htr:1<=target/\target<24:=by omega
 unfold jT;cases hs:gK (wordsAt X.now m) m dY 4 (bR name) with
 | some q=>
  obtain ⟨pl,k⟩:=q;obtain ⟨q1,q2,q3,q4,q5⟩:=vJ hs;simp only at q1 q2 q3 q4 q5 ⊢;rw [vI] at q4;simp only [not_true_eq_false,if_false,Int.toNat_natCast,vI];have hlt:=D.JM name q1 (by omega) (by rw [ku q2];exact QY q3 q4);obtain ⟨W2,F2,fr2,HK⟩:=JJ (B:=B) (name:=name) (target:=target) hn D.wk D.ok D.lq D.str D.kind D.size q1 q2 q3 q4 (by omega) hrt htr hpf (Y:=_) rfl;by_cases hfree:1<=bB B X 96
  ·right
   have K:=EG (B:=B) (c:={ c with size:=c.size+1 }) hn W2 (by rw [fr2];exact hfree);obtain ⟨R1,R2⟩:=HK _ K;exact ⟨trivial,K.e,hlt,m,R1,R2⟩
  ·rcases ul (B:=B) (c:={ c with size:=c.size+1 }) hn W2 with ⟨p9,_⟩|K
   ·left
    exact ⟨trivial,p9,.inr (by omega)⟩
   ·right
    obtain ⟨R1,R2⟩:=HK _ K;exact ⟨trivial,K.e,hlt,m,R1,R2⟩
 | none=>
  simp only;unfold mW;cases hg:kr m 4 (bR name) with
  | none=>
   left
   simp only;exact ⟨trivial,rfl,.inl (D.full name hs hg)⟩
  | some pl=>
   obtain ⟨q1,q2,q3,q4⟩:=AQ hg;simp only;rcases AU (B:=B) (X:=X) hn with ⟨e0,k0,k1,kn,kx⟩|⟨e9,kx,kf⟩
   ·have hft:=EB hn e0;simp only [e0,if_true,not_true_eq_false,if_false,Int.toNat_natCast];rw [kx] at hft ⊢;generalize (bI B X node).1=blk at k0 k1 kn hft;obtain ⟨W1,F1,_,WB⟩:=D.wk.take_at hn ⟨k0,k1⟩ kn q1 q2;have hml:=D.wk.len;have hset:∀ i,aM (m.set pl blk) i=if i=pl then blk else aM m i:=λi=>xW (by omega);have hnew:dh (gu X.now node blk) blk=List.replicate 16 0:=by
     unfold dh gu;rw [EJ (by simp)];rfl
    have hold:∀ i,i<21->i≠pl->aM m i ≠ -1->dh (gu X.now node blk) (aM m i)=dh X.now (aM m i):=by
     intro i hi hne hu;have hr:=(D.wk.rV.aM i).resolve_left hu;refine xZ ⟨k0,k1⟩ hr.1 λe=>?_;have hm:aM m i∈m:=by
      unfold aM;rw [List.getElem?_eq_getElem (by omega)];exact List.getElem_mem _
     have:=(D.wk.own _ hr.1 hr.2).1 (mY.2 ⟨.inr hm,hu⟩);rw [e,kn] at this;exact ic hn this.symm
    have hat:aM (m.set pl blk) pl=blk:=by rw [hset,if_pos rfl]
    have QZ:dS (gu X.now node blk) (m.set pl blk)=dS X.now m:=by
     unfold dS;have:∀ i∈List.range 21,gy (gu X.now node blk) (m.set pl blk) i=gy X.now m i:=by
      intro i hi;have hi:i<21:=by simpa using hi
      by_cases e:i=pl
      ·subst e;rw [ku (by rw [hat];omega),hat,hnew,mV q2];exact (JN 0).2
      ·by_cases e2:aM m i = -1
       ·rw [mV e2,mV (by rw [hset,if_neg e];exact e2)]
       ·rw [ku e2,ku (by rw [hset,if_neg e];exact e2),hset,if_neg e,hold i hi e e2]
     revert this
     generalize List.range 21=L;intro this
     induction L with
     | nil=>rfl
     | cons x L ih=>rw [List.flatMap_cons,List.flatMap_cons,this x (by simp),ih (λi hi=>this i (by simp [hi]))]
    have hlt:=D.JM name q1 (by omega) (by rw [mV q2];simp);have hW:pR (wordsAt X.now m) pl (pl:Int)=dh (gu X.now node blk) (aM (m.set pl blk) pl):=by
     unfold pR;rw [if_pos rfl,hat,hnew]
    obtain ⟨W2,F2,fr2,HK⟩:=JJ (B:=B) (X:={ X with now:=gu X.now node blk }) (m:=m.set pl blk) (pl:=pl) (k:=0) (name:=name) (target:=target) hn W1 (λi hi hu=>by
     by_cases e:i=pl
     ·subst e;rw [hat];show mq (dh (gu X.now node blk) blk) i=true;rw [hnew];exact (JN i).1
     ·rw [hset,if_neg e] at hu ⊢;show mq (dh (gu X.now node blk) (aM m i)) i=true;rw [hold i hi e hu];exact D.ok i hi hu) (by show (dS (gu X.now node blk) (m.set pl blk)).Perm l;rw [QZ];exact D.lq) D.str D.kind D.size q1 (by rw [hat];omega) (by decide) (by show dY (dh (gu X.now node blk) _) 0=true;rw [hat,hnew];rfl) (by omega) hrt htr hpf (Y:=_) rfl
    rw [hW];by_cases hfree:1<=bB B { X with now:=gu X.now node blk } 96
    ·right
     have K:=EG (B:=B) (c:={ c with size:=c.size+1 }) hn W2 (by rw [fr2];exact hfree);obtain ⟨R1,R2⟩:=HK _ K;exact ⟨trivial,K.e,hlt,_,R1,F1.trans R2 (ic hn)⟩
    ·rcases ul (B:=B) (c:={ c with size:=c.size+1 }) hn W2 with ⟨p9,_⟩|K
     ·left
      exact ⟨trivial,p9,.inr (by omega)⟩
     ·right
      obtain ⟨R1,R2⟩:=HK _ K;exact ⟨trivial,K.e,hlt,_,R1,F1.trans R2 (ic hn)⟩
   ·left
    simp only [e9];refine ⟨trivial,rfl,.inr ?_⟩;rcases Nat.lt_or_ge (bB B X 96) 1 with h|h
    ·omega
    ·exact absurd kf (AO h)
def jK (l:List aF)(name:List UInt8):List aF×Int×Int:=
 if dx l name=true then (l.eraseIdx (aO l name),(l[aO l name]?.getD ⟨[],0⟩).node,0) else ([],0,4)
theorem vR {l:List aF}{name:List UInt8}(h:dx l name=true):∃ hk:aO l name<l.length,(l[aO l name]'hk).name=name:=by
 unfold dx at h;cases he:l[aO l name]? with
 | none=>rw [he] at h;cases h
 | some e=>
  rw [he] at h;obtain ⟨hk,hh⟩:=List.getElem?_eq_some_iff.1 he;exact ⟨hk,by rw [hh];simpa using h⟩
theorem K6 {l:List aF}(hs:strict l){x y:aF}(hx:x∈l)(hy:y∈l)(e:x.name=y.name):x=y:=by
 obtain ⟨i,hi,rfl⟩:=List.mem_iff_getElem.1 hx;obtain ⟨j,hj,rfl⟩:=List.mem_iff_getElem.1 hy;rcases Nat.lt_trichotomy i j with h|h|h
 ·have:=List.pairwise_iff_getElem.1 hs i j hi hj h;rw [e,mZ] at this;cases this
 ·subst h;rfl
 ·have:=List.pairwise_iff_getElem.1 hs j i hj hi h;rw [e,mZ] at this;cases this
theorem TW {l:List aF}{name:List UInt8}(hs:strict l)(h:dx l name=true):(jk l name).1=(l[aO l name]?.getD ⟨[],0⟩).node:=by
 obtain ⟨hk,hn⟩:=vR h;rw [<-rW hs] at h;unfold jk at h ⊢;cases hf:cK l name with
 | none=>rw [hf] at h;cases h
 | some e=>
  unfold cK at hf;have h1:e.name=name:=by simpa using List.find?_some hf
  have h2:=List.mem_of_find?_eq_some hf;rw [List.getElem?_eq_getElem hk];show e.node=(l[aO l name]'hk).node;rw [K6 hs h2 (List.getElem_mem hk) (by rw [h1,hn])]
theorem TY {name:List UInt8}{ws:List UInt64}{k:Nat}(h:jw name ws k=true):jG ws k=name/\dY ws k=false:=by
 unfold jw kS at h;simp only [Bool.and_eq_true,decide_eq_true_eq] at h;refine ⟨h.2,?_⟩;have h1:=h.1.2.2.2.1;unfold dY;rw [decide_eq_false (λe=>by rw [e] at h1;simp at h1)];rfl
theorem TU {now:Int->UInt64}{node:Int}{c:aB}{m:List Int}{l:List aF}(D:eu now node c m l){name:List UInt8}(h:dx l name=true) :
 ∃ pl k,gK (wordsAt now m) m (jw name) 4 (bR name)=some (pl,k)/\pl<21/\aM m pl ≠ -1/\k<5/\dY (dh now (aM m pl)) k=false/\ja (dh now (aM m pl)) k=l[aO l name]?.getD ⟨[],0⟩:=by
 have hbk:=qF name;obtain ⟨hk,hn⟩:=vR h;have hm:l[aO l name]∈dS now m:=D.lq.mem_iff.2 (List.getElem_mem hk);cases hs:gK (wordsAt now m) m (jw name) 4 (bR name) with
 | some q=>
  obtain ⟨pl,k⟩:=q;obtain ⟨q1,q2,q3,q4,q5⟩:=vJ hs;simp only at q1 q2 q3 q4 q5;rw [vI] at q4;obtain ⟨g1,g2⟩:=TY q4;refine ⟨pl,k,rfl,q1,q2,q3,g2,?_⟩;rw [List.getElem?_eq_getElem hk];refine K6 D.str (D.lq.mem_iff.1 ?_) (List.getElem_mem hk) (g1.trans hn.symm);unfold dS;rw [List.mem_flatMap];refine ⟨pl,by simpa using q1,?_⟩;rw [ku q2];unfold kz;rw [List.mem_flatMap];refine ⟨k,by simpa using q3,?_⟩;unfold fA;rw [if_neg (by rw [g2];decide)];simp
 | none=>
  exfalso;unfold dS at hm;rw [List.mem_flatMap] at hm;obtain ⟨i,hi,he⟩:=hm;have hi:i<21:=by simpa using hi
  have hu:aM m i ≠ -1:=λe=>by rw [mV e] at he;cases he
  rw [ku hu] at he;unfold kz at he;rw [List.mem_flatMap] at he;obtain ⟨k,hk5,hse⟩:=he;have hk5:k<5:=by simpa using hk5
  have ho:=D.ok i hi hu;unfold mq at ho;simp only [Bool.and_eq_true] at ho;have hso:=List.all_eq_true.1 ho.2 k (by simpa using hk5);unfold fA at hse;by_cases hem:dY (dh now (aM m i)) k=true
  ·rw [if_pos hem] at hse;cases hse
  rw [if_neg hem,List.mem_singleton] at hse;unfold iU at hso;have hem2:dY (dh now (aM m i)) k=false:=by simpa using hem
  rw [hem2,Bool.false_or] at hso;have hnm:jG (dh now (aM m i)) k=name:=by rw [<-hn,hse];rfl
  have hb:bR name=i%8:=by
   have:=hso;unfold kS at this;simp only [Bool.and_eq_true,decide_eq_true_eq] at this;rw [<-hnm];exact this.2.2.1
  have hj:=EM hs (i/8) (by omega) (by omega);have e:bR name+8*(i/8)=i:=by omega
  rw [e,vI] at hj;have:=EL (hj.resolve_left hu) k (Nat.zero_le _) (by omega);have hib:jw name (dh now (aM m i)) k=true:=by
   unfold jw;rw [decide_eq_true hnm,Bool.and_true];unfold kS at hso ⊢;rw [hb,Nat.mod_mod];exact hso
  rw [hib] at this;cases this
theorem TV {node:Int}(hn:0<=node/\node<24){now:Int->UInt64}{c:aB}{m:List Int}{l:List aF}(D:eu now node c m l){name:List UInt8}(ht:dx l name=true){pl k:Nat}
 (hpl:pl<21) (jE:aM m pl ≠ -1) (hk:k<5) (he:dY (dh now (aM m pl)) k=false) (hee:ja (dh now (aM m pl)) k=l[aO l name]?.getD ⟨[],0⟩) :
 eu (bX now (aM m pl) (setSlot (dh now (aM m pl)) k [0,0,0])) node { c with size:=c.size-1 } m (l.eraseIdx (aO l name))/\Fr node now (bX now (aM m pl) (setSlot (dh now (aM m pl)) k [0,0,0])):=by
 obtain ⟨hkl,hnm⟩:=vR ht;have hlen:=uj now (aM m pl);have hsl:(setSlot (dh now (aM m pl)) k [0,0,0]).length=16:=by
  unfold setSlot;simp [hlen];omega
 obtain ⟨W2,F2,b1,b2⟩:=D.wk.iA hpl jE hsl;have hp:=Rs (place:=pl) hlen hk (D.ok pl hpl jE) he;have hml:=D.wk.len;have hxm:aM m pl∈m:=by
  unfold aM;rw [List.getElem?_eq_getElem (by omega)];exact List.getElem_mem _
 refine ⟨⟨?_,W2,D.kind,?_,λi hi hu=>?_,?_,?_,D.kG⟩,F2⟩
 ·have hm:=D.map;unfold mapOf at hm ⊢;by_cases e:c.more = -1
  ·rw [if_pos e] at hm ⊢;exact hm
  ·rw [if_neg e] at hm ⊢;have e2:dw (bX now (aM m pl) (setSlot (dh now (aM m pl)) k [0,0,0])) c.more=dw now c.more:=KQ (by omega) (D.wk.Fb hxm jE);simp only [e2];exact hm
 ·show c.size-1=_;rw [D.size,List.length_eraseIdx_of_lt hkl];omega
 ·by_cases e:i=pl
  ·subst e;rw [b1];exact hp.1
  ·rw [b2 i hi e hu];exact D.ok i hi hu
 ·have p:=JL (f:=now) (g:=bX now (aM m pl) (setSlot (dh now (aM m pl)) k [0,0,0])) (m:=m) (m':=m) hpl λj hj hne=>by
   by_cases e:aM m j = -1
   ·rw [mV e,mV e]
   ·rw [ku e,ku e,b2 j hj hne e]
  rw [ku jE,ku jE,b1] at p;have hE:ja (dh now (aM m pl)) k=l[aO l name]:=by rw [hee,List.getElem?_eq_getElem hkl];rfl
  have hq:=hp.2;rw [hE] at hq;have pl1:(l[aO l name]::l.eraseIdx (aO l name)).Perm l:=by
   rw [List.eraseIdx_eq_take_drop_succ];refine List.perm_middle.symm.trans ?_;rw [List.getElem_cons_drop,List.take_append_drop]
  have s1:(dS (bX now (aM m pl) (setSlot (dh now (aM m pl)) k [0,0,0])) m++kz (dh now (aM m pl))).Perm (l.eraseIdx (aO l name)++kz (dh now (aM m pl))):=by
   refine p.symm.trans ?_;refine (List.Perm.append_right _ (D.lq.trans pl1.symm)).trans ?_;rw [List.cons_append];refine List.perm_middle.symm.trans ?_;exact List.Perm.append_left _ hq
  exact (List.perm_append_right_iff _).1 s1
 ·exact List.Pairwise.sublist (List.eraseIdx_sublist _ _) D.str
theorem Oc {h:Heap}{V:VL}{M:aV}{X:VS}(A:At h V M X){node:Int}(hn:0<=node/\node<24){c:aB}{m:List Int}{l:List aF}(D:eu X.now node c m l)(name:List UInt8)(hnl:name.length<=140737488351232) :
 aD Tryz.prog 109 [.pointer (some ⟨V.v,0,none⟩),.int .i64 node,.agg ⟨c.cells⟩,.string ⟨name.toArray⟩] h (λv h'=>Keeps [V.ob] h h'/\∃ c' X',v=.tuple #[.agg ⟨c'.cells⟩,.int .i64 (jK l name).2.1,.int .i64 (jK l name).2.2]/\At h' V M X'/\X'.away=X.away/\X'.bE=X.bE /\
  ((jK l name).2.2=0->eu X'.now node c' m (jK l name).1/\Fr node X.now X'.now)/\X'={ X with now:=X'.now }/\((jK l name).2.2=0->c'={ c with size:=c.size-1 })):=by
 have hvb:=A.blt;have qC:=hvb V.ob (by simp [VL.blocks]);obtain ⟨_,hc⟩:=D.right;have hop:=D.open_;refine aH aI Tryz.func109 rfl ok109 (by simp [Tryz.f109]) ?_;(conv=>whnf);refine aR.i λb1 h1 e1 s1 o1 k1=>?_;(conv=>whnf);refine aR.i λb2 h2 e2 s2 o2 k2=>?_;(conv=>whnf);refine aR.i λb3 h3 e3 s3 o3 k3=>?_;(conv=>whnf);refine au.i (ES node h3) λv h4 k4 hv=>?_;subst hv;rw [if_pos hn];have k04:=((k1.trans k2).trans k3).trans k4;(conv=>whnf);refine ak.f rfl ?_;(conv=>whnf);refine au.i (yj (A.on k04) c hc) λv h5 k5 hv=>?_;have k05:=k04.trans k5;unfold r9 at hv;rw [hop,if_pos rfl] at hv;obtain ⟨b,L,a,cc,rfl,B5,nB,O5,nO,ok⟩:=hv;have hlf:=D.few;have z1:=k1.size;have z2:=k2.size;have z3:=k3.size;have z4:=k4.size;have z5:=k5.size;have yu:∀ x∈BL.blocks b L,x∉V.blocks:=λx hx hx2=>by have:=nB x hx;have:=hvb x hx2;omega
 (conv=>whnf);refine ak.f rfl ?_;simp only at B5 O5 ok ⊢;have Bf:=jX O5 ok (by omega);have o25:h5[b2]?=some (.cells ⟨[.string ⟨name.toArray⟩]⟩ 9 (0,0)):=((k3.trans k4).trans k5).obj o2 (by simp);(conv=>whnf);refine ax.o o25 rfl ?_;(conv=>whnf);refine au.i (find_spec Bf (by omega) name) λv h6 k6 hv=>?_;subst hv;have k06:=k05.trans k6;have z6:=k6.size;rw [rW D.str];(conv=>whnf);refine ak.i (λhth=>?_) (λhth=>?_)
 ·have ht:dx l name=false:=by simpa using hth
  (conv=>whnf);refine aN.i λh7 s7 k7=>?_;(conv=>whnf);have kk:Keeps [] h h7:=k06.new1 k7 (by omega);unfold jK;rw [if_neg (by rw [ht];decide)];exact ⟨kk.mono (by simp),aB.zero,X,rfl,A.on kk,rfl,rfl,(λe=>by cases e),rfl,λe=>by cases e⟩
 ·have ht:dx l name=true:=by simpa using hth
  obtain ⟨pl,k,hsp,hpl,jE,hk5,hem,hee⟩:=TU D ht;have B6:=B5.keep k6 (by simp);have o26:h6[b2]?=some (.cells ⟨[.string ⟨name.toArray⟩]⟩ 9 (0,0)):=k6.obj o25 (by simp);have SP:=RX B6 name hnl o26;rw [hsp] at SP;(conv=>whnf);refine ax.o o26 rfl ?_;(conv=>whnf);refine au.i SP λv h7 k7 hv=>?_;subst hv;(conv=>whnf);refine aP.make (n:=3) rfl rfl rfl rfl rfl (by decide) (by decide) λb8 h8 e8 s8 o8 k8=>?_;have S8:Sl h8 (some ⟨b8,0,none⟩) 3 3 ([0,0,0]:List UInt64):=Sl.l7 (α:=UInt64) (n:=3) o8 (by simp [One.ok]) rfl (by simp);have k78:=k7.trans k8;have A8:=A.on (k06.trans k78);have B8:=B6.keep k78 (by simp);have Bg:=(D.wk.rV.aM pl).resolve_left jE;have PS:=J3 A8 B8 yu hpl jE Bg hk5 S8;have z78:=k78.size;(conv=>whnf);refine au.m PS ?_ λv h9 k9 hv=>?_
  ·intro y hy hx2;have hy2:y=b1\/y=b3:=by simpa [aA,bg,or_comm] using hy
   simp only [List.mem_cons] at hx2;rcases hx2 with rfl|hx2
   ·omega
   ·have:=nB y hx2;omega
  obtain ⟨rfl,A9,_,_⟩:=hv;have kk9:Keeps [V.ob] h h9:=((k06.trans k78).mono (by simp)).gL k9 (λy hy=>by
   simp only [List.mem_cons] at hy;rcases hy with rfl|hy
   ·exact .inl (by simp)
   ·have:=nB y hy;right;omega)
  rw [vI] at A9;obtain ⟨D9,F9⟩:=TV hn D ht hpl jE hk5 hem hee;(conv=>whnf);refine ak.f rfl ?_;(conv=>whnf);refine aN.i λh10 s10 k10=>?_;(conv=>whnf);refine aN.i λh11 s11 k11=>?_;(conv=>whnf);have z9:=k9.size;have kk11:Keeps [V.ob] h h11:=(kk9.gL k10 (λy hy=>by simp at hy;right;omega)).gL k11 (λy hy=>by simp at hy;right;omega);have A11:=(A9.keep k10 (λy hy=>by have:=hvb y hy;simp;omega)).keep k11 (λy hy=>by have:=hvb y hy;simp;omega);have hwr:IntKind.i64.wrap (c.size-1)=c.size-1:=by rw [D.size];exact dQ (by omega) (by omega)
  have er:jK l name=(l.eraseIdx (aO l name),(l[aO l name]?.getD ⟨[],0⟩).node,0):=by unfold jK;rw [if_pos ht]
  rw [er];refine ⟨kk11,{ c with size:=c.size-1 },_,?_,A11,rfl,rfl,(λ_=>⟨D9,F9⟩),rfl,λ_=>rfl⟩;rw [TW D.str ht];have yw:({ c with size:=c.size-1 }:aB).cells=bC (0+2) (cellsOf (.int .i64 (IntKind.i64.wrap (c.size-1)))) c.cells:=by rw [hwr];rfl
  rw [yw];rfl
theorem TL {h:Heap}{b o m xc:Nat}{l:List aF}(S:Sl h (some ⟨b,o,none⟩) m xc l):∀ j,j<(bS l).length->Heap.cell? h b (o+j)=(bS l)[j]?:=by
 intro j hj;have hl:=lJ l;obtain ⟨b',o',hb,cs,⟨rfl,_⟩,hc⟩:=S.at_ (j/2) (by omega);cases hb;have:=hc (j%2) (by simp [aF.cells];omega);rw [Bn l j (by omega),<-this]
 congr 1
 show _=o+j/2*2+j%2;omega
theorem nU {h:Heap}{a:Option Addr}{n c:Nat}{l1 l2:List aF}(O:Own h 93 2 a n c (bS l1)){x:Option Addr}{m xc:Nat}(S:Sl h x m xc l2)(hb:n+m<=100000){bs:List Nat}(hbs:∀ b∈ay a,b∉bs){ty:TypeId}{K:Value->Heap->Prop}
 (H:∀ a' c' h',Own h' 93 2 a' (n+m) c' (bS (l1++l2))->Keeps (ay a) h h'->(∀ b∈ay a',b∈ay a\/h.size<=b)->K (.slice a' (n+m) c') h') :
 aP Tryz.prog (Builtin.append_ #[38,38] ty ⟨[.slice a n c,.slice x m xc]⟩) bs h K:=by
 have hm:=S.hlen;rcases Nat.eq_zero_or_pos m with h0|h0
 ·subst h0;have:l2=[]:=List.eq_nil_of_length_eq_zero hm.symm;subst this;have hnc:n<=c:=by
   rcases O with ⟨_,rfl,rfl,_⟩|⟨b,cs,_,_,_,_,_,h2⟩
   ·exact Nat.le_refl _
   ·exact h2
  refine aP.append0 rfl rfl rfl hnc ?_;have:=H a c h (by rw [List.append_nil];exact O) (Keeps.refl _ _) (λb hb=>.inl hb);exact this
 ·obtain ⟨b,o,rfl⟩:=S.rR h0;refine jO (e:=93) (sz:=2) (aL:=24) (new:=bS l2) rfl rfl rfl rfl rfl rfl rfl O (by rw [lJ];omega) (TL S) (E5 l2) (by omega) (by omega) hbs ?_;intro a' c' h5 O5 k5 n5;exact H a' c' h5 (by rw [show bS (l1++l2)=bS l1++bS l2 from List.flatMap_append];exact O5) k5 n5
theorem oL (h:Heap):Own h 93 2 none 0 0 (bS []):=.inl ⟨rfl,rfl,rfl,rfl⟩
theorem TM {h:Heap}{a:Option Addr}{n c:Nat}{l:List aF}(S:Sl h a n c l)(hn:n<=10000)(name:List UInt8)(hnl:name.length<=140737488351232)(target:Int)(ht:inI64 target)(hok:∀ e∈l,e.ok) :
 aD Tryz.prog 146 [.slice a n c,.string ⟨name.toArray⟩,.int .i64 target] h (λv h'=>Keeps [] h h'/\∃ a' c',v=.tuple #[.slice a' (lm l name target).1.length c',.int .i64 (lm l name target).2]/\Own h' 93 2 a' (lm l name target).1.length c' (bS (lm l name target).1)/\(∀ b∈ay a',h.size<=b)):=by
 have hl:=S.hlen;have hcap:=S.hcap;unfold lm;refine aH aI Tryz.func146 rfl ok146 (by simp [Tryz.f146]) ?_;(conv=>whnf);refine ak.i (λhd=>?_) (λhd=>?_)
 ·have h1:target<1\/24<=target:=by simp [di] at hd;omega
  (conv=>whnf);rw [if_pos h1];exact ⟨Keeps.refl _ _,none,0,rfl,oL h,by simp [ay]⟩
 have h1:¬ (target<1\/24<=target):=by simp [di] at hd;omega
 rw [if_neg h1];(conv=>whnf);refine au.i (JW name hnl h) λv h1 k1 hv=>?_;subst hv;(conv=>whnf);refine ak.i (λhr=>?_) (λhr=>?_)
 ·have h2:dG name=false:=by simpa using hr
  (conv=>whnf);rw [if_pos h2];exact ⟨k1,none,0,rfl,oL h1,by simp [ay]⟩
 have h2:¬ dG name=false:=by simpa using hr
 rw [if_neg h2];(conv=>whnf);refine au.i (yg (S.keep k1) (by omega) name hnl) λv h2 k2 hv=>?_;subst hv;have k02:=k1.trans k2;(conv=>whnf);refine ak.i (λhp=>?_) (λhp=>?_)
 ·(conv=>whnf);rw [if_pos hp];exact ⟨k02,none,0,rfl,oL h2,by simp [ay]⟩
 rw [if_neg (by rw [hp];decide)];have hkl:=vM l name;(conv=>whnf);refine dm.i 0 (aO l name) rfl rfl (Nat.zero_le _) (by omega) ?_;(conv=>whnf);refine dm.i (aO l name) n rfl rfl (by omega) (by omega) ?_;have P1:=(S.keep k02).part (l:=0) (r:=aO l name) (Nat.zero_le _) (by omega);rw [List.drop_zero] at P1;have P2:=(S.keep k02).part (l:=aO l name) (r:=n) (by omega) (Nat.le_refl _);rw [List.take_of_length_le (by omega:l.length<=n)] at P2;have one:∀ {hx:Heap} {b:Nat},hx[b]?=some (.cells ⟨cellsOf (.agg ⟨[.string ⟨name.toArray⟩,.int .i64 target]⟩)⟩ 93 (0,0))->Sl hx (some ⟨b,0,none⟩) 1 1 [(⟨name,target⟩:aF)]:=by
  intro hx b o;refine ⟨rfl,Nat.le_refl _,by simp,λi hi=>?_⟩;have:i=0:=by simpa using hi
  subst this;refine ⟨b,0,rfl,aF.cells ⟨name,target⟩,⟨rfl,hnl,ht⟩,λj hj=>?_⟩
  ·unfold Heap.cell?;rw [o];have:j=0\/j=1:=by simp [aF.cells] at hj;omega
   rcases this with rfl|rfl <;> rfl
 (conv=>whnf);refine iI.i ?c1 ?c2
 case' c1=>
  (conv=>whnf);refine nU (oL h2) P1 (by omega) (by simp [ay]) λa5 c5 h5 O5 k5 n5=>?_;have k25:Keeps [] h2 h5:=k5.mono (by simp [ay]);rw [List.nil_append] at O5;(conv=>whnf);refine aR.i λb6 h6 e6 s6 o6 k6=>?_;have O6:=O5.keep k6 (by simp);have S6:=one o6;have k26:=k25.trans k6;have z5:=k25.size;have hb6:h2.size<=b6:=by omega
  have n6:∀ b∈ay a5,h2.size<=b:=λb hb=>by
   rcases n5 b hb with h|h
   ·simp [ay] at h
   ·exact h
 case' c2=>
  (conv=>whnf);refine aR.i λb6 h5 e6 s5 o5 k5=>?_;(conv=>whnf);refine nU (oL h5) (P1.keep k5) (by omega) (by simp [ay]) λa5 c5 h6 O6 k6 n5=>?_;have k56:Keeps [] h5 h6:=k6.mono (by simp [ay]);rw [List.nil_append] at O6;have S6:=(one o5).keep k56;have k26:=k5.trans k56;have z5:=k5.size;have hb6:h2.size<=b6:=by omega
  have n6:∀ b∈ay a5,h2.size<=b:=λb hb=>by
   rcases n5 b hb with h|h
   ·simp [ay] at h
   ·omega
 all_goals
  (conv=>whnf);refine nU O6 S6 (by omega) (by simp [aA]) λa7 c7 h7 O7 k7 n7=>?_;have z7:=k7.size;have z6:=k26.size;have n7':∀ b∈ay a7,h2.size<=b:=λb hb=>by
   rcases n7 b hb with h|h
   ·exact n6 b h
   ·omega
  have k27:Keeps [] h2 h7:=k26.dL k7 (λb hb=>n6 b hb);(conv=>whnf);refine nU O7 (P2.keep k27) (by omega) (by simp [aA]) λa8 c8 h8 O8 k8 n8=>?_;have k28:Keeps [] h2 h8:=k27.dL k8 (λb hb=>n7' b hb);(conv=>whnf);have hlen:(bF l ⟨name,target⟩).length=0+(aO l name-0)+1+(n-aO l name):=by
   rw [(mX l _).length_eq,List.length_cons];omega
  refine ⟨k02.trans k28,a8,c8,?_,?_,λb hb=>?_⟩
  ·simp only;rw [hlen]
  ·simp only;rw [hlen];have:List.take (aO l name) l++[(⟨name,target⟩:aF)]++List.drop (aO l name) l=bF l ⟨name,target⟩:=by unfold bF;simp
   rw [<-this];exact O8
  ·have z02:=k02.size;rcases n8 b hb with h|h
   ·have:=n7' b h;omega
   ·have:=k27.size;omega
theorem TN (x y:aF):mg Tryz.prog 10000 93 (.agg ⟨x.cells⟩) (.agg ⟨y.cells⟩)=some (decide (x=y)):=by
 have h:mg Tryz.prog 10000 93 (.agg ⟨x.cells⟩) (.agg ⟨y.cells⟩)=some (((⟨x.name.toArray⟩:ByteArray).toList==(⟨y.name.toArray⟩:ByteArray).toList)&&((x.node==y.node)&&true)):=by kernel_rfl
 rw [h]
 congr 1
 rw [iV,Bool.eq_iff_iff];obtain ⟨a,b⟩:=x;obtain ⟨c,d⟩:=y;simp
theorem TP {h:Heap}{a:Option Addr}{n c:Nat}{l:List aF}(S:Sl h a n c l)(hn:n<=10000)(name:List UInt8)(hnl:name.length<=140737488351232) :
 aD Tryz.prog 147 [.slice a n c,.string ⟨name.toArray⟩] h (λv h'=>Keeps [] h h'/\∃ a' c',v=.tuple #[.slice a' (jK l name).1.length c',.int .i64 (jK l name).2.1,.int .i64 (jK l name).2.2]/\Own h' 93 2 a' (jK l name).1.length c' (bS (jK l name).1)/\(∀ b∈ay a',h.size<=b)):=by
 have hl:=S.hlen;have hcap:=S.hcap;unfold jK;refine aH aI Tryz.func147 rfl ok147 (by simp [Tryz.f147]) ?_;(conv=>whnf);refine au.i (yg S (by omega) name hnl) λv h2 k2 hv=>?_;subst hv;(conv=>whnf);refine ak.i (λhp=>?_) (λhp=>?_)
 ·have hp':¬ dx l name=true:=by simpa using hp
  (conv=>whnf);rw [if_neg hp'];exact ⟨k2,none,0,rfl,oL h2,by simp [ay]⟩
 have hp':dx l name=true:=by simpa using hp
 rw [if_pos hp'];obtain ⟨hkl,hnm⟩:=vR hp';have P1:=(S.keep k2).part (l:=0) (r:=aO l name) (Nat.zero_le _) (by omega);rw [List.drop_zero] at P1;have P2:=(S.keep k2).part (l:=aO l name+1) (r:=n) (by omega) (Nat.le_refl _);rw [List.take_of_length_le (by omega:l.length<=n)] at P2;have hw:IntKind.i64.wrap ((aO l name:Int)+1)=((aO l name+1:Nat):Int):=wrapN (by simp) (by omega);obtain ⟨b3,o3,hb3,cs,⟨rfl,hok⟩,hc3⟩:=(S.keep k2).at_ (aO l name) hkl;(conv=>whnf);refine dm.i 0 (aO l name) rfl rfl (Nat.zero_le _) (by omega) ?_;(conv=>whnf);refine dm.i (aO l name+1) n hw rfl (by omega) (by omega) ?_;(conv=>whnf);refine aQ.i (aO l name) rfl (by omega) hb3 ?_;have nd:∀ {hx:Heap},Keeps [] h2 hx->Heap.cell? hx b3 (o3+aO l name*2+1)=some (.int .i64 (l[aO l name].node)):=λk=>(hc3.keep k) 1 (by simp [aF.cells]);have hlen:(l.eraseIdx (aO l name)).length=0+(aO l name-0)+(n-(aO l name+1)):=by
  rw [List.length_eraseIdx_of_lt hkl];omega
 have her:l.take (aO l name)++l.drop (aO l name+1)=l.eraseIdx (aO l name):=(List.eraseIdx_eq_take_drop_succ _ _).symm;have AJ:(l[aO l name]?.getD ⟨[],0⟩).node=l[aO l name].node:=by rw [List.getElem?_eq_getElem hkl];rfl
 (conv=>whnf);refine iI.i ?c1 ?c2
 case' c1=>
  (conv=>whnf);refine nU (oL h2) P1 (by omega) (by simp [ay]) λa5 c5 h5 O5 k5 n5=>?_;have k25:Keeps [] h2 h5:=k5.mono (by simp [ay]);rw [List.nil_append] at O5;have n5':∀ b∈ay a5,h2.size<=b:=λb hb=>by
   rcases n5 b hb with h|h
   ·simp [ay] at h
   ·exact h
  (conv=>whnf);refine iI.i ?d1 ?d2
  case' d1=>
   (conv=>whnf);refine nU O5 (P2.keep k25) (by omega) (by simp [aA]) λa6 c6 h6 O6 k6 n6=>?_;have k26:Keeps [] h2 h6:=k25.dL k6 (λb hb=>n5' b hb);(conv=>whnf);refine ax.i (nd k26) ?_;(conv=>whnf);refine ⟨k2.trans k26,a6,c6,?_,?_,λb hb=>?_⟩
   ·simp only;rw [hlen,AJ]
   ·simp only;rw [hlen,<-her];exact O6
   ·have z2:=k2.size;have z5:=k25.size;rcases n6 b hb with h|h
    ·have:=n5' b h;omega
    ·omega
  case' d2=>
   (conv=>whnf);refine ax.i (nd k25) ?_;(conv=>whnf);refine nU O5 (P2.keep k25) (by omega) (by simp [aA]) λa6 c6 h6 O6 k6 n6=>?_;have k26:Keeps [] h2 h6:=k25.dL k6 (λb hb=>n5' b hb);(conv=>whnf);refine ⟨k2.trans k26,a6,c6,?_,?_,λb hb=>?_⟩
   ·simp only;rw [hlen,AJ]
   ·simp only;rw [hlen,<-her];exact O6
   ·have z2:=k2.size;have z5:=k25.size;rcases n6 b hb with h|h
    ·have:=n5' b h;omega
    ·omega
 case' c2=>
  (conv=>whnf);refine ax.i (nd (Keeps.refl _ _)) ?_;(conv=>whnf);refine nU (oL h2) P1 (by omega) (by simp [ay]) λa5 c5 h5 O5 k5 n5=>?_;have k25:Keeps [] h2 h5:=k5.mono (by simp [ay]);rw [List.nil_append] at O5;have n5':∀ b∈ay a5,h2.size<=b:=λb hb=>by
   rcases n5 b hb with h|h
   ·simp [ay] at h
   ·exact h
  (conv=>whnf);refine nU O5 (P2.keep k25) (by omega) (by simp [aA]) λa6 c6 h6 O6 k6 n6=>?_;have k26:Keeps [] h2 h6:=k25.dL k6 (λb hb=>n5' b hb);(conv=>whnf);refine ⟨k2.trans k26,a6,c6,?_,?_,λb hb=>?_⟩
  ·simp only;rw [hlen,AJ]
  ·simp only;rw [hlen,<-her];exact O6
  ·have z2:=k2.size;have z5:=k25.size;rcases n6 b hb with h|h
   ·have:=n5' b h;omega
   ·omega
theorem gP.TR {P:Program}{c:Option Bool}{t:TypeId}{x y:Operand}{xs ys:List Value}{r:Bool}{K:Value->Prop}(hm:P.eqGuardType P.depth t=false)(he:mg P 10000 t (.agg ⟨xs⟩) (.agg ⟨ys⟩)=some r)(hK:K (.bool (!r))) :
 gP c P (do eqGuard .neq t x y (.agg ⟨xs⟩) (.agg ⟨ys⟩);binOp .neq t (.agg ⟨xs⟩) (.agg ⟨ys⟩):Sem Value) K:=by
 refine gP.i (λw=>?_) hK;rw [Sem.run_bind,run_eqGuard_agg _ _ _ _ _ _ _ hm];simp only [Result.andThen_ok];rw [run_neq_struct,Es _ _ _ _ _ w he];rfl
theorem TT {h:Heap}{a a2:Option Addr}{n n2 c c2:Nat}{l l2:List aF}(S:Sl h a n c l)(S2:Sl h a2 n2 c2 l2)(hn:n<=100000):aD Tryz.prog 56 [.slice a n c,.slice a2 n2 c2] h (λv h'=>Keeps [] h h'/\v=.bool (decide (l=l2))):=by
 have hl:=S.hlen;have hl2:=S2.hlen;refine aH aI Tryz.func56 rfl ok56 (by simp [Tryz.f56]) ?_;(conv=>whnf);refine ak.i (λhd=>?_) (λhd=>?_)
 ·have hne:n≠n2:=by simp at hd;omega
  (conv=>whnf);refine ⟨Keeps.refl _ _,?_⟩;rw [decide_eq_false (λe=>hne (by rw [hl,hl2,e]))]
 have he:n=n2:=by simp at hd;omega
 (conv=>whnf);refine bP.on [0,1,5] [] (λi:Nat=>[(0,.v (.slice a n c)),(1,.v (.slice a2 n2 c2)),(5,.v (.int .i64 (i:Int)))]) (λ_=>[]) (λi h'=>i<=n/\Keeps [] h h'/\l.take i=l2.take i) (λi=>n-i) 0 ?_ ?_
 ·(conv=>whnf);exact ⟨0,rfl,rfl,rfl,Nat.zero_le _,Keeps.refl _ _,by simp⟩
 ·rintro i h1 ⟨hi,k1,ht⟩;(conv=>whnf);refine ak.i (λhd=>?_) (λhd=>?_)
  ·have hi1:i<l.length:=by simp at hd;omega
   have hi2:i<l2.length:=by omega
   obtain ⟨b1,o1,hb1,_,⟨rfl,_⟩,hc1⟩:=(S.keep k1).at_ i hi1;obtain ⟨b2,o2,hb2,_,⟨rfl,_⟩,hc2⟩:=(S2.keep k1).at_ i hi2;(conv=>whnf);refine aQ.i i rfl (by omega) hb1 ?_;(conv=>whnf);refine eY.i (vs:=l[i].cells) rfl (λj hj=>hc1 j hj) ?_;(conv=>whnf);refine aQ.i i rfl (by omega) hb2 ?_;(conv=>whnf);refine eY.i (vs:=l2[i].cells) rfl (λj hj=>hc2 j hj) ?_;(conv=>whnf);refine gP.TR (by kernel_rfl) (TN l[i] l2[i]) ?_;(conv=>whnf);refine ak.i (λhq=>?_) (λhq=>?_)
   ·(conv=>whnf);have hne:l[i]≠l2[i]:=by simpa using hq
    refine ⟨k1,?_⟩;rw [decide_eq_false (λe=>hne (by subst e;rfl))]
   ·have heq:l[i]=l2[i]:=by simpa using hq
    (conv=>whnf);refine ⟨n-(i+1),by omega,?_⟩;(conv=>whnf);refine ⟨i+1,rfl,by rw [wrapN (n:=i+1) (by simp) (by omega)],rfl,by omega,k1,?_⟩;rw [List.take_succ_eq_append_getElem hi1,List.take_succ_eq_append_getElem hi2,ht,heq]
  ·have hi1:i=n:=by simp at hd;omega
   subst hi1;(conv=>whnf);refine ⟨k1,?_⟩;rw [List.take_of_length_le (by omega),List.take_of_length_le (by omega)] at ht;rw [decide_eq_true ht]
def qW (X Y:VS):Prop:=Y.away=X.away/\Y.bE=X.bE
theorem K3 (B:Int->UInt64)(X:VS)(node:Int):qW X (bI B X node).2.2:=by
 unfold bI;split
 ·split <;> exact ⟨rfl,rfl⟩
 ·exact ⟨rfl,rfl⟩
theorem TK (X:VS)(k:Int):qW X (fI X k).2:=by
 unfold fI;split
 ·split <;> exact ⟨rfl,rfl⟩
 ·exact ⟨rfl,rfl⟩
theorem K5 (B:Int->UInt64)(X:VS)(node:Int)(c:aB)(m:List Int):qW X (eD B X node c m).2.2:=by
 have ht:=K3 B X node;have hd:=TK X c.more;unfold eD;split
 ·split
  ·split
   ·exact ⟨rfl,rfl⟩
   ·split
    ·exact hd
    ·exact hd
  ·by_cases hm:c.more = -1
   ·simp only [if_pos hm];split
    ·simp only;split <;> exact ht
    ·exact ht
   ·simp only [if_neg hm,if_true];split <;> exact ⟨rfl,rfl⟩
 ·exact ⟨rfl,rfl⟩
section
variable {H:Type} {enc:TypeId×Value->H} {W:World} {sp:Nat->Bool} {held:Bool}
end
def ig:List Int:=List.replicate 21 (-1)
theorem xV (i:Nat):aM ig i = -1:=by
 unfold aM ig;rw [List.getElem?_replicate];split <;> rfl
theorem _root_.Go.aK.Sl.yG {h:Heap}{a:Option Addr}{n c:Nat}{xs:List aF}(S:Sl h a n c xs)(hn:0<n):∀ b∈ay a,b<h.size:=by
 have hl:=S.hlen;obtain ⟨b,o,hb,cs,⟨rfl,_⟩,hc⟩:=S.at_ 0 (by omega);intro x hx;rw [hb] at hx;simp [ay] at hx;subst hx;exact wm (hc 0 (by simp [aF.cells]))
section
variable {h0 h h':Heap} {F:List Nat} {f:Nat} {node:Int} {V:VL} {M:aV} {c:aB} {m:List Int} {l:List aF}
end
theorem KZ {now:Int->UInt64}{node:Int}{c:aB}{m:List Int}{l:List aF}(D:eu now node c m l)(name:List UInt8):nS now c name=((jk l name).1,dx l name,0):=by
 unfold nS;rw [D.open_,if_pos rfl];simp only;rw [rW D.str]
theorem TJ {a b:Int}(ha:0<=a/\a<24)(hb:0<=b/\b<24)(h:w64 (a+1)=w64 (b+1)):a=b:=by
 have h1:=qA (a+1);have h2:=qA (b+1);rw [h] at h1;omega
theorem eu.other {now g:Int->UInt64}{x y:Int}(hx:0<=x/\x<24)(hy:0<=y/\y<24)(hne:x≠y){c:aB}{m:List Int}{l:List aF}(D:eu now y c m l)(R:Fr0 x now g):eu g y c m l:=by
 have hxy:w64 (y+1)≠w64 (x+1):=λe=>hne (TJ hx hy e.symm);have hy0:=ic hy;have key:∀ k,0<=k->k<96->now (200+k)=w64 (y+1)->g (200+k)=w64 (y+1)/\bU g (1288+k*16) 16=bU now (1288+k*16) 16:=by
  intro k h0 h1 h;obtain ⟨p,q⟩:=R.kR k h0 h1 (by rw [h];exact hxy);refine ⟨?_,q (by rw [h];exact hy0)⟩;rcases p with p|⟨p,_⟩
  ·rw [p,h]
  ·exact absurd (h ▸ p) hy0
 have back:∀ k,0<=k->k<96->g (200+k)=w64 (y+1)->now (200+k)=w64 (y+1):=by
  intro k h0 h1 h;by_cases hm:now (200+k)=w64 (x+1)
  ·rcases R.mine k h0 h1 hm with p|p
   ·exact absurd (h.symm.trans p) hxy
   ·exact absurd (h.symm.trans p) hy0
  ·rcases (R.kR k h0 h1 hm).1 with p|⟨_,p⟩
   ·rw [<-p,h]
   ·exact absurd (h.symm.trans p) hxy
 have hown:∀ k,k∈gV c.more m->0<=k/\k<96/\now (200+k)=w64 (y+1):=by
  intro k hk;obtain ⟨h1,h2⟩:=mY.1 hk;have hb:=D.wk.bG k (by rcases h1 with rfl|h1;exact List.mem_cons_self;exact List.mem_cons_of_mem _ h1);unfold ng at hb;exact ⟨by omega,by omega,(D.wk.own k (by omega) (by omega)).1 hk⟩
 have hml:=D.wk.len;have hblk:∀ i,i<21->aM m i ≠ -1->dh now (aM m i)=dh g (aM m i):=by
  intro i hi hu;have hm:aM m i∈m:=by
   unfold aM;rw [List.getElem?_eq_getElem (by omega)];exact List.getElem_mem _
  obtain ⟨k0,k1,ko⟩:=hown _ (mY.2 ⟨.inr hm,hu⟩);exact (key _ k0 k1 ko).2.symm
 refine ⟨?_,⟨D.wk.len,D.wk.bG,D.wk.jm,λk h0 h1=>?_⟩,D.kind,D.size,λi hi hu=>?_,?_,D.str,D.kG⟩
 ·have h:=D.map;unfold mapOf at h ⊢;by_cases hm:c.more = -1
  ·rw [if_pos hm] at h ⊢;exact h
  ·obtain ⟨k0,k1,ko⟩:=hown c.more (mY.2 ⟨.inl rfl,hm⟩);have e:dw g c.more=dw now c.more:=(key _ k0 k1 ko).2;rw [e];exact h
 ·rw [D.wk.own k h0 h1];exact ⟨λh=>(key k h0 h1 h).1,back k h0 h1⟩
 ·rw [<-hblk i hi hu];exact D.ok i hi hu
 ·rw [<-JK hblk];exact D.lq
section
variable {h0 h h':Heap} {F:List Nat} {V:VL} {M:aV} {f g:Nat} {x y:Int} {c d:aB} {m n:List Int} {l t:List aF}
end
theorem JG {B:Int->UInt64}{X:VS}{node:Int}(h:(bI B X node).2.1≠0):(bI B X node).2.2=X:=by
 unfold bI at h ⊢;split
 ·rename_i hn;rw [if_pos hn] at h;split
  ·rename_i k hk;rw [hk] at h;simp at h
  ·rfl
 ·rfl
theorem QU {B:Int->UInt64}{X:VS}{node:Int}(hn:0<=node/\node<24)(h:1<=bB B X 96):(bI B X node).2.1=0:=by
 unfold bI;rw [if_pos hn];cases hf:jQ B X 96 0 with
 | none=>exact absurd hf (AO h)
 | some k=>rfl
theorem count_le {p q:Nat->Bool}:∀ {n:Nat},(∀ j,j<n->p j=true->q j=true)->((List.range n).filter p).length<=((List.range n).filter q).length
 | 0,_=>by simp
 | n+1,h=>by
  rw [List.range_succ,List.filter_append,List.filter_append,List.length_append,List.length_append];have ih:=count_le (n:=n) λj hj=>h j (by omega);have:(([n].filter p).length<=([n].filter q).length):=by
   have:=h n (by omega);simp only [List.filter_cons,List.filter_nil];cases hp:p n with
   | false=>simp
   | true=>rw [this hp];simp
  omega
theorem Ew {B:Int->UInt64}{X:VS}{k:Int}{ws:List UInt64}(hk:k = -1\/0<=k)(hw:ws.length<=16):bB B { X with now:=bX X.now k ws } 96=bB B X 96:=by
 unfold bB
 congr 1
 refine List.filter_congr λj hj=>?_;have hj':j<96:=by simpa using hj
 unfold iF;have:(bX X.now k ws) (200+(j:Int))=X.now (200+(j:Int)):=by
  unfold bX j6;rw [Ey hw,if_neg (by omega)]
 simp only [this]
theorem Ez {B:Int->UInt64}{X:VS}{node:Int}:(bI B X node).2.2={ X with now:=(bI B X node).2.2.now }:=by
 unfold bI;split
 ·split <;> rfl
 ·rfl
theorem EA {B:Int->UInt64}{X:VS}{node:Int}(hn:0<=node/\node<24):bB B X 96<=bB B (bI B X node).2.2 96+1:=by
 by_cases h:(bI B X node).2.1=0
 ·rw [EB hn h];exact Nat.le_refl _
 ·rw [JG h];exact Nat.le_succ _
theorem JH {B:Int->UInt64}{node:Int}(hn:0<=node/\node<24){X:VS}{c:aB}{m:List Int}:bB B X 96<=bB B (eD B X node c m).2.2 96+1/\(eD B X node c m).2.2={ X with now:=(eD B X node c m).2.2.now }:=by
 unfold eD;split
 ·rename_i hc0;have hl:=hc0.2.1;by_cases hd:(m.drop 5).any eH=false
  ·rw [if_pos hd];by_cases hc:c.more = -1
   ·rw [if_pos hc];exact ⟨Nat.le_succ _,rfl⟩
   ·rw [if_neg hc];have hle:bB B X 96<=bB B (fI X c.more).2 96/\(fI X c.more).2={ X with now:=(fI X c.more).2.now }:=by
     unfold fI;split
     ·split
      ·exact ⟨Nat.le_refl _,rfl⟩
      ·refine ⟨?_,rfl⟩;unfold bB;refine count_le λj hj hp=>?_;unfold iF at hp ⊢;simp only [Bool.and_eq_true,decide_eq_true_eq] at hp ⊢;refine ⟨hp.1,hp.2.1,?_,hp.2.2.2⟩;have:=hp.2.2.1;unfold upd;split
       ·rfl
       ·exact this
     ·exact ⟨Nat.le_refl _,rfl⟩
    split
    ·exact ⟨by simp only;omega,hle.2⟩
    ·exact ⟨by simp only;omega,hle.2⟩
  ·rw [if_neg hd];by_cases hc:c.more = -1
   ·rw [if_pos hc];simp only;by_cases ht:(bI B X node).2.1=0
    ·rw [if_pos ht];have hr:=vG ht;have:=EB hn ht;have hx:(bI B X node).2.2={ X with now:=(bI B X node).2.2.now }:=Ez;simp only;rw [if_pos hr,EC hr.1 (by simp [hl])];exact ⟨by omega,by rw [hx]⟩
    ·rw [if_neg ht,JG ht];exact ⟨Nat.le_succ _,rfl⟩
   ·rw [if_neg hc];simp only [if_true];split
    ·rename_i hk;rw [EC hk.1 (by simp [hl])];exact ⟨Nat.le_succ _,rfl⟩
    ·exact ⟨Nat.le_succ _,rfl⟩
 ·exact ⟨Nat.le_succ _,rfl⟩
theorem Oe {B:Int->UInt64}{X:VS}{node:Int}(hn:0<=node/\node<24){c:aB}{m:List Int}{l:List aF}(D:eu X.now node c m l)(name:List UInt8)(target:Int) :
 bB B X 96<=bB B (iQ B X node c name target).2.2 96+2/\(iQ B X node c name target).2.2={ X with now:=(iQ B X node c name target).2.2.now }:=by
 have R:=D.wk.rV;unfold iQ;rw [D.open_];simp only [ne_eq,not_true_eq_false,if_false];split
 ·exact ⟨Nat.le_add_right _ _,rfl⟩
 split
 ·exact ⟨Nat.le_add_right _ _,rfl⟩
 split
 ·exact ⟨Nat.le_add_right _ _,rfl⟩
 have fin:∀ (Y:VS) (k:Int) (ws:List UInt64) (mm:List Int) (cc:aB),(k = -1\/0<=k)->ws.length<=16->bB B X 96<=bB B Y 96+1->Y={ X with now:=Y.now } ->
  bB B X 96<=bB B (eD B { Y with now:=bX Y.now k ws } node cc mm).2.2 96+2/\(eD B { Y with now:=bX Y.now k ws } node cc mm).2.2={ X with now:=(eD B { Y with now:=bX Y.now k ws } node cc mm).2.2.now }:=by
  intro Y k ws mm cc hk hw hc hx;have FK:=JH (B:=B) (X:={ Y with now:=bX Y.now k ws }) (c:=cc) (m:=mm) hn;rw [Ew hk hw] at FK;refine ⟨by omega,?_⟩;have h2:=FK.2;rw [hx] at h2 ⊢;exact h2
 unfold jT;cases hs:gK (wordsAt X.now m) m dY 4 (bR name) with
 | some q=>
  obtain ⟨pl,k⟩:=q;simp only [not_true_eq_false,if_false,Int.toNat_natCast,vI];have hk0:=R.aM pl;have q3:=(vJ hs).2.2.1;refine fin X _ _ _ _ (by omega) ?_ (Nat.le_succ _) rfl;have:=ED (new:=w64 target::dK name 2) (uj X.now (aM m pl)) q3 (by simp [oI]);exact Nat.le_of_eq this
 | none=>
  simp only;unfold mW;cases hg:kr m 4 (bR name) with
  | none=>
   simp only;exact ⟨Nat.le_add_right _ _,rfl⟩
  | some pl=>
   simp only;by_cases e0:(bI B X node).2.1=0
   ·rw [if_pos e0];simp only [not_true_eq_false,if_false,Int.toNat_natCast];have hr:=vG e0;have q1:=(AQ hg).1;have hl:=R.1;have hat:aM (m.set pl (bI B X node).1) pl=(bI B X node).1:=by rw [xW (by omega),if_pos rfl]
    refine fin (bI B X node).2.2 _ _ _ _ (by rw [hat];omega) ?_ (EA hn) Ez;have hw:(pR (wordsAt X.now m) pl (pl:Int)).length=16:=by
     unfold pR;rw [if_pos rfl];simp
    have:=ED (k:=0) (new:=w64 target::dK name 2) hw (by decide) (by simp [oI]);exact Nat.le_of_eq this
   ·rw [if_neg e0];simp only;rw [if_pos e0];exact ⟨Nat.le_trans (EA hn) (Nat.le_succ _),Ez⟩
theorem Gx {B:Int->UInt64}{node:Int}{X:VS}{c:aB}{m:List Int}(h:(eD B X node c m).2.1=0):(eD B X node c m).1.kind=c.kind/\(eD B X node c m).1.links=c.links/\(eD B X node c m).1.dR=c.dR:=by
 unfold eD at h ⊢;split at h
 ·rename_i h0;rw [if_pos h0];split at h
  ·rename_i h1;rw [if_pos h1];split at h
   ·rename_i h2;rw [if_pos h2];exact ⟨rfl,rfl,rfl⟩
   ·rename_i h2;rw [if_neg h2];split at h
    ·rename_i h3;rw [if_pos h3];exact ⟨rfl,rfl,rfl⟩
    ·rename_i h3;exact absurd h h3
  ·rename_i h1;rw [if_neg h1];by_cases h2:c.more = -1
   ·rw [if_pos h2] at h ⊢;simp only at h ⊢;by_cases h3:(bI B X node).2.1=0
    ·rw [if_pos h3];exact ⟨rfl,rfl,rfl⟩
    ·rw [if_neg h3] at h;exact absurd h h3
   ·rw [if_neg h2];simp [jS]
 ·simp at h
theorem GD {B:Int->UInt64}{X:VS}{node:Int}{c:aB}{at_:Int}{data:List UInt8}(h:(fP B X node c at_ data).2.1=0):(fP B X node c at_ data).1.kind=c.kind/\(fP B X node c at_ data).1.links=c.links/\(fP B X node c at_ data).1.dR=c.dR:=by
 unfold fP at h ⊢;split at h
 ·simp at h
 rename_i h1;rw [if_neg h1];split at h
 ·rename_i h2;rw [if_pos h2];split at h
  ·simp at h
  ·exact ⟨rfl,rfl,rfl⟩
 rename_i h2;rw [if_neg h2];split at h
 ·simp at h
 rename_i h3;rw [if_neg h3];split at h
 ·simp at h
 ·rename_i m hm;simp only at h ⊢;split at h
  ·rename_i h5;rw [if_pos h5];exact Gx (c:={ c with size:=max c.size (at_+data.length) }) h
  ·rename_i h5;exact absurd h h5
theorem QV {B:Int->UInt64}{node more:Int}(hn:0<=node/\node<24){X:VS}{m:List Int}(W:Wk X.now node more m){a:Nat}{data:List UInt8}{i:Nat}(hi:i<21)(h1:128*i<a+data.length)(h2:a<128*i+128)(hf:1<=bB B X 96):bB B X 96<=bB B (iN B node a data i X m).2.1 96+1:=by
 have hl:=W.len;have e0:=QU (B:=B) (X:=X) hn hf;unfold iN;have hbl:∀ (now:Int->UInt64) (k:Int),(dK (mo (dz now k) data a (a+data.length) (128*i)) 16).length<=16:=λnow k=>by rw [oI];exact Nat.le_refl _
 by_cases hm:m[i]?.getD 0 = -1
 ·rw [if_pos hm];simp only [e0,if_true];have hr:=vG e0;have hat:(m.set i (bI B X node).1)[i]?.getD 0=(bI B X node).1:=by simp [hl,hi]
  rw [hat,Ew (.inr hr.1) (hbl _ _)];exact EA hn
 ·rw [if_neg hm];simp only [if_true];have hr:=W.rV.aM i;have e:m[i]?.getD 0=aM m i:=getD_21 hl hi;rw [e,Ew (by omega) (hbl _ _)];exact Nat.le_succ _
theorem EF {B:Int->UInt64}{node more:Int}(hn:0<=node/\node<24){a:Nat}{data:List UInt8}:∀ (f i:Nat) (X:VS) (m:List Int),Wk X.now node more m->i+f<=21->(0<f->128*(i+f-1)<a+data.length)->a<128*i+128->f<=bB B X 96 ->
 (gT B node a data f i X m).1=0/\bB B X 96<=bB B (gT B node a data f i X m).2.1 96+f/\Wk (gT B node a data f i X m).2.1.now node more (gT B node a data f i X m).2.2
 | 0,i,X,m,W,_,_,_,_=>⟨rfl,Nat.le_refl _,W⟩
 | f+1,i,X,m,W,hi,hd,ha,hf=>by
  have hd':=hd (Nat.succ_pos _);have c:=QV (B:=B) (data:=data) hn W (a:=a) (i:=i) (by omega) (by omega) ha (by omega);rcases JI (B:=B) hn W (a:=a) (data:=data) (i:=i) (by omega) (by omega) ha with ⟨_,hno⟩|S
  ·exact absurd hno (AO (by omega))
  ·unfold gT;rw [if_pos S.e];obtain ⟨r1,r2,r3⟩:=EF (B:=B) (a:=a) (data:=data) hn f (i+1) _ _ S.wk (by omega) (λ_=>by omega) (by omega) (by omega);exact ⟨r1,by omega,r3⟩
theorem GA {B:Int->UInt64}{node:Int}(hn:0<=node/\node<24){X:VS}{c:aB}{m:List Int}{s:List UInt8}(F:gm X.now node c m s)(a:Nat)(data:List UInt8)(hroom:(a+data.length+127)/128-a/128+1<=bB B X 96) :
 (fP B X node c (a:Int) data).2.1=(fq s (a:Int) data).2 /\
 ((fq s (a:Int) data).2=0->bB B X 96<=bB B (fP B X node c (a:Int) data).2.2 96+((a+data.length+127)/128-a/128+1)/\∃ m',Wrote node X m (a:Int) data (fq s (a:Int) data).1 (fP B X node c (a:Int) data) m'):=by
 rcases Ce (B:=B) hn F (a:Int) data with ⟨h9,h0,_⟩|⟨he,hw⟩
 ·exfalso;unfold fq at h0;unfold fP at h9;by_cases h1:(a:Int)<0\/400<data.length
  ·rw [if_pos h1] at h0;simp at h0
  rw [if_neg h1] at h0;rw [if_neg (by rintro (x|x);exact x hn;exact h1 x)] at h9;by_cases h2:data=[]
  ·rw [if_pos h2,F.map] at h9;simp at h9
  rw [if_neg h2] at h0 h9;by_cases h3:2688-(data.length:Int)<(a:Int)
  ·rw [if_pos h3] at h0;simp at h0
  rw [if_neg h3,F.map] at h9;simp only [Int.toNat_natCast] at h9;have hdl:0<data.length:=List.length_pos_iff.2 h2;obtain ⟨r1,r2,r3⟩:=EF (B:=B) hn (a:=a) (data:=data) ((a+data.length+127)/128-a/128) (a/128) X m F.wk (by omega) (λ_=>by omega) (by omega) (by omega);rw [r1] at h9;simp only [if_true] at h9;have K:=EG (B:=B) (c:={ c with size:=max c.size ((a:Int)+data.length) }) hn r3 (by omega);rw [K.e] at h9;cases h9
 ·refine ⟨he,λh0=>⟨?_,hw h0⟩⟩;unfold fq at h0;unfold fP;by_cases h1:(a:Int)<0\/400<data.length
  ·rw [if_pos h1] at h0;simp at h0
  rw [if_neg (by rintro (x|x);exact x hn;exact h1 x)];rw [if_neg h1] at h0;by_cases h2:data=[]
  ·rw [if_pos h2,F.map];simp only;omega
  rw [if_neg h2] at h0 ⊢;by_cases h3:2688-(data.length:Int)<(a:Int)
  ·rw [if_pos h3] at h0;simp at h0
  rw [if_neg h3,F.map];simp only [Int.toNat_natCast];have hdl:0<data.length:=List.length_pos_iff.2 h2;obtain ⟨r1,r2,r3⟩:=EF (B:=B) hn (a:=a) (data:=data) ((a+data.length+127)/128-a/128) (a/128) X m F.wk (by omega) (λ_=>by omega) (by omega) (by omega);rw [r1];simp only [if_true];have K:=(JH (B:=B) (X:=(gT B node a data ((a+data.length+127)/128-a/128) (a/128) X m).2.1) (c:={ c with size:=max c.size ((a:Int)+data.length) }) (m:=(gT B node a data ((a+data.length+127)/128-a/128) (a/128) X m).2.2) hn).1;omega
def iO (s:List UInt8)(at_ n:Int):List UInt8×Int:=
 if at_<0\/n<0\/4096<n then ([],1)
 else if (s.length:Int)<=at_ then ([],0) else ((s.take (min (s.length:Int) (at_+n)).toNat).drop at_.toNat,0)
theorem gm.bytes {now:Int->UInt64}{node:Int}{c:aB}{m:List Int}{s:List UInt8}(F:gm now node c m s):(gZ now m).take s.length=s:=by
 have hl:=AL (now:=now) m;have hm:=F.wk.len;have hf:=F.fits;apply List.ext_getElem?;intro p;rw [List.getElem?_take];by_cases h:p<s.length
 ·rw [if_pos h,KO m p (by omega),F.aL p (by omega)];simp [h]
 ·rw [if_neg h,List.getElem?_eq_none (by omega)]
theorem Cc {now:Int->UInt64}{node:Int}{c:aB}{m:List Int}{s:List UInt8}(F:gm now node c m s)(at_ n:Int):rU now c at_ n=iO s at_ n:=by
 unfold rU iO;split
 ·rfl
 ·rename_i h;rw [F.map,F.size];simp only;split
  ·rfl
  ·rename_i h2;have hb:=F.bytes
   congr 2
   have e:(gZ now m).take (min (s.length:Int) (at_+n)).toNat=s.take (min (s.length:Int) (at_+n)).toNat:=by
    generalize hX:(min (s.length:Int) (at_+n)).toNat=x;have e2:s.take x=((gZ now m).take s.length).take x:=by rw [hb]
    rw [e2,List.take_take]
    congr 1;omega
   exact e
theorem gm.szr {now:Int->UInt64}{node:Int}{c:aB}{m:List Int}{s:List UInt8}(F:gm now node c m s):0<=c.size/\c.size<=2688:=by
 have:=F.size;have:=F.fits;omega
end Go.Proofs.YtoociceebodfeaaGreatDoor
