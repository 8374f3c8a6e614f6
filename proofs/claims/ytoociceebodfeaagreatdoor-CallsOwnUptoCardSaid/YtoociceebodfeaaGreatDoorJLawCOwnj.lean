/-
  Joined texts: RelD, WalH, WalI, WldA, SplA, SplB, TreC, TreD, TreE, TreF, TreG.
-/
import Derived.Test.YtoociceebodfeaaGreatDoorJLawCOwni
import Derived.Test.YtoociceebodfeaaGreatDoorJLawCOwnh
import Derived.Test.YtoociceebodfeaaGreatDoorJLawCOwng
set_option linter.all false
set_option maxRecDepth 100000
set_option maxHeartbeats 4000000
namespace Go.Proofs.YtoociceebodfeaaGreatDoor
open Go Go.aK
theorem wI {l:List aF}(h:strict l)(k:Nat):strict (l.eraseIdx k):=h.sublist (List.eraseIdx_sublist l k)
theorem BI {α β:Type}(f:α->β):∀ (l:List α) (k:Nat),(l.eraseIdx k).map f=(l.map f).eraseIdx k
 | [],k=>by simp
 | x::l,0=>rfl
 | x::l,k+1=>by
  show f x::(l.eraseIdx k).map f=f x::(l.map f).eraseIdx k;rw [BI f l k]
theorem bW.ne_of {S:FS}{T:List aS}{num:List Int}(W:bW S T num){d:Int}(hd:live T d)(hk:(tn T d).kind=2){e:aF}(he:e∈(tn T d).names):e.node≠d/\e.node≠1:=by
 constructor
 ·intro h;obtain ⟨rk,hr⟩:=W.rank;have:=hr d hd hk e he;rw [h] at this;omega
 ·intro h;have:=zm hd.1 he;rw [h,W.top] at this;omega
theorem bW.lost {S S':FS}{T:List aS}{num:List Int}(W:bW S T num){d x:Int}{k:Nat}(hd:live T d)(hk:(tn T d).kind=2)(hkl:k<(tn T d).names.length)(hx:((tn T d).names[k]'hkl).node=x)(hne0:(tn T x).links=1->(tn T x).names=[])
 (hC:∀ y,(S'.C y).kind=if y=nu num x/\(tn T x).links=1 then 0 else (S.C y).kind)
 (hL:∀ y,0<=y->y<24->(S.C y).kind≠0->¬ (y=nu num x/\(tn T x).links=1)->(S'.C y).links=if y=nu num x then (S.C y).links-1 else (S.C y).links)
 (hN:∀ y,¬ (y=nu num x/\(tn T x).links=1)->S'.nm y=if y=nu num d then (S.nm (nu num d)).eraseIdx k else S.nm y) (hB:∀ y,¬ (y=nu num x/\(tn T x).links=1)->S'.aL y=S.aL y) :
 bW S' (bM (bM T d { tn T d with names:=(tn T d).names.eraseIdx k }) x (if (tn T x).links-1=0 then ⟨0,0,0,[],[]⟩ else { tn T x with links:=(tn T x).links-1 })) num:=by
 have hem:(tn T d).names[k]∈(tn T d).names:=List.getElem_mem hkl;obtain ⟨hxd,hx1⟩:=W.ne_of hd hk hem;rw [hx] at hxd hx1;have hlx:live T x:=by
  have:=(W.dir d hd hk).2.1 _ hem;rw [hx] at this;exact this
 have hcx:=W.cnt x hlx hx1;have Bg:0<refs T x:=by
  have:=zm hd.1 hem;rw [hx] at this;exact this
 have L9:inT (bM T d { tn T d with names:=(tn T d).names.eraseIdx k }) x:=(BG _).2 hlx.1;have hif:((tn T x).links-1=0)↔(tn T x).links=1:=by omega
 have htn:∀ i:Int,0<=i->tn (bM (bM T d { tn T d with names:=(tn T d).names.eraseIdx k }) x (if (tn T x).links-1=0 then ⟨0,0,0,[],[]⟩ else { tn T x with links:=(tn T x).links-1 })) i =
  if i=x then (if (tn T x).links-1=0 then ⟨0,0,0,[],[]⟩ else { tn T x with links:=(tn T x).links-1 }) else if i=d then { tn T d with names:=(tn T d).names.eraseIdx k } else tn T i:=by
  intro i i0;rw [nK L9 _ i0,nK hd.1 _ i0]
 have hrefs:∀ j,refs (bM (bM T d { tn T d with names:=(tn T d).names.eraseIdx k }) x (if (tn T x).links-1=0 then ⟨0,0,0,[],[]⟩ else { tn T x with links:=(tn T x).links-1 })) j+(if x=j then 1 else 0)=refs T j:=by
  intro j;have h1:=sD L9 (if (tn T x).links-1=0 then ⟨0,0,0,[],[]⟩ else { tn T x with links:=(tn T x).links-1 }) j;have h2:=sD hd.1 { tn T d with names:=(tn T d).names.eraseIdx k } j;rw [nK hd.1 _ (dU hlx),if_neg hxd] at h1;have h3:dV (if (tn T x).links-1=0 then (⟨0,0,0,[],[]⟩:aS) else { tn T x with links:=(tn T x).links-1 }).names j=dV (tn T x).names j:=by
   by_cases h:(tn T x).links=1
   ·rw [if_pos (hif.2 h),hne0 h]
   ·rw [if_neg (λe=>h (hif.1 e))]
  have h4:dV ({ tn T d with names:=(tn T d).names.eraseIdx k }:aS).names j+(if x=j then 1 else 0)=dV (tn T d).names j:=by
   have:=Ma hkl j;rw [hx] at this;exact this
  rw [h3] at h1;omega
 have hlen:(bM (bM T d { tn T d with names:=(tn T d).names.eraseIdx k }) x (if (tn T x).links-1=0 then ⟨0,0,0,[],[]⟩ else { tn T x with links:=(tn T x).links-1 })).length=T.length:=by rw [nW,nW]
 generalize hT':bM (bM T d { tn T d with names:=(tn T d).names.eraseIdx k }) x (if (tn T x).links-1=0 then ⟨0,0,0,[],[]⟩ else { tn T x with links:=(tn T x).links-1 })=T' at htn hrefs hlen;have hkd:∀ i:Int,0<=i->(tn T' i).kind=if i=x/\(tn T x).links=1 then 0 else (tn T i).kind:=by
  intro i i0;rw [htn i i0];by_cases e:i=x
  ·rw [if_pos e];by_cases h:(tn T x).links=1
   ·rw [if_pos (hif.2 h),if_pos ⟨e,h⟩]
   ·rw [if_neg (λe2=>h (hif.1 e2)),if_neg (λe2=>h e2.2),e]
  ·rw [if_neg e];by_cases e2:i=d
   ·rw [if_pos e2,if_neg (show ¬ (i=x/\(tn T x).links=1) from λe3=>e e3.1),e2]
   ·rw [if_neg e2,if_neg (show ¬ (i=x/\(tn T x).links=1) from λe3=>e e3.1)]
 have hlive:∀ i,live T' i↔live T i/\¬ (i=x/\(tn T x).links=1):=by
  intro i;unfold live inT;rw [hlen]
  constructor
  ·rintro ⟨⟨h1,h2⟩,h3⟩;rw [hkd i (by omega)] at h3;by_cases h:i=x/\(tn T x).links=1
   ·rw [if_pos h] at h3;exact absurd rfl h3
   ·rw [if_neg h] at h3;exact ⟨⟨⟨h1,h2⟩,h3⟩,h⟩
  ·rintro ⟨⟨⟨h1,h2⟩,h3⟩,h⟩;exact ⟨⟨h1,h2⟩,by rw [hkd i (by omega),if_neg h];exact h3⟩
 have BJ:∀ i,live T i->¬ (i=x/\(tn T x).links=1)->¬ (nu num i=nu num x/\(tn T x).links=1):=λi hi h e=>h ⟨W.inj i x hi hlx e.1,e.2⟩;have oP:∀ i,live T' i->(tn T' i).names=if i=d then (tn T d).names.eraseIdx k else (tn T i).names:=by
  intro i hi;obtain ⟨h,hn⟩:=(hlive i).1 hi;rw [htn i (dU h)];by_cases e:i=x
  ·have hl1:¬ (tn T x).links=1:=λe2=>hn ⟨e,e2⟩;rw [if_pos e,if_neg (λe2=>hl1 (hif.1 e2)),if_neg (λe2=>hxd (e.symm.trans e2)),e]
  ·rw [if_neg e];by_cases e2:i=d
   ·rw [if_pos e2,if_pos e2]
   ·rw [if_neg e2,if_neg e2]
 have hlv:∀ i,live T' i->(tn T i).kind=2->∀ e∈(tn T' i).names,live T' e.node:=by
  intro i hi hki e he;obtain ⟨h,hn⟩:=(hlive i).1 hi;have hold:live T e.node:=by
   rw [oP i hi] at he;by_cases e2:i=d
   ·rw [if_pos e2] at he;exact (W.dir d hd hk).2.1 e (List.mem_of_mem_eraseIdx he)
   ·rw [if_neg e2] at he;exact (W.dir i h hki).2.1 e he
  refine (hlive _).2 ⟨hold,λMc=>?_⟩;have h1:=zm hi.1 he;have h2:=hrefs x;rw [if_pos rfl] at h2;rw [Mc.1] at h1;have h3:=Mc.2;omega
 have WY:live T' 1:=(hlive 1).2 ⟨W.live1,λe=>hx1 e.1.symm⟩;refine ⟨W.len.trans hlen.symm,by rw [hlen];exact W.two,⟨W.root.1,by rw [hkd 1 (by omega),if_neg (λe=>hx1 e.1.symm)];exact W.root.2⟩,λi hi=>W.bG i ((hlive i).1 hi).1,λi j hi hj e=>W.inj i j ((hlive i).1 hi).1 ((hlive j).1 hj).1 e,λi hi=>?_,λi hi=>?_,λi hi hki=>?_,λi hi hki=>?_,λi hi hki=>?_,?_,λy y0 y1 hy=>?_,λi hi h1=>?_,?_,?_⟩
 ·obtain ⟨h,hn⟩:=(hlive i).1 hi;rw [hC,hkd i (dU h),if_neg hn,if_neg (BJ i h hn)];exact W.kind i h
 ·obtain ⟨h,hn⟩:=(hlive i).1 hi;have hr:=W.bG i h;have hk3:=W.kind i h;rw [hL _ (by omega) hr.2 (by rw [hk3.1];omega) (BJ i h hn),htn i (dU h)];by_cases e:i=x
  ·have hl1:¬ (tn T x).links=1:=λe2=>hn ⟨e,e2⟩;rw [if_pos e,e,if_pos rfl,if_neg (λe2=>hl1 (hif.1 e2))];show _=(tn T x).links-1;rw [W.links x hlx]
  ·rw [if_neg e,if_neg (λe2=>e (W.inj i x h hlx e2))];by_cases e2:i=d
   ·rw [if_pos e2,e2];exact W.links d hd
   ·rw [if_neg e2];exact W.links i h
 ·obtain ⟨h,hn⟩:=(hlive i).1 hi;rw [hkd i (dU h),if_neg hn] at hki;obtain ⟨r1,r2,r3,r4⟩:=W.dir i h hki;have hnm:=oP i hi;refine ⟨?_,hlv i hi hki,?_,?_⟩
  ·rw [hN _ (BJ i h hn),hnm];by_cases e:i=d
   ·rw [e,if_pos rfl,if_pos rfl,(W.dir d hd hk).1,BI]
   ·rw [if_neg e,if_neg (λe2=>e (W.inj i d h hd e2))];exact r1
  ·rw [hnm];by_cases e:i=d
   ·rw [if_pos e];exact wI (W.dir d hd hk).2.2.1 k
   ·rw [if_neg e];exact r3
  ·rw [htn i (dU h)];by_cases e:i=x
   ·have hl1:¬ (tn T x).links=1:=λe2=>hn ⟨e,e2⟩;rw [if_pos e,if_neg (λe2=>hl1 (hif.1 e2))];show (tn T x).data=[];rw [<-e];exact r4
   ·rw [if_neg e];by_cases e2:i=d
    ·rw [if_pos e2];show (tn T d).data=[];rw [<-e2];exact r4
    ·rw [if_neg e2];exact r4
 ·obtain ⟨h,hn⟩:=(hlive i).1 hi;rw [hkd i (dU h),if_neg hn] at hki;obtain ⟨d1,d2⟩:=W.data i h hki;have hid:i≠d:=λe=>hki (by rw [e];exact hk);refine ⟨?_,by rw [oP i hi,if_neg hid];exact d2⟩;rw [hB _ (BJ i h hn),htn i (dU h)];by_cases e:i=x
  ·have hl1:¬ (tn T x).links=1:=λe2=>hn ⟨e,e2⟩;rw [if_pos e,if_neg (λe2=>hl1 (hif.1 e2))];show (tn T x).data=_;rw [<-e];exact d1
  ·rw [if_neg e,if_neg hid];exact d1
 ·have h1:=hi.1;have hi':inT T i:=⟨h1,by have:=hi.2;rw [hlen] at this;exact this⟩;rw [hkd i (by omega)] at hki;rw [htn i (by omega)];by_cases e:i=x
  ·rw [if_pos e];by_cases h:(tn T x).links=1
   ·rw [if_pos (hif.2 h)]
   ·rw [if_neg (λe2=>h e2.2)] at hki;exact absurd (by rw [<-e];exact hki) hlx.2
  ·rw [if_neg (λe2=>e e2.1)] at hki;rw [if_neg e,if_neg (λe2=>hd.2 (by rw [<-e2];exact hki))];exact W.dead i hi' hki
 ·rw [htn 0 (by omega),if_neg (λe=>by have:=hlx.1.1;omega),if_neg (λe=>by have:=hd.1.1;omega)];exact W.zero
 ·rw [hC] at hy;by_cases e:y=nu num x/\(tn T x).links=1
  ·rw [if_pos e] at hy;exact absurd rfl hy
  ·rw [if_neg e] at hy;obtain ⟨i,h,he⟩:=W.all y y0 y1 hy;exact ⟨i,(hlive i).2 ⟨h,λe2=>e ⟨by rw [<-he,e2.1],e2.2⟩⟩,he⟩
 ·obtain ⟨h,hn⟩:=(hlive i).1 hi;have h3:=W.cnt i h h1;have h4:=hrefs i;rw [htn i (dU h)];by_cases e:i=x
  ·have hl1:¬ (tn T x).links=1:=λe2=>hn ⟨e,e2⟩;rw [if_pos e,if_neg (λe2=>hl1 (hif.1 e2))];rw [if_pos e.symm] at h4;show (tn T x).links-1=_;rw [<-e,h3];omega
  ·rw [if_neg (λe2=>e e2.symm)] at h4;rw [if_neg e];by_cases e2:i=d
   ·rw [if_pos e2];show (tn T d).links=_;rw [<-e2,h3];omega
   ·rw [if_neg e2,h3];omega
 ·have:=hrefs 1;rw [W.top] at this;omega
 ·obtain ⟨rk,hr⟩:=W.rank;refine ⟨rk,λi hi hki e he=>?_⟩;obtain ⟨h,hn⟩:=(hlive i).1 hi;rw [hkd i (dU h),if_neg hn] at hki;rw [oP i hi] at he;by_cases e2:i=d
  ·rw [if_pos e2] at he;rw [e2];exact hr d hd hk e (List.mem_of_mem_eraseIdx he)
  ·rw [if_neg e2] at he;exact hr i h hki e he
inductive kY (T:List aS) (x:Int):Int->Prop
 | refl:kY T x x
 | step {i:Int} {e:aF}:kY T x i->live T i->(tn T i).kind=2->e∈(tn T i).names->kY T x e.node
theorem kY.rank {T:List aS}{rk:Int->Nat}(hr:∀ i,live T i->(tn T i).kind=2->∀ e∈(tn T i).names,rk e.node<rk i){x y:Int}(h:kY T x y):rk y<=rk x:=by
 induction h with
 | refl=>exact Nat.le_refl _
 | step _ h1 h2 h3 ih=>have:=hr _ h1 h2 _ h3;omega
theorem bW.moved {S S':FS}{T:List aS}{num:List Int}(W:bW S T num){d f x:Int}{k:Nat}{nm:List UInt8}(hd:live T d)(hk:(tn T d).kind=2)(hkl:k<(tn T d).names.length)(hx:((tn T d).names[k]'hkl).node=x)(hf:live T f)(jY:(tn T f).kind=2)
 (hp:dx (if f=d then (tn T d).names.eraseIdx k else (tn T f).names) nm=false) (hbel:¬ kY T x f)
 (hC:∀ y,(S'.C y).kind=(S.C y).kind) (hL:∀ y,0<=y->y<24->(S.C y).kind≠0->(S'.C y).links=(S.C y).links)
 (hN:∀ y,S'.nm y=if y=nu num f then bF (if f=d then (S.nm (nu num d)).eraseIdx k else S.nm (nu num f)) ⟨nm,nu num x⟩ else if y=nu num d then (S.nm (nu num d)).eraseIdx k else S.nm y) (hB:∀ y,S'.aL y=S.aL y) :
 bW S' (bM (bM T d { tn T d with names:=(tn T d).names.eraseIdx k }) f { tn (bM T d { tn T d with names:=(tn T d).names.eraseIdx k }) f with names:=bF (tn (bM T d { tn T d with names:=(tn T d).names.eraseIdx k }) f).names ⟨nm,x⟩ }) num:=by
 have hem:(tn T d).names[k]∈(tn T d).names:=List.getElem_mem hkl;obtain ⟨hxd,hx1⟩:=W.ne_of hd hk hem;rw [hx] at hxd hx1;have hlx:live T x:=by
  have:=(W.dir d hd hk).2.1 _ hem;rw [hx] at this;exact this
 have hf1:inT (bM T d { tn T d with names:=(tn T d).names.eraseIdx k }) f:=(BG _).2 hf.1;have hn1:∀ i:Int,0<=i->(tn (bM T d { tn T d with names:=(tn T d).names.eraseIdx k }) i)=if i=d then { tn T d with names:=(tn T d).names.eraseIdx k } else tn T i:=λi i0=>nK hd.1 _ i0;have hk1:∀ i:Int,0<=i->(tn (bM T d { tn T d with names:=(tn T d).names.eraseIdx k }) i).kind=(tn T i).kind/\(tn (bM T d { tn T d with names:=(tn T d).names.eraseIdx k }) i).links=(tn T i).links/\(tn (bM T d { tn T d with names:=(tn T d).names.eraseIdx k }) i).data=(tn T i).data:=by
  intro i i0;rw [hn1 i i0];by_cases e:i=d
  ·rw [if_pos e,e];exact ⟨rfl,rfl,rfl⟩
  ·rw [if_neg e];exact ⟨rfl,rfl,rfl⟩
 have hnf:(tn (bM T d { tn T d with names:=(tn T d).names.eraseIdx k }) f).names=if f=d then (tn T d).names.eraseIdx k else (tn T f).names:=by
  rw [hn1 f (dU hf)];by_cases e:f=d
  ·rw [if_pos e,if_pos e]
  ·rw [if_neg e,if_neg e]
 have hr1:∀ j,refs (bM T d { tn T d with names:=(tn T d).names.eraseIdx k }) j+(if x=j then 1 else 0)=refs T j:=by
  intro j;have h2:=sD hd.1 { tn T d with names:=(tn T d).names.eraseIdx k } j;have h4:dV ({ tn T d with names:=(tn T d).names.eraseIdx k }:aS).names j+(if x=j then 1 else 0)=dV (tn T d).names j:=by
   have:=Ma hkl j;rw [hx] at this;exact this
  omega
 have hl1:(bM T d { tn T d with names:=(tn T d).names.eraseIdx k }).length=T.length:=nW _ _ _;generalize bM T d { tn T d with names:=(tn T d).names.eraseIdx k }=T1 at hf1 hn1 hk1 hnf hr1 hl1;have htn:∀ i:Int,0<=i->tn (bM T1 f { tn T1 f with names:=bF (tn T1 f).names ⟨nm,x⟩ }) i=if i=f then { tn T1 f with names:=bF (tn T1 f).names ⟨nm,x⟩ } else tn T1 i:=λi i0=>nK hf1 _ i0;have hrefs:∀ j,refs (bM T1 f { tn T1 f with names:=bF (tn T1 f).names ⟨nm,x⟩ }) j=refs T j:=by
  intro j;have h1:=sD hf1 { tn T1 f with names:=bF (tn T1 f).names ⟨nm,x⟩ } j;have h3:dV ({ tn T1 f with names:=bF (tn T1 f).names ⟨nm,x⟩ }:aS).names j=dV (tn T1 f).names j+if x=j then 1 else 0:=FN _ _ _;have h2:=hr1 j;rw [h3] at h1;omega
 have hlen:(bM T1 f { tn T1 f with names:=bF (tn T1 f).names ⟨nm,x⟩ }).length=T.length:=by rw [nW];exact hl1
 generalize bM T1 f { tn T1 f with names:=bF (tn T1 f).names ⟨nm,x⟩ }=T' at htn hrefs hlen;have hkd:∀ i:Int,0<=i->(tn T' i).kind=(tn T i).kind/\(tn T' i).links=(tn T i).links/\(tn T' i).data=(tn T i).data:=by
  intro i i0;rw [htn i i0];by_cases e:i=f
  ·rw [if_pos e,e];exact hk1 f (dU hf)
  ·rw [if_neg e];exact hk1 i i0
 have oP:∀ i:Int,0<=i->(tn T' i).names=if i=f then bF (if f=d then (tn T d).names.eraseIdx k else (tn T f).names) ⟨nm,x⟩ else if i=d then (tn T d).names.eraseIdx k else (tn T i).names:=by
  intro i i0;rw [htn i i0];by_cases e:i=f
  ·rw [if_pos e,if_pos e,<-hnf]
  ·rw [if_neg e,if_neg e,hn1 i i0];by_cases e2:i=d
   ·rw [if_pos e2,if_pos e2]
   ·rw [if_neg e2,if_neg e2]
 have hlive:∀ i,live T' i↔live T i:=by
  intro i;unfold live inT;rw [hlen]
  constructor
  ·rintro ⟨⟨h1,h2⟩,h3⟩;rw [(hkd i (by omega)).1] at h3;exact ⟨⟨h1,h2⟩,h3⟩
  ·rintro ⟨⟨h1,h2⟩,h3⟩;exact ⟨⟨h1,h2⟩,by rw [(hkd i (by omega)).1];exact h3⟩
 have hsrc:∀ i,live T i->(tn T i).kind=2->∀ e∈(tn T' i).names,(i=f/\e=⟨nm,x⟩)\/e∈(tn T i).names:=by
  intro i hi hki e he;rw [oP i (dU hi)] at he;by_cases e1:i=f
  ·rw [if_pos e1] at he;rcases List.mem_cons.1 ((mX _ _).mem_iff.1 he) with rfl|h3
   ·exact .inl ⟨e1,rfl⟩
   ·right
    by_cases e2:f=d
    ·rw [if_pos e2] at h3;rw [e1,e2];exact List.mem_of_mem_eraseIdx h3
    ·rw [if_neg e2] at h3;rw [e1];exact h3
  ·rw [if_neg e1] at he
   right
   by_cases e2:i=d
   ·rw [if_pos e2] at he;rw [e2];exact List.mem_of_mem_eraseIdx he
   ·rw [if_neg e2] at he;exact he
 refine ⟨W.len.trans hlen.symm,by rw [hlen];exact W.two,⟨W.root.1,by rw [(hkd 1 (by omega)).1];exact W.root.2⟩,λi hi=>W.bG i ((hlive i).1 hi),λi j hi hj e=>W.inj i j ((hlive i).1 hi) ((hlive j).1 hj) e,λi hi=>?_,λi hi=>?_,λi hi hki=>?_,λi hi hki=>?_,λi hi hki=>?_,?_,λy y0 y1 hy=>?_,λi hi h1=>?_,?_,?_⟩
 ·have h:=(hlive i).1 hi;rw [hC,(hkd i (dU h)).1];exact W.kind i h
 ·have h:=(hlive i).1 hi;have hr:=W.bG i h;have hk3:=W.kind i h;rw [hL _ (by omega) hr.2 (by rw [hk3.1];omega),(hkd i (dU h)).2.1];exact W.links i h
 ·have h:=(hlive i).1 hi;rw [(hkd i (dU h)).1] at hki;obtain ⟨r1,r2,r3,r4⟩:=W.dir i h hki;obtain ⟨q1,_,q3,_⟩:=W.dir d hd hk;obtain ⟨g1,_,g3,_⟩:=W.dir f hf jY;refine ⟨?_,λe he=>?_,?_,by rw [(hkd i (dU h)).2.2];exact r4⟩
  ·rw [hN,oP i (dU h)];by_cases e1:i=f
   ·rw [e1,if_pos rfl,if_pos rfl];have e3:(if f=d then (S.nm (nu num d)).eraseIdx k else S.nm (nu num f))=(if f=d then (tn T d).names.eraseIdx k else (tn T f).names).map (rn num):=by
     by_cases e2:f=d
     ·rw [if_pos e2,if_pos e2,q1,BI]
     ·rw [if_neg e2,if_neg e2,g1]
    rw [e3];exact (Bw (rn num) (λ_=>rfl) _ ⟨nm,x⟩).symm
   ·rw [if_neg e1,if_neg (λe2=>e1 (W.inj i f h hf e2))];by_cases e2:i=d
    ·rw [e2,if_pos rfl,if_pos rfl,q1,BI]
    ·rw [if_neg e2,if_neg (λe3=>e2 (W.inj i d h hd e3))];exact r1
  ·rcases hsrc i h hki e he with ⟨_,h3⟩|h3
   ·rw [h3];exact (hlive _).2 hlx
   ·exact (hlive _).2 (r2 e h3)
  ·rw [oP i (dU h)];by_cases e1:i=f
   ·rw [if_pos e1];refine xY ?_ hp;by_cases e2:f=d
    ·rw [if_pos e2];exact wI q3 k
    ·rw [if_neg e2];exact g3
   ·rw [if_neg e1];by_cases e2:i=d
    ·rw [if_pos e2];exact wI q3 k
    ·rw [if_neg e2];exact r3
 ·have h:=(hlive i).1 hi;rw [(hkd i (dU h)).1] at hki;obtain ⟨d1,d2⟩:=W.data i h hki;rw [hB,(hkd i (dU h)).2.2,oP i (dU h),if_neg (λe=>hki (by rw [e];exact jY)),if_neg (λe=>hki (by rw [e];exact hk))];exact ⟨d1,d2⟩
 ·have h1:=hi.1;have hi':inT T i:=⟨h1,by have:=hi.2;rw [hlen] at this;exact this⟩;rw [(hkd i (by omega)).1] at hki;rw [oP i (by omega),if_neg (λe=>hf.2 (by rw [<-e];exact hki)),if_neg (λe=>hd.2 (by rw [<-e];exact hki))];exact W.dead i hi' hki
 ·rw [oP 0 (by omega),if_neg (λe=>by have:=hf.1.1;omega),if_neg (λe=>by have:=hd.1.1;omega)];exact W.zero
 ·rw [hC] at hy;obtain ⟨i,h,he⟩:=W.all y y0 y1 hy;exact ⟨i,(hlive i).2 h,he⟩
 ·have h:=(hlive i).1 hi;rw [hrefs,(hkd i (dU h)).2.1];exact W.cnt i h h1
 ·rw [hrefs];exact W.top
 ·obtain ⟨rk,hr⟩:=W.rank;refine ⟨λi=>@ite Nat (kY T x i) (Classical.propDecidable _) (rk i) (rk i+rk x+1),λi hi hki e he=>?_⟩;have h:=(hlive i).1 hi;rw [(hkd i (dU h)).1] at hki;simp only;rcases hsrc i h hki e he with ⟨h1,h3⟩|h3
  ·rw [h3,h1];rw [if_pos (kY.refl:kY T x x),if_neg hbel];show rk x<rk f+rk x+1;omega
  ·have hlt:=hr i h hki e h3;by_cases hb:kY T x i
   ·rw [if_pos hb,if_pos (kY.step hb h hki h3)];exact hlt
   ·rw [if_neg hb];by_cases hb2:kY T x e.node
    ·rw [if_pos hb2];have:=kY.rank hr hb2;omega
    ·rw [if_neg hb2];omega
theorem zC {B:Int->UInt64}{X:VS}{n:Int}{c:aB}(hn:n<24):bB B (dX X n c) 96=bB B X 96:=by
 unfold bB
 congr 1
 refine List.filter_congr λj hj=>?_;unfold iF;have:(dX X n c).now (200+(j:Int))=X.now (200+(j:Int)):=uO hn (by omega);have h2:(dX X n c).away=X.away:=rfl;rw [this,h2]
theorem UG {B:Int->UInt64}{X:VS}{n:Int}:bB B (eP X n) 96=bB B X 96:=rfl
structure WI (B:Int->UInt64)(X:VS)(S:FS)(T:List aS)(num:List Int):Prop where
 fs:bK X.now S
 w:qN S T num
 all:∀ n,0<=n->n<24->(S.C n).kind≠0->∃ i,inT T i/\nu num i=n
 free:96<=bB B X 96+5*(T.length-2)
 aw:X.bE=[]
theorem WI.fc {B:Int->UInt64}{X:VS}{S:FS}{T:List aS}{num:List Int}(W:WI B X S T num):fZ S:=by
 have vZ:=W.w.two;have h1:inT T 1:=⟨by omega,by omega⟩;refine ⟨?_,λn n0 n1 hk e he=>?_⟩
 ·have:=W.w.kind 1 h1;rw [W.w.root.1] at this;rw [this.1];exact W.w.root.2
 ·obtain ⟨i,hi,rfl⟩:=W.all n n0 n1 (by rw [hk];decide);have hki:(tn T i).kind=2:=by rw [<-(W.w.kind i hi).1];exact hk
  obtain ⟨q1,q2,q3⟩:=W.w.dir i hi hki;rw [q1] at he;obtain ⟨e0,he0,rfl⟩:=List.mem_map.1 he;have hin:=q2 e0 he0;have hr:=W.w.bG e0.node hin;have hk2:=W.w.kind e0.node hin;have hn:(rn num e0).node=nu num e0.node:=rfl;rw [hn];exact ⟨by omega,hr.2,by rw [hk2.1];omega⟩
theorem FB {X:VS}{S:FS}(I:bK X.now S)(ha:X.bE=[]){n:Int}(h0:0<=n/\n<24):nQ X n=true↔(S.C n).kind=0:=by
 have hc:=I.card n h0.1 h0.2;have hw:X.now (8+n*8)=uf (S.C n):=by
  have h1:=congrArg (λl=>l[0]?.getD 0) hc;have h2:(bU X.now (8+n*8) 8)[0]?.getD 0=X.now (8+n*8):=by simp [bU]
  rw [h2] at h1;exact h1
 have B:=vB (I.node n h0.1 h0.2).right;have hg:(mQ (fJ (S.C n))).kind=(S.C n).kind:=by rw [Jr B]
 have hg2:(mQ (fJ (S.C n))).kind=((lF (uf (S.C n)) 0 8).toNat:Int):=rfl;rw [hg2] at hg;unfold nQ;rw [ha,hw];simp
 constructor
 ·intro h;rw [<-hg,h];rfl
 ·intro h;rw [h] at hg;exact UInt64.toNat_inj.1 (by simpa using hg)
theorem Ll {X:VS}:∀ {f i k:Nat},kM X f i=some k->∀ j,i<=j->j<k->nQ X (j:Int)=false
 | 0,_,_,h=>by cases h
 | f+1,i,k,h=>by
  unfold kM at h;split at h
  ·cases h;intro j h1 h2;omega
  ·rename_i hh;intro j h1 h2;by_cases e:j=i
   ·subst e;simpa using hh
   ·exact Ll h j (by omega) h2
theorem Lm {X:VS}:∀ {f i:Nat},kM X f i=none->∀ j,i<=j->j<i+f->nQ X (j:Int)=false
 | 0,_,_=>λj h1 h2=>by omega
 | f+1,i,h=>by
  unfold kM at h;split at h
  ·cases h
  ·rename_i hh;intro j h1 h2;by_cases e:j=i
   ·subst e;simpa using hh
   ·exact Lm h j (by omega) (by omega)
theorem qN.congr {S S':FS}{T:List aS}{num:List Int}(W:qN S T num)(h:∀ i,inT T i->(S'.C (nu num i)).kind=(S.C (nu num i)).kind/\S'.nm (nu num i)=S.nm (nu num i)/\S'.aL (nu num i)=S.aL (nu num i)):qN S' T num:=
 ⟨W.len,W.two,W.root,W.bG,W.inj,λi hi=>by rw [(h i hi).1];exact W.kind i hi,λi hi hk=>by rw [(h i hi).2.1];exact W.dir i hi hk,λi hi hk=>by rw [(h i hi).2.2];exact W.data i hi hk,W.kR⟩
theorem WI.back {B:Int->UInt64}{X Y:VS}{S:FS}{T:List aS}{num:List Int}(W:WI B X S T num){n:Int}(hn:2<=n/\n<24)(hk:(S.C n).kind=0){c:aB}(hc:c.kind=0->c=fQ c.dR)(hk0:c.kind=0)
 (hY:∀ a,200<=a->Y.now a=X.now a) (UH:bU Y.now (8+n*8) 8=fJ c) (hoth:∀ k,0<=k->k<24->k≠n->bU Y.now (8+k*8) 8=bU X.now (8+k*8) 8) (haw:Y.bE=X.bE) (UI:Y.away=X.away):∃ S',WI B Y S' T num:=by
 have hno:∀ x,0<=x->x<96->Y.now (200+x)≠w64 (n+1):=λx x0 x1=>by rw [hY _ (by omega)];exact ((W.fs.node n (by omega) hn.2).free hk).2 x x0 x1
 have N:gN Y.now n c [] []:=by
  have:=zA (now:=Y.now) (n:=n) c.dR hno;rw [<-hc hk0] at this;exact this
 refine ⟨S.put n c [] [],?_,?_,?_,?_,haw.trans W.aw⟩
 ·exact W.fs.put ⟨by omega,hn.2⟩ (Fr0.of n hY) hoth UH N (by omega)
 ·refine W.w.congr λi hi=>?_;have hne:nu num i≠n:=by
   intro e;have h1:=(W.w.kind i hi).1;have h2:=(W.w.kind i hi).2.1;rw [e,hk] at h1;omega
  show (if nu num i=n then c else S.C (nu num i)).kind=_/\(if nu num i=n then [] else S.nm (nu num i))=_/\(if nu num i=n then [] else S.aL (nu num i))=_;rw [if_neg hne,if_neg hne,if_neg hne];exact ⟨rfl,rfl,rfl⟩
 ·intro k k0 k1 hkk;have hkk:(if k=n then c else S.C k).kind≠0:=hkk;by_cases e:k=n
  ·rw [if_pos e] at hkk;exact absurd hk0 hkk
  ·rw [if_neg e] at hkk;exact W.all k k0 k1 hkk
 ·have:bB B Y 96=bB B X 96:=by
   unfold bB
   congr 1
   refine List.filter_congr λj hj=>?_;unfold iF;rw [hY _ (by omega),UI]
  rw [this];exact W.free
theorem UF (data:List UInt8)(h:data.length<=130):fq [] ((0:Nat):Int) data=(data,0):=by
 unfold fq;rw [if_neg (by omega)];by_cases h0:data=[]
 ·rw [if_pos h0,h0]
 ·rw [if_neg h0,if_neg (by omega)]
  congr 1
  simp [zeros]
structure Added (B:Int->UInt64)(X:VS)(S:FS)(T:List aS)(num:List Int)(d n kind:Int)(name data:List UInt8)(v:UInt64):Prop where
 WL:gU (bU (dX X n (bZ kind v)).now (8+nu num d*8) 8)=some (S.C (nu num d))
 WM:(S.C (nu num d)).ok
 fail:(iQ B (eP (dX X n (bZ kind v)) (nu num d)) (nu num d) (S.C (nu num d)) name n).2.1≠0 ->
  (iQ B (eP (dX X n (bZ kind v)) (nu num d)) (nu num d) (S.C (nu num d)) name n).2.2=eP (dX X n (bZ kind v)) (nu num d)/\10<=(tn T d).names.length
 good:(iQ B (eP (dX X n (bZ kind v)) (nu num d)) (nu num d) (S.C (nu num d)) name n).2.1=0 ->
  (iQ B (eP (dX X n (bZ kind v)) (nu num d)) (nu num d) (S.C (nu num d)) name n).1.ok/\gq (iQ B (eP (dX X n (bZ kind v)) (nu num d)) (nu num d) (S.C (nu num d)) name n).1=true /\
  ∀ X4,X4=dX (iQ B (eP (dX X n (bZ kind v)) (nu num d)) (nu num d) (S.C (nu num d)) name n).2.2 (nu num d) (iQ B (eP (dX X n (bZ kind v)) (nu num d)) (nu num d) (S.C (nu num d)) name n).1 ->
   gU (bU X4.now (8+n*8) 8)=some (bZ kind v)/\mG X4.now (bZ kind v) /\
   (fP B (eP X4 n) n (bZ kind v) 0 data).2.1=0/\(fP B (eP X4 n) n (bZ kind v) 0 data).1.ok/\gq (fP B (eP X4 n) n (bZ kind v) 0 data).1=true /\
   ∃ S',WI B (dX (fP B (eP X4 n) n (bZ kind v) 0 data).2.2 n (fP B (eP X4 n) n (bZ kind v) 0 data).1) S' (oM T d (bF (tn T d).names ⟨name,(T.length:Int)⟩)++[⟨n,kind,1,data,[]⟩]) (num++[n])
structure bV where
 nd:aS
 a:Option Addr
 n:Nat
 c:Nat
def bV.cells (x:bV):List Value:=[.int .i64 x.nd.id,.int .i64 x.nd.kind,.int .i64 x.nd.links,.string (ba x.nd.data),.slice x.a x.n x.c]
def fM (L:List bV):List Value:=L.flatMap bV.cells
theorem ny:∀ L:List bV,(fM L).length=L.length*5
 | []=>rfl
 | x::L=>by
  have ih:=ny L;unfold fM at ih ⊢;rw [List.flatMap_cons,List.length_append,ih,List.length_cons];show 5+_=_;omega
theorem BB:∀ (L:List bV) (i j:Nat) (hi:i<L.length),j<5->(fM L)[i*5+j]?=L[i].cells[j]?
 | [],i,j,hi,_=>by simp at hi
 | x::L,0,j,_,hj=>by
  unfold fM;rw [List.flatMap_cons,List.getElem?_append_left (by show 0*5+j<5;omega)];simp
 | x::L,i+1,j,hi,hj=>by
  have ih:=BB L i j (by simpa using hi) hj;unfold fM at ih ⊢;rw [List.flatMap_cons,List.getElem?_append_right (by show 5<=_;omega)];have:(i+1)*5+j-x.cells.length=i*5+j:=by show (i+1)*5+j-5=_;omega
  rw [this];simpa using ih
theorem uD {h:Heap}{e:TypeId}{sz:Nat}{a:Option Addr}{n c:Nat}{l:List Value}(O:Own h e sz a n c l){k:Nat}(hk:k<l.length):∃ b cs,a=some ⟨b,0,none⟩/\h[b]?=some (.cells ⟨cs⟩ e (0,0))/\Heap.cell? h b k=l[k]?/\cs.take l.length=l/\l.length<=cs.length:=by
 rcases O with ⟨_,_,_,rfl⟩|⟨b,cs,rfl,o,ht,h1,h2,h3⟩
 ·simp at hk
 ·have hle:l.length<=cs.length:=by
   have:=congrArg List.length ht;rw [List.length_take] at this;omega
  refine ⟨b,cs,rfl,o,?_,ht,hle⟩;simp only [Heap.cell?,o];have:l[k]?=(cs.take l.length)[k]?:=by rw [ht]
  rw [this,List.getElem?_take,if_pos hk];simp
theorem qO {h:Heap}{a b:Nat}{x y:Array Value}{S T:TypeId}{f g:Nat×Nat}(h1:h[a]?=some (.cells x S f))(h2:h[b]?=some (.cells y T g))(hne:S≠T):a≠b:=by
 rintro rfl;rw [h1] at h2;cases h2;exact hne rfl
def aC (L:List bV):List aS:=L.map (·.nd)
theorem mD (L:List bV):(aC L).length=L.length:=by simp [aC]
theorem uG {L:List bV}{i:Nat}(hi:i<L.length):tn (aC L) (i:Int)=L[i].nd:=by
 unfold tn aC;rw [Int.toNat_natCast,List.getElem?_map,List.getElem?_eq_getElem hi];rfl
structure BH where
 L8:Int
 kind:Int
 name:List UInt8
 data:List UInt8
def BH.cells (f:BH):List Value:=[.int .i64 f.L8,.int .i64 f.kind,.string (ba f.name),.string (ba f.data)]
def BH.ok (f:BH):Prop:=inI64 f.L8/\inI64 f.kind/\f.name.length<=140737488351232/\f.data.length<=140737488351232
theorem Vi (l:List aF)(name:List UInt8)(x:Int):aO (bF l ⟨name,x⟩) name=aO l name:=by
 have h1:l.take (aO l name)=l.takeWhile λe=>blt e.name name:=(List.prefix_iff_eq_take.1 (List.takeWhile_prefix _)).symm;have hall:∀ e∈l.take (aO l name),blt e.name name=true:=by
  rw [h1];intro e he;have:=List.all_takeWhile (p:=λe:aF=>blt e.name name) (l:=l);exact List.all_eq_true.1 this e he
 have hle:=vM l name;show (List.takeWhile (λe:aF=>blt e.name name) (l.take (aO l name)++⟨name,x⟩::l.drop (aO l name))).length=aO l name;rw [List.takeWhile_append_of_pos hall,List.takeWhile_cons,if_neg (by rw [mZ];simp),List.append_nil,List.length_take];show min (aO l name) l.length=aO l name;omega
theorem wu (l:List aF)(e:aF):(bF l e).length=l.length+1:=by rw [(mX l e).length_eq];rfl
theorem Vj (l:List aF)(name:List UInt8)(x y:Int):(bS (bF l ⟨name,x⟩)).set (aO l name*2+1) (.int .i64 y)=bS (bF l ⟨name,y⟩):=by
 have hle:=vM l name;unfold bF;rw [Bj,Bj];have hl:(bS (l.take (aO l name))).length=aO l name*2:=by rw [lJ,List.length_take];omega
 rw [List.set_append,if_neg (by rw [hl];omega),hl];have:aO l name*2+1-aO l name*2=1:=by omega
 rw [this];rfl
theorem Ve (a b:List bV):fM (a++b)=fM a++fM b:=by unfold fM;rw [List.flatMap_append]
theorem FD {h h':Heap}{e:TypeId}{sz:Nat}{b n c:Nat}{l:List Value}(O:Own h e sz (some ⟨b,0,none⟩) n c l){k:Nat}(hk:k<l.length){v:Value}{cs:List Value}(o:h[b]?=some (.cells ⟨cs⟩ e (0,0)))(o':h'[b]?=some (.cells ⟨bC k [v] cs⟩ e (0,0))):Own h' e sz (some ⟨b,0,none⟩) n c (l.set k v):=by
 rcases O with ⟨h0,_⟩|⟨b',cs',hb,ob,ht,h1,h2,h3⟩
 ·cases h0
 ·cases hb;rw [o] at ob;cases ob;have hle:l.length<=cs.length:=by
   have:=congrArg List.length ht;rw [List.length_take] at this;omega
  rw [vC _ _ _ (by omega)] at o';refine .inr ⟨b,_,rfl,o',?_,by rw [List.length_set];exact h1,by rw [List.length_set];exact h2,h3⟩;rw [List.length_set,List.take_set,ht]
theorem nD {h:Heap}{e:TypeId}{sz:Nat}{a:Option Addr}{n c:Nat}{l:List Value}(O:Own h e sz a n c l):∀ b∈ay a,∃ cs,h[b]?=some (.cells cs e (0,0)):=by
 intro b hb;rcases O with ⟨rfl,_⟩|⟨b',cs,rfl,o,_⟩
 ·cases hb
 ·have:b=b':=by simpa [ay] using hb
  subst this;exact ⟨_,o⟩
def oO (l:List (List UInt8)):Value:=if l=[] then .tuple #[.string (ba [47]),.int .i64 0] else if l.all dG=true/\(bJ l).length<=120 then .tuple #[.string (ba (bJ l)),.int .i64 0] else .tuple #[.string (ba []),.int .i64 3]
theorem Vs (l:List (List UInt8)):l.length<=(bJ l).length:=by
 induction l with
 | nil=>simp
 | cons x r ih=>rw [pU];simp only [List.length_cons,List.length_append];omega
theorem vU (l:List UInt8):(ba l).size=l.length:=dN _
theorem FM (l r:List UInt8):ba l++ba r=ba (l++r):=uh l r
theorem Vr {h:Heap}{a:Option Addr}{n c:Nat}{l:List (List UInt8)}(S:Sl h a n c (bq l))(hb:(bJ l).length<=2000000):aD Tryz.prog 127 [.slice a n c] h (λv h'=>Keeps [] h h'/\v=oO l):=by
 have hl:=S.hlen;rw [fO] at hl;have hn:=Vs l;refine aH aI Tryz.func127 rfl ok127 (by simp [Tryz.f127]) ?_;(conv=>whnf);refine ak.i (λhc=>?_) (λhc=>?_)
 ·(conv=>whnf);have h0:l=[]:=List.eq_nil_of_length_eq_zero (by simp at hc;omega);refine ⟨Keeps.refl _ _,?_⟩;unfold oO;rw [if_pos h0];rfl
 ·have h0:l≠[]:=by
   rintro rfl;simp at hl hc;omega
  (conv=>whnf);refine bP.on [0,4,5] [] (λi:Nat=>[(0,.v (.slice a n c)),(4,.v (.string (ba (bJ (l.take i))))),(5,.v (.int .i64 (i:Int)))]) (λ_=>[]) (λi h'=>i<=n/\Keeps [] h h'/\(l.take i).all dG=true) (λi=>n-i) 0 ?_ ?_
  ·(conv=>whnf);exact ⟨0,rfl,rfl,rfl,Nat.zero_le _,Keeps.refl _ _,by simp⟩
  ·rintro i h1 ⟨hi,k1,ha⟩;(conv=>whnf);refine ak.i (λhd=>?_) (λhd=>?_)
   ·have hi1:i<l.length:=by simp at hd;omega
    obtain ⟨b,off,hb',_,hcell⟩:=(S.keep k1).at1 i (by rw [fO];exact hi1);have e:(bq l)[i]'(by rw [fO];exact hi1)=ba l[i]:=by simp [bq]
    rw [e] at hcell;have hle:=yK (List.getElem_mem hi1);have htk:l.take (i+1)=l.take i++[l[i]]:=List.take_succ_eq_append_getElem hi1;(conv=>whnf);(try refine aU.pass ?_;conv=>whnf);refine aQ.i i rfl (by omega) hb' ?_;(conv=>whnf);refine ax.i hcell ?_;(conv=>whnf);refine au.i (JW l[i] (by omega) h1) λv h2 k2 hv=>?_;subst hv;(conv=>whnf);refine ak.i (λhs=>?_) (λhs=>?_)
    ·(conv=>whnf);refine ⟨k1.trans k2,?_⟩;unfold oO;rw [if_neg h0,if_neg]
     ·rfl
     ·rintro ⟨hx,_⟩;have:=List.all_eq_true.1 hx _ (List.getElem_mem hi1);rw [this] at hs;cases hs
    ·have hr:dG l[i]=true:=by simpa using hs
     have hc2:=k2.cell hcell (by simp);have hjt:=yL l i;have hsz:(ba l[i]).size=l[i].length:=vU _;have hs0:(ba (bJ (l.take i))).size=(bJ (l.take i)).length:=vU _;have h47:(ByteArray.mk #[47]).size=1:=rfl;(conv=>whnf);refine aQ.i i rfl (by omega) hb' ?_;(conv=>whnf);refine ax.i hc2 ?_;(conv=>whnf);refine dH.i (by rw [h47,hsz];omega) ?_;(conv=>whnf);refine dH.i (by rw [hs0,show (ByteArray.mk #[47])++ba l[i]=ba ([47]++l[i]) from FM [47] l[i],vU,List.length_append];simp;omega) ?_;(conv=>whnf);refine ⟨n-(i+1),by omega,?_⟩;(conv=>whnf);refine ⟨i+1,rfl,?_,rfl,by omega,k1.trans k2,?_⟩
     ·rw [wrapN (x:=(i:Int)+1) (n:=i+1) (by simp) (by omega)];have e1:ba (bJ (l.take i))++((ByteArray.mk #[47])++ba l[i])=ba (bJ (l.take (i+1))):=by
       rw [show (ByteArray.mk #[47])++ba l[i]=ba ([47]++l[i]) from FM [47] l[i],FM,htk,yM]
       congr 1
       simp [bJ]
      rw [e1]
     ·rw [htk,List.all_append,ha];simp [hr]
   ·have hi1:i=n:=by simp at hd;omega
    subst hi1;have hlt:l.take i=l:=by rw [hl];exact List.take_length
    rw [hlt] at ha ⊢;have hs0:(ba (bJ l)).size=(bJ l).length:=vU _;(conv=>whnf);refine ak.i (λhf=>?_) (λhf=>?_)
    ·(conv=>whnf);refine ⟨k1,?_⟩;have:120<(bJ l).length:=by rw [hs0] at hf;simp at hf;omega
     unfold oO;rw [if_neg h0,if_neg (λh=>by omega)];rfl
    ·(conv=>whnf);refine ⟨k1,?_⟩;have:(bJ l).length<=120:=by rw [hs0] at hf;simp at hf;omega
     unfold oO;rw [if_neg h0,if_pos ⟨ha,this⟩]
structure SQ where
 i:Nat
 from_:Nat
 done:List (List UInt8)
 a:Option Addr
 c:Nat
def sw (path:List UInt8)(q:SQ):Prop:=
 (q.i<=path.length/\1<=q.from_/\q.from_<=q.i/\q.done++dA (path.drop q.from_)=dA (path.drop 1)/\47∉(path.take q.i).drop q.from_)\/(q.i=path.length+1/\path≠[]/\q.done=dA (path.drop 1))\/(path=[]/\q.done=[])
theorem cutI_0 (path:List UInt8)(a:Option Addr)(c:Nat):sw path ⟨1,1,[],a,c⟩:=by
 by_cases h:path=[]
 ·exact .inr (.inr ⟨h,rfl⟩)
 ·have:=List.length_pos_iff.2 h;refine .inl ⟨by show 1<=_;omega,Nat.le_refl _,Nat.le_refl _,rfl,?_⟩;show 47∉(path.take 1).drop 1;rw [List.drop_eq_nil_of_le (by rw [List.length_take];omega)];simp
theorem Vm {path:List UInt8}{i f:Nat}(hf:f<=i)(hi:i<path.length):(path.take (i+1)).drop f=(path.take i).drop f++[path[i]]:=by
 rw [List.take_succ_eq_append_getElem hi,List.drop_append_of_le_length (by rw [List.length_take];omega)]
theorem Vn {path:List UInt8}{q:SQ}(I:sw path q)(hi:q.i<path.length)(h47:path[q.i]≠47):sw path ⟨q.i+1,q.from_,q.done,q.a,q.c⟩:=by
 rcases I with ⟨h1,h2,h3,h4,h5⟩|⟨h1,_⟩|⟨h1,_⟩
 ·refine .inl ⟨by show q.i+1<=_;omega,h2,Nat.le_succ_of_le h3,h4,?_⟩;show 47∉(path.take (q.i+1)).drop q.from_;rw [Vm h3 hi];intro h;rcases List.mem_append.1 h with h|h
  ·exact h5 h
  ·exact h47 (List.mem_singleton.1 h).symm
 ·omega
 ·rw [h1] at hi;simp at hi
theorem Vo {path:List UInt8}{q:SQ}(I:sw path q)(hi:q.i<path.length)(h47:path[q.i]=47)(a:Option Addr)(c:Nat):sw path ⟨q.i+1,q.i+1,q.done++[(path.take q.i).drop q.from_],a,c⟩:=by
 rcases I with ⟨h1,h2,h3,h4,h5⟩|⟨h1,_⟩|⟨h1,_⟩
 ·refine .inl ⟨by show q.i+1<=_;omega,by show 1<=q.i+1;omega,Nat.le_refl _,?_,?_⟩
  ·show (q.done++[(path.take q.i).drop q.from_])++dA (path.drop (q.i+1))=_;have e:path.drop q.from_=(path.take q.i).drop q.from_++47::path.drop (q.i+1):=by
    have h6:path=path.take q.i++path.drop q.i:=(List.take_append_drop _ _).symm;have h7:path.drop q.i=47::path.drop (q.i+1):=by rw [List.drop_eq_getElem_cons hi,h47]
    rw [h7] at h6
    conv=>lhs;rw [h6]
    rw [List.drop_append_of_le_length (by rw [List.length_take];omega)]
   rw [e,Fh h5] at h4;rw [<-h4];simp
  ·show 47∉(path.take (q.i+1)).drop (q.i+1);rw [List.drop_eq_nil_of_le (by rw [List.length_take];omega)];simp
 ·omega
 ·rw [h1] at hi;simp at hi
theorem Vp {path:List UInt8}{q:SQ}(I:sw path q)(hi:q.i=path.length)(WX:1<=q.i)(f:Nat)(a:Option Addr)(c:Nat):sw path ⟨q.i+1,f,q.done++[(path.take q.i).drop q.from_],a,c⟩:=by
 rcases I with ⟨h1,h2,h3,h4,h5⟩|⟨h1,_⟩|⟨h1,_⟩
 ·refine .inr (.inl ⟨by show q.i+1=_;omega,?_,?_⟩)
  ·rintro rfl;simp at hi;omega
  ·show q.done++[(path.take q.i).drop q.from_]=_;rw [hi,List.take_length] at h5 ⊢;rw [<-h4,Fg h5]
 ·omega
 ·rw [h1] at hi;simp at hi;omega
theorem zn {h:Heap}{a:Option Addr}{c:Nat}{l:List (List UInt8)}(O:Own h 9 1 a l.length c ((bq l).map λx=>.string x))(hl:l.length<=1000000000)(hx:∀ x∈l,x.length<=140737488351232):Sl h a l.length c (bq l):=
 O.sl (α:=ByteArray) (xs:=bq l) (Fw _ _ (λz hz=>Fx hx z hz)) rfl (by decide) (by rw [fO];omega)
theorem uF (path:List UInt8)(hp:path.length<=1048576)(h:Heap):aD Tryz.prog 75 [.string (ba path)] h (λv h'=>Keeps [] h h'/\Lh (bH path) h v h'):=by
 have hsz:(ba path).size=path.length:=vU _;refine aH aI Tryz.func75 rfl ok75 (by simp [Tryz.f75]) ?_;(conv=>whnf);refine bP.on [0,4,5,6] [] (λq:SQ=>[(0,.v (.string (ba path))),(4,.v (.slice q.a q.done.length q.c)),(5,.v (.int .i64 (q.from_:Int))),(6,.v (.int .i64 (q.i:Int)))]) (λ_=>[])
  (λq h'=>1<=q.i/\q.i<=path.length+1/\q.from_<=path.length+1/\Keeps [] h h'/\Own h' 9 1 q.a q.done.length q.c ((bq q.done).map λx=>.string x)/\(∀ b∈ay q.a,h.size<=b)/\q.done.length+1<=q.i/\(path=[47]->q.done=[])/\sw path q) (λq=>path.length+2-q.i) ⟨1,1,[],none,0⟩ ?_ ?_
 ·(conv=>whnf);exact ⟨⟨1,1,[],none,0⟩,rfl,rfl,rfl,Nat.le_refl _,by show 1<=_;omega,by show 1<=_;omega,Keeps.refl _ _,.inl ⟨rfl,rfl,rfl,rfl⟩,by simp [ay],Nat.le_refl _,λ_=>rfl,cutI_0 path none 0⟩
 ·rintro q h1 ⟨q1,q2,qf,k1,O1,n1,q3,q4,I1⟩;have e47:((ba path).toList==(ByteArray.mk #[47]).toList)=decide (path=[47]):=iV path [47];(conv=>whnf);refine ak.i (λhd=>?_) (λhd=>?_)
  ·rw [dB,hsz,e47] at hd;have hd2:q.i<=path.length/\path≠[47]:=by
    simp at hd;exact ⟨by omega,hd.2⟩
   (conv=>whnf);(try refine aU.pass ?_;conv=>whnf);refine fC.u q.i ?_ ?_
   ·intro hg;refine ⟨rfl,?_⟩;rw [hsz] at hg ⊢;simp at hg;omega
   (conv=>whnf);have hfi:q.from_<=q.i:=by
    rcases I1 with ⟨_,_,h3,_⟩|⟨h3,_⟩|⟨h3,_⟩
    ·exact h3
    ·omega
    ·rw [h3] at hd2;simp at hd2;omega
   have hby:∀ (hlt:q.i<path.length),((iY (ba path) q.i==47):Bool)=decide (path[q.i]=47):=by
    intro hlt;have:iY (ba path) q.i=((path[q.i]).toNat:Int):=by
     have:=qJ path q.i;rw [List.getElem?_eq_getElem hlt,Option.getD_some] at this;exact this
    rw [this,Pt];refine decide_eq_decide.2 ⟨λh=>?_,λh=>by rw [h];rfl⟩;apply UInt8.toNat_inj.1;have h2:((47:UInt8).toNat:Int)=47:=rfl;omega
   refine ak.i (λhb=>?_) (λhb=>?_)
   ·(conv=>whnf);refine dm.i q.from_ q.i rfl rfl hfi (by rw [hsz];exact hd2.1) ?_;(conv=>whnf);refine aR.i λb3 h3 e3 s3 o3 k3=>?_;have ex:ByteArray.extract (ba path) q.from_ q.i=ba ((path.take q.i).drop q.from_):=qL _ _ _;rw [ex] at o3;(conv=>whnf);rw [ex];refine jO (e:=9) (sz:=1) (aL:=16) (new:=[.string (ba ((path.take q.i).drop q.from_))]) rfl rfl rfl rfl rfl rfl rfl (O1.keep k3 (by simp)) rfl (λj hj=>?_) rfl (by omega) (by decide) (by simp [aA]) ?_
    ·have hj0:j=0:=by simpa using hj
     subst hj0;simp only [Heap.cell?,o3];rfl
    intro a4 c4 h4 O4 k4 n4;have z3:=k3.size;have k04:Keeps [] h h4:=(k1.trans k3).dL k4 n1;have n04:∀ b∈ay a4,h.size<=b:=λb hb=>by
     rcases n4 b hb with h|h
     ·exact n1 b h
     ·have:=k1.size;omega
    have ew:IntKind.i64.wrap ((q.i:Int)+1)=((q.i+1:Nat):Int):=wrapN (by simp) (by omega);(conv=>whnf);refine ⟨path.length+2-(q.i+1),by omega,?_⟩;(conv=>whnf);rw [ew];have Vq:Own h4 9 1 a4 (q.done++[(path.take q.i).drop q.from_]).length c4 ((bq (q.done++[(path.take q.i).drop q.from_])).map λx=>.string x):=by
     have e1:(bq (q.done++[(path.take q.i).drop q.from_])).map (λx=>Value.string x)=(bq q.done).map (λx=>Value.string x)++[.string (ba ((path.take q.i).drop q.from_))]:=by simp [bq]
     rw [e1,List.length_append];exact O4
    refine ⟨⟨q.i+1,q.i+1,q.done++[(path.take q.i).drop q.from_],a4,c4⟩,rfl,?_,rfl,by show 1<=q.i+1;omega,by show q.i+1<=_;omega,by show q.i+1<=_;omega,k04,Vq,n04,?_,λe=>absurd e hd2.2,?_⟩
    ·simp
    ·show (q.done++[_]).length+1<=q.i+1;rw [List.length_append];show q.done.length+1+1<=_;omega
    ·by_cases hlen:q.i=path.length
     ·exact Vp I1 hlen q1 _ _ _
     ·have hlt:q.i<path.length:=by omega
      rw [hsz,hby hlt] at hb;have h47:path[q.i]=47:=by
       have hne:((q.i:Int)==(path.length:Int))=false:=by simp;omega
       rw [hne] at hb;simpa using hb
      exact Vo I1 hlt h47 _ _
   ·have hlt:q.i<path.length:=by
     rw [hsz] at hb;by_cases hlen:q.i=path.length
     ·have:((q.i:Int)==(path.length:Int))=true:=by simp [hlen]
      rw [this] at hb;cases hb
     ·omega
    have h47:path[q.i]≠47:=by
     rw [hsz,hby hlt] at hb;have hne:((q.i:Int)==(path.length:Int))=false:=by simp;omega
     rw [hne] at hb;simpa using hb
    have ew:IntKind.i64.wrap ((q.i:Int)+1)=((q.i+1:Nat):Int):=wrapN (by simp) (by omega);(conv=>whnf);refine ⟨path.length+2-(q.i+1),by omega,?_⟩;(conv=>whnf);rw [ew];exact ⟨⟨q.i+1,q.from_,q.done,q.a,q.c⟩,rfl,rfl,rfl,by show 1<=q.i+1;omega,by show q.i+1<=_;omega,qf,k1,O1,n1,Nat.le_succ_of_le q3,q4,Vn I1 hlt h47⟩
  ·have hd2:path=[47]\/q.i=path.length+1:=by
    rw [dB,hsz,e47] at hd;simp at hd;by_cases h:path=[47]
    ·exact .inl h
    ·right
     have:=hd;by_cases hle:q.i<=path.length
     ·exact absurd (hd hle) h
     ·omega
   have hdone:(path=[]/\q.done=[])\/(path=[47]/\q.done=[])\/∃ c r,path=c::r/\path≠[47]/\q.done=dA r:=by
    by_cases h47:path=[47]
    ·exact .inr (.inl ⟨h47,q4 h47⟩)
    ·have hi:q.i=path.length+1:=by
      rcases hd2 with h|h
      ·exact absurd h h47
      ·exact h
     rcases I1 with ⟨h1,_⟩|⟨_,h2,h3⟩|h3
     ·omega
     ·right;right
      match path,h2 with
      | c::r,_=>exact ⟨c,r,rfl,h47,h3⟩
     ·exact .inl h3
   have hjl:(bJ q.done).length<=1048577:=by
    rcases hdone with ⟨_,h⟩|⟨_,h⟩|⟨c,r,h1,_,h⟩
    ·rw [h];simp [bJ]
    ·rw [h];simp [bJ]
    ·rw [h,Br];rw [h1] at hp;simp only [List.length_cons] at hp ⊢;omega
   have S1:=zn O1 (by omega) (λx hx=>by have:=yK hx;omega);(conv=>whnf);refine au.i (Vr S1 (by omega)) λv h2 k2 hv=>?_;subst hv;have S2:=S1.keep k2;rcases hdone with ⟨h1,h⟩|⟨h1,h⟩|⟨c,r,h1,hn47,h⟩
   ·have ev:oO q.done=.tuple #[.string (ba [47]),.int .i64 0]:=by rw [h];rfl
    rw [ev];(conv=>whnf);refine ak.t (by
     have e2:((ba [47]).toList==(ba path).toList)=decide (([47]:List UInt8)=path):=iV _ _;show (bif (0:Int) != 0 then true else !((ba [47]).toList==(ba path).toList))=true;rw [e2,h1];rfl) ?_
    (conv=>whnf);refine ⟨k1.trans k2,?_⟩;rw [h1];rfl
   ·have ev:oO q.done=.tuple #[.string (ba [47]),.int .i64 0]:=by rw [h];rfl
    rw [ev];(conv=>whnf);refine ak.f (by
     have:((ba [47]).toList==(ba path).toList)=true:=by rw [h1];exact beq_self_eq_true _
     show (bif (0:Int) != 0 then true else !((ba [47]).toList==(ba path).toList))=false;rw [this];rfl) ?_
    (conv=>whnf);refine ⟨k1.trans k2,?_⟩;have hpp:bH path=some q.done:=by rw [h1,h];decide +kernel
    rw [hpp];exact ⟨q.a,q.c,rfl,S2,n1⟩
   ·have hne:q.done≠[]:=by rw [h];exact yJ r
    have hjo:bJ q.done=47::r:=by rw [h,Br]
    by_cases hgood:q.done.all dG=true/\(bJ q.done).length<=120
    ·have ev:oO q.done=.tuple #[.string (ba (47::r)),.int .i64 0]:=by unfold oO;rw [if_neg hne,if_pos hgood,hjo]
     rw [ev];have eb:((ba (47::r)).toList==(ba path).toList)=decide (c=47):=by
      have h2:((ba (47::r)).toList==(ba path).toList)=decide (47::r=path):=iV _ _;rw [h2,h1];refine decide_eq_decide.2 ⟨λe=>((List.cons.inj e).1).symm,λe=>by rw [e]⟩
     have hlen:(47::r).length<=120:=by rw [<-hjo];exact hgood.2
     by_cases hc:c=47
     ·(conv=>whnf);refine ak.f (by
       show (bif (0:Int) != 0 then true else !((ba (47::r)).toList==(ba path).toList))=false;rw [eb,hc];rfl) ?_
      (conv=>whnf);refine ⟨k1.trans k2,?_⟩;have hr:r≠[]:=by
       rintro rfl;rw [h1,hc] at hn47;exact hn47 rfl
      have hpp:bH path=some q.done:=by
       rw [h1];unfold bH;simp only;rw [if_neg (by simp only [List.length_cons] at hlen ⊢;rw [hc];simp;omega),if_neg hr,if_pos (by rw [<-h];exact hgood.1),h]
      rw [hpp];exact ⟨q.a,q.c,rfl,S2,n1⟩
     ·(conv=>whnf);refine ak.t (by
       show (bif (0:Int) != 0 then true else !((ba (47::r)).toList==(ba path).toList))=true;rw [eb,decide_eq_false hc];rfl) ?_
      (conv=>whnf);refine ⟨k1.trans k2,?_⟩;have hpp:bH path=none:=by
       rw [h1];unfold bH;simp only;rw [if_pos (.inl hc)]
      rw [hpp];rfl
    ·have ev:oO q.done=.tuple #[.string (ba []),.int .i64 3]:=by unfold oO;rw [if_neg hne,if_neg hgood]
     rw [ev];(conv=>whnf);refine ak.t rfl ?_;(conv=>whnf);refine ⟨k1.trans k2,?_⟩;have hpp:bH path=none:=by
      rw [h1];unfold bH;simp only;by_cases hc:c≠47\/120<(c::r).length
      ·rw [if_pos hc]
      ·rw [if_neg hc];have hc47:c=47:=by
        apply Classical.byContradiction;intro e;exact hc (.inl e)
       have hlen:(c::r).length<=120:=by omega
       have hr:r≠[]:=by
        rintro rfl;rw [h1,hc47] at hn47;exact hn47 rfl
       rw [if_neg hr,if_neg];intro ha;refine hgood ⟨by rw [h];exact ha,?_⟩;rw [hjo];simpa using hlen
     rw [hpp];rfl
structure cZ (h:Heap)(z t:Nat)(aT:Option Addr)(cT:Nat)(L:List bV):Prop where
 tr:h[t]?=some (.cells ⟨[.slice aT L.length cT]⟩ 80 (0,0))
 own:Own h 77 5 aT L.length cT (fM L)
 jy:∀ x∈L,x.n=x.nd.names.length/\Own h 93 2 x.a x.n x.c (bS x.nd.names)/\(∀ b∈ay x.a,z<=b)/\(∀ e∈x.nd.names,e.ok)/\x.nd.names.length<=105
 zt:z<=t/\∀ b∈ay aT,z<=b
theorem cZ.keep {F:List Nat}{h h':Heap}{z t:Nat}{aT:Option Addr}{cT:Nat}{L:List bV}(H:cZ h z t aT cT L)(k:Keeps F h h')(hF:∀ x∈F,x<z):cZ h' z t aT cT L:=by
 obtain ⟨z1,z2⟩:=H.zt;have no:∀ b,z<=b->b∉F:=λb hb hx=>by have:=hF b hx;omega
 exact ⟨k.obj H.tr (no _ z1),H.own.keep k (λb hb=>no b (z2 b hb)),λx hx=>by
  obtain ⟨n1,n2,n3,n4,n5⟩:=H.jy x hx;exact ⟨n1,n2.keep k (λb hb=>no b (n3 b hb)),n3,n4,n5⟩,H.zt⟩
structure nC (T:List aS):Prop where
 two:2<=T.length
 dir:∀ i,inT T i->(tn T i).kind=2->True/\(∀ e∈(tn T i).names,inT T e.node)/\strict (tn T i).names
theorem nC.alike {T:List aS}(W:nC T):Alike (aY T) (aY T) id (inT T):=by
 refine ⟨λi _=>rfl,λi name hi hk=>by simp,λi name y hi hk hf=>?_,λi _ _=>rfl⟩;have hf':(cK (tn T i).names name).map (·.node)=some y:=hf;cases he:cK (tn T i).names name with
 | none=>rw [he] at hf';cases hf'
 | some e=>
  rw [he] at hf';have:e.node=y:=by simpa using hf'
  rw [<-this];exact (W.dir i hi hk).2.1 e (List.mem_of_find?_eq_some he)
theorem bW.tree {S:FS}{T:List aS}{num:List Int}(W:bW S T num):nC T:=
 ⟨W.two,λi hi hk=>by
  obtain ⟨_,q2,q3,_⟩:=W.dir i ⟨hi,by rw [hk];decide⟩ hk;exact ⟨trivial,λe he=>(q2 e he).1,q3⟩⟩
theorem cZ.at_ {h:Heap}{z t:Nat}{aT:Option Addr}{cT:Nat}{L:List bV}(H:cZ h z t aT cT L){i:Int}(hi:inT (aC L) i):∃ (k:Nat) (bT:Nat) (hk:k<L.length),i=(k:Int)/\aT=some ⟨bT,0,none⟩/\tn (aC L) i=(L[k]'hk).nd/\∀ j,j<5->Heap.cell? h bT (0+k*5+j)=((L[k]'hk).cells)[j]?:=by
 have h1:=hi.1;have h2:=hi.2;rw [mD] at h2;have hk:i.toNat<L.length:=by omega
 obtain ⟨bT,eU,bL,oT,Vf,Vg,hleT⟩:=uD H.own (k:=i.toNat*5+1) (by rw [ny];omega);refine ⟨i.toNat,bT,hk,by omega,bL,?_,λj hj=>?_⟩
 ·have:=uG hk;rw [Int.toNat_of_nonneg (by omega)] at this;exact this
 ·obtain ⟨b',cs',ha',o',hc',_⟩:=uD H.own (k:=i.toNat*5+j) (by rw [ny];omega);rw [bL] at ha';cases ha';rw [Nat.zero_add,hc',BB L _ j hk hj]
theorem LX {h:Heap}{a:Option Addr}{n c:Nat}{x y:List (List UInt8)}(O:Own h 9 1 a n c ((bq x).map λx=>.string x)){b:Option Addr}{m d:Nat}(S:Sl h b m d (bq y))(hb:n+m<=100000){bs:List Nat}(hbs:∀ z∈ay a,z∉bs){ty:TypeId}{K:Value->Heap->Prop}
 (H:∀ a' c' h',Own h' 9 1 a' (n+m) c' ((bq (x++y)).map λx=>.string x)->Keeps (ay a) h h'->(∀ z∈ay a',z∈ay a\/h.size<=z)->K (.slice a' (n+m) c') h') :
 aP Tryz.prog (Builtin.append_ #[52,52] ty ⟨[.slice a n c,.slice b m d]⟩) bs h K:=by
 have hm:=S.hlen;rw [fO] at hm;have hap:bq (x++y)=bq x++bq y:=by simp [bq]
 rcases Nat.eq_zero_or_pos m with h0|h0
 ·subst h0;have:y=[]:=List.eq_nil_of_length_eq_zero hm.symm;subst this;have hnc:n<=c:=by
   rcases O with ⟨_,rfl,rfl,_⟩|⟨b,cs,_,_,_,_,_,h2⟩
   ·exact Nat.le_refl _
   ·exact h2
  refine aP.append0 rfl rfl rfl hnc ?_;have:=H a c h (by rw [List.append_nil];exact O) (Keeps.refl _ _) (λb hb=>.inl hb);exact this
 ·obtain ⟨xb,o,rfl⟩:=S.rR h0;refine jO (e:=9) (sz:=1) (aL:=16) (new:=(bq y).map λx=>.string x) rfl rfl rfl rfl rfl rfl rfl O (by simp [fO];omega) (S.cells1) (Fv _) (by omega) (by decide) hbs ?_;intro a' c' h5 O5 k5 n5;exact H a' c' h5 (by rw [hap,List.map_append];exact O5) k5 n5
structure TQ where
 f:Nat
 at_:Int
 links:Nat
 l:List (List UInt8)
 a:Option Addr
 n:Nat
 c:Nat
theorem LY {h:Heap}{z t:Nat}{aT:Option Addr}{cT:Nat}{L:List bV}(H:cZ h z t aT cT L)(W:nC (aC L))(hdl:∀ i,inT (aC L) i->(tn (aC L) i).kind=3->(tn (aC L) i).data.length<=2688)(follow:Bool)
 {a:Option Addr} {n c:Nat} {l:List (List UInt8)} (T:Sl h a n c (bq l)) (hl:l.length<=60) (hx:∀ x∈l,x.length<=200) :
 aD Tryz.prog 76 [.pointer (some ⟨t,0,none⟩),.slice a n c,.bool follow] h (λv h'=>Keeps [] h h'/\v=.tuple #[.int .i64 (dW (aY (aC L)) 1 follow 600 1 0 l).1,.int .i64 (dW (aY (aC L)) 1 follow 600 1 0 l).2]):=by
 have hE:(dW (aY (aC L)) 1 follow 600 1 0 l).2 ≠ -1:=Bt 600 1 0 l (by decide) (by omega);generalize hR:dW (aY (aC L)) 1 follow 600 1 0 l=R at hE;have hin1:inT (aC L) 1:=by have:=W.two;exact ⟨by omega,by omega⟩
 refine aH aI Tryz.func76 rfl ok76 (by simp [Tryz.f76]) ?_;(conv=>whnf);refine bP.on [0,1,2,8,9] [] (λq:TQ=>[(0,.v (.pointer (some ⟨t,0,none⟩))),(1,.v (.slice q.a q.n q.c)),(2,.v (.bool follow)),(8,.v (.int .i64 q.at_)),(9,.v (.int .i64 (q.links:Int)))]) (λ_=>[])
  (λq h'=>q.links<=8/\Keeps [] h h'/\Sl h' q.a q.n q.c (bq q.l)/\(∀ x∈q.l,x.length<=200)/\q.l.length<=60+60*q.links/\inT (aC L) q.at_/\dW (aY (aC L)) 1 follow q.f q.at_ q.links q.l=R) (λq=>q.f) ⟨600,1,0,l,a,n,c⟩ ?_ ?_
 ·(conv=>whnf);exact ⟨⟨600,1,0,l,a,n,c⟩,rfl,rfl,rfl,Nat.zero_le _,Keeps.refl _ _,T,hx,by simpa using hl,hin1,hR⟩
 ·rintro ⟨f,at_,links,l,a,n,c⟩ h2 ⟨q1,k2,T2,x2,l2,i2,r2⟩;simp only at q1 T2 x2 l2 i2 r2;have nl:=T2.hlen;rw [fO] at nl;obtain ⟨f',hf'⟩:∃ f',f=f'+1:=by
   cases f with
   | zero=>
    exfalso;apply hE;rw [<-r2];rfl
   | succ f'=>exact ⟨f',rfl⟩
  subst hf';(conv=>whnf);refine ak.i (λhc=>?_) (λhc=>?_)
  ·have hpos:0<l.length:=by simp at hc;omega
   obtain ⟨name,rest,rfl⟩:∃ name rest,l=name::rest:=by
    cases l with
    | nil=>simp at hpos
    | cons x r=>exact ⟨x,r,rfl⟩
   simp only [List.length_cons] at nl l2;obtain ⟨b0,off0,hb0,_,hcell⟩:=T2.at1 0 (by rw [fO];exact hpos);have en:(bq (name::rest))[0]'(by rw [fO];exact hpos)=ba name:=by simp [bq]
   rw [en] at hcell;have H2:=H.keep k2 (by simp);obtain ⟨k,bT,hk,ek,bL,dn,hcl⟩:=H2.at_ i2;(conv=>whnf);(try refine aU.pass ?_;conv=>whnf);refine aQ.i 0 rfl (by show 0<n;omega) hb0 ?_;(conv=>whnf);refine ax.i hcell ?_;(conv=>whnf);refine dm.i 1 n rfl rfl (by omega) T2.hcap ?_;have P:=T2.part (l:=1) (r:=n) (by omega) (Nat.le_refl _);have hbr:((bq (name::rest)).take n).drop 1=bq rest:=by
    have:(bq (name::rest)).length=n:=by rw [fO,List.length_cons];omega
    rw [<-this,List.take_length];simp [bq]
   rw [hbr] at P;(conv=>whnf);refine ax.o H2.tr rfl ?_;(conv=>whnf);refine aQ.i k ek hk bL ?_;(conv=>whnf);refine ax.i (hcl 1 (by decide)) ?_;rw [zb] at r2;have hkd:(aY (aC L)).kind at_=(L[k]'hk).nd.kind:=by show (tn (aC L) at_).kind=_;rw [dn]
   rw [hkd] at r2;by_cases hk2:(L[k]'hk).nd.kind=2
   ·rw [if_neg (λh=>h hk2)] at r2;rw [hk2];(conv=>whnf);refine ak.f rfl ?_;obtain ⟨nn1,nn2,nn3,nn4,nn5⟩:=H2.jy _ (List.getElem_mem hk);have S1:=jX nn2 nn4 (by omega);have hnl:name.length<=200:=x2 name (by simp);obtain ⟨d1,d2,d3⟩:=W.dir at_ i2 (by rw [dn];exact hk2);rw [dn] at d2 d3;have hfe:(aY (aC L)).find at_ name=((if dx (L[k]'hk).nd.names name=true then (L[k]'hk).nd.names[aO (L[k]'hk).nd.names name]? else none)).map (·.node):=by
     show (cK (tn (aC L) at_).names name).map (·.node)=_;rw [dn,yN d3]
    rw [hfe] at r2;(conv=>whnf);refine ax.o H2.tr rfl ?_;(conv=>whnf);refine aQ.i k ek hk bL ?_;(conv=>whnf);refine ax.i (hcl 4 (by decide)) ?_;(conv=>whnf);refine au.i (yg S1 (by omega) name (by omega)) λv h3 k3 hv=>?_;subst hv;have k03:=k2.trans k3;have H3:=H2.keep k3 (by simp);cases hpt:dx (L[k]'hk).nd.names name with
    | false=>
     rw [hpt] at r2;(conv=>whnf);refine ak.t rfl ?_;(conv=>whnf);refine ⟨k03,?_⟩;rw [<-r2];rfl
    | true=>
     rw [hpt,if_pos rfl] at r2;(conv=>whnf);refine ak.f rfl ?_;have hlt:aO (L[k]'hk).nd.names name<(L[k]'hk).nd.names.length:=by
      apply Classical.byContradiction;intro hge;unfold dx at hpt;rw [List.getElem?_eq_none (by omega)] at hpt;cases hpt
     rw [List.getElem?_eq_getElem hlt] at r2;simp only [Option.map_some] at r2;obtain ⟨b5,o5,hb5,_,⟨rfl,hok⟩,hc5⟩:=(S1.keep k3).at_ _ hlt;have hen:=d2 _ (List.getElem_mem hlt);generalize (L[k]'hk).nd.names[aO (L[k]'hk).nd.names name]'hlt=e at r2 hok hc5 hen;have hcl3:∀ j,j<5->Heap.cell? h3 bT (0+k*5+j)=((L[k]'hk).cells)[j]?:=by
      obtain ⟨k9,bT9,hk9,ek9,haT9,_,hcl9⟩:=H3.at_ i2;have:k9=k:=by omega
      subst this;rw [bL] at haT9;cases haT9;exact hcl9
     obtain ⟨k',FH,hk',vS,pV,nA,hcl'⟩:=H3.at_ hen;(conv=>whnf);refine ax.o H3.tr rfl ?_;(conv=>whnf);refine aQ.i k ek hk bL ?_;(conv=>whnf);refine ax.i (hcl3 4 (by decide)) ?_;(conv=>whnf);refine aQ.i (aO (L[k]'hk).nd.names name) rfl (by omega) hb5 ?_;(conv=>whnf);refine ax.i (hc5 1 (show 1<2 by decide)) ?_;(conv=>whnf);refine ax.o H3.tr rfl ?_;(conv=>whnf);refine aQ.i k' vS hk' pV ?_;(conv=>whnf);refine ax.i (hcl' 1 (by decide)) ?_;have Vl:(aY (aC L)).kind e.node=(L[k']'hk').nd.kind:=by show (tn (aC L) e.node).kind=_;rw [nA]
     rw [Vl] at r2;have hrl:((n-1:Nat):Int)=(rest.length:Int):=by omega
     have T3:=P.keep k3;(conv=>whnf);by_cases hcnd:(L[k']'hk').nd.kind≠3\/(rest=[]/\follow=false)
     ·rw [if_pos hcnd] at r2;refine ak.t ?_ ?_
      ·rw [hrl];rcases hcnd with h|⟨h,h'⟩
       ·simp [di,h]
       ·rw [h,h'];simp [di]
      (conv=>whnf);refine ⟨f',by show f'<f'+1;omega,?_⟩;(conv=>whnf);refine ⟨⟨f',e.node,links,rest,iZ a c 1 1,n-1,c-1⟩,rfl,rfl,rfl,q1,k03,T3,λx hx=>x2 x (by simp [hx]),by simp only;omega,hen,r2⟩
     ·rw [if_neg hcnd] at r2;have hk3:(L[k']'hk').nd.kind=3:=by
       apply Classical.byContradiction;intro h;exact hcnd (.inl h)
      refine ak.f ?_ ?_
      ·rw [hrl,hk3];by_cases hr:rest=[]
       ·have:follow=true:=by
         cases follow with
         | true=>rfl
         | false=>exact absurd (.inr ⟨hr,rfl⟩) hcnd
        rw [this];simp [di,dB]
       ·have:((rest.length:Int)==0)=false:=by
         have:=List.length_pos_iff.2 hr;simp;omega
        rw [this];simp [di]
      have Fq:IntKind.i64.wrap ((links:Int)+1)=((links+1:Nat):Int):=wrapN (by omega) (by omega);(conv=>whnf);rw [Fq];by_cases h8:8<links+1
      ·rw [if_pos h8] at r2;refine ak.t (by simp;omega) ?_;(conv=>whnf);refine ⟨k03,?_⟩;rw [<-r2]
      ·rw [if_neg h8] at r2;refine ak.f (by simp;omega) ?_;(conv=>whnf);refine ax.o H3.tr rfl ?_;(conv=>whnf);refine aQ.i k' vS hk' pV ?_;(conv=>whnf);refine ax.i (hcl' 3 (by decide)) ?_;have hda:(aY (aC L)).data e.node=(L[k']'hk').nd.data:=by show (tn (aC L) e.node).data=_;rw [nA]
       have hdl2:=hdl e.node hen (by rw [nA];exact hk3);rw [nA] at hdl2;rw [hda] at r2;(conv=>whnf);refine au.i (uF (L[k']'hk').nd.data (by omega) h3) λv h4 k4 hv=>?_;have k04:=k03.trans k4;cases hp:bH (L[k']'hk').nd.data with
       | none=>
        rw [hp] at hv r2;have hv:v=.tuple #[.slice none 0 0,.int .i64 3]:=hv;simp only at r2;subst hv;(conv=>whnf);refine ak.t rfl ?_;(conv=>whnf);refine ⟨k04,?_⟩;rw [<-r2]
       | some head=>
        rw [hp] at hv r2;simp only at r2;obtain ⟨ah,kh,rfl,Th,nh⟩:=hv;obtain ⟨p1,p2,p3,p4⟩:=mE hp;have Fu:=sP hp;(conv=>whnf);refine ak.f rfl ?_;(conv=>whnf);refine LX (n:=0) (c:=0) (x:=[]) (.inl ⟨rfl,rfl,rfl,rfl⟩) Th (by omega) (by simp [ay]) ?_;intro a5 c5 h5 O5 k5 n5;have z5:=k5.size;have LZ:Keeps [] h4 h5:=k5;have n5':∀ z∈ay a5,h4.size<=z:=λz hz=>by
         rcases n5 z hz with h|h
         ·simp [ay] at h
         ·exact h
        rw [List.nil_append] at O5;(conv=>whnf);refine LX O5 (T3.keep (k4.trans LZ)) (by omega) (by simp [aA]) ?_;intro a6 c6 h6 O6 k6 n6;have k56:Keeps [] h4 h6:=LZ.dL k6 n5';(conv=>whnf);refine ⟨f',by show f'<f'+1;omega,?_⟩;(conv=>whnf);have hll:0+head.length+(n-1)=(head++rest).length:=by rw [List.length_append];omega
        have L6:=O6;rw [hll] at L6;have hxs:∀ x∈head++rest,x.length<=200:=by
         intro x hx;rcases List.mem_append.1 hx with h|h
         ·exact Fu x h
         ·exact x2 x (by simp [h])
        have T6:=zn L6 (by rw [List.length_append];omega) (λx hx=>by have:=hxs x hx;omega);rw [hll];refine ⟨⟨f',1,links+1,head++rest,a6,(head++rest).length,c6⟩,rfl,rfl,rfl,by simp only;omega,k04.trans k56,T6,hxs,?_,hin1,r2⟩;simp only [List.length_append];omega
   ·rw [if_pos hk2] at r2;(conv=>whnf);refine ak.t (by simp;exact hk2) ?_;(conv=>whnf);refine ⟨k2,?_⟩;rw [<-r2]
  ·(conv=>whnf);have h0:l=[]:=List.eq_nil_of_length_eq_zero (by simp at hc;omega);subst h0;have hR2:R=(at_,0):=by rw [<-r2];rfl
   refine ⟨k2,?_⟩;rw [hR2]
theorem yO {h:Heap}{z t:Nat}{aT:Option Addr}{cT:Nat}{L:List bV}(H:cZ h z t aT cT L)(W:nC (aC L))(hdl:∀ i,inT (aC L) i->(tn (aC L) i).kind=3->(tn (aC L) i).data.length<=2688)
 (path:List UInt8) (hp:path.length<=1048576) (follow:Bool) :
 aD Tryz.prog 32 [.pointer (some ⟨t,0,none⟩),.string (ba path),.bool follow] h (λv h'=>Keeps [] h h'/\v=.tuple #[.int .i64 (aW (aY (aC L)) path follow).1,.int .i64 (aW (aY (aC L)) path follow).2]):=by
 refine aH aI Tryz.func32 rfl ok32 (by simp [Tryz.f32]) ?_;(conv=>whnf);refine au.i (uF path hp h) λv h1 k1 hv=>?_;unfold aW;cases hpp:bH path with
 | none=>
  rw [hpp] at hv;have hv:v=.tuple #[.slice none 0 0,.int .i64 3]:=hv;subst hv;(conv=>whnf);refine ak.t rfl ?_;(conv=>whnf);exact ⟨k1,rfl⟩
 | some l=>
  rw [hpp] at hv;obtain ⟨a,c,rfl,T,n1⟩:=hv;obtain ⟨p1,p2,p3,p4⟩:=mE hpp;(conv=>whnf);refine ak.f rfl ?_;(conv=>whnf);refine au.i (LY (H.keep k1 (by simp)) W hdl follow T p1 (sP hpp)) λv h2 k2 hv=>?_;subst hv;(conv=>whnf);exact ⟨k1.trans k2,rfl⟩
def vV (r:Int×List UInt8×Int×Int):Value:=.tuple #[.int .i64 r.1,.string (ba r.2.1),.int .i64 r.2.2.1,.int .i64 r.2.2.2]
theorem yP {h:Heap}{z t:Nat}{aT:Option Addr}{cT:Nat}{L:List bV}(H:cZ h z t aT cT L)(W:nC (aC L))(hdl:∀ i,inT (aC L) i->(tn (aC L) i).kind=3->(tn (aC L) i).data.length<=2688)
 (path:List UInt8) (hp:path.length<=1048576) :
 aD Tryz.prog 93 [.pointer (some ⟨t,0,none⟩),.string (ba path)] h (λv h'=>Keeps [] h h'/\v=vV (bD (aY (aC L)) path)):=by
 have hin1:inT (aC L) 1:=by have:=W.two;exact ⟨by omega,by omega⟩
 refine aH aI Tryz.func93 rfl ok93 (by simp [Tryz.f93]) ?_;(conv=>whnf);refine au.i (uF path hp h) λv h1 k1 hv=>?_;have hpl:bD (aY (aC L)) path=bD (aY (aC L)) path:=rfl
 conv at hpl=>rhs;unfold bD
 cases hpp:bH path with
 | none=>
  rw [hpp] at hv hpl;have hv:v=.tuple #[.slice none 0 0,.int .i64 3]:=hv;simp only at hpl;subst hv;(conv=>whnf);refine ak.t rfl ?_;(conv=>whnf);refine ⟨k1,?_⟩;rw [hpl];rfl
 | some l=>
  rw [hpp] at hv hpl;simp only at hpl;obtain ⟨a,c,rfl,T,n1⟩:=hv;obtain ⟨p1,p2,p3,p4⟩:=mE hpp;(conv=>whnf);refine ak.f rfl ?_;by_cases h0:l=[]
  ·rw [if_pos h0] at hpl;(conv=>whnf);refine ak.t (by rw [h0];rfl) ?_;(conv=>whnf);refine ⟨k1,?_⟩;rw [hpl];rfl
  ·rw [if_neg h0] at hpl;have hpos:=List.length_pos_iff.2 h0;(conv=>whnf);refine ak.f (by simp;omega) ?_;have e1:IntKind.i64.wrap ((l.length:Int)-1)=((l.length-1:Nat):Int):=wrapN (by omega) (by omega);obtain ⟨b,off,hb',_,hcell⟩:=T.at1 (l.length-1) (by rw [fO];omega);have e:(bq l)[l.length-1]'(by rw [fO];omega)=ba (l.getLast?.getD []):=by
    rw [List.getLast?_eq_getElem?,List.getElem?_eq_getElem (by omega)];simp [bq]
   rw [e] at hcell;(conv=>whnf);refine aQ.i (l.length-1) e1 (by omega) hb' ?_;(conv=>whnf);refine ax.i hcell ?_;(conv=>whnf);refine dm.i 0 (l.length-1) rfl e1 (Nat.zero_le _) (by have:=T.hcap;omega) ?_;have P:=T.part (l:=0) (r:=l.length-1) (Nat.zero_le _) (by omega);rw [List.drop_zero,kE] at P;have hbt:(bq l).take (l.length-1)=bq l.dropLast:=by
    rw [List.dropLast_eq_take];simp [bq]
   rw [hbt] at P;have hxs:∀ x∈l.dropLast,x.length<=200:=λx hx=>sP hpp x (List.dropLast_subset _ hx);(conv=>whnf);rw [kE];refine au.i (LY (H.keep k1 (by simp)) W hdl true P (by rw [List.length_dropLast];omega) hxs) λv h2 k2 hv=>?_;subst hv;have hal:=sj W.alike (root:=1) (follow:=true) hin1 600 1 0 l.dropLast hin1;generalize dW (aY (aC L)) 1 true 600 1 0 l.dropLast=r at hpl hal ⊢;have k02:=k1.trans k2;by_cases hr:r.2=0
   ·rw [if_neg (λh=>h hr)] at hpl;have hin:=(hal.2 hr).2;rw [hr];(conv=>whnf);refine ak.f rfl ?_;have H2:=H.keep k02 (by simp);obtain ⟨k,bT,hk,ek,bL,dn,hcl⟩:=H2.at_ hin;(conv=>whnf);refine ax.o H2.tr rfl ?_;(conv=>whnf);refine aQ.i k ek hk bL ?_;(conv=>whnf);refine ax.i (hcl 1 (by decide)) ?_;have hkd:(aY (aC L)).kind r.1=(L[k]'hk).nd.kind:=by show (tn (aC L) r.1).kind=_;rw [dn]
    rw [hkd] at hpl;by_cases hk2:(L[k]'hk).nd.kind=2
    ·rw [if_neg (λh=>h hk2)] at hpl;rw [hk2];(conv=>whnf);refine ak.f rfl ?_;obtain ⟨nn1,nn2,nn3,nn4,nn5⟩:=H2.jy _ (List.getElem_mem hk);have S1:=jX nn2 nn4 (by omega);obtain ⟨d1,d2,d3⟩:=W.dir r.1 hin (by rw [dn];exact hk2);rw [dn] at d2 d3;have hgl:(l.getLast?.getD []).length<=200:=by
      rw [List.getLast?_eq_some_getLast h0];exact sP hpp _ (List.getLast_mem h0)
     generalize l.getLast?.getD []=name at hpl hgl hcell ⊢;have hfe:(aY (aC L)).find r.1 name=((if dx (L[k]'hk).nd.names name=true then (L[k]'hk).nd.names[aO (L[k]'hk).nd.names name]? else none)).map (·.node):=by
      show (cK (tn (aC L) r.1).names name).map (·.node)=_;rw [dn,yN d3]
     rw [hfe] at hpl;(conv=>whnf);refine ax.o H2.tr rfl ?_;(conv=>whnf);refine aQ.i k ek hk bL ?_;(conv=>whnf);refine ax.i (hcl 4 (by decide)) ?_;(conv=>whnf);refine au.i (yg S1 (by omega) name (by omega)) λv h3 k3 hv=>?_;subst hv;have k03:=k02.trans k3;have H3:=H2.keep k3 (by simp);cases hpt:dx (L[k]'hk).nd.names name with
     | false=>
      rw [hpt] at hpl;(conv=>whnf);(try refine aU.pass ?_;conv=>whnf);refine ak.f rfl ?_;(conv=>whnf);refine ⟨k03,?_⟩;rw [hpl];rfl
     | true=>
      rw [hpt,if_pos rfl] at hpl;(conv=>whnf);(try refine aU.pass ?_;conv=>whnf);refine ak.t rfl ?_;have hlt:aO (L[k]'hk).nd.names name<(L[k]'hk).nd.names.length:=by
       apply Classical.byContradiction;intro hge;unfold dx at hpt;rw [List.getElem?_eq_none (by omega)] at hpt;cases hpt
      rw [List.getElem?_eq_getElem hlt] at hpl;obtain ⟨b5,o5,hb5,_,⟨rfl,hok⟩,hc5⟩:=(S1.keep k3).at_ _ hlt;have hcl3:∀ j,j<5->Heap.cell? h3 bT (0+k*5+j)=((L[k]'hk).cells)[j]?:=by
       obtain ⟨k9,bT9,hk9,ek9,haT9,_,hcl9⟩:=H3.at_ hin;have:k9=k:=by omega
       subst this;rw [bL] at haT9;cases haT9;exact hcl9
      (conv=>whnf);refine ax.o H3.tr rfl ?_;(conv=>whnf);refine aQ.i k ek hk bL ?_;(conv=>whnf);refine ax.i (hcl3 4 (by decide)) ?_;(conv=>whnf);refine aQ.i (aO (L[k]'hk).nd.names name) rfl (by omega) hb5 ?_;(conv=>whnf);refine ax.i (hc5 1 (show 1<2 by decide)) ?_;(conv=>whnf);refine ⟨k03,?_⟩;rw [hpl];rfl
    ·rw [if_pos hk2] at hpl;(conv=>whnf);refine ak.t (by simp;exact hk2) ?_;(conv=>whnf);refine ⟨k02,?_⟩;rw [hpl];rfl
   ·rw [if_pos hr] at hpl;(conv=>whnf);refine ak.t (by simp;exact hr) ?_;(conv=>whnf);refine ⟨k02,?_⟩;rw [hpl];rfl
theorem FE:∀ (L:List bV) (i:Nat) (hi:i<L.length) (j:Nat) (hj:j<5) (v:Value) (x:bV),x.cells=((L[i]'hi).cells).set j v->(fM L).set (i*5+j) v=fM (L.set i x)
 | y::L,0,_,j,hj,v,x,hx=>by
  unfold fM;rw [List.set_cons_zero,List.flatMap_cons,List.flatMap_cons,List.set_append,if_pos (by show 0*5+j<5;omega),Nat.zero_mul,Nat.zero_add,hx];rfl
 | y::L,i+1,hi,j,hj,v,x,hx=>by
  have ih:=FE L i (by simpa using hi) j hj v x hx;unfold fM at ih ⊢;rw [List.set_cons_succ,List.flatMap_cons,List.flatMap_cons,List.set_append,if_neg (by show ¬ ((i+1)*5+j<5);omega)];have:(i+1)*5+j-y.cells.length=i*5+j:=by show (i+1)*5+j-5=_;omega
  rw [this,ih]
def FC (h:Heap)(z:Nat)(x:bV):Prop:=x.n=x.nd.names.length/\Own h 93 2 x.a x.n x.c (bS x.nd.names)/\(∀ b∈ay x.a,z<=b)/\(∀ e∈x.nd.names,e.ok)/\x.nd.names.length<=105
theorem cZ.set {h h':Heap}{z t:Nat}{aT:Option Addr}{cT:Nat}{L:List bV}(H:cZ h z t aT cT L){k:Nat}(hk:k<L.length){bT:Nat}(bL:aT=some ⟨bT,0,none⟩){eU:List Value}(o:h[bT]?=some (.cells ⟨eU⟩ 77 (0,0)))(kk:Keeps [bT] h h'){j:Nat}(hj:j<5){v:Value}
 (o':h'[bT]?=some (.cells ⟨bC (k*5+j) [v] eU⟩ 77 (0,0))) (x:bV) (hxc:x.cells=((L[k]'hk).cells).set j v) (hx:FC h z x):cZ h' z t aT cT (L.set k x):=by
 have ht:t≠bT:=qO H.tr o (by decide);have O':=FD (bL ▸ H.own) (k:=k*5+j) (by rw [ny];omega) o o';rw [FE L k hk j hj v x hxc,<-bL] at O';have nk:∀ y:bV,Own h 93 2 y.a y.n y.c (bS y.nd.names)->Own h' 93 2 y.a y.n y.c (bS y.nd.names):=λy oy=>oy.keep kk (λb hb hx=>by
  obtain ⟨cs,oc⟩:=nD oy b hb;have:=qO oc o (by decide);simp at hx;exact this hx)
 refine ⟨by rw [List.length_set];exact kk.obj H.tr (by simpa using ht),by rw [List.length_set];exact O',λy hy=>?_,H.zt⟩;rcases List.mem_or_eq_of_mem_set hy with hy|rfl
 ·obtain ⟨n1,n2,n3,n4,n5⟩:=H.jy y hy;exact ⟨n1,nk y n2,n3,n4,n5⟩
 ·exact ⟨hx.1,nk y hx.2.1,hx.2.2⟩
theorem cZ.blk {h:Heap}{z t:Nat}{aT:Option Addr}{cT:Nat}{L:List bV}(H:cZ h z t aT cT L){k:Nat}(hk:k<L.length):∃ (bT:Nat) (eU:List Value),aT=some ⟨bT,0,none⟩/\h[bT]?=some (.cells ⟨eU⟩ 77 (0,0))/\L.length*5<=eU.length/\z<=bT/\∀ j,j<5->Heap.cell? h bT (0+k*5+j)=((L[k]'hk).cells)[j]?:=by
 obtain ⟨bT,eU,bL,oT,Vf,Vg,hleT⟩:=uD H.own (k:=k*5+1) (by rw [ny];omega);refine ⟨bT,eU,bL,oT,by rw [ny] at hleT;exact hleT,H.zt.2 bT (by rw [bL];simp [ay]),λj hj=>?_⟩;obtain ⟨b',cs',ha',o',hc',_⟩:=uD H.own (k:=k*5+j) (by rw [ny];omega);rw [bL] at ha';cases ha';rw [Nat.zero_add,hc',BB L _ j hk hj]
theorem FJ {h:Heap}{z t:Nat}{aT:Option Addr}{cT:Nat}{L:List bV}(H:cZ h z t aT cT L)(hz:z<=h.size){d:Nat}(hd:d<L.length)(WV:L.length<=1000000){name:List UInt8}(hnl:name.length<=200)(hnm:dG name=true)(hp:dx (L[d]'hd).nd.names name=false){x:Int}(hx:inI64 x)(WW:(L[d]'hd).nd.names.length<105) :
 aD Tryz.prog 94 [.pointer (some ⟨t,0,none⟩),.int .i64 (d:Int),.string (ba name),.int .i64 x] h (λv h'=>Keeps (ay aT) h h'/\v=.tuple #[]/\∃ a c,cZ h' z t aT cT (L.set d ⟨{ (L[d]'hd).nd with names:=bF (L[d]'hd).nd.names ⟨name,x⟩ },a,(L[d]'hd).nd.names.length+1,c⟩)):=by
 obtain ⟨bT,eU,bL,oT,hle,hzb,hcl⟩:=H.blk hd;obtain ⟨n1,n2,n3,n4,n5⟩:=H.jy _ (List.getElem_mem hd);have SN:=jX n2 n4 (by omega);have Ci:lm (L[d]'hd).nd.names name 1=(bF (L[d]'hd).nd.names ⟨name,1⟩,0):=by
  unfold lm;rw [if_neg (by omega),if_neg (by rw [hnm];simp),if_neg (by rw [hp];simp)]
 have hl1:=wu (L[d]'hd).nd.names ⟨name,1⟩;refine aH aI Tryz.func94 rfl ok94 (by simp [Tryz.f94]) ?_;(conv=>whnf);refine ax.o H.tr rfl ?_;(conv=>whnf);refine aQ.i d rfl hd bL ?_;(conv=>whnf);refine ax.i (hcl 4 (by decide)) ?_;(conv=>whnf);refine au.i (TM SN (by omega) name (by omega) 1 ⟨by decide,by decide⟩ n4) λv h1 k1 hv=>?_;obtain ⟨a1,c1,rfl,O1,nb1⟩:=hv;rw [Ci] at O1 ⊢;simp only at O1 ⊢;have z1:=k1.size;have H1:=H.keep k1 (by simp);have Vh:∀ e∈bF (L[d]'hd).nd.names ⟨name,1⟩,e.ok:=λe he=>by
  rcases List.mem_cons.1 ((mX _ _).mem_iff.1 he) with rfl|h
  ·exact ⟨by show name.length<=140737488351232;omega,(show (-9223372036854775808:Int)<=1 by decide),(show (1:Int)<=9223372036854775807 by decide)⟩
  ·exact n4 e h
 have S1:=jX O1 Vh (by omega);(conv=>whnf);refine au.i (yg S1 (by omega) name (by omega)) λv h2 k2 hv=>?_;subst hv;rw [Vi];have z2:=k2.size;have H2:=H1.keep k2 (by simp);have O2:=O1.keep k2 (by simp);have hkle:=vM (L[d]'hd).nd.names name;obtain ⟨b7,cs7,ha7,o7,_,ht7,hl7⟩:=uD O2 (k:=0) (by rw [lJ];omega);have hb7:h.size<=b7:=nb1 b7 (by rw [ha7];simp [ay]);have hkl:aO (L[d]'hd).nd.names name*2+1<(bS (bF (L[d]'hd).nd.names ⟨name,1⟩)).length:=by rw [lJ,hl1];omega
 (conv=>whnf);refine aQ.i (aO (L[d]'hd).nd.names name) rfl (by omega) ha7 ?_;(conv=>whnf);refine dO.i o7 ?_ (by simp [aA]) λh3 s3 o3 k3=>?_
 ·show 0+aO (L[d]'hd).nd.names name*2+1+1<=cs7.length;omega
 have mO:h3[b7]?=some (.cells ⟨bC (aO (L[d]'hd).nd.names name*2+1) [.int .i64 x] cs7⟩ 93 (0,0)):=by
  have:0+aO (L[d]'hd).nd.names name*2+1=aO (L[d]'hd).nd.names name*2+1:=by omega
  rw [<-this];exact o3
 have O3:=FD (ha7 ▸ O2) hkl o7 mO;rw [Vj] at O3;have Vk:bT<h.size:=eZ oT;have oT3:h3[bT]?=some (.cells ⟨eU⟩ 77 (0,0)):=k3.obj (k2.obj (k1.obj oT (by simp)) (by simp)) (by simp;omega);have H3:cZ h3 z t aT cT L:=by
  have k03:Keeps [] h h3:=(k1.trans k2).new1 k3 hb7;exact H.keep k03 (by simp)
 (conv=>whnf);refine ax.o H3.tr rfl ?_;(conv=>whnf);refine aQ.i d rfl hd bL ?_;(conv=>whnf);refine dO.i oT3 ?_ (by simp [aA]) λh4 s4 o4 k4=>?_
 ·show 0+d*5+4+1<=eU.length;omega
 have kN:h4[bT]?=some (.cells ⟨bC (d*5+4) [.slice a1 (bF (L[d]'hd).nd.names ⟨name,1⟩).length c1] eU⟩ 77 (0,0)):=by
  have:0+d*5+4=d*5+4:=by omega
  rw [<-this];exact o4
 (conv=>whnf);have hl2:=wu (L[d]'hd).nd.names ⟨name,x⟩;rw [hl1] at kN;have H4:=H3.set hd bL oT3 k4 (j:=4) (by decide) kN ⟨{ (L[d]'hd).nd with names:=bF (L[d]'hd).nd.names ⟨name,x⟩ },a1,(L[d]'hd).nd.names.length+1,c1⟩ rfl
  ⟨hl2.symm,by rw [<-hl1,ha7];exact O3,λb hb=>by have:=nb1 b hb;omega,λe he=>by
   rcases List.mem_cons.1 ((mX _ _).mem_iff.1 he) with rfl|h
   ·exact ⟨by show name.length<=140737488351232;omega,hx⟩
   ·exact n4 e h,by show (bF (L[d]'hd).nd.names ⟨name,x⟩).length<=105;rw [hl2];omega⟩
 have kk:Keeps (ay aT) h h4:=(((k1.trans k2).new1 k3 hb7).mono (by simp)).gL k4 (λy hy=>by
  have:y=bT:=by simpa using hy
  left;rw [bL];simp [ay,this])
 exact ⟨kk,rfl,a1,c1,H4⟩
theorem LJ {h:Heap}{z t:Nat}{aT:Option Addr}{cT:Nat}{L:List bV}(H:cZ h z t aT cT L)(hz:z<=h.size){d:Nat}(hd:d<L.length){name:List UInt8}(hnl:name.length<=200)(hp:dx (L[d]'hd).nd.names name=true) :
 aD Tryz.prog 95 [.pointer (some ⟨t,0,none⟩),.int .i64 (d:Int),.string (ba name)] h (λv h'=>Keeps (ay aT) h h'/\v=.tuple #[]/\∃ a c,cZ h' z t aT cT (L.set d ⟨{ (L[d]'hd).nd with names:=(L[d]'hd).nd.names.eraseIdx (aO (L[d]'hd).nd.names name) },a,((L[d]'hd).nd.names.eraseIdx (aO (L[d]'hd).nd.names name)).length,c⟩)):=by
 obtain ⟨bT,eU,bL,oT,hle,hzb,hcl⟩:=H.blk hd;obtain ⟨n1,n2,n3,n4,n5⟩:=H.jy _ (List.getElem_mem hd);have SN:=jX n2 n4 (by omega);have er:jK (L[d]'hd).nd.names name=((L[d]'hd).nd.names.eraseIdx (aO (L[d]'hd).nd.names name),((L[d]'hd).nd.names[aO (L[d]'hd).nd.names name]?.getD ⟨[],0⟩).node,0):=by unfold jK;rw [if_pos hp]
 refine aH aI Tryz.func95 rfl ok95 (by simp [Tryz.f95]) ?_;(conv=>whnf);refine ax.o H.tr rfl ?_;(conv=>whnf);refine aQ.i d rfl hd bL ?_;(conv=>whnf);refine ax.i (hcl 4 (by decide)) ?_;(conv=>whnf);refine au.i (TP SN (by omega) name (by omega)) λv h1 k1 hv=>?_;obtain ⟨a1,c1,rfl,O1,nb1⟩:=hv;rw [er] at O1 ⊢;simp only at O1 ⊢;have z1:=k1.size;have H1:=H.keep k1 (by simp);have Vk:bT<h.size:=eZ oT;have oT1:=k1.obj oT (by simp);(conv=>whnf);refine ax.o H1.tr rfl ?_;(conv=>whnf);refine aQ.i d rfl hd bL ?_;(conv=>whnf);refine dO.i oT1 ?_ (by simp [aA]) λh4 s4 o4 k4=>?_
 ·show 0+d*5+4+1<=eU.length;omega
 have kN:h4[bT]?=some (.cells ⟨bC (d*5+4) [.slice a1 ((L[d]'hd).nd.names.eraseIdx (aO (L[d]'hd).nd.names name)).length c1] eU⟩ 77 (0,0)):=by
  have:0+d*5+4=d*5+4:=by omega
  rw [<-this];exact o4
 (conv=>whnf);have hle2:((L[d]'hd).nd.names.eraseIdx (aO (L[d]'hd).nd.names name)).length<=(L[d]'hd).nd.names.length:=(List.eraseIdx_sublist _ _).length_le;have H4:=H1.set hd bL oT1 k4 (j:=4) (by decide) kN ⟨{ (L[d]'hd).nd with names:=(L[d]'hd).nd.names.eraseIdx (aO (L[d]'hd).nd.names name) },a1,((L[d]'hd).nd.names.eraseIdx (aO (L[d]'hd).nd.names name)).length,c1⟩ rfl
  ⟨rfl,O1,λb hb=>by have:=nb1 b hb;omega,λe he=>n4 e (List.mem_of_mem_eraseIdx he),by show ((L[d]'hd).nd.names.eraseIdx (aO (L[d]'hd).nd.names name)).length<=105;omega⟩
 have kk:Keeps (ay aT) h h4:=(k1.mono (by simp)).gL k4 (λy hy=>by
  have:y=bT:=by simpa using hy
  left;rw [bL];simp [ay,this])
 exact ⟨kk,rfl,a1,c1,H4⟩
theorem cZ.push {h h1 h':Heap}{z t:Nat}{aT:Option Addr}{cT:Nat}{L:List bV}(H:cZ h z t aT cT L)(hz:z<=h.size){d9:Option Addr}{eF:Nat}(k1:Keeps (ay aT) h h1)(n1:∀ b∈ay d9,b∈ay aT\/h.size<=b)(x:bV)(O1:Own h1 77 5 d9 (L.length+1) eF (fM L++x.cells))(k2:Keeps [t] h1 h')
 (o':h'[t]?=some (.cells ⟨[.slice d9 (L.length+1) eF]⟩ 80 (0,0))) (hx:x.n=0/\x.a=none/\x.c=0/\x.nd.names=[]):cZ h' z t d9 eF (L++[x]):=by
 obtain ⟨z2,z3⟩:=H.zt;have LV:∀ {b:Nat} {cs:Array Value} {T:TypeId} {fz:Nat×Nat},h[b]?=some (.cells cs T fz)->T≠77->b∉ay aT:=by
  intro b cs T fz o hne hb;obtain ⟨cs2,o2⟩:=nD H.own b hb;exact qO o o2 hne rfl
 have tr1:=k1.obj H.tr (LV H.tr (by decide));have z1':=k1.size;have nt:∀ {b:Nat} {cs:Array Value} {T:TypeId} {fz:Nat×Nat},h1[b]?=some (.cells cs T fz)->T≠80->b∉[t]:=by
  intro b cs T fz o hne hb;have:b=t:=by simpa using hb
  subst this;exact qO o tr1 hne rfl
 refine ⟨by simpa using o',?_,λy hy=>?_,z2,λb hb=>?_⟩
 ·have e:fM (L++[x])=fM L++x.cells:=by rw [Ve];unfold fM;simp
  rw [e,List.length_append];exact O1.keep k2 (λb hb=>by
   obtain ⟨cs,oc⟩:=nD O1 b hb;exact nt oc (by decide))
 ·rcases List.mem_append.1 hy with hy|hy
  ·obtain ⟨m1,m2,m3,m4,m5⟩:=H.jy y hy;have o1:=m2.keep k1 (λb hb=>by
    obtain ⟨cs,oc⟩:=nD m2 b hb;exact LV oc (by decide))
   exact ⟨m1,o1.keep k2 (λb hb=>by
    obtain ⟨cs,oc⟩:=nD o1 b hb;exact nt oc (by decide)),m3,m4,m5⟩
  ·obtain rfl:=List.mem_singleton.1 hy;obtain ⟨x1,x2,x3,x4⟩:=hx;exact ⟨by rw [x1,x4];rfl,.inl ⟨x2,x1,x3,by rw [x4];rfl⟩,λb hb=>(by rw [x2] at hb;cases hb),λe he=>(by rw [x4] at he;cases he),by rw [x4];decide⟩
 ·rcases n1 b hb with h|h
  ·exact z3 b h
  ·omega
structure lV (T:List aS)(path:List UInt8)(d:Int)(nm:List UInt8)(nd:Int):Prop where
 is:bD (aY T) path=(d,nm,nd,0)
 inn:inT T d
 kind:(tn T d).kind=2
 name:dG nm=true
 len:nm.length<=200
 node:nd=((cK (tn T d).names nm).map (·.node)).getD 0
theorem yQ {T:List aS}(W:nC T){path:List UInt8}(h0:(bD (aY T) path).2.2.2=0):∃ d nm nd,lV T path d nm nd:=by
 have hin1:inT T 1:=by have:=W.two;exact ⟨by omega,by omega⟩
 have hpl:bD (aY T) path=bD (aY T) path:=rfl
 conv at hpl=>rhs;unfold bD
 cases hpp:bH path with
 | none=>rw [hpp] at hpl;rw [hpl] at h0;cases h0
 | some l=>
  rw [hpp] at hpl;simp only at hpl;by_cases hl:l=[]
  ·rw [if_pos hl] at hpl;rw [hpl] at h0;cases h0
  ·rw [if_neg hl] at hpl;by_cases he:(dW (aY T) 1 true 600 1 0 l.dropLast).2=0
   ·rw [if_neg (by simpa using he)] at hpl;by_cases hk:(aY T).kind (dW (aY T) 1 true 600 1 0 l.dropLast).1=2
    ·rw [if_neg (by simpa using hk)] at hpl;have hin:=(sj W.alike (root:=1) (follow:=true) hin1 600 1 0 l.dropLast hin1).2 he;obtain ⟨_,p2,_,_⟩:=mE hpp;have hm:l.getLast?.getD []∈l:=by
      rw [List.getLast?_eq_some_getLast hl];exact List.getLast_mem hl
     exact ⟨_,_,_,hpl,hin.2,hk,List.all_eq_true.1 p2 _ hm,sP hpp _ hm,rfl⟩
    ·rw [if_pos (by simpa using hk)] at hpl;rw [hpl] at h0;cases h0
   ·rw [if_pos (by simpa using he)] at hpl;rw [hpl] at h0;exact absurd h0 he
theorem lV.new {T:List aS}(W:nC T){path:List UInt8}{d:Int}{nm:List UInt8}(P:lV T path d nm 0):cK (tn T d).names nm=none:=by
 have h:=P.node;cases he:cK (tn T d).names nm with
 | none=>rfl
 | some e=>
  rw [he] at h;have h2:(0:Int)=e.node:=h;have h1:=((W.dir d P.inn P.kind).2.1 e (List.mem_of_find?_eq_some he)).1;omega
theorem lV.uJ {T:List aS}(W:nC T){path:List UInt8}{d:Int}{nm:List UInt8}(P:lV T path d nm 0):dx (tn T d).names nm=false:=zk (W.dir d P.inn P.kind).2.2 (P.new W)
theorem lV.there {T:List aS}(W:nC T){path:List UInt8}{d:Int}{nm:List UInt8}{nd:Int}(P:lV T path d nm nd)(h0:nd≠0):∃ en,cK (tn T d).names nm=some en/\en.node=nd/\en∈(tn T d).names/\inT T nd:=by
 have h:=P.node;cases he:cK (tn T d).names nm with
 | none=>rw [he] at h;exact absurd h h0
 | some e=>
  rw [he] at h;have h2:nd=e.node:=h;have hm:=List.mem_of_find?_eq_some he;exact ⟨e,rfl,h2.symm,hm,h2 ▸ (W.dir d P.inn P.kind).2.1 e hm⟩
def nG (T:List aS)(path:List UInt8)(kind:Int)(data:List UInt8)(e:Int)(T':List aS):Prop:=
 ((bD (aY T) path).2.2.2≠0/\e=(bD (aY T) path).2.2.2) \/
 ∃ d nm nd,lV T path d nm nd/\((nd≠0/\e=5)\/(nd=0/\e=0/\T'=bM T d { tn T d with names:=bF (tn T d).names ⟨nm,(T.length:Int)⟩ }++[⟨T.length,kind,1,data,[]⟩]))
structure kV (L:List bV):Prop where
 w:nC (aC L)
 dl:∀ i,inT (aC L) i->(tn (aC L) i).kind=3->(tn (aC L) i).data.length<=2688
 len:L.length<=100000
 few:∀ x∈L,x.nd.names.length<105
 pa:∀ path follow,(aW (aY (aC L)) path follow).2=0->(tn (aC L) (aW (aY (aC L)) path follow).1).data.length<=2688
theorem nV (L:List bV)(k:Nat)(x:bV):aC (L.set k x)=(aC L).set k x.nd:=by unfold aC;rw [List.map_set]
theorem LW {h:Heap}{z t:Nat}{aT:Option Addr}{cT:Nat}{L:List bV}(H:cZ h z t aT cT L)(hz:z<=h.size)(W:kV L)(path:List UInt8)(hp:path.length<=1048576){kind:Int}{data:List UInt8} :
 aD Tryz.prog 92 [.pointer (some ⟨t,0,none⟩),.string (ba path),.int .i64 kind,.string (ba data)] h (λv h'=>Keeps (t::ay aT) h h'/\∃ e:Int,v=.int .i64 e/\∃ d9 eF L',cZ h' z t d9 eF L'/\nG (aC L) path kind data e (aC L')):=by
 have hlen:=W.len;refine aH aI Tryz.func92 rfl ok92 (by simp [Tryz.f92]) ?_;(conv=>whnf);refine au.i (yP H W.w W.dl path hp) λv h1 k1 hv=>?_;subst hv;have z1:=k1.size;have H1:=H.keep k1 (by simp);have m0:∀ x∈([]:List Nat),x∈t::ay aT:=by simp
 unfold vV;by_cases h0:(bD (aY (aC L)) path).2.2.2=0
 ·obtain ⟨d,nm,nd,P⟩:=yQ W.w h0;rw [P.is];(conv=>whnf);refine ak.f rfl ?_;by_cases hnd:nd=0
  ·subst hnd;(conv=>whnf);refine ak.f rfl ?_;have hd:=P.inn;have hd1:=hd.1;have hd2:=hd.2;rw [mD] at hd2;have e1:d=((d.toNat:Nat):Int):=by omega
   have hk:d.toNat<L.length:=by omega
   have dn:tn (aC L) d=(L[d.toNat]'hk).nd:=by have:=uG hk;rw [<-e1] at this;exact this
   (conv=>whnf);refine ax.o H1.tr rfl ?_;(conv=>whnf);refine ax.o H1.tr rfl ?_;(conv=>whnf);refine aR.i λb2 h2 e2 s2 o2 k2=>?_;have z2:=k2.size;have H2:=H1.keep k2 (by simp);obtain ⟨zt,zT⟩:=H2.zt;(conv=>whnf);refine jO (e:=77) (sz:=5) (aL:=64) (new:=bV.cells ⟨⟨L.length,kind,1,data,[]⟩,none,0,0⟩) rfl rfl rfl rfl rfl rfl rfl H2.own rfl ?_ rfl (by omega) (by omega) ?_ ?_
   ·intro j hj;unfold Heap.cell?;rw [o2];have:j=0\/j=1\/j=2\/j=3\/j=4:=by simp [bV.cells] at hj;omega
    rcases this with rfl|rfl|rfl|rfl|rfl <;> rfl
   ·intro y hy hx2;simp [aA] at hx2
   ·intro a3 c3 h3 O3 k3 n3;have z3:=k3.size;have tr3:=k3.obj H2.tr (λhb=>by
     obtain ⟨cs,oc⟩:=nD H2.own t hb;exact qO H2.tr oc (by decide) rfl)
    (conv=>whnf);refine dO.i tr3 (Nat.le_of_ble_eq_true rfl) (by simp [aA]) λh4 s4 o4 k4=>?_;have H4:=H2.push (by omega) k3 n3 ⟨⟨L.length,kind,1,data,[]⟩,none,0,0⟩ O3 k4 o4 ⟨rfl,rfl,rfl,rfl⟩;have kk4:Keeps (t::ay aT) h h4:=(((k1.trans k2).mono m0).gL k3 (λx hx=>.inl (by simp [hx]))).gL k4 (λx hx=>.inl (by simp at hx;simp [hx]));have hk4:d.toNat<(L++[(⟨⟨L.length,kind,1,data,[]⟩,none,0,0⟩:bV)]).length:=by rw [List.length_append];omega
    have eL:((L++[(⟨⟨L.length,kind,1,data,[]⟩,none,0,0⟩:bV)])[d.toNat]'hk4)=L[d.toNat]'hk:=List.getElem_append_left hk;have e2:IntKind.i64.wrap (((L.length+1:Nat):Int)-1)=(L.length:Int):=by rw [show ((L.length+1:Nat):Int)-1=(L.length:Int) by omega];exact wrapN rfl (by omega)
    have hpn:=P.uJ W.w;rw [dn] at hpn;have hl4:(L++[(⟨⟨L.length,kind,1,data,[]⟩,none,0,0⟩:bV)]).length=L.length+1:=by rw [List.length_append];rfl
    have ad:=FJ H4 (by have:=k4.size;omega) hk4 (by rw [hl4];omega) P.len P.name (by rw [eL];exact hpn) (x:=(L.length:Int)) ⟨by omega,by omega⟩ (by rw [eL];exact W.few _ (List.getElem_mem hk));rw [eL,<-e1] at ad;(conv=>whnf);refine ax.o H4.tr rfl ?_;(conv=>whnf);rw [hl4,e2];refine au.m ad (by simp [aA]) λv h5 k5 hv=>?_;obtain ⟨rfl,a5,c5,H5⟩:=hv;(conv=>whnf);refine ⟨kk4.gL k5 (λx hx=>?_),0,rfl,a3,c3,_,H5,.inr ⟨d,nm,0,P,.inr ⟨rfl,rfl,?_⟩⟩⟩
    ·rcases n3 x hx with h|h
     ·exact .inl (by simp [h])
     ·right;omega
    ·rw [nV];unfold bM;have hn4:aC (L++[(⟨⟨L.length,kind,1,data,[]⟩,none,0,0⟩:bV)])=aC L++[⟨L.length,kind,1,data,[]⟩]:=by unfold aC;rw [List.map_append];rfl
     rw [hn4,List.set_append,if_pos (by rw [mD];exact hk),dn,mD]
  ·(conv=>whnf);refine ak.t (by simp [hnd]) ?_;(conv=>whnf);exact ⟨k1.mono m0,5,rfl,aT,cT,L,H1,.inr ⟨d,nm,nd,P,.inl ⟨hnd,rfl⟩⟩⟩
 ·(conv=>whnf);refine ak.t (by simp [h0]) ?_;(conv=>whnf);exact ⟨k1.mono m0,_,rfl,aT,cT,L,H1,.inl ⟨h0,rfl⟩⟩
theorem LB {h:Heap}{z t:Nat}{aT:Option Addr}{cT:Nat}{L:List bV}(H:cZ h z t aT cT L)(hz:z<=h.size)(W:kV L)(path:List UInt8)(hp:path.length<=1048576){kind:Int}(hk:kind=1\/kind=2) :
 aD Tryz.prog 45 [.pointer (some ⟨t,0,none⟩),.string (ba path),.int .i64 kind] h (λv h'=>Keeps (t::ay aT) h h'/\∃ e:Int,v=.int .i64 e/\∃ d9 eF L',cZ h' z t d9 eF L'/\nG (aC L) path kind [] e (aC L')):=by
 refine aH aI Tryz.func45 rfl ok45 (by simp [Tryz.f45]) ?_;(conv=>whnf);refine ak.f ?_ ?_
 ·rcases hk with rfl|rfl <;> rfl
 (conv=>whnf);refine au.m (LW (data:=[]) H hz W path hp) (by simp [aA]) λv h1 k1 hv=>?_;obtain ⟨e,rfl,R⟩:=hv;(conv=>whnf);exact ⟨k1,e,rfl,R⟩
theorem UU {h:Heap}{z t:Nat}{aT:Option Addr}{cT:Nat}{L:List bV}(H:cZ h z t aT cT L)(hz:z<=h.size)(W:kV L)(path target:List UInt8)(hp:path.length<=1048576)(ht:target.length<=1048576) :
 aD Tryz.prog 47 [.pointer (some ⟨t,0,none⟩),.string (ba path),.string (ba target)] h (λv h'=>Keeps (t::ay aT) h h'/\∃ e:Int,v=.int .i64 e/\∃ d9 eF L',cZ h' z t d9 eF L'/\((bH target=none/\e=3)\/(bH target≠none/\nG (aC L) path 3 target e (aC L')))):=by
 refine aH aI Tryz.func47 rfl ok47 (by simp [Tryz.f47]) ?_;(conv=>whnf);refine au.i (uF target ht h) λv h1 k1 hv=>?_;have z1:=k1.size;have H1:=H.keep k1 (by simp);cases hpp:bH target with
 | none=>
  rw [hpp] at hv;have hv:v=.tuple #[.slice none 0 0,.int .i64 3]:=hv;subst hv;(conv=>whnf);refine ak.t rfl ?_;(conv=>whnf);exact ⟨k1.mono (by simp),3,rfl,aT,cT,L,H1,.inl ⟨rfl,rfl⟩⟩
 | some l=>
  rw [hpp] at hv;obtain ⟨a,c,rfl,T,n1⟩:=hv;(conv=>whnf);refine ak.f rfl ?_;(conv=>whnf);refine au.m (LW (data:=target) H1 (by omega) W path hp) (by simp [aA]) λv h2 k2 hv=>?_;obtain ⟨e,rfl,d9,eF,L',H2,R⟩:=hv;(conv=>whnf);exact ⟨(k1.mono (by simp)).trans k2,e,rfl,d9,eF,L',H2,.inr ⟨by simp,R⟩⟩
theorem rM:∀ (k:Nat) (w cs:List Value) (m:Nat),k+w.length<=m->(bC k w cs).take m=bC k w (cs.take m)
 | 0,[],l,m,_=>by simp [bC]
 | 0,v::w,[],m,_=>by simp [bC]
 | 0,v::w,x::l,m,h=>by
  obtain ⟨m',rfl⟩:∃ m',m=m'+1:=⟨m-1,by simp at h;omega⟩;have ih:=rM 0 w l m' (by simp at h;omega);simp only [bC,List.take_succ_cons,ih]
 | n+1,w,[],m,_=>by simp [bC]
 | n+1,w,x::l,m,h=>by
  obtain ⟨m',rfl⟩:∃ m',m=m'+1:=⟨m-1,by omega⟩;have ih:=rM n w l m' (by omega);simp only [bC,List.take_succ_cons,ih]
theorem yR:∀ (k:Nat) (w cs:List Value),(bC k w cs).length=cs.length
 | 0,[],l=>by simp [bC]
 | 0,v::w,[]=>by simp [bC]
 | 0,v::w,x::l=>by simp [bC,yR 0 w l]
 | n+1,w,[]=>rfl
 | n+1,w,x::l=>by simp [bC,yR n w l]
theorem LU:∀ (L:List bV) (i:Nat) (hi:i<L.length) (x:bV),bC (i*5) x.cells (fM L)=fM (L.set i x)
 | y::L,0,_,x=>by
  unfold fM;rw [List.set_cons_zero,List.flatMap_cons,List.flatMap_cons,Nat.zero_mul];generalize List.flatMap bV.cells L=r;obtain ⟨⟨y1,y2,y3,y4,y5⟩,y6,y7,y8⟩:=y;simp [bV.cells,bC]
 | y::L,i+1,hi,x=>by
  have ih:=LU L i (by simpa using hi) x;unfold fM at ih ⊢;rw [List.set_cons_succ,List.flatMap_cons,List.flatMap_cons,<-ih,show (i+1)*5=i*5+5 by omega];rfl
theorem Vd {h h':Heap}{e:TypeId}{sz:Nat}{b n c:Nat}{l:List Value}(O:Own h e sz (some ⟨b,0,none⟩) n c l){k:Nat}{w:List Value}(hk:k+w.length<=l.length){cs:List Value}(o:h[b]?=some (.cells ⟨cs⟩ e (0,0)))(o':h'[b]?=some (.cells ⟨bC k w cs⟩ e (0,0))):Own h' e sz (some ⟨b,0,none⟩) n c (bC k w l):=by
 rcases O with ⟨h0,_⟩|⟨b',cs',hb,ob,ht,h1,h2,h3⟩
 ·cases h0
 ·cases hb;rw [o] at ob;cases ob;refine .inr ⟨b,_,rfl,o',?_,by rw [yR];exact h1,by rw [yR];exact h2,h3⟩;rw [yR,rM _ _ _ _ hk,ht]
theorem cZ.Vb {h h':Heap}{z t:Nat}{aT:Option Addr}{cT:Nat}{L:List bV}(H:cZ h z t aT cT L){k:Nat}(hk:k<L.length){bT:Nat}(bL:aT=some ⟨bT,0,none⟩){eU:List Value}(o:h[bT]?=some (.cells ⟨eU⟩ 77 (0,0)))(kk:Keeps [bT] h h')(x:bV)
 (o':h'[bT]?=some (.cells ⟨bC (k*5) x.cells eU⟩ 77 (0,0))) (hx:FC h z x):cZ h' z t aT cT (L.set k x):=by
 have ht:t≠bT:=qO H.tr o (by decide);have O':=Vd (bL ▸ H.own) (k:=k*5) (w:=x.cells) (by rw [ny];show k*5+5<=_;omega) o o';rw [LU L k hk x,<-bL] at O';have nk:∀ y:bV,Own h 93 2 y.a y.n y.c (bS y.nd.names)->Own h' 93 2 y.a y.n y.c (bS y.nd.names):=λy oy=>oy.keep kk (λb hb hx=>by
  obtain ⟨cs,oc⟩:=nD oy b hb;have:=qO oc o (by decide);simp at hx;exact this hx)
 refine ⟨by rw [List.length_set];exact kk.obj H.tr (by simpa using ht),by rw [List.length_set];exact O',λy hy=>?_,H.zt⟩;rcases List.mem_or_eq_of_mem_set hy with hy|rfl
 ·obtain ⟨n1,n2,n3,n4,n5⟩:=H.jy y hy;exact ⟨n1,nk y n2,n3,n4,n5⟩
 ·exact ⟨hx.1,nk y hx.2.1,hx.2.2⟩
theorem su {T:List aS}(W:nC T){path:List UInt8}{follow:Bool}(h0:(aW (aY T) path follow).2=0):inT T (aW (aY T) path follow).1:=by
 have hin1:inT T 1:=by have:=W.two;exact ⟨by omega,by omega⟩
 unfold aW at h0 ⊢;cases hp:bH path with
 | none=>rw [hp] at h0;cases h0
 | some l=>
  rw [hp] at h0;exact ((sj W.alike (root:=1) (follow:=follow) hin1 600 1 0 l hin1).2 h0).2
theorem cZ.node {h:Heap}{z t:Nat}{aT:Option Addr}{cT:Nat}{L:List bV}(H:cZ h z t aT cT L){i:Int}(hi:inT (aC L) i):∃ (k:Nat) (hk:k<L.length) (bT:Nat) (eU:List Value),i=(k:Int)/\i.toNat=k/\tn (aC L) i=(L[k]'hk).nd/\aT=some ⟨bT,0,none⟩/\h[bT]?=some (.cells ⟨eU⟩ 77 (0,0))/\L.length*5<=eU.length/\z<=bT/\∀ j,j<5->Heap.cell? h bT (0+k*5+j)=((L[k]'hk).cells)[j]?:=by
 have h1:=hi.1;have h2:=hi.2;rw [mD] at h2;have hk:i.toNat<L.length:=by omega
 obtain ⟨bT,eU,q1,q2,q3,q4,q5⟩:=H.blk hk;refine ⟨i.toNat,hk,bT,eU,by omega,rfl,?_,q1,q2,q3,q4,q5⟩;have:=uG hk;rw [Int.toNat_of_nonneg (by omega)] at this;exact this
def wJ (T:List aS)(old name:List UInt8)(e:Int)(T':List aS):Prop:=
 ((aW (aY T) old false).2≠0/\e=(aW (aY T) old false).2) \/
 ((aW (aY T) old false).2=0/\(tn T (aW (aY T) old false).1).kind=2/\e=7) \/
 ((
  aW (aY T) old false).2=0/\(tn T (aW (aY T) old false).1).kind≠2 /\
  (
   ((bD (aY T) name).2.2.2≠0/\e=(bD (aY T) name).2.2.2) \/
   ∃ d nm nd,lV T name d nm nd/\((nd≠0/\e=5)\/(nd=0/\255<=(tn T (aW (aY T) old false).1).links/\e=10) \/
    (nd=0/\(tn T (aW (aY T) old false).1).links<255/\e=0/\T'=bM (bM T (aW (aY T) old false).1 { tn T (aW (aY T) old false).1 with links:=IntKind.i64.wrap ((tn T (aW (aY T) old false).1).links+1) }) d { tn T d with names:=bF (tn T d).names ⟨nm,(aW (aY T) old false).1⟩ }))))
theorem UR {h:Heap}{z t:Nat}{aT:Option Addr}{cT:Nat}{L:List bV}(H:cZ h z t aT cT L)(hz:z<=h.size)(W:kV L)(old name:List UInt8)(ho:old.length<=1048576)(hp:name.length<=1048576) :
 aD Tryz.prog 46 [.pointer (some ⟨t,0,none⟩),.string (ba old),.string (ba name)] h (λv h'=>Keeps (t::ay aT) h h'/\∃ e:Int,v=.int .i64 e/\∃ d9 eF L',cZ h' z t d9 eF L'/\wJ (aC L) old name e (aC L')):=by
 have hlen:=W.len;have m0:∀ x∈([]:List Nat),x∈t::ay aT:=by simp
 refine aH aI Tryz.func46 rfl ok46 (by simp [Tryz.f46]) ?_;(conv=>whnf);refine au.i (yO H W.w W.dl old ho false) λv h1 k1 hv=>?_;subst hv;have z1:=k1.size;have H1:=H.keep k1 (by simp);by_cases h0:(aW (aY (aC L)) old false).2=0
 ·have hin:=su W.w h0;unfold wJ;generalize aW (aY (aC L)) old false=p at h0 hin ⊢;obtain ⟨x,px⟩:=p;simp only at h0 hin;subst h0;simp only;(conv=>whnf);refine ak.f rfl ?_;obtain ⟨k,hk,bT,eU,ek,ek2,dn,bL,oT,hle,hzb,hcl⟩:=H1.node hin;(conv=>whnf);refine ax.o H1.tr rfl ?_;(conv=>whnf);refine aQ.i k ek hk bL ?_;(conv=>whnf);refine ax.i (hcl 1 (by decide)) ?_;by_cases hk2:(L[k]'hk).nd.kind=2
  ·(conv=>whnf);refine ak.t (by simp [hk2]) ?_;(conv=>whnf);exact ⟨k1.mono m0,7,rfl,aT,cT,L,H1,.inr (.inl ⟨trivial,by rw [dn];exact hk2,rfl⟩)⟩
  ·(conv=>whnf);refine ak.f (by simp [hk2]) ?_;(conv=>whnf);refine au.i (yP H1 W.w W.dl name hp) λv h2 k2 hv=>?_;subst hv;have z2:=k2.size;have H2:=H1.keep k2 (by simp);have k02:=k1.trans k2;unfold vV;by_cases hp0:(bD (aY (aC L)) name).2.2.2=0
   ·obtain ⟨d,nm,nd,P⟩:=yQ W.w hp0;rw [P.is];(conv=>whnf);refine ak.f rfl ?_;by_cases hnd:nd=0
    ·subst hnd;(conv=>whnf);refine ak.f rfl ?_;obtain ⟨k',hk',FH,BD,vS,vT,nA,pV,BF,hle',LD,hcl'⟩:=H2.node hin;have:k'=k:=by omega
     subst this;rw [bL] at pV;cases pV;(conv=>whnf);refine ax.o H2.tr rfl ?_;(conv=>whnf);refine aQ.i k' ek hk bL ?_;(conv=>whnf);refine ax.i (hcl' 2 (by decide)) ?_;by_cases h255:255<=(L[k']'hk).nd.links
     ·(conv=>whnf);refine ak.t (by simp;exact h255) ?_;(conv=>whnf);exact ⟨k02.mono m0,10,rfl,aT,cT,L,H2,.inr (.inr ⟨trivial,by rw [dn];exact hk2,.inr ⟨d,nm,0,P,.inr (.inl ⟨rfl,by rw [dn];exact h255,rfl⟩)⟩⟩)⟩
     ·(conv=>whnf);refine ak.f (by simp;omega) ?_;(conv=>whnf);refine ax.o H2.tr rfl ?_;(conv=>whnf);refine aQ.i k' ek hk bL ?_;(conv=>whnf);refine ax.i (hcl' 2 (by decide)) ?_;(conv=>whnf);refine aQ.i k' ek hk bL ?_;(conv=>whnf);refine dO.i BF ?_ (by simp [aA]) λh3 s3 o3 k3=>?_
      ·show 0+k'*5+2+1<=BD.length;omega
      have z3:=k3.size;have mO:h3[bT]?=some (.cells ⟨bC (k'*5+2) [.int .i64 (IntKind.i64.wrap ((L[k']'hk).nd.links+1))] BD⟩ 77 (0,0)):=by
       have:0+k'*5+2=k'*5+2:=by omega
       rw [<-this];exact o3
      have H3:=H2.set hk bL BF k3 (j:=2) (by decide) mO ⟨{ (L[k']'hk).nd with links:=IntKind.i64.wrap ((L[k']'hk).nd.links+1) },(L[k']'hk).a,(L[k']'hk).n,(L[k']'hk).c⟩ rfl (by obtain ⟨n1,n2,n3,n4,n5⟩:=H2.jy _ (List.getElem_mem hk);exact ⟨n1,n2,n3,n4,n5⟩);have k03:Keeps (t::ay aT) h h3:=(k02.mono m0).gL k3 (λy hy=>by
       have:y=bT:=by simpa using hy
       left;rw [bL];simp [ay,this])
      generalize hx:(⟨{ (L[k']'hk).nd with links:=IntKind.i64.wrap ((L[k']'hk).nd.links+1) },(L[k']'hk).a,(L[k']'hk).n,(L[k']'hk).c⟩:bV)=X at H3;have hd:=P.inn;have hd1:=hd.1;have hd2:=hd.2;rw [mD] at hd2;have e1:d=((d.toNat:Nat):Int):=by omega
      have hkd:d.toNat<L.length:=by omega
      have qP:tn (aC L) d=(L[d.toNat]'hkd).nd:=by have:=uG hkd;rw [<-e1] at this;exact this
      have hne:k'≠d.toNat:=by
       intro e;have hpk:=P.kind;rw [qP] at hpk;apply hk2;simp only [e];exact hpk
      have hkd3:d.toNat<(L.set k' X).length:=by rw [List.length_set];exact hkd
      have eL:((L.set k' X)[d.toNat]'hkd3)=L[d.toNat]'hkd:=List.getElem_set_ne hne _;have hpn:=P.uJ W.w;rw [qP] at hpn;have ad:=FJ H3 (by omega) hkd3 (by rw [List.length_set];omega) P.len P.name (by rw [eL];exact hpn) (x:=x) ⟨by omega,by omega⟩ (by rw [eL];exact W.few _ (List.getElem_mem hkd));rw [eL,<-e1] at ad;(conv=>whnf);refine au.m ad (by simp [aA]) λv h5 k5 hv=>?_;obtain ⟨rfl,a5,c5,H5⟩:=hv;(conv=>whnf);refine ⟨k03.gL k5 (λy hy=>.inl (by simp [hy])),0,rfl,aT,cT,_,H5,.inr (.inr ⟨trivial,by rw [dn];exact hk2,.inr ⟨d,nm,0,P,.inr (.inr ⟨rfl,by rw [dn];omega,rfl,?_⟩)⟩⟩)⟩;rw [nV,nV,<-hx];unfold bM;rw [dn,qP,ek2]
    ·(conv=>whnf);refine ak.t (by simp [hnd]) ?_;(conv=>whnf);exact ⟨k02.mono m0,5,rfl,aT,cT,L,H2,.inr (.inr ⟨trivial,by rw [dn];exact hk2,.inr ⟨d,nm,nd,P,.inl ⟨hnd,rfl⟩⟩⟩)⟩
   ·(conv=>whnf);refine ak.t (by simp [hp0]) ?_;(conv=>whnf);exact ⟨k02.mono m0,_,rfl,aT,cT,L,H2,.inr (.inr ⟨trivial,by rw [dn];exact hk2,.inl ⟨hp0,rfl⟩⟩)⟩
 ·(conv=>whnf);refine ak.t (by simp [h0]) ?_;(conv=>whnf);exact ⟨k1.mono m0,_,rfl,aT,cT,L,H1,.inl ⟨h0,rfl⟩⟩
def wz (x:aS):aS:=if IntKind.i64.wrap (x.links-1)=0 then ⟨0,0,0,[],[]⟩ else { x with links:=IntKind.i64.wrap (x.links-1) }
def sH (T:List aS)(path:List UInt8)(isDir:Bool)(e:Int)(T':List aS):Prop:=
 ((bD (aY T) path).2.2.2≠0/\e=(bD (aY T) path).2.2.2) \/
 ∃ d nm nd,lV T path d nm nd/\((nd=0/\e=4)\/(nd≠0/\isDir=false/\(tn T nd).kind=2/\e=7)\/(nd≠0/\isDir=true/\(tn T nd).kind≠2/\e=6) \/
  (nd≠0/\isDir=true/\(tn T nd).kind=2/\(tn T nd).names≠[]/\e=8) \/
  (nd≠0/\(isDir=true↔(tn T nd).kind=2)/\(isDir=true->(tn T nd).names=[])/\e=0 /\
   T'=bM (bM T d { tn T d with names:=(tn T d).names.eraseIdx (aO (tn T d).names nm) }) nd (wz (tn (bM T d { tn T d with names:=(tn T d).names.eraseIdx (aO (tn T d).names nm) }) nd))))
theorem LC {h:Heap}{z t:Nat}{aT:Option Addr}{cT:Nat}{L:List bV}(H:cZ h z t aT cT L)(hz:z<=h.size)(W:kV L)(path:List UInt8)(hp:path.length<=1048576)(isDir:Bool) :
 aD Tryz.prog 48 [.pointer (some ⟨t,0,none⟩),.string (ba path),.bool isDir] h (λv h'=>Keeps (t::ay aT) h h'/\∃ e:Int,v=.int .i64 e/\∃ d9 eF L',cZ h' z t d9 eF L'/\sH (aC L) path isDir e (aC L')):=by
 have hlen:=W.len;have m0:∀ x∈([]:List Nat),x∈t::ay aT:=by simp
 refine aH aI Tryz.func48 rfl ok48 (by simp [Tryz.f48]) ?_;(conv=>whnf);refine au.i (yP H W.w W.dl path hp) λv h1 k1 hv=>?_;subst hv;have z1:=k1.size;have H1:=H.keep k1 (by simp);unfold vV;by_cases h0:(bD (aY (aC L)) path).2.2.2=0
 ·obtain ⟨d,nm,nd,P⟩:=yQ W.w h0;rw [P.is];(conv=>whnf);refine ak.f rfl ?_;by_cases hnd:nd=0
  ·subst hnd;(conv=>whnf);refine ak.t rfl ?_;(conv=>whnf);exact ⟨k1.mono m0,4,rfl,aT,cT,L,H1,.inr ⟨d,nm,0,P,.inl ⟨rfl,rfl⟩⟩⟩
  ·(conv=>whnf);refine ak.f (by simp [hnd]) ?_;obtain ⟨en,hen,hen1,hen2,hin⟩:=P.there W.w hnd;obtain ⟨hpt,hkl,hkn,_⟩:=wG (W.w.dir d P.inn P.kind).2.2 hen;obtain ⟨k,hk,bT,eU,ek,ek2,dn,bL,oT,hle,hzb,hcl⟩:=H1.node hin;obtain ⟨n1,n2,n3,n4,n5⟩:=H1.jy _ (List.getElem_mem hk);cases isDir
   case' false=>
    (conv=>whnf);refine ax.o H1.tr rfl ?_;(conv=>whnf);refine aQ.i k ek hk bL ?_;(conv=>whnf);refine ax.i (hcl 1 (by decide)) ?_;(conv=>whnf);refine ak.i (λhc=>?_) (λhc=>?_)
   case' false.refine_1=>
    (conv=>whnf);refine ⟨k1.mono m0,7,rfl,aT,cT,L,H1,.inr ⟨d,nm,nd,P,.inr (.inl ⟨hnd,rfl,by rw [dn];simpa using hc,rfl⟩)⟩⟩
   case' true=>
    (conv=>whnf);refine ax.o H1.tr rfl ?_;(conv=>whnf);refine aQ.i k ek hk bL ?_;(conv=>whnf);refine ax.i (hcl 1 (by decide)) ?_;(conv=>whnf);refine ak.f (by simp) ?_;(conv=>whnf);refine ax.o H1.tr rfl ?_;(conv=>whnf);refine aQ.i k ek hk bL ?_;(conv=>whnf);refine ax.i (hcl 1 (by decide)) ?_;(conv=>whnf);refine ak.i (λhc=>?_) (λhc=>?_)
   case' true.refine_1=>
    (conv=>whnf);refine ⟨k1.mono m0,6,rfl,aT,cT,L,H1,.inr ⟨d,nm,nd,P,.inr (.inr (.inl ⟨hnd,rfl,by rw [dn];simpa using hc,rfl⟩))⟩⟩
   case' true.refine_2=>
    (conv=>whnf);refine ax.o H1.tr rfl ?_;(conv=>whnf);refine aQ.i k ek hk bL ?_;(conv=>whnf);refine ax.i (hcl 4 (by decide)) ?_;(conv=>whnf);refine ak.i (λhd=>?_) (λhd=>?_)
   case' true.refine_2.refine_1=>
    (conv=>whnf);refine ⟨k1.mono m0,8,rfl,aT,cT,L,H1,.inr ⟨d,nm,nd,P,.inr (.inr (.inr (.inl ⟨hnd,rfl,by rw [dn];simpa using hc,?_,rfl⟩)))⟩⟩;rw [dn];intro he;rw [n1,he] at hd;simp at hd
   case' false.refine_2=>
    (conv=>whnf);refine ax.o H1.tr rfl ?_;(conv=>whnf);refine aQ.i k ek hk bL ?_;(conv=>whnf);refine ax.i (hcl 1 (by decide)) ?_;(conv=>whnf);refine ak.f (by simp) ?_;(conv=>whnf);refine ax.o H1.tr rfl ?_;(conv=>whnf);refine aQ.i k ek hk bL ?_;(conv=>whnf);refine ax.i (hcl 4 (by decide)) ?_;(conv=>whnf);refine ak.f (by simp) ?_;have hiff:(false=true↔(L[k]'hk).nd.kind=2):=⟨λh=>(by cases h),λh=>(by simp [h] at hc)⟩;have hemp:false=true->(L[k]'hk).nd.names=[]:=λh=>(by cases h)
   case' true.refine_2.refine_2=>
    have hiff:(true=true↔(L[k]'hk).nd.kind=2):=⟨λ_=>by simpa using hc,λ_=>rfl⟩;have hemp:true=true->(L[k]'hk).nd.names=[]:=λ_=>(by rw [n1] at hd;simpa using hd)
   all_goals
    have hd:=P.inn;have hd1:=hd.1;have hd2:=hd.2;rw [mD] at hd2;have e1:d=((d.toNat:Nat):Int):=by omega
    have hkd:d.toNat<L.length:=by omega
    have qP:tn (aC L) d=(L[d.toNat]'hkd).nd:=by have:=uG hkd;rw [<-e1] at this;exact this
    have ad:=LJ H1 (by omega) hkd P.len (by rw [<-qP];exact hpt);rw [<-e1] at ad;(conv=>whnf);refine au.m ad (by simp [aA]) λv h2 k2 hv=>?_;obtain ⟨rfl,a2,c2,H2⟩:=hv;have z2:=k2.size;have hT2:aC (L.set d.toNat ⟨{ (L[d.toNat]'hkd).nd with names:=(L[d.toNat]'hkd).nd.names.eraseIdx (aO (L[d.toNat]'hkd).nd.names nm) },a2,((L[d.toNat]'hkd).nd.names.eraseIdx (aO (L[d.toNat]'hkd).nd.names nm)).length,c2⟩)=bM (aC L) d { tn (aC L) d with names:=(tn (aC L) d).names.eraseIdx (aO (tn (aC L) d).names nm) }:=by
     rw [nV,qP];rfl
    generalize L.set d.toNat ⟨{ (L[d.toNat]'hkd).nd with names:=(L[d.toNat]'hkd).nd.names.eraseIdx (aO (L[d.toNat]'hkd).nd.names nm) },a2,((L[d.toNat]'hkd).nd.names.eraseIdx (aO (L[d.toNat]'hkd).nd.names nm)).length,c2⟩=L2 at H2 hT2;have hin2:inT (aC L2) nd:=by rw [hT2];exact (BG _).2 hin
    obtain ⟨q,hq,bQ,LM,eq,eq2,LP,LQ,oQ,WT,WU,U9⟩:=H2.node hin2;rw [bL] at LQ;cases LQ;(conv=>whnf);refine ax.o H2.tr rfl ?_;(conv=>whnf);refine aQ.i q eq hq bL ?_;(conv=>whnf);refine ax.i (U9 2 (by decide)) ?_;(conv=>whnf);refine aQ.i q eq hq bL ?_;(conv=>whnf);refine dO.i oQ ?_ (by simp [aA]) λh3 s3 o3 k3=>?_
    ·show 0+q*5+2+1<=LM.length;omega
    have z3:=k3.size;have mO:h3[bT]?=some (.cells ⟨bC (q*5+2) [.int .i64 (IntKind.i64.wrap ((L2[q]'hq).nd.links-1))] LM⟩ 77 (0,0)):=by
     have:0+q*5+2=q*5+2:=by omega
     rw [<-this];exact o3
    have H3:=H2.set hq bL oQ k3 (j:=2) (by decide) mO ⟨{ (L2[q]'hq).nd with links:=IntKind.i64.wrap ((L2[q]'hq).nd.links-1) },(L2[q]'hq).a,(L2[q]'hq).n,(L2[q]'hq).c⟩ rfl (by obtain ⟨n1,n2,n3,n4,n5⟩:=H2.jy _ (List.getElem_mem hq);exact ⟨n1,n2,n3,n4,n5⟩);have FL:bT∈t::ay aT:=by rw [bL];simp [ay]
    have k02:Keeps (t::ay aT) h h2:=(k1.mono m0).trans (k2.mono (by intro x hx;simp [hx]));have k03:Keeps (t::ay aT) h h3:=k02.gL k3 (λy hy=>by
     have:y=bT:=by simpa using hy
     left;rw [this];exact FL)
    generalize hx:(⟨{ (L2[q]'hq).nd with links:=IntKind.i64.wrap ((L2[q]'hq).nd.links-1) },(L2[q]'hq).a,(L2[q]'hq).n,(L2[q]'hq).c⟩:bV)=X at H3;have hq3:q<(L2.set q X).length:=by rw [List.length_set];exact hq
    have eX:(L2.set q X)[q]'hq3=X:=List.getElem_set_self _;obtain ⟨b4,cs4,ha4,o4,hle4,_,hcl4⟩:=H3.blk hq3;rw [bL] at ha4;cases ha4;rw [eX] at hcl4;have Va:X.nd.links=IntKind.i64.wrap ((tn (aC L2) nd).links-1):=by rw [<-hx,LP]
    have hc2:X.cells[2]?=some (.int .i64 (IntKind.i64.wrap ((tn (aC L2) nd).links-1))):=by rw [<-Va];rfl
    (conv=>whnf);(try refine aU.pass ?_;conv=>whnf);refine ax.o H3.tr rfl ?_;(conv=>whnf);refine aQ.i q eq hq3 bL ?_;(conv=>whnf);refine ax.i ((hcl4 2 (by decide)).trans hc2) ?_;(conv=>whnf);refine ak.i (λhw=>?_) (λhw=>?_)
    ·have hw0:IntKind.i64.wrap ((tn (aC L2) nd).links-1)=0:=by simpa using hw
     (conv=>whnf);refine ax.o H3.tr rfl ?_;(conv=>whnf);refine aQ.i q eq hq3 bL ?_;(conv=>whnf);refine dO.i o4 ?_ (by simp [aA]) λh5 s5 o5 k5=>?_
     ·show 0+q*5+5<=cs4.length;rw [List.length_set] at hle4;omega
     (conv=>whnf);have Ep:h5[bT]?=some (.cells ⟨bC (q*5) (bV.cells ⟨⟨0,0,0,[],[]⟩,none,0,0⟩) cs4⟩ 77 (0,0)):=by
      have:0+q*5=q*5:=by omega
      rw [<-this];exact o5
     have H5:=H3.Vb hq3 bL o4 k5 ⟨⟨0,0,0,[],[]⟩,none,0,0⟩ Ep ⟨rfl,.inl ⟨rfl,rfl,rfl,rfl⟩,λb hb=>(by cases hb),λe he=>(by cases he),Nat.zero_le _⟩;refine ⟨k03.gL k5 (λy hy=>by
      have:y=bT:=by simpa using hy
      left;rw [this];exact FL),0,rfl,aT,cT,_,H5,.inr ⟨d,nm,nd,P,.inr (.inr (.inr (.inr ⟨hnd,by rw [dn];exact hiff,by rw [dn];exact hemp,rfl,?_⟩)))⟩⟩
     rw [nV,nV,List.set_set,<-hT2];unfold bM wz;rw [if_pos hw0,eq2]
    ·have hw0:IntKind.i64.wrap ((tn (aC L2) nd).links-1)≠0:=by simpa using hw
     (conv=>whnf);refine ⟨k03,0,rfl,aT,cT,_,H3,.inr ⟨d,nm,nd,P,.inr (.inr (.inr (.inr ⟨hnd,by rw [dn];exact hiff,by rw [dn];exact hemp,rfl,?_⟩)))⟩⟩;rw [nV,<-hT2,<-hx];unfold bM wz;rw [if_neg hw0,eq2,LP]
 ·(conv=>whnf);refine ak.t (by simp [h0]) ?_;(conv=>whnf);exact ⟨k1.mono m0,_,rfl,aT,cT,L,H1,.inl ⟨h0,rfl⟩⟩
end Go.Proofs.YtoociceebodfeaaGreatDoor
