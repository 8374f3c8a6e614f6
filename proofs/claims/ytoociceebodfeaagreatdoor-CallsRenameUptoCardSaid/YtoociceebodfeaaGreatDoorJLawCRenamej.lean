/-
  Joined texts: RelB, RelC, RelD, WalH, WalI, WldA, SplA, SplB, TreC, TreD, TreE.
-/
import Derived.Test.YtoociceebodfeaaGreatDoorJLawCRenamei
import Derived.Test.YtoociceebodfeaaGreatDoorJLawCRenameh
import Derived.Test.YtoociceebodfeaaGreatDoorJLawCRenameg
set_option linter.all false
set_option maxRecDepth 100000
set_option maxHeartbeats 4000000
namespace Go.Proofs.YtoociceebodfeaaGreatDoor
open Go Go.aN
theorem Py {T:List aD}{x:aD}{i:Int}(hi:0<=i/\i<T.length+1):tn (T++[x]) i=if i=T.length then x else tn T i:=by
 unfold tn;by_cases e:i=T.length
 ·rw [if_pos e];have:i.toNat=T.length:=by omega
  rw [this];simp
 ·rw [if_neg e,List.getElem?_append_left (by omega)]
theorem bX.made {S S':FS}{T:List aD}{num:List Int}(W:bX S T num){d n kind:Int}{nm data:List UInt8}(hd:live T d)(hk:(tn T d).kind=2)(hn0:(S.C n).kind=0)(hn:1<=n/\n<24)(hp:dA (tn T d).names nm=false)(hkind:1<=kind/\kind<=3)(hdd:kind=2->data=[])
 (hC:∀ x,(S'.C x).kind=if x=n then kind else (S.C x).kind) (hL:∀ x,0<=x->x<24->(S.C x).kind≠0\/x=n->(S'.C x).links=if x=n then 1 else (S.C x).links)
 (hN:∀ x,S'.nm x=if x=nu num d then bD (S.nm (nu num d)) ⟨nm,n⟩ else if x=n then [] else S.nm x) (hB:∀ x,S'.aQ x=if x=n then data else S.aQ x) :
 bX S' (bJ T d { tn T d with names:=bD (tn T d).names ⟨nm,(T.length:Int)⟩ }++[⟨T.length,kind,1,data,[]⟩]) (num++[n]):=by
 have hl:=W.len;have xw:=W.two;have hd0:=hd.1.1;have hd1:=hd.1.2;have Dc:=oL T d { tn T d with names:=bD (tn T d).names ⟨nm,(T.length:Int)⟩ };have hL2:(bJ T d { tn T d with names:=bD (tn T d).names ⟨nm,(T.length:Int)⟩ }++[(⟨T.length,kind,1,data,[]⟩:aD)]).length=T.length+1:=by rw [List.length_append,Dc];rfl
 have htn:∀ i:Int,0<=i->i<T.length+1->tn (bJ T d { tn T d with names:=bD (tn T d).names ⟨nm,(T.length:Int)⟩ }++[(⟨T.length,kind,1,data,[]⟩:aD)]) i=if i=T.length then ⟨T.length,kind,1,data,[]⟩ else if i=d then { tn T d with names:=bD (tn T d).names ⟨nm,(T.length:Int)⟩ } else tn T i:=by
  intro i i0 i1;rw [Py (by rw [Dc];omega),Dc];by_cases e:i=T.length
  ·rw [if_pos e,if_pos e]
  ·rw [if_neg e,if_neg e,lQ hd.1 _ i0]
 have hnu:∀ i:Int,0<=i->i<T.length+1->nu (num++[n]) i=if i=T.length then n else nu num i:=by
  intro i i0 i1;unfold nu;by_cases e:i=T.length
  ·rw [if_pos e];have:i.toNat=num.length:=by omega
   rw [this];simp
  ·rw [if_neg e,List.getElem?_append_left (by omega)]
 have hkd:∀ i:Int,0<=i->i<T.length+1->(tn (bJ T d { tn T d with names:=bD (tn T d).names ⟨nm,(T.length:Int)⟩ }++[(⟨T.length,kind,1,data,[]⟩:aD)]) i).kind=if i=T.length then kind else (tn T i).kind:=by
  intro i i0 i1;rw [htn i i0 i1];by_cases e:i=T.length
  ·rw [if_pos e,if_pos e]
  ·rw [if_neg e,if_neg e];by_cases e2:i=d
   ·rw [if_pos e2,e2]
   ·rw [if_neg e2]
 generalize hT':bJ T d { tn T d with names:=bD (tn T d).names ⟨nm,(T.length:Int)⟩ }++[(⟨T.length,kind,1,data,[]⟩:aD)]=T' at hL2 htn hkd;have hlive:∀ i,live T' i↔live T i\/i=T.length:=by
  intro i;unfold live inT;rw [hL2]
  constructor
  ·rintro ⟨⟨h1,h2⟩,h3⟩;rw [hkd i (by omega) (by omega)] at h3;by_cases e:i=T.length
   ·exact .inr e
   ·rw [if_neg e] at h3;exact .inl ⟨⟨h1,by omega⟩,h3⟩
  ·rintro (⟨⟨h1,h2⟩,h3⟩|e)
   ·refine ⟨⟨h1,by omega⟩,?_⟩;rw [hkd i (by omega) (by omega),if_neg (by omega)];exact h3
   ·refine ⟨⟨by omega,by omega⟩,?_⟩;rw [hkd i (by omega) (by omega),if_pos e];omega
 have hne:∀ i,live T i->nu num i≠n:=by
  intro i hi e;have h1:=(W.kind i hi).1;have h2:=(W.kind i hi).2.1;rw [e,hn0] at h1;omega
 have hlt:∀ i,live T i->i≠T.length/\0<=i/\i<T.length:=λi hi=>by have:=hi.1.1;have:=hi.1.2;omega
 have hdn:nu num d≠n:=hne d hd;have hrn:∀ e:aF,live T e.node->rn (num++[n]) e=rn num e:=by
  intro e he;have:=hlt _ he;unfold rn;rw [hnu e.node (by omega) (by omega),if_neg this.1]
 have hrefs:∀ j,refs T' j=refs T j+if j=T.length then 1 else 0:=by
  intro j;rw [<-hT',Pz];have h1:=rO hd.1 { tn T d with names:=bD (tn T d).names ⟨nm,(T.length:Int)⟩ } j;have h2:dX (bD (tn T d).names ⟨nm,(T.length:Int)⟩) j=dX (tn T d).names j+if (T.length:Int)=j then 1 else 0:=Db _ _ _;have h3:dX ({ tn T d with names:=bD (tn T d).names ⟨nm,(T.length:Int)⟩ }:aD).names j=dX (tn T d).names j+if (T.length:Int)=j then 1 else 0:=h2;rw [h3] at h1;show _+dX [] j=_;rw [PD];by_cases e:j=T.length
  ·rw [if_pos e.symm] at h1;rw [if_pos e];omega
  ·rw [if_neg (λx=>e x.symm)] at h1;rw [if_neg e];omega
 refine ⟨by rw [hL2,List.length_append,hl];rfl,by rw [hL2];omega,?_,λi hi=>?_,λi j hi hj e=>?_,λi hi=>?_,λi hi=>?_,λi hi hki=>?_,λi hi hki=>?_,λi hi hki=>?_,?_,λx x0 x1 hx=>?_,λi hi h1=>?_,?_,?_⟩
 ·have h1:=hlt 1 W.live1;rw [hnu 1 (by omega) (by omega),hkd 1 (by omega) (by omega),if_neg h1.1,if_neg h1.1];exact W.root
 ·rcases (hlive i).1 hi with h|h
  ·have h1:=hlt i h;rw [hnu i (by omega) (by omega),if_neg h1.1];exact W.bH i h
  ·rw [hnu i (by omega) (by omega),if_pos h];exact hn
 ·rcases (hlive i).1 hi with h|h <;> rcases (hlive j).1 hj with g|g
  ·have h1:=hlt i h;have g1:=hlt j g;rw [hnu i (by omega) (by omega),hnu j (by omega) (by omega),if_neg h1.1,if_neg g1.1] at e;exact W.inj i j h g e
  ·have h1:=hlt i h;rw [hnu i (by omega) (by omega),hnu j (by omega) (by omega),if_neg h1.1,if_pos g] at e;exact absurd e (hne i h)
  ·have g1:=hlt j g;rw [hnu i (by omega) (by omega),hnu j (by omega) (by omega),if_pos h,if_neg g1.1] at e;exact absurd e.symm (hne j g)
  ·omega
 ·rcases (hlive i).1 hi with h|h
  ·have h1:=hlt i h;rw [hnu i (by omega) (by omega),hkd i (by omega) (by omega),if_neg h1.1,if_neg h1.1,hC,if_neg (hne i h)];exact W.kind i h
  ·rw [hnu i (by omega) (by omega),hkd i (by omega) (by omega),if_pos h,if_pos h,hC,if_pos rfl];exact ⟨rfl,hkind⟩
 ·rcases (hlive i).1 hi with h|h
  ·have h1:=hlt i h;have hr:=W.bH i h;have hk3:=W.kind i h;rw [hnu i (by omega) (by omega),htn i (by omega) (by omega),if_neg h1.1,if_neg h1.1,hL _ (by omega) hr.2 (.inl (by rw [hk3.1];omega)),if_neg (hne i h),W.links i h];by_cases e2:i=d
   ·rw [if_pos e2,e2]
   ·rw [if_neg e2]
  ·rw [hnu i (by omega) (by omega),htn i (by omega) (by omega),if_pos h,if_pos h,hL n (by omega) hn.2 (.inr rfl),if_pos rfl]
 ·rcases (hlive i).1 hi with h|h
  ·have h1:=hlt i h;rw [hkd i (by omega) (by omega),if_neg h1.1] at hki;obtain ⟨q1,q2,q3,q4⟩:=W.dir i h hki;rw [hnu i (by omega) (by omega),htn i (by omega) (by omega),if_neg h1.1,if_neg h1.1,hN];by_cases e2:i=d
   ·subst e2;rw [if_pos rfl,if_pos rfl];refine ⟨?_,λe he=>(hlive _).2 ?_,vC q3 hp,q4⟩
    ·rw [q1];show _=(bD (tn T i).names ⟨nm,(T.length:Int)⟩).map (rn (num++[n]));rw [zX (rn (num++[n])) (λ_=>rfl)];have e1:(tn T i).names.map (rn (num++[n]))=(tn T i).names.map (rn num):=List.map_congr_left λe he=>hrn e (q2 e he);have e3:rn (num++[n]) ⟨nm,(T.length:Int)⟩=⟨nm,n⟩:=by
      unfold rn;rw [show (⟨nm,(T.length:Int)⟩:aF).node=(T.length:Int) from rfl,hnu (T.length:Int) (by omega) (by omega),if_pos rfl]
     rw [e1,e3]
    ·have he':e∈bD (tn T i).names ⟨nm,(T.length:Int)⟩:=he;rcases List.mem_cons.1 ((mF _ _).mem_iff.1 he') with rfl|h3
     ·exact .inr rfl
     ·exact .inl (q2 e h3)
   ·rw [if_neg e2,if_neg (λx=>e2 (W.inj i d h hd x)),if_neg (hne i h)];exact ⟨by rw [q1];exact (List.map_congr_left λe he=>hrn e (q2 e he)).symm,λe he=>(hlive _).2 (.inl (q2 e he)),q3,q4⟩
  ·rw [hkd i (by omega) (by omega),if_pos h] at hki;rw [hnu i (by omega) (by omega),htn i (by omega) (by omega),if_pos h,if_pos h,hN,if_neg (λx=>hdn x.symm),if_pos rfl];exact ⟨rfl,by simp,List.Pairwise.nil,hdd hki⟩
 ·rcases (hlive i).1 hi with h|h
  ·have h1:=hlt i h;rw [hkd i (by omega) (by omega),if_neg h1.1] at hki;rw [hnu i (by omega) (by omega),htn i (by omega) (by omega),if_neg h1.1,if_neg h1.1,hB,if_neg (hne i h)];by_cases e2:i=d
   ·rw [e2] at hki;exact absurd hk hki
   ·rw [if_neg e2];exact W.data i h hki
  ·rw [hnu i (by omega) (by omega),htn i (by omega) (by omega),if_pos h,if_pos h,hB,if_pos rfl];exact ⟨rfl,rfl⟩
 ·have h1:=hi.1;have h2:=hi.2;rw [hL2] at h2;rw [hkd i (by omega) (by omega)] at hki;by_cases e:i=T.length
  ·rw [if_pos e] at hki;omega
  ·rw [if_neg e] at hki;rw [htn i (by omega) (by omega),if_neg e];by_cases e2:i=d
   ·rw [e2,hk] at hki;cases hki
   ·rw [if_neg e2];exact W.dead i ⟨h1,by omega⟩ hki
 ·rw [htn 0 (by omega) (by omega),if_neg (by omega),if_neg (by omega)];exact W.zero
 ·by_cases e:x=n
  ·exact ⟨(T.length:Int),(hlive _).2 (.inr rfl),by rw [hnu (T.length:Int) (by omega) (by omega),if_pos rfl,e]⟩
  ·rw [hC,if_neg e] at hx;obtain ⟨i,hi,he⟩:=W.all x x0 x1 hx;have h1:=hlt i hi;exact ⟨i,(hlive _).2 (.inl hi),by rw [hnu _ (by omega) (by omega),if_neg h1.1];exact he⟩
 ·rw [hrefs];rcases (hlive i).1 hi with h|h
  ·have h2:=hlt i h;rw [htn i (by omega) (by omega),if_neg h2.1,if_neg h2.1,Nat.add_zero];have h3:=W.cnt i h h1;by_cases e2:i=d
   ·rw [if_pos e2];show (tn T d).links=_;rw [<-e2];exact h3
   ·rw [if_neg e2];exact h3
  ·rw [htn i (by omega) (by omega),if_pos h,if_pos h];have h0:refs T i=0:=by
    apply Classical.byContradiction;intro hx;have h3:0<refs T i:=by omega
    unfold refs at h3;obtain ⟨e,he,hee⟩:=Ip.1 h3;obtain ⟨x,hx,hex⟩:=List.mem_flatMap.1 he;obtain ⟨k,hk2,rfl⟩:=List.mem_iff_getElem.1 hx;have htk:tn T (k:Int)=T[k]:=by
     unfold tn;rw [show ((k:Int)).toNat=k by omega,List.getElem?_eq_getElem hk2];rfl
    rw [<-htk] at hex;by_cases hk0:k=0
    ·subst hk0;have h5:(tn T ((0:Nat):Int)).names=[]:=W.zero;rw [h5] at hex;cases hex
    ·by_cases hz:(tn T (k:Int)).kind=0
     ·rw [W.dead (k:Int) ⟨by omega,by omega⟩ hz] at hex;cases hex
     ·have hlk:live T (k:Int):=⟨⟨by omega,by omega⟩,hz⟩;by_cases h2:(tn T (k:Int)).kind=2
      ·have:=(W.dir (k:Int) hlk h2).2.1 e hex;have:=hlt _ this;omega
      ·rw [(W.data (k:Int) hlk h2).2] at hex;cases hex
   rw [h0];rfl
 ·rw [hrefs,if_neg (by omega)];exact W.top
 ·obtain ⟨rk,hr⟩:=W.rank;refine ⟨λi=>if i=T.length then 0 else rk i+1,λi hi hki e he=>?_⟩;rcases (hlive i).1 hi with h|h
  ·have h1:=hlt i h;rw [hkd i (by omega) (by omega),if_neg h1.1] at hki;rw [htn i (by omega) (by omega),if_neg h1.1] at he;simp only;rw [if_neg h1.1];have key:e.node=T.length\/(e∈(tn T i).names):=by
    by_cases e2:i=d
    ·rw [if_pos e2] at he;have he':e∈bD (tn T d).names ⟨nm,(T.length:Int)⟩:=he;rcases List.mem_cons.1 ((mF _ _).mem_iff.1 he') with rfl|h3
     ·exact .inl rfl
     ·exact .inr (by rw [e2];exact h3)
    ·rw [if_neg e2] at he;exact .inr he
   rcases key with k1|k1
   ·rw [if_pos k1];omega
   ·have:=hr i h hki e k1;split
    ·omega
    ·omega
  ·rw [htn i (by omega) (by omega),if_pos h] at he;cases he
theorem dW {T:List aD}{i:Int}(h:live T i):0<=i:=by have:=h.1.1;omega
theorem bX.linked {S S':FS}{T:List aD}{num:List Int}(W:bX S T num){d x:Int}{nm:List UInt8}(hd:live T d)(hk:(tn T d).kind=2)(hx:live T x)(hkx:(tn T x).kind≠2)(hp:dA (tn T d).names nm=false)
 (hC:∀ y,(S'.C y).kind=(S.C y).kind) (hL:∀ y,0<=y->y<24->(S.C y).kind≠0->(S'.C y).links=if y=nu num x then (S.C y).links+1 else (S.C y).links)
 (hN:∀ y,S'.nm y=if y=nu num d then bD (S.nm (nu num d)) ⟨nm,nu num x⟩ else S.nm y) (hB:∀ y,S'.aQ y=S.aQ y) :
 bX S' (bJ (bJ T x { tn T x with links:=(tn T x).links+1 }) d { tn T d with names:=bD (tn T d).names ⟨nm,x⟩ }) num:=by
 have hne:x≠d:=λe=>hkx (by rw [e];exact hk);have hd1:inT (bJ T x { tn T x with links:=(tn T x).links+1 }) d:=(xh _).2 hd.1;have htn:∀ i:Int,0<=i->tn (bJ (bJ T x { tn T x with links:=(tn T x).links+1 }) d { tn T d with names:=bD (tn T d).names ⟨nm,x⟩ }) i=if i=d then { tn T d with names:=bD (tn T d).names ⟨nm,x⟩ } else if i=x then { tn T x with links:=(tn T x).links+1 } else tn T i:=by
  intro i i0;rw [lQ hd1 _ i0,lQ hx.1 _ i0]
 have hrefs:∀ j,refs (bJ (bJ T x { tn T x with links:=(tn T x).links+1 }) d { tn T d with names:=bD (tn T d).names ⟨nm,x⟩ }) j=refs T j+if x=j then 1 else 0:=by
  intro j;have h1:=rO hd1 { tn T d with names:=bD (tn T d).names ⟨nm,x⟩ } j;have h2:=rO hx.1 { tn T x with links:=(tn T x).links+1 } j;rw [lQ hx.1 _ (dW hd),if_neg (λe=>hne e.symm)] at h1;have h3:dX ({ tn T d with names:=bD (tn T d).names ⟨nm,x⟩ }:aD).names j=dX (tn T d).names j+if x=j then 1 else 0:=Db _ _ _;have h4:dX ({ tn T x with links:=(tn T x).links+1 }:aD).names j=dX (tn T x).names j:=rfl;rw [h3] at h1;rw [h4] at h2;omega
 have hlen:(bJ (bJ T x { tn T x with links:=(tn T x).links+1 }) d { tn T d with names:=bD (tn T d).names ⟨nm,x⟩ }).length=T.length:=by rw [oL,oL]
 generalize hT':bJ (bJ T x { tn T x with links:=(tn T x).links+1 }) d { tn T d with names:=bD (tn T d).names ⟨nm,x⟩ }=T' at htn hrefs hlen;have hkd:∀ i:Int,0<=i->(tn T' i).kind=(tn T i).kind:=by
  intro i i0;rw [htn i i0];by_cases e:i=d
  ·rw [if_pos e,e]
  ·rw [if_neg e];by_cases e2:i=x
   ·rw [if_pos e2,e2]
   ·rw [if_neg e2]
 have hlive:∀ i,live T' i↔live T i:=by
  intro i;unfold live inT;rw [hlen]
  constructor
  ·rintro ⟨⟨h1,h2⟩,h3⟩;rw [hkd i (by omega)] at h3;exact ⟨⟨h1,h2⟩,h3⟩
  ·rintro ⟨⟨h1,h2⟩,h3⟩;exact ⟨⟨h1,h2⟩,by rw [hkd i (by omega)];exact h3⟩
 have hnx:nu num x≠nu num d:=λe=>hne (W.inj x d hx hd e);refine ⟨W.len.trans hlen.symm,by rw [hlen];exact W.two,⟨W.root.1,by rw [hkd 1 (by omega)];exact W.root.2⟩,λi hi=>W.bH i ((hlive i).1 hi),λi j hi hj e=>W.inj i j ((hlive i).1 hi) ((hlive j).1 hj) e,λi hi=>?_,λi hi=>?_,λi hi hki=>?_,λi hi hki=>?_,λi hi hki=>?_,?_,λy y0 y1 hy=>?_,λi hi h1=>?_,?_,?_⟩
 ·have h:=(hlive i).1 hi;rw [hC,hkd i (dW h)];exact W.kind i h
 ·have h:=(hlive i).1 hi;have hr:=W.bH i h;have hk3:=W.kind i h;rw [hL _ (by omega) hr.2 (by rw [hk3.1];omega),htn i (dW h)];by_cases e:i=d
  ·rw [if_pos e,e,if_neg (λe2=>hnx e2.symm)];exact W.links d hd
  ·rw [if_neg e];by_cases e2:i=x
   ·rw [if_pos e2,e2,if_pos rfl];show _=(tn T x).links+1;rw [W.links x hx]
   ·rw [if_neg e2,if_neg (λe3=>e2 (W.inj i x h hx e3))];exact W.links i h
 ·have h:=(hlive i).1 hi;rw [hkd i (dW h)] at hki;obtain ⟨r1,r2,r3,r4⟩:=W.dir i h hki;rw [hN,htn i (dW h)];by_cases e:i=d
  ·subst e;rw [if_pos rfl,if_pos rfl];refine ⟨?_,λe he=>(hlive _).2 ?_,vC r3 hp,r4⟩
   ·rw [r1];exact (zX (rn num) (λ_=>rfl) (tn T i).names ⟨nm,x⟩).symm
   ·have he':e∈bD (tn T i).names ⟨nm,x⟩:=he;rcases List.mem_cons.1 ((mF _ _).mem_iff.1 he') with rfl|h3
    ·exact hx
    ·exact r2 e h3
  ·rw [if_neg e,if_neg (λe2=>e (W.inj i d h hd e2)),if_neg (λe2=>hkx (by rw [<-e2];exact hki))];exact ⟨r1,λe he=>(hlive _).2 (r2 e he),r3,r4⟩
 ·have h:=(hlive i).1 hi;rw [hkd i (dW h)] at hki;rw [hB,htn i (dW h),if_neg (λe=>hki (by rw [e];exact hk))];by_cases e2:i=x
  ·rw [if_pos e2];have:=W.data i h hki;rw [e2] at this ⊢;exact this
  ·rw [if_neg e2];exact W.data i h hki
 ·have h1:=hi.1;have hi':inT T i:=⟨h1,by have:=hi.2;rw [hlen] at this;exact this⟩;rw [hkd i (by omega)] at hki;rw [htn i (by omega),if_neg (λe=>hd.2 (by rw [<-e];exact hki)),if_neg (λe=>hx.2 (by rw [<-e];exact hki))];exact W.dead i hi' hki
 ·rw [htn 0 (by omega),if_neg (λe=>by have:=hd.1.1;omega),if_neg (λe=>by have:=hx.1.1;omega)];exact W.zero
 ·rw [hC] at hy;obtain ⟨i,h,he⟩:=W.all y y0 y1 hy;exact ⟨i,(hlive i).2 h,he⟩
 ·have h:=(hlive i).1 hi;have h3:=W.cnt i h h1;rw [hrefs,htn i (dW h)];by_cases e:i=d
  ·rw [if_pos e,if_neg (λe2=>hne (e2.trans e))];show (tn T d).links=_;rw [<-e,h3];rfl
  ·rw [if_neg e];by_cases e2:i=x
   ·rw [if_pos e2,if_pos e2.symm];show (tn T x).links+1=_;rw [<-e2,h3];rfl
   ·rw [if_neg e2,if_neg (λe3=>e2 e3.symm)];exact h3
 ·rw [hrefs,if_neg (λe=>hkx (by rw [e];exact W.root.2))];exact W.top
 ·obtain ⟨rk,hr⟩:=W.rank;refine ⟨λi=>if (tn T i).kind=2 then rk i+1 else 0,λi hi hki e he=>?_⟩;have h:=(hlive i).1 hi;rw [hkd i (dW h)] at hki;rw [htn i (dW h)] at he;simp only;rw [if_pos hki];have key:e.node=x\/e∈(tn T i).names:=by
   by_cases e2:i=d
   ·rw [if_pos e2] at he;have he':e∈bD (tn T d).names ⟨nm,x⟩:=he;rcases List.mem_cons.1 ((mF _ _).mem_iff.1 he') with rfl|h3
    ·exact .inl rfl
    ·exact .inr (by rw [e2];exact h3)
   ·rw [if_neg e2,if_neg (λe3=>hkx (by rw [<-e3];exact hki))] at he;exact .inr he
  rcases key with k1|k1
  ·rw [k1,if_neg hkx];omega
  ·have:=hr i h hki e k1;split <;> omega
theorem bX.wrote {S S':FS}{T:List aD}{num:List Int}(W:bX S T num){x:Int}{s:List UInt8}(hx:live T x)(hkx:(tn T x).kind≠2)
 (hC:∀ y,(S'.C y).kind=(S.C y).kind) (hL:∀ y,0<=y->y<24->(S.C y).kind≠0->(S'.C y).links=(S.C y).links)
 (hN:∀ y,S'.nm y=S.nm y) (hB:∀ y,S'.aQ y=if y=nu num x then s else S.aQ y):bX S' (bJ T x { tn T x with data:=s }) num:=by
 have htn:∀ i:Int,0<=i->tn (bJ T x { tn T x with data:=s }) i=if i=x then { tn T x with data:=s } else tn T i:=λi i0=>lQ hx.1 _ i0;have hrefs:∀ j,refs (bJ T x { tn T x with data:=s }) j=refs T j:=by
  intro j;have h2:=rO hx.1 { tn T x with data:=s } j;have h4:dX ({ tn T x with data:=s }:aD).names j=dX (tn T x).names j:=rfl;rw [h4] at h2;omega
 have hlen:(bJ T x { tn T x with data:=s }).length=T.length:=oL _ _ _;generalize hT':bJ T x { tn T x with data:=s }=T' at htn hrefs hlen;have hkd:∀ i:Int,0<=i->(tn T' i).kind=(tn T i).kind/\(tn T' i).links=(tn T i).links/\(tn T' i).names=(tn T i).names:=by
  intro i i0;rw [htn i i0];by_cases e2:i=x
  ·rw [if_pos e2,e2];exact ⟨rfl,rfl,rfl⟩
  ·rw [if_neg e2];exact ⟨rfl,rfl,rfl⟩
 have hlive:∀ i,live T' i↔live T i:=by
  intro i;unfold live inT;rw [hlen]
  constructor
  ·rintro ⟨⟨h1,h2⟩,h3⟩;rw [(hkd i (by omega)).1] at h3;exact ⟨⟨h1,h2⟩,h3⟩
  ·rintro ⟨⟨h1,h2⟩,h3⟩;exact ⟨⟨h1,h2⟩,by rw [(hkd i (by omega)).1];exact h3⟩
 refine ⟨W.len.trans hlen.symm,by rw [hlen];exact W.two,⟨W.root.1,by rw [(hkd 1 (by omega)).1];exact W.root.2⟩,λi hi=>W.bH i ((hlive i).1 hi),λi j hi hj e=>W.inj i j ((hlive i).1 hi) ((hlive j).1 hj) e,λi hi=>?_,λi hi=>?_,λi hi hki=>?_,λi hi hki=>?_,λi hi hki=>?_,?_,λy y0 y1 hy=>?_,λi hi h1=>?_,?_,?_⟩
 ·have h:=(hlive i).1 hi;rw [hC,(hkd i (dW h)).1];exact W.kind i h
 ·have h:=(hlive i).1 hi;have hr:=W.bH i h;have hk3:=W.kind i h;rw [hL _ (by omega) hr.2 (by rw [hk3.1];omega),(hkd i (dW h)).2.1];exact W.links i h
 ·have h:=(hlive i).1 hi;rw [(hkd i (dW h)).1] at hki;obtain ⟨r1,r2,r3,r4⟩:=W.dir i h hki;rw [hN,(hkd i (dW h)).2.2];refine ⟨r1,λe he=>(hlive _).2 (r2 e he),r3,?_⟩;rw [htn i (dW h),if_neg (λe=>hkx (by rw [<-e];exact hki))];exact r4
 ·have h:=(hlive i).1 hi;rw [(hkd i (dW h)).1] at hki;obtain ⟨d1,d2⟩:=W.data i h hki;rw [(hkd i (dW h)).2.2];refine ⟨?_,d2⟩;rw [hB,htn i (dW h)];by_cases e2:i=x
  ·rw [if_pos e2,e2,if_pos rfl]
  ·rw [if_neg e2,if_neg (λe3=>e2 (W.inj i x h hx e3))];exact d1
 ·have hi':inT T i:=⟨hi.1,by have:=hi.2;rw [hlen] at this;exact this⟩;have:=hi.1;rw [(hkd i (by omega)).1] at hki;rw [(hkd i (by omega)).2.2];exact W.dead i hi' hki
 ·rw [(hkd 0 (by omega)).2.2];exact W.zero
 ·rw [hC] at hy;obtain ⟨i,h,he⟩:=W.all y y0 y1 hy;exact ⟨i,(hlive i).2 h,he⟩
 ·have h:=(hlive i).1 hi;rw [hrefs,(hkd i (dW h)).2.1];exact W.cnt i h h1
 ·rw [hrefs];exact W.top
 ·obtain ⟨rk,hr⟩:=W.rank;refine ⟨rk,λi hi hki e he=>?_⟩;have h:=(hlive i).1 hi;rw [(hkd i (dW h)).1] at hki;rw [(hkd i (dW h)).2.2] at he;exact hr i h hki e he
theorem tN {l:List aF}(h:strict l)(k:Nat):strict (l.eraseIdx k):=h.sublist (List.eraseIdx_sublist l k)
theorem zR {α β:Type}(f:α->β):∀ (l:List α) (k:Nat),(l.eraseIdx k).map f=(l.map f).eraseIdx k
 | [],k=>by simp
 | x::l,0=>rfl
 | x::l,k+1=>by
  show f x::(l.eraseIdx k).map f=f x::(l.map f).eraseIdx k;rw [zR f l k]
theorem bX.ne_of {S:FS}{T:List aD}{num:List Int}(W:bX S T num){d:Int}(hd:live T d)(hk:(tn T d).kind=2){e:aF}(he:e∈(tn T d).names):e.node≠d/\e.node≠1:=by
 constructor
 ·intro h;obtain ⟨rk,hr⟩:=W.rank;have:=hr d hd hk e he;rw [h] at this;omega
 ·intro h;have:=zU hd.1 he;rw [h,W.top] at this;omega
theorem bX.lost {S S':FS}{T:List aD}{num:List Int}(W:bX S T num){d x:Int}{k:Nat}(hd:live T d)(hk:(tn T d).kind=2)(hkl:k<(tn T d).names.length)(hx:((tn T d).names[k]'hkl).node=x)(hne0:(tn T x).links=1->(tn T x).names=[])
 (hC:∀ y,(S'.C y).kind=if y=nu num x/\(tn T x).links=1 then 0 else (S.C y).kind)
 (hL:∀ y,0<=y->y<24->(S.C y).kind≠0->¬ (y=nu num x/\(tn T x).links=1)->(S'.C y).links=if y=nu num x then (S.C y).links-1 else (S.C y).links)
 (hN:∀ y,¬ (y=nu num x/\(tn T x).links=1)->S'.nm y=if y=nu num d then (S.nm (nu num d)).eraseIdx k else S.nm y) (hB:∀ y,¬ (y=nu num x/\(tn T x).links=1)->S'.aQ y=S.aQ y) :
 bX S' (bJ (bJ T d { tn T d with names:=(tn T d).names.eraseIdx k }) x (if (tn T x).links-1=0 then ⟨0,0,0,[],[]⟩ else { tn T x with links:=(tn T x).links-1 })) num:=by
 have hem:(tn T d).names[k]∈(tn T d).names:=List.getElem_mem hkl;obtain ⟨hxd,hx1⟩:=W.ne_of hd hk hem;rw [hx] at hxd hx1;have hlx:live T x:=by
  have:=(W.dir d hd hk).2.1 _ hem;rw [hx] at this;exact this
 have hcx:=W.cnt x hlx hx1;have zV:0<refs T x:=by
  have:=zU hd.1 hem;rw [hx] at this;exact this
 have Il:inT (bJ T d { tn T d with names:=(tn T d).names.eraseIdx k }) x:=(xh _).2 hlx.1;have hif:((tn T x).links-1=0)↔(tn T x).links=1:=by omega
 have htn:∀ i:Int,0<=i->tn (bJ (bJ T d { tn T d with names:=(tn T d).names.eraseIdx k }) x (if (tn T x).links-1=0 then ⟨0,0,0,[],[]⟩ else { tn T x with links:=(tn T x).links-1 })) i =
  if i=x then (if (tn T x).links-1=0 then ⟨0,0,0,[],[]⟩ else { tn T x with links:=(tn T x).links-1 }) else if i=d then { tn T d with names:=(tn T d).names.eraseIdx k } else tn T i:=by
  intro i i0;rw [lQ Il _ i0,lQ hd.1 _ i0]
 have hrefs:∀ j,refs (bJ (bJ T d { tn T d with names:=(tn T d).names.eraseIdx k }) x (if (tn T x).links-1=0 then ⟨0,0,0,[],[]⟩ else { tn T x with links:=(tn T x).links-1 })) j+(if x=j then 1 else 0)=refs T j:=by
  intro j;have h1:=rO Il (if (tn T x).links-1=0 then ⟨0,0,0,[],[]⟩ else { tn T x with links:=(tn T x).links-1 }) j;have h2:=rO hd.1 { tn T d with names:=(tn T d).names.eraseIdx k } j;rw [lQ hd.1 _ (dW hlx),if_neg hxd] at h1;have h3:dX (if (tn T x).links-1=0 then (⟨0,0,0,[],[]⟩:aD) else { tn T x with links:=(tn T x).links-1 }).names j=dX (tn T x).names j:=by
   by_cases h:(tn T x).links=1
   ·rw [if_pos (hif.2 h),hne0 h]
   ·rw [if_neg (λe=>h (hif.1 e))]
  have h4:dX ({ tn T d with names:=(tn T d).names.eraseIdx k }:aD).names j+(if x=j then 1 else 0)=dX (tn T d).names j:=by
   have:=Im hkl j;rw [hx] at this;exact this
  rw [h3] at h1;omega
 have hlen:(bJ (bJ T d { tn T d with names:=(tn T d).names.eraseIdx k }) x (if (tn T x).links-1=0 then ⟨0,0,0,[],[]⟩ else { tn T x with links:=(tn T x).links-1 })).length=T.length:=by rw [oL,oL]
 generalize hT':bJ (bJ T d { tn T d with names:=(tn T d).names.eraseIdx k }) x (if (tn T x).links-1=0 then ⟨0,0,0,[],[]⟩ else { tn T x with links:=(tn T x).links-1 })=T' at htn hrefs hlen;have hkd:∀ i:Int,0<=i->(tn T' i).kind=if i=x/\(tn T x).links=1 then 0 else (tn T i).kind:=by
  intro i i0;rw [htn i i0];by_cases e:i=x
  ·rw [if_pos e];by_cases h:(tn T x).links=1
   ·rw [if_pos (hif.2 h),if_pos ⟨e,h⟩]
   ·rw [if_neg (λe2=>h (hif.1 e2)),if_neg (λe2=>h e2.2),e]
  ·rw [if_neg e];by_cases e2:i=d
   ·rw [if_pos e2,if_neg (show ¬ (i=x/\(tn T x).links=1) from λe3=>e e3.1),e2]
   ·rw [if_neg e2,if_neg (show ¬ (i=x/\(tn T x).links=1) from λe3=>e e3.1)]
 have hlive:∀ i,live T' i↔live T i/\¬ (i=x/\(tn T x).links=1):=by
  intro i;unfold live inT;rw [hlen]
  constructor
  ·rintro ⟨⟨h1,h2⟩,h3⟩;rw [hkd i (by omega)] at h3;by_cases h:i=x/\(tn T x).links=1
   ·rw [if_pos h] at h3;exact absurd rfl h3
   ·rw [if_neg h] at h3;exact ⟨⟨⟨h1,h2⟩,h3⟩,h⟩
  ·rintro ⟨⟨⟨h1,h2⟩,h3⟩,h⟩;exact ⟨⟨h1,h2⟩,by rw [hkd i (by omega),if_neg h];exact h3⟩
 have zW:∀ i,live T i->¬ (i=x/\(tn T x).links=1)->¬ (nu num i=nu num x/\(tn T x).links=1):=λi hi h e=>h ⟨W.inj i x hi hlx e.1,e.2⟩;have oM:∀ i,live T' i->(tn T' i).names=if i=d then (tn T d).names.eraseIdx k else (tn T i).names:=by
  intro i hi;obtain ⟨h,hn⟩:=(hlive i).1 hi;rw [htn i (dW h)];by_cases e:i=x
  ·have hl1:¬ (tn T x).links=1:=λe2=>hn ⟨e,e2⟩;rw [if_pos e,if_neg (λe2=>hl1 (hif.1 e2)),if_neg (λe2=>hxd (e.symm.trans e2)),e]
  ·rw [if_neg e];by_cases e2:i=d
   ·rw [if_pos e2,if_pos e2]
   ·rw [if_neg e2,if_neg e2]
 have hlv:∀ i,live T' i->(tn T i).kind=2->∀ e∈(tn T' i).names,live T' e.node:=by
  intro i hi hki e he;obtain ⟨h,hn⟩:=(hlive i).1 hi;have hold:live T e.node:=by
   rw [oM i hi] at he;by_cases e2:i=d
   ·rw [if_pos e2] at he;exact (W.dir d hd hk).2.1 e (List.mem_of_mem_eraseIdx he)
   ·rw [if_neg e2] at he;exact (W.dir i h hki).2.1 e he
  refine (hlive _).2 ⟨hold,λIo=>?_⟩;have h1:=zU hi.1 he;have h2:=hrefs x;rw [if_pos rfl] at h2;rw [Io.1] at h1;have h3:=Io.2;omega
 have YN:live T' 1:=(hlive 1).2 ⟨W.live1,λe=>hx1 e.1.symm⟩;refine ⟨W.len.trans hlen.symm,by rw [hlen];exact W.two,⟨W.root.1,by rw [hkd 1 (by omega),if_neg (λe=>hx1 e.1.symm)];exact W.root.2⟩,λi hi=>W.bH i ((hlive i).1 hi).1,λi j hi hj e=>W.inj i j ((hlive i).1 hi).1 ((hlive j).1 hj).1 e,λi hi=>?_,λi hi=>?_,λi hi hki=>?_,λi hi hki=>?_,λi hi hki=>?_,?_,λy y0 y1 hy=>?_,λi hi h1=>?_,?_,?_⟩
 ·obtain ⟨h,hn⟩:=(hlive i).1 hi;rw [hC,hkd i (dW h),if_neg hn,if_neg (zW i h hn)];exact W.kind i h
 ·obtain ⟨h,hn⟩:=(hlive i).1 hi;have hr:=W.bH i h;have hk3:=W.kind i h;rw [hL _ (by omega) hr.2 (by rw [hk3.1];omega) (zW i h hn),htn i (dW h)];by_cases e:i=x
  ·have hl1:¬ (tn T x).links=1:=λe2=>hn ⟨e,e2⟩;rw [if_pos e,e,if_pos rfl,if_neg (λe2=>hl1 (hif.1 e2))];show _=(tn T x).links-1;rw [W.links x hlx]
  ·rw [if_neg e,if_neg (λe2=>e (W.inj i x h hlx e2))];by_cases e2:i=d
   ·rw [if_pos e2,e2];exact W.links d hd
   ·rw [if_neg e2];exact W.links i h
 ·obtain ⟨h,hn⟩:=(hlive i).1 hi;rw [hkd i (dW h),if_neg hn] at hki;obtain ⟨r1,r2,r3,r4⟩:=W.dir i h hki;have hnm:=oM i hi;refine ⟨?_,hlv i hi hki,?_,?_⟩
  ·rw [hN _ (zW i h hn),hnm];by_cases e:i=d
   ·rw [e,if_pos rfl,if_pos rfl,(W.dir d hd hk).1,zR]
   ·rw [if_neg e,if_neg (λe2=>e (W.inj i d h hd e2))];exact r1
  ·rw [hnm];by_cases e:i=d
   ·rw [if_pos e];exact tN (W.dir d hd hk).2.2.1 k
   ·rw [if_neg e];exact r3
  ·rw [htn i (dW h)];by_cases e:i=x
   ·have hl1:¬ (tn T x).links=1:=λe2=>hn ⟨e,e2⟩;rw [if_pos e,if_neg (λe2=>hl1 (hif.1 e2))];show (tn T x).data=[];rw [<-e];exact r4
   ·rw [if_neg e];by_cases e2:i=d
    ·rw [if_pos e2];show (tn T d).data=[];rw [<-e2];exact r4
    ·rw [if_neg e2];exact r4
 ·obtain ⟨h,hn⟩:=(hlive i).1 hi;rw [hkd i (dW h),if_neg hn] at hki;obtain ⟨d1,d2⟩:=W.data i h hki;have hid:i≠d:=λe=>hki (by rw [e];exact hk);refine ⟨?_,by rw [oM i hi,if_neg hid];exact d2⟩;rw [hB _ (zW i h hn),htn i (dW h)];by_cases e:i=x
  ·have hl1:¬ (tn T x).links=1:=λe2=>hn ⟨e,e2⟩;rw [if_pos e,if_neg (λe2=>hl1 (hif.1 e2))];show (tn T x).data=_;rw [<-e];exact d1
  ·rw [if_neg e,if_neg hid];exact d1
 ·have h1:=hi.1;have hi':inT T i:=⟨h1,by have:=hi.2;rw [hlen] at this;exact this⟩;rw [hkd i (by omega)] at hki;rw [htn i (by omega)];by_cases e:i=x
  ·rw [if_pos e];by_cases h:(tn T x).links=1
   ·rw [if_pos (hif.2 h)]
   ·rw [if_neg (λe2=>h e2.2)] at hki;exact absurd (by rw [<-e];exact hki) hlx.2
  ·rw [if_neg (λe2=>e e2.1)] at hki;rw [if_neg e,if_neg (λe2=>hd.2 (by rw [<-e2];exact hki))];exact W.dead i hi' hki
 ·rw [htn 0 (by omega),if_neg (λe=>by have:=hlx.1.1;omega),if_neg (λe=>by have:=hd.1.1;omega)];exact W.zero
 ·rw [hC] at hy;by_cases e:y=nu num x/\(tn T x).links=1
  ·rw [if_pos e] at hy;exact absurd rfl hy
  ·rw [if_neg e] at hy;obtain ⟨i,h,he⟩:=W.all y y0 y1 hy;exact ⟨i,(hlive i).2 ⟨h,λe2=>e ⟨by rw [<-he,e2.1],e2.2⟩⟩,he⟩
 ·obtain ⟨h,hn⟩:=(hlive i).1 hi;have h3:=W.cnt i h h1;have h4:=hrefs i;rw [htn i (dW h)];by_cases e:i=x
  ·have hl1:¬ (tn T x).links=1:=λe2=>hn ⟨e,e2⟩;rw [if_pos e,if_neg (λe2=>hl1 (hif.1 e2))];rw [if_pos e.symm] at h4;show (tn T x).links-1=_;rw [<-e,h3];omega
  ·rw [if_neg (λe2=>e e2.symm)] at h4;rw [if_neg e];by_cases e2:i=d
   ·rw [if_pos e2];show (tn T d).links=_;rw [<-e2,h3];omega
   ·rw [if_neg e2,h3];omega
 ·have:=hrefs 1;rw [W.top] at this;omega
 ·obtain ⟨rk,hr⟩:=W.rank;refine ⟨rk,λi hi hki e he=>?_⟩;obtain ⟨h,hn⟩:=(hlive i).1 hi;rw [hkd i (dW h),if_neg hn] at hki;rw [oM i hi] at he;by_cases e2:i=d
  ·rw [if_pos e2] at he;rw [e2];exact hr d hd hk e (List.mem_of_mem_eraseIdx he)
  ·rw [if_neg e2] at he;exact hr i h hki e he
inductive lS (T:List aD) (x:Int):Int->Prop
 | refl:lS T x x
 | step {i:Int} {e:aF}:lS T x i->live T i->(tn T i).kind=2->e∈(tn T i).names->lS T x e.node
theorem lS.rank {T:List aD}{rk:Int->Nat}(hr:∀ i,live T i->(tn T i).kind=2->∀ e∈(tn T i).names,rk e.node<rk i){x y:Int}(h:lS T x y):rk y<=rk x:=by
 induction h with
 | refl=>exact Nat.le_refl _
 | step _ h1 h2 h3 ih=>have:=hr _ h1 h2 _ h3;omega
theorem bX.moved {S S':FS}{T:List aD}{num:List Int}(W:bX S T num){d f x:Int}{k:Nat}{nm:List UInt8}(hd:live T d)(hk:(tn T d).kind=2)(hkl:k<(tn T d).names.length)(hx:((tn T d).names[k]'hkl).node=x)(hf:live T f)(kF:(tn T f).kind=2)
 (hp:dA (if f=d then (tn T d).names.eraseIdx k else (tn T f).names) nm=false) (hbel:¬ lS T x f)
 (hC:∀ y,(S'.C y).kind=(S.C y).kind) (hL:∀ y,0<=y->y<24->(S.C y).kind≠0->(S'.C y).links=(S.C y).links)
 (hN:∀ y,S'.nm y=if y=nu num f then bD (if f=d then (S.nm (nu num d)).eraseIdx k else S.nm (nu num f)) ⟨nm,nu num x⟩ else if y=nu num d then (S.nm (nu num d)).eraseIdx k else S.nm y) (hB:∀ y,S'.aQ y=S.aQ y) :
 bX S' (bJ (bJ T d { tn T d with names:=(tn T d).names.eraseIdx k }) f { tn (bJ T d { tn T d with names:=(tn T d).names.eraseIdx k }) f with names:=bD (tn (bJ T d { tn T d with names:=(tn T d).names.eraseIdx k }) f).names ⟨nm,x⟩ }) num:=by
 have hem:(tn T d).names[k]∈(tn T d).names:=List.getElem_mem hkl;obtain ⟨hxd,hx1⟩:=W.ne_of hd hk hem;rw [hx] at hxd hx1;have hlx:live T x:=by
  have:=(W.dir d hd hk).2.1 _ hem;rw [hx] at this;exact this
 have hf1:inT (bJ T d { tn T d with names:=(tn T d).names.eraseIdx k }) f:=(xh _).2 hf.1;have hn1:∀ i:Int,0<=i->(tn (bJ T d { tn T d with names:=(tn T d).names.eraseIdx k }) i)=if i=d then { tn T d with names:=(tn T d).names.eraseIdx k } else tn T i:=λi i0=>lQ hd.1 _ i0;have hk1:∀ i:Int,0<=i->(tn (bJ T d { tn T d with names:=(tn T d).names.eraseIdx k }) i).kind=(tn T i).kind/\(tn (bJ T d { tn T d with names:=(tn T d).names.eraseIdx k }) i).links=(tn T i).links/\(tn (bJ T d { tn T d with names:=(tn T d).names.eraseIdx k }) i).data=(tn T i).data:=by
  intro i i0;rw [hn1 i i0];by_cases e:i=d
  ·rw [if_pos e,e];exact ⟨rfl,rfl,rfl⟩
  ·rw [if_neg e];exact ⟨rfl,rfl,rfl⟩
 have hnf:(tn (bJ T d { tn T d with names:=(tn T d).names.eraseIdx k }) f).names=if f=d then (tn T d).names.eraseIdx k else (tn T f).names:=by
  rw [hn1 f (dW hf)];by_cases e:f=d
  ·rw [if_pos e,if_pos e]
  ·rw [if_neg e,if_neg e]
 have hr1:∀ j,refs (bJ T d { tn T d with names:=(tn T d).names.eraseIdx k }) j+(if x=j then 1 else 0)=refs T j:=by
  intro j;have h2:=rO hd.1 { tn T d with names:=(tn T d).names.eraseIdx k } j;have h4:dX ({ tn T d with names:=(tn T d).names.eraseIdx k }:aD).names j+(if x=j then 1 else 0)=dX (tn T d).names j:=by
   have:=Im hkl j;rw [hx] at this;exact this
  omega
 have hl1:(bJ T d { tn T d with names:=(tn T d).names.eraseIdx k }).length=T.length:=oL _ _ _;generalize bJ T d { tn T d with names:=(tn T d).names.eraseIdx k }=T1 at hf1 hn1 hk1 hnf hr1 hl1;have htn:∀ i:Int,0<=i->tn (bJ T1 f { tn T1 f with names:=bD (tn T1 f).names ⟨nm,x⟩ }) i=if i=f then { tn T1 f with names:=bD (tn T1 f).names ⟨nm,x⟩ } else tn T1 i:=λi i0=>lQ hf1 _ i0;have hrefs:∀ j,refs (bJ T1 f { tn T1 f with names:=bD (tn T1 f).names ⟨nm,x⟩ }) j=refs T j:=by
  intro j;have h1:=rO hf1 { tn T1 f with names:=bD (tn T1 f).names ⟨nm,x⟩ } j;have h3:dX ({ tn T1 f with names:=bD (tn T1 f).names ⟨nm,x⟩ }:aD).names j=dX (tn T1 f).names j+if x=j then 1 else 0:=Db _ _ _;have h2:=hr1 j;rw [h3] at h1;omega
 have hlen:(bJ T1 f { tn T1 f with names:=bD (tn T1 f).names ⟨nm,x⟩ }).length=T.length:=by rw [oL];exact hl1
 generalize bJ T1 f { tn T1 f with names:=bD (tn T1 f).names ⟨nm,x⟩ }=T' at htn hrefs hlen;have hkd:∀ i:Int,0<=i->(tn T' i).kind=(tn T i).kind/\(tn T' i).links=(tn T i).links/\(tn T' i).data=(tn T i).data:=by
  intro i i0;rw [htn i i0];by_cases e:i=f
  ·rw [if_pos e,e];exact hk1 f (dW hf)
  ·rw [if_neg e];exact hk1 i i0
 have oM:∀ i:Int,0<=i->(tn T' i).names=if i=f then bD (if f=d then (tn T d).names.eraseIdx k else (tn T f).names) ⟨nm,x⟩ else if i=d then (tn T d).names.eraseIdx k else (tn T i).names:=by
  intro i i0;rw [htn i i0];by_cases e:i=f
  ·rw [if_pos e,if_pos e,<-hnf]
  ·rw [if_neg e,if_neg e,hn1 i i0];by_cases e2:i=d
   ·rw [if_pos e2,if_pos e2]
   ·rw [if_neg e2,if_neg e2]
 have hlive:∀ i,live T' i↔live T i:=by
  intro i;unfold live inT;rw [hlen]
  constructor
  ·rintro ⟨⟨h1,h2⟩,h3⟩;rw [(hkd i (by omega)).1] at h3;exact ⟨⟨h1,h2⟩,h3⟩
  ·rintro ⟨⟨h1,h2⟩,h3⟩;exact ⟨⟨h1,h2⟩,by rw [(hkd i (by omega)).1];exact h3⟩
 have hsrc:∀ i,live T i->(tn T i).kind=2->∀ e∈(tn T' i).names,(i=f/\e=⟨nm,x⟩)\/e∈(tn T i).names:=by
  intro i hi hki e he;rw [oM i (dW hi)] at he;by_cases e1:i=f
  ·rw [if_pos e1] at he;rcases List.mem_cons.1 ((mF _ _).mem_iff.1 he) with rfl|h3
   ·exact .inl ⟨e1,rfl⟩
   ·right
    by_cases e2:f=d
    ·rw [if_pos e2] at h3;rw [e1,e2];exact List.mem_of_mem_eraseIdx h3
    ·rw [if_neg e2] at h3;rw [e1];exact h3
  ·rw [if_neg e1] at he
   right
   by_cases e2:i=d
   ·rw [if_pos e2] at he;rw [e2];exact List.mem_of_mem_eraseIdx he
   ·rw [if_neg e2] at he;exact he
 refine ⟨W.len.trans hlen.symm,by rw [hlen];exact W.two,⟨W.root.1,by rw [(hkd 1 (by omega)).1];exact W.root.2⟩,λi hi=>W.bH i ((hlive i).1 hi),λi j hi hj e=>W.inj i j ((hlive i).1 hi) ((hlive j).1 hj) e,λi hi=>?_,λi hi=>?_,λi hi hki=>?_,λi hi hki=>?_,λi hi hki=>?_,?_,λy y0 y1 hy=>?_,λi hi h1=>?_,?_,?_⟩
 ·have h:=(hlive i).1 hi;rw [hC,(hkd i (dW h)).1];exact W.kind i h
 ·have h:=(hlive i).1 hi;have hr:=W.bH i h;have hk3:=W.kind i h;rw [hL _ (by omega) hr.2 (by rw [hk3.1];omega),(hkd i (dW h)).2.1];exact W.links i h
 ·have h:=(hlive i).1 hi;rw [(hkd i (dW h)).1] at hki;obtain ⟨r1,r2,r3,r4⟩:=W.dir i h hki;obtain ⟨q1,_,q3,_⟩:=W.dir d hd hk;obtain ⟨g1,_,g3,_⟩:=W.dir f hf kF;refine ⟨?_,λe he=>?_,?_,by rw [(hkd i (dW h)).2.2];exact r4⟩
  ·rw [hN,oM i (dW h)];by_cases e1:i=f
   ·rw [e1,if_pos rfl,if_pos rfl];have e3:(if f=d then (S.nm (nu num d)).eraseIdx k else S.nm (nu num f))=(if f=d then (tn T d).names.eraseIdx k else (tn T f).names).map (rn num):=by
     by_cases e2:f=d
     ·rw [if_pos e2,if_pos e2,q1,zR]
     ·rw [if_neg e2,if_neg e2,g1]
    rw [e3];exact (zX (rn num) (λ_=>rfl) _ ⟨nm,x⟩).symm
   ·rw [if_neg e1,if_neg (λe2=>e1 (W.inj i f h hf e2))];by_cases e2:i=d
    ·rw [e2,if_pos rfl,if_pos rfl,q1,zR]
    ·rw [if_neg e2,if_neg (λe3=>e2 (W.inj i d h hd e3))];exact r1
  ·rcases hsrc i h hki e he with ⟨_,h3⟩|h3
   ·rw [h3];exact (hlive _).2 hlx
   ·exact (hlive _).2 (r2 e h3)
  ·rw [oM i (dW h)];by_cases e1:i=f
   ·rw [if_pos e1];refine vC ?_ hp;by_cases e2:f=d
    ·rw [if_pos e2];exact tN q3 k
    ·rw [if_neg e2];exact g3
   ·rw [if_neg e1];by_cases e2:i=d
    ·rw [if_pos e2];exact tN q3 k
    ·rw [if_neg e2];exact r3
 ·have h:=(hlive i).1 hi;rw [(hkd i (dW h)).1] at hki;obtain ⟨d1,d2⟩:=W.data i h hki;rw [hB,(hkd i (dW h)).2.2,oM i (dW h),if_neg (λe=>hki (by rw [e];exact kF)),if_neg (λe=>hki (by rw [e];exact hk))];exact ⟨d1,d2⟩
 ·have h1:=hi.1;have hi':inT T i:=⟨h1,by have:=hi.2;rw [hlen] at this;exact this⟩;rw [(hkd i (by omega)).1] at hki;rw [oM i (by omega),if_neg (λe=>hf.2 (by rw [<-e];exact hki)),if_neg (λe=>hd.2 (by rw [<-e];exact hki))];exact W.dead i hi' hki
 ·rw [oM 0 (by omega),if_neg (λe=>by have:=hf.1.1;omega),if_neg (λe=>by have:=hd.1.1;omega)];exact W.zero
 ·rw [hC] at hy;obtain ⟨i,h,he⟩:=W.all y y0 y1 hy;exact ⟨i,(hlive i).2 h,he⟩
 ·have h:=(hlive i).1 hi;rw [hrefs,(hkd i (dW h)).2.1];exact W.cnt i h h1
 ·rw [hrefs];exact W.top
 ·obtain ⟨rk,hr⟩:=W.rank;refine ⟨λi=>@ite Nat (lS T x i) (Classical.propDecidable _) (rk i) (rk i+rk x+1),λi hi hki e he=>?_⟩;have h:=(hlive i).1 hi;rw [(hkd i (dW h)).1] at hki;simp only;rcases hsrc i h hki e he with ⟨h1,h3⟩|h3
  ·rw [h3,h1];rw [if_pos (lS.refl:lS T x x),if_neg hbel];show rk x<rk f+rk x+1;omega
  ·have hlt:=hr i h hki e h3;by_cases hb:lS T x i
   ·rw [if_pos hb,if_pos (lS.step hb h hki h3)];exact hlt
   ·rw [if_neg hb];by_cases hb2:lS T x e.node
    ·rw [if_pos hb2];have:=lS.rank hr hb2;omega
    ·rw [if_neg hb2];omega
theorem Cy {B:Int->UInt64}{X:VS}{n:Int}{c:aA}(hn:n<24):bE B (dZ X n c) 96=bE B X 96:=by
 unfold bE
 congr 1
 refine List.filter_congr λj hj=>?_;unfold iF;have:(dZ X n c).now (200+(j:Int))=X.now (200+(j:Int)):=vD hn (by omega);have h2:(dZ X n c).away=X.away:=rfl;rw [this,h2]
theorem WH {B:Int->UInt64}{X:VS}{n:Int}:bE B (eY X n) 96=bE B X 96:=rfl
structure WI (B:Int->UInt64)(X:VS)(S:FS)(T:List aD)(num:List Int):Prop where
 fs:bK X.now S
 w:qF S T num
 all:∀ n,0<=n->n<24->(S.C n).kind≠0->∃ i,inT T i/\nu num i=n
 free:96<=bE B X 96+5*(T.length-2)
 aw:X.bG=[]
theorem WI.fc {B:Int->UInt64}{X:VS}{S:FS}{T:List aD}{num:List Int}(W:WI B X S T num):gD S:=by
 have xw:=W.w.two;have h1:inT T 1:=⟨by omega,by omega⟩;refine ⟨?_,λn n0 n1 hk e he=>?_⟩
 ·have:=W.w.kind 1 h1;rw [W.w.root.1] at this;rw [this.1];exact W.w.root.2
 ·obtain ⟨i,hi,rfl⟩:=W.all n n0 n1 (by rw [hk];decide);have hki:(tn T i).kind=2:=by rw [<-(W.w.kind i hi).1];exact hk
  obtain ⟨q1,q2,q3⟩:=W.w.dir i hi hki;rw [q1] at he;obtain ⟨e0,he0,rfl⟩:=List.mem_map.1 he;have hin:=q2 e0 he0;have hr:=W.w.bH e0.node hin;have hk2:=W.w.kind e0.node hin;have hn:(rn num e0).node=nu num e0.node:=rfl;rw [hn];exact ⟨by omega,hr.2,by rw [hk2.1];omega⟩
theorem Gy {X:VS}{S:FS}(I:bK X.now S)(ha:X.bG=[]){n:Int}(h0:0<=n/\n<24):oI X n=true↔(S.C n).kind=0:=by
 have hc:=I.card n h0.1 h0.2;have hw:X.now (8+n*8)=uR (S.C n):=by
  have h1:=congrArg (λl=>l[0]?.getD 0) hc;have h2:(bW X.now (8+n*8) 8)[0]?.getD 0=X.now (8+n*8):=by simp [bW]
  rw [h2] at h1;exact h1
 have B:=tT (I.node n h0.1 h0.2).right;have hg:(nW (fP (S.C n))).kind=(S.C n).kind:=by rw [Me B]
 have hg2:(nW (fP (S.C n))).kind=((l7 (uR (S.C n)) 0 8).toNat:Int):=rfl;rw [hg2] at hg;unfold oI;rw [ha,hw];simp
 constructor
 ·intro h;rw [<-hg,h];rfl
 ·intro h;rw [h] at hg;exact UInt64.toNat_inj.1 (by simpa using hg)
theorem Nq {X:VS}:∀ {f i k:Nat},lI X f i=some k->∀ j,i<=j->j<k->oI X (j:Int)=false
 | 0,_,_,h=>by cases h
 | f+1,i,k,h=>by
  unfold lI at h;split at h
  ·cases h;intro j h1 h2;omega
  ·rename_i hh;intro j h1 h2;by_cases e:j=i
   ·subst e;simpa using hh
   ·exact Nq h j (by omega) h2
theorem Nr {X:VS}:∀ {f i:Nat},lI X f i=none->∀ j,i<=j->j<i+f->oI X (j:Int)=false
 | 0,_,_=>λj h1 h2=>by omega
 | f+1,i,h=>by
  unfold lI at h;split at h
  ·cases h
  ·rename_i hh;intro j h1 h2;by_cases e:j=i
   ·subst e;simpa using hh
   ·exact Nr h j (by omega) (by omega)
theorem qF.congr {S S':FS}{T:List aD}{num:List Int}(W:qF S T num)(h:∀ i,inT T i->(S'.C (nu num i)).kind=(S.C (nu num i)).kind/\S'.nm (nu num i)=S.nm (nu num i)/\S'.aQ (nu num i)=S.aQ (nu num i)):qF S' T num:=
 ⟨W.len,W.two,W.root,W.bH,W.inj,λi hi=>by rw [(h i hi).1];exact W.kind i hi,λi hi hk=>by rw [(h i hi).2.1];exact W.dir i hi hk,λi hi hk=>by rw [(h i hi).2.2];exact W.data i hi hk,W.kX⟩
theorem WI.back {B:Int->UInt64}{X Y:VS}{S:FS}{T:List aD}{num:List Int}(W:WI B X S T num){n:Int}(hn:2<=n/\n<24)(hk:(S.C n).kind=0){c:aA}(hc:c.kind=0->c=gu c.dU)(hk0:c.kind=0)
 (hY:∀ a,200<=a->Y.now a=X.now a) (WJ:bW Y.now (8+n*8) 8=fP c) (hoth:∀ k,0<=k->k<24->k≠n->bW Y.now (8+k*8) 8=bW X.now (8+k*8) 8) (haw:Y.bG=X.bG) (WK:Y.away=X.away):∃ S',WI B Y S' T num:=by
 have hno:∀ x,0<=x->x<96->Y.now (200+x)≠w64 (n+1):=λx x0 x1=>by rw [hY _ (by omega)];exact ((W.fs.node n (by omega) hn.2).free hk).2 x x0 x1
 have N:gW Y.now n c [] []:=by
  have:=Ad (now:=Y.now) (n:=n) c.dU hno;rw [<-hc hk0] at this;exact this
 refine ⟨S.put n c [] [],?_,?_,?_,?_,haw.trans W.aw⟩
 ·exact W.fs.put ⟨by omega,hn.2⟩ (Fr0.of n hY) hoth WJ N (by omega)
 ·refine W.w.congr λi hi=>?_;have hne:nu num i≠n:=by
   intro e;have h1:=(W.w.kind i hi).1;have h2:=(W.w.kind i hi).2.1;rw [e,hk] at h1;omega
  show (if nu num i=n then c else S.C (nu num i)).kind=_/\(if nu num i=n then [] else S.nm (nu num i))=_/\(if nu num i=n then [] else S.aQ (nu num i))=_;rw [if_neg hne,if_neg hne,if_neg hne];exact ⟨rfl,rfl,rfl⟩
 ·intro k k0 k1 hkk;have hkk:(if k=n then c else S.C k).kind≠0:=hkk;by_cases e:k=n
  ·rw [if_pos e] at hkk;exact absurd hk0 hkk
  ·rw [if_neg e] at hkk;exact W.all k k0 k1 hkk
 ·have:bE B Y 96=bE B X 96:=by
   unfold bE
   congr 1
   refine List.filter_congr λj hj=>?_;unfold iF;rw [hY _ (by omega),WK]
  rw [this];exact W.free
theorem WG (data:List UInt8)(h:data.length<=130):fu [] ((0:Nat):Int) data=(data,0):=by
 unfold fu;rw [if_neg (by omega)];by_cases h0:data=[]
 ·rw [if_pos h0,h0]
 ·rw [if_neg h0,if_neg (by omega)]
  congr 1
  simp [zeros]
structure Added (B:Int->UInt64)(X:VS)(S:FS)(T:List aD)(num:List Int)(d n kind:Int)(name data:List UInt8)(v:UInt64):Prop where
 Y6:gU (bW (dZ X n (cB kind v)).now (8+nu num d*8) 8)=some (S.C (nu num d))
 Y7:(S.C (nu num d)).ok
 fail:(iW B (eY (dZ X n (cB kind v)) (nu num d)) (nu num d) (S.C (nu num d)) name n).2.1≠0 ->
  (iW B (eY (dZ X n (cB kind v)) (nu num d)) (nu num d) (S.C (nu num d)) name n).2.2=eY (dZ X n (cB kind v)) (nu num d)/\10<=(tn T d).names.length
 good:(iW B (eY (dZ X n (cB kind v)) (nu num d)) (nu num d) (S.C (nu num d)) name n).2.1=0 ->
  (iW B (eY (dZ X n (cB kind v)) (nu num d)) (nu num d) (S.C (nu num d)) name n).1.ok/\fV (iW B (eY (dZ X n (cB kind v)) (nu num d)) (nu num d) (S.C (nu num d)) name n).1=true /\
  ∀ X4,X4=dZ (iW B (eY (dZ X n (cB kind v)) (nu num d)) (nu num d) (S.C (nu num d)) name n).2.2 (nu num d) (iW B (eY (dZ X n (cB kind v)) (nu num d)) (nu num d) (S.C (nu num d)) name n).1 ->
   gU (bW X4.now (8+n*8) 8)=some (cB kind v)/\mO X4.now (cB kind v) /\
   (fZ B (eY X4 n) n (cB kind v) 0 data).2.1=0/\(fZ B (eY X4 n) n (cB kind v) 0 data).1.ok/\fV (fZ B (eY X4 n) n (cB kind v) 0 data).1=true /\
   ∃ S',WI B (dZ (fZ B (eY X4 n) n (cB kind v) 0 data).2.2 n (fZ B (eY X4 n) n (cB kind v) 0 data).1) S' (mG T d (bD (tn T d).names ⟨name,(T.length:Int)⟩)++[⟨n,kind,1,data,[]⟩]) (num++[n])
structure bY where
 nd:aD
 a:Option Addr
 n:Nat
 c:Nat
def bY.cells (x:bY):List Value:=[.int .i64 x.nd.id,.int .i64 x.nd.kind,.int .i64 x.nd.links,.string (ba x.nd.data),.slice x.a x.n x.c]
def gm (L:List bY):List Value:=L.flatMap bY.cells
theorem ol:∀ L:List bY,(gm L).length=L.length*5
 | []=>rfl
 | x::L=>by
  have ih:=ol L;unfold gm at ih ⊢;rw [List.flatMap_cons,List.length_append,ih,List.length_cons];show 5+_=_;omega
theorem CB:∀ (L:List bY) (i j:Nat) (hi:i<L.length),j<5->(gm L)[i*5+j]?=L[i].cells[j]?
 | [],i,j,hi,_=>by simp at hi
 | x::L,0,j,_,hj=>by
  unfold gm;rw [List.flatMap_cons,List.getElem?_append_left (by show 0*5+j<5;omega)];simp
 | x::L,i+1,j,hi,hj=>by
  have ih:=CB L i j (by simpa using hi) hj;unfold gm at ih ⊢;rw [List.flatMap_cons,List.getElem?_append_right (by show 5<=_;omega)];have:(i+1)*5+j-x.cells.length=i*5+j:=by show (i+1)*5+j-5=_;omega
  rw [this];simpa using ih
theorem u7 {h:Heap}{e:TypeId}{sz:Nat}{a:Option Addr}{n c:Nat}{l:List Value}(O:Own h e sz a n c l){k:Nat}(hk:k<l.length):∃ b cs,a=some ⟨b,0,none⟩/\h[b]?=some (.cells ⟨cs⟩ e (0,0))/\Heap.cell? h b k=l[k]?/\cs.take l.length=l/\l.length<=cs.length:=by
 rcases O with ⟨_,_,_,rfl⟩|⟨b,cs,rfl,o,ht,h1,h2,h3⟩
 ·simp at hk
 ·have hle:l.length<=cs.length:=by
   have:=congrArg List.length ht;rw [List.length_take] at this;omega
  refine ⟨b,cs,rfl,o,?_,ht,hle⟩;simp only [Heap.cell?,o];have:l[k]?=(cs.take l.length)[k]?:=by rw [ht]
  rw [this,List.getElem?_take,if_pos hk];simp
theorem rH {h:Heap}{a b:Nat}{x y:Array Value}{S T:TypeId}{f g:Nat×Nat}(h1:h[a]?=some (.cells x S f))(h2:h[b]?=some (.cells y T g))(hne:S≠T):a≠b:=by
 rintro rfl;rw [h1] at h2;cases h2;exact hne rfl
def aB (L:List bY):List aD:=L.map (·.nd)
theorem nZ (L:List bY):(aB L).length=L.length:=by simp [aB]
theorem vk {L:List bY}{i:Nat}(hi:i<L.length):tn (aB L) (i:Int)=L[i].nd:=by
 unfold tn aB;rw [Int.toNat_natCast,List.getElem?_map,List.getElem?_eq_getElem hi];rfl
structure jo where
 GN:Int
 kind:Int
 name:List UInt8
 data:List UInt8
def jo.cells (f:jo):List Value:=[.int .i64 f.GN,.int .i64 f.kind,.string (ba f.name),.string (ba f.data)]
def jo.ok (f:jo):Prop:=inI64 f.GN/\inI64 f.kind/\f.name.length<=140737488351232/\f.data.length<=140737488351232
def NY (x:Int):Nat:=(x%18446744073709551616).toNat
def vo (f:jo)(len:Nat):Nat:=1+NY f.GN%(len-1)
def kindOf (f:jo):Int:=1+((NY f.kind%3:Nat):Int)
theorem Xu (l:List aF)(name:List UInt8)(x:Int):aP (bD l ⟨name,x⟩) name=aP l name:=by
 have h1:l.take (aP l name)=l.takeWhile λe=>blt e.name name:=(List.prefix_iff_eq_take.1 (List.takeWhile_prefix _)).symm;have hall:∀ e∈l.take (aP l name),blt e.name name=true:=by
  rw [h1];intro e he;have:=List.all_takeWhile (p:=λe:aF=>blt e.name name) (l:=l);exact List.all_eq_true.1 this e he
 have hle:=vK l name;show (List.takeWhile (λe:aF=>blt e.name name) (l.take (aP l name)++⟨name,x⟩::l.drop (aP l name))).length=aP l name;rw [List.takeWhile_append_of_pos hall,List.takeWhile_cons,if_neg (by rw [nJ];simp),List.append_nil,List.length_take];show min (aP l name) l.length=aP l name;omega
theorem zA (l:List aF)(e:aF):(bD l e).length=l.length+1:=by rw [(mF l e).length_eq];rfl
theorem Xv (l:List aF)(name:List UInt8)(x y:Int):(bV (bD l ⟨name,x⟩)).set (aP l name*2+1) (.int .i64 y)=bV (bD l ⟨name,y⟩):=by
 have hle:=vK l name;unfold bD;rw [Aw,Aw];have hl:(bV (l.take (aP l name))).length=aP l name*2:=by rw [lW,List.length_take];omega
 rw [List.set_append,if_neg (by rw [hl];omega),hl];have:aP l name*2+1-aP l name*2=1:=by omega
 rw [this];rfl
theorem Xp (a b:List bY):gm (a++b)=gm a++gm b:=by unfold gm;rw [List.flatMap_append]
theorem GA {h h':Heap}{e:TypeId}{sz:Nat}{b n c:Nat}{l:List Value}(O:Own h e sz (some ⟨b,0,none⟩) n c l){k:Nat}(hk:k<l.length){v:Value}{cs:List Value}(o:h[b]?=some (.cells ⟨cs⟩ e (0,0)))(o':h'[b]?=some (.cells ⟨bF k [v] cs⟩ e (0,0))):Own h' e sz (some ⟨b,0,none⟩) n c (l.set k v):=by
 rcases O with ⟨h0,_⟩|⟨b',cs',hb,ob,ht,h1,h2,h3⟩
 ·cases h0
 ·cases hb;rw [o] at ob;cases ob;have hle:l.length<=cs.length:=by
   have:=congrArg List.length ht;rw [List.length_take] at this;omega
  rw [yB _ _ _ (by omega)] at o';refine .inr ⟨b,_,rfl,o',?_,by rw [List.length_set];exact h1,by rw [List.length_set];exact h2,h3⟩;rw [List.length_set,List.take_set,ht]
theorem oJ {h:Heap}{e:TypeId}{sz:Nat}{a:Option Addr}{n c:Nat}{l:List Value}(O:Own h e sz a n c l):∀ b∈ay a,∃ cs,h[b]?=some (.cells cs e (0,0)):=by
 intro b hb;rcases O with ⟨rfl,_⟩|⟨b',cs,rfl,o,_⟩
 ·cases hb
 ·have:b=b':=by simpa [ay] using hb
  subst this;exact ⟨_,o⟩
def pU (l:List (List UInt8)):Value:=if l=[] then .tuple #[.string (ba [47]),.int .i64 0] else if l.all dI=true/\(bM l).length<=120 then .tuple #[.string (ba (bM l)),.int .i64 0] else .tuple #[.string (ba []),.int .i64 3]
theorem XE (l:List (List UInt8)):l.length<=(bM l).length:=by
 induction l with
 | nil=>simp
 | cons x r ih=>rw [qp];simp only [List.length_cons,List.length_append];omega
theorem wV (l:List UInt8):(ba l).size=l.length:=dP _
theorem GL (l r:List UInt8):ba l++ba r=ba (l++r):=uD l r
theorem XD {h:Heap}{a:Option Addr}{n c:Nat}{l:List (List UInt8)}(S:Sl h a n c (bq l))(hb:(bM l).length<=2000000):aC Tryz.prog 127 [.slice a n c] h (λv h'=>Keeps [] h h'/\v=pU l):=by
 have hl:=S.hlen;rw [fE] at hl;have hn:=XE l;refine aG aH Tryz.func127 rfl ok127 (by simp [Tryz.f127]) ?_;(conv=>whnf);refine aj.i (λhc=>?_) (λhc=>?_)
 ·(conv=>whnf);have h0:l=[]:=List.eq_nil_of_length_eq_zero (by simp at hc;omega);refine ⟨Keeps.refl _ _,?_⟩;unfold pU;rw [if_pos h0];rfl
 ·have h0:l≠[]:=by
   rintro rfl;simp at hl hc;omega
  (conv=>whnf);refine bP.on [0,4,5] [] (λi:Nat=>[(0,.v (.slice a n c)),(4,.v (.string (ba (bM (l.take i))))),(5,.v (.int .i64 (i:Int)))]) (λ_=>[]) (λi h'=>i<=n/\Keeps [] h h'/\(l.take i).all dI=true) (λi=>n-i) 0 ?_ ?_
  ·(conv=>whnf);exact ⟨0,rfl,rfl,rfl,Nat.zero_le _,Keeps.refl _ _,by simp⟩
  ·rintro i h1 ⟨hi,k1,ha⟩;(conv=>whnf);refine aj.i (λhd=>?_) (λhd=>?_)
   ·have hi1:i<l.length:=by simp at hd;omega
    obtain ⟨b,off,hb',_,hcell⟩:=(S.keep k1).at1 i (by rw [fE];exact hi1);have e:(bq l)[i]'(by rw [fE];exact hi1)=ba l[i]:=by simp [bq]
    rw [e] at hcell;have hle:=wL (List.getElem_mem hi1);have htk:l.take (i+1)=l.take i++[l[i]]:=List.take_succ_eq_append_getElem hi1;(conv=>whnf);(try refine aV.pass ?_;conv=>whnf);refine aX.i i rfl (by omega) hb' ?_;(conv=>whnf);refine ax.i hcell ?_;(conv=>whnf);refine ak.i (Jc l[i] (by omega) h1) λv h2 k2 hv=>?_;subst hv;(conv=>whnf);refine aj.i (λhs=>?_) (λhs=>?_)
    ·(conv=>whnf);refine ⟨k1.trans k2,?_⟩;unfold pU;rw [if_neg h0,if_neg]
     ·rfl
     ·rintro ⟨hx,_⟩;have:=List.all_eq_true.1 hx _ (List.getElem_mem hi1);rw [this] at hs;cases hs
    ·have hr:dI l[i]=true:=by simpa using hs
     have hc2:=k2.cell hcell (by simp);have hjt:=zk l i;have hsz:(ba l[i]).size=l[i].length:=wV _;have hs0:(ba (bM (l.take i))).size=(bM (l.take i)).length:=wV _;have h47:(ByteArray.mk #[47]).size=1:=rfl;(conv=>whnf);refine aX.i i rfl (by omega) hb' ?_;(conv=>whnf);refine ax.i hc2 ?_;(conv=>whnf);refine dL.i (by rw [h47,hsz];omega) ?_;(conv=>whnf);refine dL.i (by rw [hs0,show (ByteArray.mk #[47])++ba l[i]=ba ([47]++l[i]) from GL [47] l[i],wV,List.length_append];simp;omega) ?_;(conv=>whnf);refine ⟨n-(i+1),by omega,?_⟩;(conv=>whnf);refine ⟨i+1,rfl,?_,rfl,by omega,k1.trans k2,?_⟩
     ·rw [wrapN (x:=(i:Int)+1) (n:=i+1) (by simp) (by omega)];have e1:ba (bM (l.take i))++((ByteArray.mk #[47])++ba l[i])=ba (bM (l.take (i+1))):=by
       rw [show (ByteArray.mk #[47])++ba l[i]=ba ([47]++l[i]) from GL [47] l[i],GL,htk,zo]
       congr 1
       simp [bM]
      rw [e1]
     ·rw [htk,List.all_append,ha];simp [hr]
   ·have hi1:i=n:=by simp at hd;omega
    subst hi1;have hlt:l.take i=l:=by rw [hl];exact List.take_length
    rw [hlt] at ha ⊢;have hs0:(ba (bM l)).size=(bM l).length:=wV _;(conv=>whnf);refine aj.i (λhf=>?_) (λhf=>?_)
    ·(conv=>whnf);refine ⟨k1,?_⟩;have:120<(bM l).length:=by rw [hs0] at hf;simp at hf;omega
     unfold pU;rw [if_neg h0,if_neg (λh=>by omega)];rfl
    ·(conv=>whnf);refine ⟨k1,?_⟩;have:(bM l).length<=120:=by rw [hs0] at hf;simp at hf;omega
     unfold pU;rw [if_neg h0,if_pos ⟨ha,this⟩]
structure SQ where
 i:Nat
 from_:Nat
 done:List (List UInt8)
 a:Option Addr
 c:Nat
def tH (path:List UInt8)(q:SQ):Prop:=
 (q.i<=path.length/\1<=q.from_/\q.from_<=q.i/\q.done++dH (path.drop q.from_)=dH (path.drop 1)/\47∉(path.take q.i).drop q.from_)\/(q.i=path.length+1/\path≠[]/\q.done=dH (path.drop 1))\/(path=[]/\q.done=[])
theorem cutI_0 (path:List UInt8)(a:Option Addr)(c:Nat):tH path ⟨1,1,[],a,c⟩:=by
 by_cases h:path=[]
 ·exact .inr (.inr ⟨h,rfl⟩)
 ·have:=List.length_pos_iff.2 h;refine .inl ⟨by show 1<=_;omega,Nat.le_refl _,Nat.le_refl _,rfl,?_⟩;show 47∉(path.take 1).drop 1;rw [List.drop_eq_nil_of_le (by rw [List.length_take];omega)];simp
theorem Xy {path:List UInt8}{i f:Nat}(hf:f<=i)(hi:i<path.length):(path.take (i+1)).drop f=(path.take i).drop f++[path[i]]:=by
 rw [List.take_succ_eq_append_getElem hi,List.drop_append_of_le_length (by rw [List.length_take];omega)]
theorem Xz {path:List UInt8}{q:SQ}(I:tH path q)(hi:q.i<path.length)(h47:path[q.i]≠47):tH path ⟨q.i+1,q.from_,q.done,q.a,q.c⟩:=by
 rcases I with ⟨h1,h2,h3,h4,h5⟩|⟨h1,_⟩|⟨h1,_⟩
 ·refine .inl ⟨by show q.i+1<=_;omega,h2,Nat.le_succ_of_le h3,h4,?_⟩;show 47∉(path.take (q.i+1)).drop q.from_;rw [Xy h3 hi];intro h;rcases List.mem_append.1 h with h|h
  ·exact h5 h
  ·exact h47 (List.mem_singleton.1 h).symm
 ·omega
 ·rw [h1] at hi;simp at hi
theorem XA {path:List UInt8}{q:SQ}(I:tH path q)(hi:q.i<path.length)(h47:path[q.i]=47)(a:Option Addr)(c:Nat):tH path ⟨q.i+1,q.i+1,q.done++[(path.take q.i).drop q.from_],a,c⟩:=by
 rcases I with ⟨h1,h2,h3,h4,h5⟩|⟨h1,_⟩|⟨h1,_⟩
 ·refine .inl ⟨by show q.i+1<=_;omega,by show 1<=q.i+1;omega,Nat.le_refl _,?_,?_⟩
  ·show (q.done++[(path.take q.i).drop q.from_])++dH (path.drop (q.i+1))=_;have e:path.drop q.from_=(path.take q.i).drop q.from_++47::path.drop (q.i+1):=by
    have h6:path=path.take q.i++path.drop q.i:=(List.take_append_drop _ _).symm;have h7:path.drop q.i=47::path.drop (q.i+1):=by rw [List.drop_eq_getElem_cons hi,h47]
    rw [h7] at h6
    conv=>lhs;rw [h6]
    rw [List.drop_append_of_le_length (by rw [List.length_take];omega)]
   rw [e,FT h5] at h4;rw [<-h4];simp
  ·show 47∉(path.take (q.i+1)).drop (q.i+1);rw [List.drop_eq_nil_of_le (by rw [List.length_take];omega)];simp
 ·omega
 ·rw [h1] at hi;simp at hi
theorem XB {path:List UInt8}{q:SQ}(I:tH path q)(hi:q.i=path.length)(Ze:1<=q.i)(f:Nat)(a:Option Addr)(c:Nat):tH path ⟨q.i+1,f,q.done++[(path.take q.i).drop q.from_],a,c⟩:=by
 rcases I with ⟨h1,h2,h3,h4,h5⟩|⟨h1,_⟩|⟨h1,_⟩
 ·refine .inr (.inl ⟨by show q.i+1=_;omega,?_,?_⟩)
  ·rintro rfl;simp at hi;omega
  ·show q.done++[(path.take q.i).drop q.from_]=_;rw [hi,List.take_length] at h5 ⊢;rw [<-h4,FR h5]
 ·omega
 ·rw [h1] at hi;simp at hi;omega
theorem Cu {h:Heap}{a:Option Addr}{c:Nat}{l:List (List UInt8)}(O:Own h 9 1 a l.length c ((bq l).map λx=>.string x))(hl:l.length<=1000000000)(hx:∀ x∈l,x.length<=140737488351232):Sl h a l.length c (bq l):=
 O.sl (α:=ByteArray) (xs:=bq l) (F5 _ _ (λz hz=>Ga hx z hz)) rfl (by decide) (by rw [fE];omega)
theorem vg (path:List UInt8)(hp:path.length<=1048576)(h:Heap):aC Tryz.prog 75 [.string (ba path)] h (λv h'=>Keeps [] h h'/\MB (bC path) h v h'):=by
 have hsz:(ba path).size=path.length:=wV _;refine aG aH Tryz.func75 rfl ok75 (by simp [Tryz.f75]) ?_;(conv=>whnf);refine bP.on [0,4,5,6] [] (λq:SQ=>[(0,.v (.string (ba path))),(4,.v (.slice q.a q.done.length q.c)),(5,.v (.int .i64 (q.from_:Int))),(6,.v (.int .i64 (q.i:Int)))]) (λ_=>[])
  (λq h'=>1<=q.i/\q.i<=path.length+1/\q.from_<=path.length+1/\Keeps [] h h'/\Own h' 9 1 q.a q.done.length q.c ((bq q.done).map λx=>.string x)/\(∀ b∈ay q.a,h.size<=b)/\q.done.length+1<=q.i/\(path=[47]->q.done=[])/\tH path q) (λq=>path.length+2-q.i) ⟨1,1,[],none,0⟩ ?_ ?_
 ·(conv=>whnf);exact ⟨⟨1,1,[],none,0⟩,rfl,rfl,rfl,Nat.le_refl _,by show 1<=_;omega,by show 1<=_;omega,Keeps.refl _ _,.inl ⟨rfl,rfl,rfl,rfl⟩,by simp [ay],Nat.le_refl _,λ_=>rfl,cutI_0 path none 0⟩
 ·rintro q h1 ⟨q1,q2,qf,k1,O1,n1,q3,q4,I1⟩;have e47:((ba path).toList==(ByteArray.mk #[47]).toList)=decide (path=[47]):=iZ path [47];(conv=>whnf);refine aj.i (λhd=>?_) (λhd=>?_)
  ·rw [dJ,hsz,e47] at hd;have hd2:q.i<=path.length/\path≠[47]:=by
    simp at hd;exact ⟨by omega,hd.2⟩
   (conv=>whnf);(try refine aV.pass ?_;conv=>whnf);refine dO.u q.i ?_ ?_
   ·intro hg;refine ⟨rfl,?_⟩;rw [hsz] at hg ⊢;simp at hg;omega
   (conv=>whnf);have hfi:q.from_<=q.i:=by
    rcases I1 with ⟨_,_,h3,_⟩|⟨h3,_⟩|⟨h3,_⟩
    ·exact h3
    ·omega
    ·rw [h3] at hd2;simp at hd2;omega
   have hby:∀ (hlt:q.i<path.length),((ji (ba path) q.i==47):Bool)=decide (path[q.i]=47):=by
    intro hlt;have:ji (ba path) q.i=((path[q.i]).toNat:Int):=by
     have:=qL path q.i;rw [List.getElem?_eq_getElem hlt,Option.getD_some] at this;exact this
    rw [this,Ub];refine decide_eq_decide.2 ⟨λh=>?_,λh=>by rw [h];rfl⟩;apply UInt8.toNat_inj.1;have h2:((47:UInt8).toNat:Int)=47:=rfl;omega
   refine aj.i (λhb=>?_) (λhb=>?_)
   ·(conv=>whnf);refine dw.i q.from_ q.i rfl rfl hfi (by rw [hsz];exact hd2.1) ?_;(conv=>whnf);refine aL.i λb3 h3 e3 s3 o3 k3=>?_;have ex:ByteArray.extract (ba path) q.from_ q.i=ba ((path.take q.i).drop q.from_):=qQ _ _ _;rw [ex] at o3;(conv=>whnf);rw [ex];refine jO (e:=9) (sz:=1) (aQ:=16) (new:=[.string (ba ((path.take q.i).drop q.from_))]) rfl rfl rfl rfl rfl rfl rfl (O1.keep k3 (by simp)) rfl (λj hj=>?_) rfl (by omega) (by decide) (by simp [au]) ?_
    ·have hj0:j=0:=by simpa using hj
     subst hj0;simp only [Heap.cell?,o3];rfl
    intro a4 c4 h4 O4 k4 n4;have z3:=k3.size;have k04:Keeps [] h h4:=(k1.trans k3).cZ k4 n1;have n04:∀ b∈ay a4,h.size<=b:=λb hb=>by
     rcases n4 b hb with h|h
     ·exact n1 b h
     ·have:=k1.size;omega
    have ew:IntKind.i64.wrap ((q.i:Int)+1)=((q.i+1:Nat):Int):=wrapN (by simp) (by omega);(conv=>whnf);refine ⟨path.length+2-(q.i+1),by omega,?_⟩;(conv=>whnf);rw [ew];have XC:Own h4 9 1 a4 (q.done++[(path.take q.i).drop q.from_]).length c4 ((bq (q.done++[(path.take q.i).drop q.from_])).map λx=>.string x):=by
     have e1:(bq (q.done++[(path.take q.i).drop q.from_])).map (λx=>Value.string x)=(bq q.done).map (λx=>Value.string x)++[.string (ba ((path.take q.i).drop q.from_))]:=by simp [bq]
     rw [e1,List.length_append];exact O4
    refine ⟨⟨q.i+1,q.i+1,q.done++[(path.take q.i).drop q.from_],a4,c4⟩,rfl,?_,rfl,by show 1<=q.i+1;omega,by show q.i+1<=_;omega,by show q.i+1<=_;omega,k04,XC,n04,?_,λe=>absurd e hd2.2,?_⟩
    ·simp
    ·show (q.done++[_]).length+1<=q.i+1;rw [List.length_append];show q.done.length+1+1<=_;omega
    ·by_cases hlen:q.i=path.length
     ·exact XB I1 hlen q1 _ _ _
     ·have hlt:q.i<path.length:=by omega
      rw [hsz,hby hlt] at hb;have h47:path[q.i]=47:=by
       have hne:((q.i:Int)==(path.length:Int))=false:=by simp;omega
       rw [hne] at hb;simpa using hb
      exact XA I1 hlt h47 _ _
   ·have hlt:q.i<path.length:=by
     rw [hsz] at hb;by_cases hlen:q.i=path.length
     ·have:((q.i:Int)==(path.length:Int))=true:=by simp [hlen]
      rw [this] at hb;cases hb
     ·omega
    have h47:path[q.i]≠47:=by
     rw [hsz,hby hlt] at hb;have hne:((q.i:Int)==(path.length:Int))=false:=by simp;omega
     rw [hne] at hb;simpa using hb
    have ew:IntKind.i64.wrap ((q.i:Int)+1)=((q.i+1:Nat):Int):=wrapN (by simp) (by omega);(conv=>whnf);refine ⟨path.length+2-(q.i+1),by omega,?_⟩;(conv=>whnf);rw [ew];exact ⟨⟨q.i+1,q.from_,q.done,q.a,q.c⟩,rfl,rfl,rfl,by show 1<=q.i+1;omega,by show q.i+1<=_;omega,qf,k1,O1,n1,Nat.le_succ_of_le q3,q4,Xz I1 hlt h47⟩
  ·have hd2:path=[47]\/q.i=path.length+1:=by
    rw [dJ,hsz,e47] at hd;simp at hd;by_cases h:path=[47]
    ·exact .inl h
    ·right
     have:=hd;by_cases hle:q.i<=path.length
     ·exact absurd (hd hle) h
     ·omega
   have hdone:(path=[]/\q.done=[])\/(path=[47]/\q.done=[])\/∃ c r,path=c::r/\path≠[47]/\q.done=dH r:=by
    by_cases h47:path=[47]
    ·exact .inr (.inl ⟨h47,q4 h47⟩)
    ·have hi:q.i=path.length+1:=by
      rcases hd2 with h|h
      ·exact absurd h h47
      ·exact h
     rcases I1 with ⟨h1,_⟩|⟨_,h2,h3⟩|h3
     ·omega
     ·right;right
      match path,h2 with
      | c::r,_=>exact ⟨c,r,rfl,h47,h3⟩
     ·exact .inl h3
   have hjl:(bM q.done).length<=1048577:=by
    rcases hdone with ⟨_,h⟩|⟨_,h⟩|⟨c,r,h1,_,h⟩
    ·rw [h];simp [bM]
    ·rw [h];simp [bM]
    ·rw [h,Ce];rw [h1] at hp;simp only [List.length_cons] at hp ⊢;omega
   have S1:=Cu O1 (by omega) (λx hx=>by have:=wL hx;omega);(conv=>whnf);refine ak.i (XD S1 (by omega)) λv h2 k2 hv=>?_;subst hv;have S2:=S1.keep k2;rcases hdone with ⟨h1,h⟩|⟨h1,h⟩|⟨c,r,h1,hn47,h⟩
   ·have ev:pU q.done=.tuple #[.string (ba [47]),.int .i64 0]:=by rw [h];rfl
    rw [ev];(conv=>whnf);refine aj.t (by
     have e2:((ba [47]).toList==(ba path).toList)=decide (([47]:List UInt8)=path):=iZ _ _;show (bif (0:Int) != 0 then true else !((ba [47]).toList==(ba path).toList))=true;rw [e2,h1];rfl) ?_
    (conv=>whnf);refine ⟨k1.trans k2,?_⟩;rw [h1];rfl
   ·have ev:pU q.done=.tuple #[.string (ba [47]),.int .i64 0]:=by rw [h];rfl
    rw [ev];(conv=>whnf);refine aj.f (by
     have:((ba [47]).toList==(ba path).toList)=true:=by rw [h1];exact beq_self_eq_true _
     show (bif (0:Int) != 0 then true else !((ba [47]).toList==(ba path).toList))=false;rw [this];rfl) ?_
    (conv=>whnf);refine ⟨k1.trans k2,?_⟩;have hpp:bC path=some q.done:=by rw [h1,h];decide +kernel
    rw [hpp];exact ⟨q.a,q.c,rfl,S2,n1⟩
   ·have hne:q.done≠[]:=by rw [h];exact za r
    have hjo:bM q.done=47::r:=by rw [h,Ce]
    by_cases hgood:q.done.all dI=true/\(bM q.done).length<=120
    ·have ev:pU q.done=.tuple #[.string (ba (47::r)),.int .i64 0]:=by unfold pU;rw [if_neg hne,if_pos hgood,hjo]
     rw [ev];have eb:((ba (47::r)).toList==(ba path).toList)=decide (c=47):=by
      have h2:((ba (47::r)).toList==(ba path).toList)=decide (47::r=path):=iZ _ _;rw [h2,h1];refine decide_eq_decide.2 ⟨λe=>((List.cons.inj e).1).symm,λe=>by rw [e]⟩
     have hlen:(47::r).length<=120:=by rw [<-hjo];exact hgood.2
     by_cases hc:c=47
     ·(conv=>whnf);refine aj.f (by
       show (bif (0:Int) != 0 then true else !((ba (47::r)).toList==(ba path).toList))=false;rw [eb,hc];rfl) ?_
      (conv=>whnf);refine ⟨k1.trans k2,?_⟩;have hr:r≠[]:=by
       rintro rfl;rw [h1,hc] at hn47;exact hn47 rfl
      have hpp:bC path=some q.done:=by
       rw [h1];unfold bC;simp only;rw [if_neg (by simp only [List.length_cons] at hlen ⊢;rw [hc];simp;omega),if_neg hr,if_pos (by rw [<-h];exact hgood.1),h]
      rw [hpp];exact ⟨q.a,q.c,rfl,S2,n1⟩
     ·(conv=>whnf);refine aj.t (by
       show (bif (0:Int) != 0 then true else !((ba (47::r)).toList==(ba path).toList))=true;rw [eb,decide_eq_false hc];rfl) ?_
      (conv=>whnf);refine ⟨k1.trans k2,?_⟩;have hpp:bC path=none:=by
       rw [h1];unfold bC;simp only;rw [if_pos (.inl hc)]
      rw [hpp];rfl
    ·have ev:pU q.done=.tuple #[.string (ba []),.int .i64 3]:=by unfold pU;rw [if_neg hne,if_neg hgood]
     rw [ev];(conv=>whnf);refine aj.t rfl ?_;(conv=>whnf);refine ⟨k1.trans k2,?_⟩;have hpp:bC path=none:=by
      rw [h1];unfold bC;simp only;by_cases hc:c≠47\/120<(c::r).length
      ·rw [if_pos hc]
      ·rw [if_neg hc];have hc47:c=47:=by
        apply Classical.byContradiction;intro e;exact hc (.inl e)
       have hlen:(c::r).length<=120:=by omega
       have hr:r≠[]:=by
        rintro rfl;rw [h1,hc47] at hn47;exact hn47 rfl
       rw [if_neg hr,if_neg];intro ha;refine hgood ⟨by rw [h];exact ha,?_⟩;rw [hjo];simpa using hlen
     rw [hpp];rfl
structure dh (h:Heap)(z t:Nat)(aT:Option Addr)(cT:Nat)(L:List bY):Prop where
 tr:h[t]?=some (.cells ⟨[.slice aT L.length cT]⟩ 80 (0,0))
 own:Own h 77 5 aT L.length cT (gm L)
 jH:∀ x∈L,x.n=x.nd.names.length/\Own h 93 2 x.a x.n x.c (bV x.nd.names)/\(∀ b∈ay x.a,z<=b)/\(∀ e∈x.nd.names,e.ok)/\x.nd.names.length<=105
 zt:z<=t/\∀ b∈ay aT,z<=b
theorem dh.keep {F:List Nat}{h h':Heap}{z t:Nat}{aT:Option Addr}{cT:Nat}{L:List bY}(H:dh h z t aT cT L)(k:Keeps F h h')(hF:∀ x∈F,x<z):dh h' z t aT cT L:=by
 obtain ⟨z1,z2⟩:=H.zt;have no:∀ b,z<=b->b∉F:=λb hb hx=>by have:=hF b hx;omega
 exact ⟨k.obj H.tr (no _ z1),H.own.keep k (λb hb=>no b (z2 b hb)),λx hx=>by
  obtain ⟨n1,n2,n3,n4,n5⟩:=H.jH x hx;exact ⟨n1,n2.keep k (λb hb=>no b (n3 b hb)),n3,n4,n5⟩,H.zt⟩
structure jq (T:List aD):Prop where
 two:2<=T.length
 dir:∀ i,inT T i->(tn T i).kind=2->True/\(∀ e∈(tn T i).names,inT T e.node)/\strict (tn T i).names
theorem jq.alike {T:List aD}(W:jq T):Alike (aO T) (aO T) id (inT T):=by
 refine ⟨λi _=>rfl,λi name hi hk=>by simp,λi name y hi hk hf=>?_,λi _ _=>rfl⟩;have hf':(bR (tn T i).names name).map (·.node)=some y:=hf;cases he:bR (tn T i).names name with
 | none=>rw [he] at hf';cases hf'
 | some e=>
  rw [he] at hf';have:e.node=y:=by simpa using hf'
  rw [<-this];exact (W.dir i hi hk).2.1 e (List.mem_of_find?_eq_some he)
theorem bX.tree {S:FS}{T:List aD}{num:List Int}(W:bX S T num):jq T:=
 ⟨W.two,λi hi hk=>by
  obtain ⟨_,q2,q3,_⟩:=W.dir i ⟨hi,by rw [hk];decide⟩ hk;exact ⟨trivial,λe he=>(q2 e he).1,q3⟩⟩
theorem dh.at_ {h:Heap}{z t:Nat}{aT:Option Addr}{cT:Nat}{L:List bY}(H:dh h z t aT cT L){i:Int}(hi:inT (aB L) i):∃ (k:Nat) (bT:Nat) (hk:k<L.length),i=(k:Int)/\aT=some ⟨bT,0,none⟩/\tn (aB L) i=(L[k]'hk).nd/\∀ j,j<5->Heap.cell? h bT (0+k*5+j)=((L[k]'hk).cells)[j]?:=by
 have h1:=hi.1;have h2:=hi.2;rw [nZ] at h2;have hk:i.toNat<L.length:=by omega
 obtain ⟨bT,eZ,bO,oT,Xq,Xr,hleT⟩:=u7 H.own (k:=i.toNat*5+1) (by rw [ol];omega);refine ⟨i.toNat,bT,hk,by omega,bO,?_,λj hj=>?_⟩
 ·have:=vk hk;rw [Int.toNat_of_nonneg (by omega)] at this;exact this
 ·obtain ⟨b',cs',ha',o',hc',_⟩:=u7 H.own (k:=i.toNat*5+j) (by rw [ol];omega);rw [bO] at ha';cases ha';rw [Nat.zero_add,hc',CB L _ j hk hj]
theorem NS {h:Heap}{a:Option Addr}{n c:Nat}{x y:List (List UInt8)}(O:Own h 9 1 a n c ((bq x).map λx=>.string x)){b:Option Addr}{m d:Nat}(S:Sl h b m d (bq y))(hb:n+m<=100000){bs:List Nat}(hbs:∀ z∈ay a,z∉bs){ty:TypeId}{K:Value->Heap->Prop}
 (H:∀ a' c' h',Own h' 9 1 a' (n+m) c' ((bq (x++y)).map λx=>.string x)->Keeps (ay a) h h'->(∀ z∈ay a',z∈ay a\/h.size<=z)->K (.slice a' (n+m) c') h') :
 aW Tryz.prog (Builtin.append_ #[52,52] ty ⟨[.slice a n c,.slice b m d]⟩) bs h K:=by
 have hm:=S.hlen;rw [fE] at hm;have hap:bq (x++y)=bq x++bq y:=by simp [bq]
 rcases Nat.eq_zero_or_pos m with h0|h0
 ·subst h0;have:y=[]:=List.eq_nil_of_length_eq_zero hm.symm;subst this;have hnc:n<=c:=by
   rcases O with ⟨_,rfl,rfl,_⟩|⟨b,cs,_,_,_,_,_,h2⟩
   ·exact Nat.le_refl _
   ·exact h2
  refine aW.append0 rfl rfl rfl hnc ?_;have:=H a c h (by rw [List.append_nil];exact O) (Keeps.refl _ _) (λb hb=>.inl hb);exact this
 ·obtain ⟨xb,o,rfl⟩:=S.rX h0;refine jO (e:=9) (sz:=1) (aQ:=16) (new:=(bq y).map λx=>.string x) rfl rfl rfl rfl rfl rfl rfl O (by simp [fE];omega) (S.cells1) (F4 _) (by omega) (by decide) hbs ?_;intro a' c' h5 O5 k5 n5;exact H a' c' h5 (by rw [hap,List.map_append];exact O5) k5 n5
structure TQ where
 f:Nat
 at_:Int
 links:Nat
 l:List (List UInt8)
 a:Option Addr
 n:Nat
 c:Nat
theorem NU {h:Heap}{z t:Nat}{aT:Option Addr}{cT:Nat}{L:List bY}(H:dh h z t aT cT L)(W:jq (aB L))(hdl:∀ i,inT (aB L) i->(tn (aB L) i).kind=3->(tn (aB L) i).data.length<=2688)(follow:Bool)
 {a:Option Addr} {n c:Nat} {l:List (List UInt8)} (T:Sl h a n c (bq l)) (hl:l.length<=60) (hx:∀ x∈l,x.length<=200) :
 aC Tryz.prog 76 [.pointer (some ⟨t,0,none⟩),.slice a n c,.bool follow] h (λv h'=>Keeps [] h h'/\v=.tuple #[.int .i64 (dn (aO (aB L)) 1 follow 600 1 0 l).1,.int .i64 (dn (aO (aB L)) 1 follow 600 1 0 l).2]):=by
 have hE:(dn (aO (aB L)) 1 follow 600 1 0 l).2 ≠ -1:=Aa 600 1 0 l (by decide) (by omega);generalize hR:dn (aO (aB L)) 1 follow 600 1 0 l=R at hE;have hin1:inT (aB L) 1:=by have:=W.two;exact ⟨by omega,by omega⟩
 refine aG aH Tryz.func76 rfl ok76 (by simp [Tryz.f76]) ?_;(conv=>whnf);refine bP.on [0,1,2,8,9] [] (λq:TQ=>[(0,.v (.pointer (some ⟨t,0,none⟩))),(1,.v (.slice q.a q.n q.c)),(2,.v (.bool follow)),(8,.v (.int .i64 q.at_)),(9,.v (.int .i64 (q.links:Int)))]) (λ_=>[])
  (λq h'=>q.links<=8/\Keeps [] h h'/\Sl h' q.a q.n q.c (bq q.l)/\(∀ x∈q.l,x.length<=200)/\q.l.length<=60+60*q.links/\inT (aB L) q.at_/\dn (aO (aB L)) 1 follow q.f q.at_ q.links q.l=R) (λq=>q.f) ⟨600,1,0,l,a,n,c⟩ ?_ ?_
 ·(conv=>whnf);exact ⟨⟨600,1,0,l,a,n,c⟩,rfl,rfl,rfl,Nat.zero_le _,Keeps.refl _ _,T,hx,by simpa using hl,hin1,hR⟩
 ·rintro ⟨f,at_,links,l,a,n,c⟩ h2 ⟨q1,k2,T2,x2,l2,i2,r2⟩;simp only at q1 T2 x2 l2 i2 r2;have nl:=T2.hlen;rw [fE] at nl;obtain ⟨f',hf'⟩:∃ f',f=f'+1:=by
   cases f with
   | zero=>
    exfalso;apply hE;rw [<-r2];rfl
   | succ f'=>exact ⟨f',rfl⟩
  subst hf';(conv=>whnf);refine aj.i (λhc=>?_) (λhc=>?_)
  ·have hpos:0<l.length:=by simp at hc;omega
   obtain ⟨name,rest,rfl⟩:∃ name rest,l=name::rest:=by
    cases l with
    | nil=>simp at hpos
    | cons x r=>exact ⟨x,r,rfl⟩
   simp only [List.length_cons] at nl l2;obtain ⟨b0,off0,hb0,_,hcell⟩:=T2.at1 0 (by rw [fE];exact hpos);have en:(bq (name::rest))[0]'(by rw [fE];exact hpos)=ba name:=by simp [bq]
   rw [en] at hcell;have H2:=H.keep k2 (by simp);obtain ⟨k,bT,hk,ek,bO,dx,hcl⟩:=H2.at_ i2;(conv=>whnf);(try refine aV.pass ?_;conv=>whnf);refine aX.i 0 rfl (by show 0<n;omega) hb0 ?_;(conv=>whnf);refine ax.i hcell ?_;(conv=>whnf);refine dw.i 1 n rfl rfl (by omega) T2.hcap ?_;have P:=T2.part (l:=1) (r:=n) (by omega) (Nat.le_refl _);have hbr:((bq (name::rest)).take n).drop 1=bq rest:=by
    have:(bq (name::rest)).length=n:=by rw [fE,List.length_cons];omega
    rw [<-this,List.take_length];simp [bq]
   rw [hbr] at P;(conv=>whnf);refine ax.o H2.tr rfl ?_;(conv=>whnf);refine aX.i k ek hk bO ?_;(conv=>whnf);refine ax.i (hcl 1 (by decide)) ?_;rw [tL] at r2;have hkd:(aO (aB L)).kind at_=(L[k]'hk).nd.kind:=by show (tn (aB L) at_).kind=_;rw [dx]
   rw [hkd] at r2;by_cases hk2:(L[k]'hk).nd.kind=2
   ·rw [if_neg (λh=>h hk2)] at r2;rw [hk2];(conv=>whnf);refine aj.f rfl ?_;obtain ⟨nn1,nn2,nn3,nn4,nn5⟩:=H2.jH _ (List.getElem_mem hk);have S1:=kr nn2 nn4 (by omega);have hnl:name.length<=200:=x2 name (by simp);obtain ⟨d1,d2,d3⟩:=W.dir at_ i2 (by rw [dx];exact hk2);rw [dx] at d2 d3;have hfe:(aO (aB L)).find at_ name=((if dA (L[k]'hk).nd.names name=true then (L[k]'hk).nd.names[aP (L[k]'hk).nd.names name]? else none)).map (·.node):=by
     show (bR (tn (aB L) at_).names name).map (·.node)=_;rw [dx,zq d3]
    rw [hfe] at r2;(conv=>whnf);refine ax.o H2.tr rfl ?_;(conv=>whnf);refine aX.i k ek hk bO ?_;(conv=>whnf);refine ax.i (hcl 4 (by decide)) ?_;(conv=>whnf);refine ak.i (xI S1 (by omega) name (by omega)) λv h3 k3 hv=>?_;subst hv;have k03:=k2.trans k3;have H3:=H2.keep k3 (by simp);cases hpt:dA (L[k]'hk).nd.names name with
    | false=>
     rw [hpt] at r2;(conv=>whnf);refine aj.t rfl ?_;(conv=>whnf);refine ⟨k03,?_⟩;rw [<-r2];rfl
    | true=>
     rw [hpt,if_pos rfl] at r2;(conv=>whnf);refine aj.f rfl ?_;have hlt:aP (L[k]'hk).nd.names name<(L[k]'hk).nd.names.length:=by
      apply Classical.byContradiction;intro hge;unfold dA at hpt;rw [List.getElem?_eq_none (by omega)] at hpt;cases hpt
     rw [List.getElem?_eq_getElem hlt] at r2;simp only [Option.map_some] at r2;obtain ⟨b5,o5,hb5,_,⟨rfl,hok⟩,hc5⟩:=(S1.keep k3).at_ _ hlt;have hen:=d2 _ (List.getElem_mem hlt);generalize (L[k]'hk).nd.names[aP (L[k]'hk).nd.names name]'hlt=e at r2 hok hc5 hen;have hcl3:∀ j,j<5->Heap.cell? h3 bT (0+k*5+j)=((L[k]'hk).cells)[j]?:=by
      obtain ⟨k9,bT9,hk9,ek9,haT9,_,hcl9⟩:=H3.at_ i2;have:k9=k:=by omega
      subst this;rw [bO] at haT9;cases haT9;exact hcl9
     obtain ⟨k',GH,hk',wT,qB,om,hcl'⟩:=H3.at_ hen;(conv=>whnf);refine ax.o H3.tr rfl ?_;(conv=>whnf);refine aX.i k ek hk bO ?_;(conv=>whnf);refine ax.i (hcl3 4 (by decide)) ?_;(conv=>whnf);refine aX.i (aP (L[k]'hk).nd.names name) rfl (by omega) hb5 ?_;(conv=>whnf);refine ax.i (hc5 1 (show 1<2 by decide)) ?_;(conv=>whnf);refine ax.o H3.tr rfl ?_;(conv=>whnf);refine aX.i k' wT hk' qB ?_;(conv=>whnf);refine ax.i (hcl' 1 (by decide)) ?_;have Xx:(aO (aB L)).kind e.node=(L[k']'hk').nd.kind:=by show (tn (aB L) e.node).kind=_;rw [om]
     rw [Xx] at r2;have hrl:((n-1:Nat):Int)=(rest.length:Int):=by omega
     have T3:=P.keep k3;(conv=>whnf);by_cases hcnd:(L[k']'hk').nd.kind≠3\/(rest=[]/\follow=false)
     ·rw [if_pos hcnd] at r2;refine aj.t ?_ ?_
      ·rw [hrl];rcases hcnd with h|⟨h,h'⟩
       ·simp [dm,h]
       ·rw [h,h'];simp [dm]
      (conv=>whnf);refine ⟨f',by show f'<f'+1;omega,?_⟩;(conv=>whnf);refine ⟨⟨f',e.node,links,rest,jh a c 1 1,n-1,c-1⟩,rfl,rfl,rfl,q1,k03,T3,λx hx=>x2 x (by simp [hx]),by simp only;omega,hen,r2⟩
     ·rw [if_neg hcnd] at r2;have hk3:(L[k']'hk').nd.kind=3:=by
       apply Classical.byContradiction;intro h;exact hcnd (.inl h)
      refine aj.f ?_ ?_
      ·rw [hrl,hk3];by_cases hr:rest=[]
       ·have:follow=true:=by
         cases follow with
         | true=>rfl
         | false=>exact absurd (.inr ⟨hr,rfl⟩) hcnd
        rw [this];simp [dm,dJ]
       ·have:((rest.length:Int)==0)=false:=by
         have:=List.length_pos_iff.2 hr;simp;omega
        rw [this];simp [dm]
      have zm:IntKind.i64.wrap ((links:Int)+1)=((links+1:Nat):Int):=wrapN (by omega) (by omega);(conv=>whnf);rw [zm];by_cases h8:8<links+1
      ·rw [if_pos h8] at r2;refine aj.t (by simp;omega) ?_;(conv=>whnf);refine ⟨k03,?_⟩;rw [<-r2]
      ·rw [if_neg h8] at r2;refine aj.f (by simp;omega) ?_;(conv=>whnf);refine ax.o H3.tr rfl ?_;(conv=>whnf);refine aX.i k' wT hk' qB ?_;(conv=>whnf);refine ax.i (hcl' 3 (by decide)) ?_;have hda:(aO (aB L)).data e.node=(L[k']'hk').nd.data:=by show (tn (aB L) e.node).data=_;rw [om]
       have hdl2:=hdl e.node hen (by rw [om];exact hk3);rw [om] at hdl2;rw [hda] at r2;(conv=>whnf);refine ak.i (vg (L[k']'hk').nd.data (by omega) h3) λv h4 k4 hv=>?_;have k04:=k03.trans k4;cases hp:bC (L[k']'hk').nd.data with
       | none=>
        rw [hp] at hv r2;have hv:v=.tuple #[.slice none 0 0,.int .i64 3]:=hv;simp only at r2;subst hv;(conv=>whnf);refine aj.t rfl ?_;(conv=>whnf);refine ⟨k04,?_⟩;rw [<-r2]
       | some head=>
        rw [hp] at hv r2;simp only at r2;obtain ⟨ah,kh,rfl,Th,nh⟩:=hv;obtain ⟨p1,p2,p3,p4⟩:=jX hp;have zn:=sU hp;(conv=>whnf);refine aj.f rfl ?_;(conv=>whnf);refine NS (n:=0) (c:=0) (x:=[]) (.inl ⟨rfl,rfl,rfl,rfl⟩) Th (by omega) (by simp [ay]) ?_;intro a5 c5 h5 O5 k5 n5;have z5:=k5.size;have NV:Keeps [] h4 h5:=k5;have n5':∀ z∈ay a5,h4.size<=z:=λz hz=>by
         rcases n5 z hz with h|h
         ·simp [ay] at h
         ·exact h
        rw [List.nil_append] at O5;(conv=>whnf);refine NS O5 (T3.keep (k4.trans NV)) (by omega) (by simp [au]) ?_;intro a6 c6 h6 O6 k6 n6;have k56:Keeps [] h4 h6:=NV.cZ k6 n5';(conv=>whnf);refine ⟨f',by show f'<f'+1;omega,?_⟩;(conv=>whnf);have hll:0+head.length+(n-1)=(head++rest).length:=by rw [List.length_append];omega
        have NW:=O6;rw [hll] at NW;have hxs:∀ x∈head++rest,x.length<=200:=by
         intro x hx;rcases List.mem_append.1 hx with h|h
         ·exact zn x h
         ·exact x2 x (by simp [h])
        have T6:=Cu NW (by rw [List.length_append];omega) (λx hx=>by have:=hxs x hx;omega);rw [hll];refine ⟨⟨f',1,links+1,head++rest,a6,(head++rest).length,c6⟩,rfl,rfl,rfl,by simp only;omega,k04.trans k56,T6,hxs,?_,hin1,r2⟩;simp only [List.length_append];omega
   ·rw [if_pos hk2] at r2;(conv=>whnf);refine aj.t (by simp;exact hk2) ?_;(conv=>whnf);refine ⟨k2,?_⟩;rw [<-r2]
  ·(conv=>whnf);have h0:l=[]:=List.eq_nil_of_length_eq_zero (by simp at hc;omega);subst h0;have hR2:R=(at_,0):=by rw [<-r2];rfl
   refine ⟨k2,?_⟩;rw [hR2]
theorem zI {h:Heap}{z t:Nat}{aT:Option Addr}{cT:Nat}{L:List bY}(H:dh h z t aT cT L)(W:jq (aB L))(hdl:∀ i,inT (aB L) i->(tn (aB L) i).kind=3->(tn (aB L) i).data.length<=2688)
 (path:List UInt8) (hp:path.length<=1048576) (follow:Bool) :
 aC Tryz.prog 32 [.pointer (some ⟨t,0,none⟩),.string (ba path),.bool follow] h (λv h'=>Keeps [] h h'/\v=.tuple #[.int .i64 (aR (aO (aB L)) path follow).1,.int .i64 (aR (aO (aB L)) path follow).2]):=by
 refine aG aH Tryz.func32 rfl ok32 (by simp [Tryz.f32]) ?_;(conv=>whnf);refine ak.i (vg path hp h) λv h1 k1 hv=>?_;unfold aR;cases hpp:bC path with
 | none=>
  rw [hpp] at hv;have hv:v=.tuple #[.slice none 0 0,.int .i64 3]:=hv;subst hv;(conv=>whnf);refine aj.t rfl ?_;(conv=>whnf);exact ⟨k1,rfl⟩
 | some l=>
  rw [hpp] at hv;obtain ⟨a,c,rfl,T,n1⟩:=hv;obtain ⟨p1,p2,p3,p4⟩:=jX hpp;(conv=>whnf);refine aj.f rfl ?_;(conv=>whnf);refine ak.i (NU (H.keep k1 (by simp)) W hdl follow T p1 (sU hpp)) λv h2 k2 hv=>?_;subst hv;(conv=>whnf);exact ⟨k1.trans k2,rfl⟩
def wW (r:Int×List UInt8×Int×Int):Value:=.tuple #[.int .i64 r.1,.string (ba r.2.1),.int .i64 r.2.2.1,.int .i64 r.2.2.2]
theorem zJ {h:Heap}{z t:Nat}{aT:Option Addr}{cT:Nat}{L:List bY}(H:dh h z t aT cT L)(W:jq (aB L))(hdl:∀ i,inT (aB L) i->(tn (aB L) i).kind=3->(tn (aB L) i).data.length<=2688)
 (path:List UInt8) (hp:path.length<=1048576) :
 aC Tryz.prog 93 [.pointer (some ⟨t,0,none⟩),.string (ba path)] h (λv h'=>Keeps [] h h'/\v=wW (bB (aO (aB L)) path)):=by
 have hin1:inT (aB L) 1:=by have:=W.two;exact ⟨by omega,by omega⟩
 refine aG aH Tryz.func93 rfl ok93 (by simp [Tryz.f93]) ?_;(conv=>whnf);refine ak.i (vg path hp h) λv h1 k1 hv=>?_;have hpl:bB (aO (aB L)) path=bB (aO (aB L)) path:=rfl
 conv at hpl=>rhs;unfold bB
 cases hpp:bC path with
 | none=>
  rw [hpp] at hv hpl;have hv:v=.tuple #[.slice none 0 0,.int .i64 3]:=hv;simp only at hpl;subst hv;(conv=>whnf);refine aj.t rfl ?_;(conv=>whnf);refine ⟨k1,?_⟩;rw [hpl];rfl
 | some l=>
  rw [hpp] at hv hpl;simp only at hpl;obtain ⟨a,c,rfl,T,n1⟩:=hv;obtain ⟨p1,p2,p3,p4⟩:=jX hpp;(conv=>whnf);refine aj.f rfl ?_;by_cases h0:l=[]
  ·rw [if_pos h0] at hpl;(conv=>whnf);refine aj.t (by rw [h0];rfl) ?_;(conv=>whnf);refine ⟨k1,?_⟩;rw [hpl];rfl
  ·rw [if_neg h0] at hpl;have hpos:=List.length_pos_iff.2 h0;(conv=>whnf);refine aj.f (by simp;omega) ?_;have e1:IntKind.i64.wrap ((l.length:Int)-1)=((l.length-1:Nat):Int):=wrapN (by omega) (by omega);obtain ⟨b,off,hb',_,hcell⟩:=T.at1 (l.length-1) (by rw [fE];omega);have e:(bq l)[l.length-1]'(by rw [fE];omega)=ba (l.getLast?.getD []):=by
    rw [List.getLast?_eq_getElem?,List.getElem?_eq_getElem (by omega)];simp [bq]
   rw [e] at hcell;(conv=>whnf);refine aX.i (l.length-1) e1 (by omega) hb' ?_;(conv=>whnf);refine ax.i hcell ?_;(conv=>whnf);refine dw.i 0 (l.length-1) rfl e1 (Nat.zero_le _) (by have:=T.hcap;omega) ?_;have P:=T.part (l:=0) (r:=l.length-1) (Nat.zero_le _) (by omega);rw [List.drop_zero,lq] at P;have hbt:(bq l).take (l.length-1)=bq l.dropLast:=by
    rw [List.dropLast_eq_take];simp [bq]
   rw [hbt] at P;have hxs:∀ x∈l.dropLast,x.length<=200:=λx hx=>sU hpp x (List.dropLast_subset _ hx);(conv=>whnf);rw [lq];refine ak.i (NU (H.keep k1 (by simp)) W hdl true P (by rw [List.length_dropLast];omega) hxs) λv h2 k2 hv=>?_;subst hv;have hal:=qE W.alike (root:=1) (follow:=true) hin1 600 1 0 l.dropLast hin1;generalize dn (aO (aB L)) 1 true 600 1 0 l.dropLast=r at hpl hal ⊢;have k02:=k1.trans k2;by_cases hr:r.2=0
   ·rw [if_neg (λh=>h hr)] at hpl;have hin:=(hal.2 hr).2;rw [hr];(conv=>whnf);refine aj.f rfl ?_;have H2:=H.keep k02 (by simp);obtain ⟨k,bT,hk,ek,bO,dx,hcl⟩:=H2.at_ hin;(conv=>whnf);refine ax.o H2.tr rfl ?_;(conv=>whnf);refine aX.i k ek hk bO ?_;(conv=>whnf);refine ax.i (hcl 1 (by decide)) ?_;have hkd:(aO (aB L)).kind r.1=(L[k]'hk).nd.kind:=by show (tn (aB L) r.1).kind=_;rw [dx]
    rw [hkd] at hpl;by_cases hk2:(L[k]'hk).nd.kind=2
    ·rw [if_neg (λh=>h hk2)] at hpl;rw [hk2];(conv=>whnf);refine aj.f rfl ?_;obtain ⟨nn1,nn2,nn3,nn4,nn5⟩:=H2.jH _ (List.getElem_mem hk);have S1:=kr nn2 nn4 (by omega);obtain ⟨d1,d2,d3⟩:=W.dir r.1 hin (by rw [dx];exact hk2);rw [dx] at d2 d3;have hgl:(l.getLast?.getD []).length<=200:=by
      rw [List.getLast?_eq_some_getLast h0];exact sU hpp _ (List.getLast_mem h0)
     generalize l.getLast?.getD []=name at hpl hgl hcell ⊢;have hfe:(aO (aB L)).find r.1 name=((if dA (L[k]'hk).nd.names name=true then (L[k]'hk).nd.names[aP (L[k]'hk).nd.names name]? else none)).map (·.node):=by
      show (bR (tn (aB L) r.1).names name).map (·.node)=_;rw [dx,zq d3]
     rw [hfe] at hpl;(conv=>whnf);refine ax.o H2.tr rfl ?_;(conv=>whnf);refine aX.i k ek hk bO ?_;(conv=>whnf);refine ax.i (hcl 4 (by decide)) ?_;(conv=>whnf);refine ak.i (xI S1 (by omega) name (by omega)) λv h3 k3 hv=>?_;subst hv;have k03:=k02.trans k3;have H3:=H2.keep k3 (by simp);cases hpt:dA (L[k]'hk).nd.names name with
     | false=>
      rw [hpt] at hpl;(conv=>whnf);(try refine aV.pass ?_;conv=>whnf);refine aj.f rfl ?_;(conv=>whnf);refine ⟨k03,?_⟩;rw [hpl];rfl
     | true=>
      rw [hpt,if_pos rfl] at hpl;(conv=>whnf);(try refine aV.pass ?_;conv=>whnf);refine aj.t rfl ?_;have hlt:aP (L[k]'hk).nd.names name<(L[k]'hk).nd.names.length:=by
       apply Classical.byContradiction;intro hge;unfold dA at hpt;rw [List.getElem?_eq_none (by omega)] at hpt;cases hpt
      rw [List.getElem?_eq_getElem hlt] at hpl;obtain ⟨b5,o5,hb5,_,⟨rfl,hok⟩,hc5⟩:=(S1.keep k3).at_ _ hlt;have hcl3:∀ j,j<5->Heap.cell? h3 bT (0+k*5+j)=((L[k]'hk).cells)[j]?:=by
       obtain ⟨k9,bT9,hk9,ek9,haT9,_,hcl9⟩:=H3.at_ hin;have:k9=k:=by omega
       subst this;rw [bO] at haT9;cases haT9;exact hcl9
      (conv=>whnf);refine ax.o H3.tr rfl ?_;(conv=>whnf);refine aX.i k ek hk bO ?_;(conv=>whnf);refine ax.i (hcl3 4 (by decide)) ?_;(conv=>whnf);refine aX.i (aP (L[k]'hk).nd.names name) rfl (by omega) hb5 ?_;(conv=>whnf);refine ax.i (hc5 1 (show 1<2 by decide)) ?_;(conv=>whnf);refine ⟨k03,?_⟩;rw [hpl];rfl
    ·rw [if_pos hk2] at hpl;(conv=>whnf);refine aj.t (by simp;exact hk2) ?_;(conv=>whnf);refine ⟨k02,?_⟩;rw [hpl];rfl
   ·rw [if_pos hr] at hpl;(conv=>whnf);refine aj.t (by simp;exact hr) ?_;(conv=>whnf);refine ⟨k02,?_⟩;rw [hpl];rfl
theorem GD:∀ (L:List bY) (i:Nat) (hi:i<L.length) (j:Nat) (hj:j<5) (v:Value) (x:bY),x.cells=((L[i]'hi).cells).set j v->(gm L).set (i*5+j) v=gm (L.set i x)
 | y::L,0,_,j,hj,v,x,hx=>by
  unfold gm;rw [List.set_cons_zero,List.flatMap_cons,List.flatMap_cons,List.set_append,if_pos (by show 0*5+j<5;omega),Nat.zero_mul,Nat.zero_add,hx];rfl
 | y::L,i+1,hi,j,hj,v,x,hx=>by
  have ih:=GD L i (by simpa using hi) j hj v x hx;unfold gm at ih ⊢;rw [List.set_cons_succ,List.flatMap_cons,List.flatMap_cons,List.set_append,if_neg (by show ¬ ((i+1)*5+j<5);omega)];have:(i+1)*5+j-y.cells.length=i*5+j:=by show (i+1)*5+j-5=_;omega
  rw [this,ih]
def Gz (h:Heap)(z:Nat)(x:bY):Prop:=x.n=x.nd.names.length/\Own h 93 2 x.a x.n x.c (bV x.nd.names)/\(∀ b∈ay x.a,z<=b)/\(∀ e∈x.nd.names,e.ok)/\x.nd.names.length<=105
theorem dh.set {h h':Heap}{z t:Nat}{aT:Option Addr}{cT:Nat}{L:List bY}(H:dh h z t aT cT L){k:Nat}(hk:k<L.length){bT:Nat}(bO:aT=some ⟨bT,0,none⟩){eZ:List Value}(o:h[bT]?=some (.cells ⟨eZ⟩ 77 (0,0)))(kk:Keeps [bT] h h'){j:Nat}(hj:j<5){v:Value}
 (o':h'[bT]?=some (.cells ⟨bF (k*5+j) [v] eZ⟩ 77 (0,0))) (x:bY) (hxc:x.cells=((L[k]'hk).cells).set j v) (hx:Gz h z x):dh h' z t aT cT (L.set k x):=by
 have ht:t≠bT:=rH H.tr o (by decide);have O':=GA (bO ▸ H.own) (k:=k*5+j) (by rw [ol];omega) o o';rw [GD L k hk j hj v x hxc,<-bO] at O';have nk:∀ y:bY,Own h 93 2 y.a y.n y.c (bV y.nd.names)->Own h' 93 2 y.a y.n y.c (bV y.nd.names):=λy oy=>oy.keep kk (λb hb hx=>by
  obtain ⟨cs,oc⟩:=oJ oy b hb;have:=rH oc o (by decide);simp at hx;exact this hx)
 refine ⟨by rw [List.length_set];exact kk.obj H.tr (by simpa using ht),by rw [List.length_set];exact O',λy hy=>?_,H.zt⟩;rcases List.mem_or_eq_of_mem_set hy with hy|rfl
 ·obtain ⟨n1,n2,n3,n4,n5⟩:=H.jH y hy;exact ⟨n1,nk y n2,n3,n4,n5⟩
 ·exact ⟨hx.1,nk y hx.2.1,hx.2.2⟩
theorem dh.blk {h:Heap}{z t:Nat}{aT:Option Addr}{cT:Nat}{L:List bY}(H:dh h z t aT cT L){k:Nat}(hk:k<L.length):∃ (bT:Nat) (eZ:List Value),aT=some ⟨bT,0,none⟩/\h[bT]?=some (.cells ⟨eZ⟩ 77 (0,0))/\L.length*5<=eZ.length/\z<=bT/\∀ j,j<5->Heap.cell? h bT (0+k*5+j)=((L[k]'hk).cells)[j]?:=by
 obtain ⟨bT,eZ,bO,oT,Xq,Xr,hleT⟩:=u7 H.own (k:=k*5+1) (by rw [ol];omega);refine ⟨bT,eZ,bO,oT,by rw [ol] at hleT;exact hleT,H.zt.2 bT (by rw [bO];simp [ay]),λj hj=>?_⟩;obtain ⟨b',cs',ha',o',hc',_⟩:=u7 H.own (k:=k*5+j) (by rw [ol];omega);rw [bO] at ha';cases ha';rw [Nat.zero_add,hc',CB L _ j hk hj]
theorem GJ {h:Heap}{z t:Nat}{aT:Option Addr}{cT:Nat}{L:List bY}(H:dh h z t aT cT L)(hz:z<=h.size){d:Nat}(hd:d<L.length)(Zc:L.length<=1000000){name:List UInt8}(hnl:name.length<=200)(hnm:dI name=true)(hp:dA (L[d]'hd).nd.names name=false){x:Int}(hx:inI64 x)(Zd:(L[d]'hd).nd.names.length<105) :
 aC Tryz.prog 94 [.pointer (some ⟨t,0,none⟩),.int .i64 (d:Int),.string (ba name),.int .i64 x] h (λv h'=>Keeps (ay aT) h h'/\v=.tuple #[]/\∃ a c,dh h' z t aT cT (L.set d ⟨{ (L[d]'hd).nd with names:=bD (L[d]'hd).nd.names ⟨name,x⟩ },a,(L[d]'hd).nd.names.length+1,c⟩)):=by
 obtain ⟨bT,eZ,bO,oT,hle,hzb,hcl⟩:=H.blk hd;obtain ⟨n1,n2,n3,n4,n5⟩:=H.jH _ (List.getElem_mem hd);have SN:=kr n2 n4 (by omega);have Gw:lT (L[d]'hd).nd.names name 1=(bD (L[d]'hd).nd.names ⟨name,1⟩,0):=by
  unfold lT;rw [if_neg (by omega),if_neg (by rw [hnm];simp),if_neg (by rw [hp];simp)]
 have hl1:=zA (L[d]'hd).nd.names ⟨name,1⟩;refine aG aH Tryz.func94 rfl ok94 (by simp [Tryz.f94]) ?_;(conv=>whnf);refine ax.o H.tr rfl ?_;(conv=>whnf);refine aX.i d rfl hd bO ?_;(conv=>whnf);refine ax.i (hcl 4 (by decide)) ?_;(conv=>whnf);refine ak.i (UD SN (by omega) name (by omega) 1 ⟨by decide,by decide⟩ n4) λv h1 k1 hv=>?_;obtain ⟨a1,c1,rfl,O1,nb1⟩:=hv;rw [Gw] at O1 ⊢;simp only at O1 ⊢;have z1:=k1.size;have H1:=H.keep k1 (by simp);have Xt:∀ e∈bD (L[d]'hd).nd.names ⟨name,1⟩,e.ok:=λe he=>by
  rcases List.mem_cons.1 ((mF _ _).mem_iff.1 he) with rfl|h
  ·exact ⟨by show name.length<=140737488351232;omega,(show (-9223372036854775808:Int)<=1 by decide),(show (1:Int)<=9223372036854775807 by decide)⟩
  ·exact n4 e h
 have S1:=kr O1 Xt (by omega);(conv=>whnf);refine ak.i (xI S1 (by omega) name (by omega)) λv h2 k2 hv=>?_;subst hv;rw [Xu];have z2:=k2.size;have H2:=H1.keep k2 (by simp);have O2:=O1.keep k2 (by simp);have hkle:=vK (L[d]'hd).nd.names name;obtain ⟨b7,cs7,ha7,o7,_,ht7,hl7⟩:=u7 O2 (k:=0) (by rw [lW];omega);have hb7:h.size<=b7:=nb1 b7 (by rw [ha7];simp [ay]);have hkl:aP (L[d]'hd).nd.names name*2+1<(bV (bD (L[d]'hd).nd.names ⟨name,1⟩)).length:=by rw [lW,hl1];omega
 (conv=>whnf);refine aX.i (aP (L[d]'hd).nd.names name) rfl (by omega) ha7 ?_;(conv=>whnf);refine dN.i o7 ?_ (by simp [au]) λh3 s3 o3 k3=>?_
 ·show 0+aP (L[d]'hd).nd.names name*2+1+1<=cs7.length;omega
 have nQ:h3[b7]?=some (.cells ⟨bF (aP (L[d]'hd).nd.names name*2+1) [.int .i64 x] cs7⟩ 93 (0,0)):=by
  have:0+aP (L[d]'hd).nd.names name*2+1=aP (L[d]'hd).nd.names name*2+1:=by omega
  rw [<-this];exact o3
 have O3:=GA (ha7 ▸ O2) hkl o7 nQ;rw [Xv] at O3;have Xw:bT<h.size:=eU oT;have oT3:h3[bT]?=some (.cells ⟨eZ⟩ 77 (0,0)):=k3.obj (k2.obj (k1.obj oT (by simp)) (by simp)) (by simp;omega);have H3:dh h3 z t aT cT L:=by
  have k03:Keeps [] h h3:=(k1.trans k2).new1 k3 hb7;exact H.keep k03 (by simp)
 (conv=>whnf);refine ax.o H3.tr rfl ?_;(conv=>whnf);refine aX.i d rfl hd bO ?_;(conv=>whnf);refine dN.i oT3 ?_ (by simp [au]) λh4 s4 o4 k4=>?_
 ·show 0+d*5+4+1<=eZ.length;omega
 have ng:h4[bT]?=some (.cells ⟨bF (d*5+4) [.slice a1 (bD (L[d]'hd).nd.names ⟨name,1⟩).length c1] eZ⟩ 77 (0,0)):=by
  have:0+d*5+4=d*5+4:=by omega
  rw [<-this];exact o4
 (conv=>whnf);have hl2:=zA (L[d]'hd).nd.names ⟨name,x⟩;rw [hl1] at ng;have H4:=H3.set hd bO oT3 k4 (j:=4) (by decide) ng ⟨{ (L[d]'hd).nd with names:=bD (L[d]'hd).nd.names ⟨name,x⟩ },a1,(L[d]'hd).nd.names.length+1,c1⟩ rfl
  ⟨hl2.symm,by rw [<-hl1,ha7];exact O3,λb hb=>by have:=nb1 b hb;omega,λe he=>by
   rcases List.mem_cons.1 ((mF _ _).mem_iff.1 he) with rfl|h
   ·exact ⟨by show name.length<=140737488351232;omega,hx⟩
   ·exact n4 e h,by show (bD (L[d]'hd).nd.names ⟨name,x⟩).length<=105;rw [hl2];omega⟩
 have kk:Keeps (ay aT) h h4:=(((k1.trans k2).new1 k3 hb7).mono (by simp)).gQ k4 (λy hy=>by
  have:y=bT:=by simpa using hy
  left;rw [bO];simp [ay,this])
 exact ⟨kk,rfl,a1,c1,H4⟩
theorem NH {h:Heap}{z t:Nat}{aT:Option Addr}{cT:Nat}{L:List bY}(H:dh h z t aT cT L)(hz:z<=h.size){d:Nat}(hd:d<L.length){name:List UInt8}(hnl:name.length<=200)(hp:dA (L[d]'hd).nd.names name=true) :
 aC Tryz.prog 95 [.pointer (some ⟨t,0,none⟩),.int .i64 (d:Int),.string (ba name)] h (λv h'=>Keeps (ay aT) h h'/\v=.tuple #[]/\∃ a c,dh h' z t aT cT (L.set d ⟨{ (L[d]'hd).nd with names:=(L[d]'hd).nd.names.eraseIdx (aP (L[d]'hd).nd.names name) },a,((L[d]'hd).nd.names.eraseIdx (aP (L[d]'hd).nd.names name)).length,c⟩)):=by
 obtain ⟨bT,eZ,bO,oT,hle,hzb,hcl⟩:=H.blk hd;obtain ⟨n1,n2,n3,n4,n5⟩:=H.jH _ (List.getElem_mem hd);have SN:=kr n2 n4 (by omega);have er:kE (L[d]'hd).nd.names name=((L[d]'hd).nd.names.eraseIdx (aP (L[d]'hd).nd.names name),((L[d]'hd).nd.names[aP (L[d]'hd).nd.names name]?.getD ⟨[],0⟩).node,0):=by unfold kE;rw [if_pos hp]
 refine aG aH Tryz.func95 rfl ok95 (by simp [Tryz.f95]) ?_;(conv=>whnf);refine ax.o H.tr rfl ?_;(conv=>whnf);refine aX.i d rfl hd bO ?_;(conv=>whnf);refine ax.i (hcl 4 (by decide)) ?_;(conv=>whnf);refine ak.i (UF SN (by omega) name (by omega)) λv h1 k1 hv=>?_;obtain ⟨a1,c1,rfl,O1,nb1⟩:=hv;rw [er] at O1 ⊢;simp only at O1 ⊢;have z1:=k1.size;have H1:=H.keep k1 (by simp);have Xw:bT<h.size:=eU oT;have oT1:=k1.obj oT (by simp);(conv=>whnf);refine ax.o H1.tr rfl ?_;(conv=>whnf);refine aX.i d rfl hd bO ?_;(conv=>whnf);refine dN.i oT1 ?_ (by simp [au]) λh4 s4 o4 k4=>?_
 ·show 0+d*5+4+1<=eZ.length;omega
 have ng:h4[bT]?=some (.cells ⟨bF (d*5+4) [.slice a1 ((L[d]'hd).nd.names.eraseIdx (aP (L[d]'hd).nd.names name)).length c1] eZ⟩ 77 (0,0)):=by
  have:0+d*5+4=d*5+4:=by omega
  rw [<-this];exact o4
 (conv=>whnf);have hle2:((L[d]'hd).nd.names.eraseIdx (aP (L[d]'hd).nd.names name)).length<=(L[d]'hd).nd.names.length:=(List.eraseIdx_sublist _ _).length_le;have H4:=H1.set hd bO oT1 k4 (j:=4) (by decide) ng ⟨{ (L[d]'hd).nd with names:=(L[d]'hd).nd.names.eraseIdx (aP (L[d]'hd).nd.names name) },a1,((L[d]'hd).nd.names.eraseIdx (aP (L[d]'hd).nd.names name)).length,c1⟩ rfl
  ⟨rfl,O1,λb hb=>by have:=nb1 b hb;omega,λe he=>n4 e (List.mem_of_mem_eraseIdx he),by show ((L[d]'hd).nd.names.eraseIdx (aP (L[d]'hd).nd.names name)).length<=105;omega⟩
 have kk:Keeps (ay aT) h h4:=(k1.mono (by simp)).gQ k4 (λy hy=>by
  have:y=bT:=by simpa using hy
  left;rw [bO];simp [ay,this])
 exact ⟨kk,rfl,a1,c1,H4⟩
theorem dh.push {h h1 h':Heap}{z t:Nat}{aT:Option Addr}{cT:Nat}{L:List bY}(H:dh h z t aT cT L)(hz:z<=h.size){dY:Option Addr}{d9:Nat}(k1:Keeps (ay aT) h h1)(n1:∀ b∈ay dY,b∈ay aT\/h.size<=b)(x:bY)(O1:Own h1 77 5 dY (L.length+1) d9 (gm L++x.cells))(k2:Keeps [t] h1 h')
 (o':h'[t]?=some (.cells ⟨[.slice dY (L.length+1) d9]⟩ 80 (0,0))) (hx:x.n=0/\x.a=none/\x.c=0/\x.nd.names=[]):dh h' z t dY d9 (L++[x]):=by
 obtain ⟨z2,z3⟩:=H.zt;have NQ:∀ {b:Nat} {cs:Array Value} {T:TypeId} {fz:Nat×Nat},h[b]?=some (.cells cs T fz)->T≠77->b∉ay aT:=by
  intro b cs T fz o hne hb;obtain ⟨cs2,o2⟩:=oJ H.own b hb;exact rH o o2 hne rfl
 have tr1:=k1.obj H.tr (NQ H.tr (by decide));have z1':=k1.size;have nt:∀ {b:Nat} {cs:Array Value} {T:TypeId} {fz:Nat×Nat},h1[b]?=some (.cells cs T fz)->T≠80->b∉[t]:=by
  intro b cs T fz o hne hb;have:b=t:=by simpa using hb
  subst this;exact rH o tr1 hne rfl
 refine ⟨by simpa using o',?_,λy hy=>?_,z2,λb hb=>?_⟩
 ·have e:gm (L++[x])=gm L++x.cells:=by rw [Xp];unfold gm;simp
  rw [e,List.length_append];exact O1.keep k2 (λb hb=>by
   obtain ⟨cs,oc⟩:=oJ O1 b hb;exact nt oc (by decide))
 ·rcases List.mem_append.1 hy with hy|hy
  ·obtain ⟨m1,m2,m3,m4,m5⟩:=H.jH y hy;have o1:=m2.keep k1 (λb hb=>by
    obtain ⟨cs,oc⟩:=oJ m2 b hb;exact NQ oc (by decide))
   exact ⟨m1,o1.keep k2 (λb hb=>by
    obtain ⟨cs,oc⟩:=oJ o1 b hb;exact nt oc (by decide)),m3,m4,m5⟩
  ·obtain rfl:=List.mem_singleton.1 hy;obtain ⟨x1,x2,x3,x4⟩:=hx;exact ⟨by rw [x1,x4];rfl,.inl ⟨x2,x1,x3,by rw [x4];rfl⟩,λb hb=>(by rw [x2] at hb;cases hb),λe he=>(by rw [x4] at he;cases he),by rw [x4];decide⟩
 ·rcases n1 b hb with h|h
  ·exact z3 b h
  ·omega
structure nA (T:List aD)(path:List UInt8)(d:Int)(nm:List UInt8)(nd:Int):Prop where
 is:bB (aO T) path=(d,nm,nd,0)
 inn:inT T d
 kind:(tn T d).kind=2
 name:dI nm=true
 len:nm.length<=200
 node:nd=((bR (tn T d).names nm).map (·.node)).getD 0
theorem pY {T:List aD}(W:jq T){path:List UInt8}(h0:(bB (aO T) path).2.2.2=0):∃ d nm nd,nA T path d nm nd:=by
 have hin1:inT T 1:=by have:=W.two;exact ⟨by omega,by omega⟩
 have hpl:bB (aO T) path=bB (aO T) path:=rfl
 conv at hpl=>rhs;unfold bB
 cases hpp:bC path with
 | none=>rw [hpp] at hpl;rw [hpl] at h0;cases h0
 | some l=>
  rw [hpp] at hpl;simp only at hpl;by_cases hl:l=[]
  ·rw [if_pos hl] at hpl;rw [hpl] at h0;cases h0
  ·rw [if_neg hl] at hpl;by_cases he:(dn (aO T) 1 true 600 1 0 l.dropLast).2=0
   ·rw [if_neg (by simpa using he)] at hpl;by_cases hk:(aO T).kind (dn (aO T) 1 true 600 1 0 l.dropLast).1=2
    ·rw [if_neg (by simpa using hk)] at hpl;have hin:=(qE W.alike (root:=1) (follow:=true) hin1 600 1 0 l.dropLast hin1).2 he;obtain ⟨_,p2,_,_⟩:=jX hpp;have hm:l.getLast?.getD []∈l:=by
      rw [List.getLast?_eq_some_getLast hl];exact List.getLast_mem hl
     exact ⟨_,_,_,hpl,hin.2,hk,List.all_eq_true.1 p2 _ hm,sU hpp _ hm,rfl⟩
    ·rw [if_pos (by simpa using hk)] at hpl;rw [hpl] at h0;cases h0
   ·rw [if_pos (by simpa using he)] at hpl;rw [hpl] at h0;exact absurd h0 he
theorem nA.new {T:List aD}(W:jq T){path:List UInt8}{d:Int}{nm:List UInt8}(P:nA T path d nm 0):bR (tn T d).names nm=none:=by
 have h:=P.node;cases he:bR (tn T d).names nm with
 | none=>rfl
 | some e=>
  rw [he] at h;have h2:(0:Int)=e.node:=h;have h1:=((W.dir d P.inn P.kind).2.1 e (List.mem_of_find?_eq_some he)).1;omega
theorem nA.wQ {T:List aD}(W:jq T){path:List UInt8}{d:Int}{nm:List UInt8}(P:nA T path d nm 0):dA (tn T d).names nm=false:=xu (W.dir d P.inn P.kind).2.2 (P.new W)
theorem nA.there {T:List aD}(W:jq T){path:List UInt8}{d:Int}{nm:List UInt8}{nd:Int}(P:nA T path d nm nd)(h0:nd≠0):∃ en,bR (tn T d).names nm=some en/\en.node=nd/\en∈(tn T d).names/\inT T nd:=by
 have h:=P.node;cases he:bR (tn T d).names nm with
 | none=>rw [he] at h;exact absurd h h0
 | some e=>
  rw [he] at h;have h2:nd=e.node:=h;have hm:=List.mem_of_find?_eq_some he;exact ⟨e,rfl,h2.symm,hm,h2 ▸ (W.dir d P.inn P.kind).2.1 e hm⟩
def mE (T:List aD)(path:List UInt8)(kind:Int)(data:List UInt8)(e:Int)(T':List aD):Prop:=
 ((bB (aO T) path).2.2.2≠0/\e=(bB (aO T) path).2.2.2) \/
 ∃ d nm nd,nA T path d nm nd/\((nd≠0/\e=5)\/(nd=0/\e=0/\T'=bJ T d { tn T d with names:=bD (tn T d).names ⟨nm,(T.length:Int)⟩ }++[⟨T.length,kind,1,data,[]⟩]))
structure mg (L:List bY):Prop where
 w:jq (aB L)
 dl:∀ i,inT (aB L) i->(tn (aB L) i).kind=3->(tn (aB L) i).data.length<=2688
 len:L.length<=100000
 few:∀ x∈L,x.nd.names.length<105
 pa:∀ path follow,(aR (aO (aB L)) path follow).2=0->(tn (aB L) (aR (aO (aB L)) path follow).1).data.length<=2688
theorem oK (L:List bY)(k:Nat)(x:bY):aB (L.set k x)=(aB L).set k x.nd:=by unfold aB;rw [List.map_set]
theorem NR {h:Heap}{z t:Nat}{aT:Option Addr}{cT:Nat}{L:List bY}(H:dh h z t aT cT L)(hz:z<=h.size)(W:mg L)(path:List UInt8)(hp:path.length<=1048576){kind:Int}{data:List UInt8} :
 aC Tryz.prog 92 [.pointer (some ⟨t,0,none⟩),.string (ba path),.int .i64 kind,.string (ba data)] h (λv h'=>Keeps (t::ay aT) h h'/\∃ e:Int,v=.int .i64 e/\∃ dY d9 L',dh h' z t dY d9 L'/\mE (aB L) path kind data e (aB L')):=by
 have hlen:=W.len;refine aG aH Tryz.func92 rfl ok92 (by simp [Tryz.f92]) ?_;(conv=>whnf);refine ak.i (zJ H W.w W.dl path hp) λv h1 k1 hv=>?_;subst hv;have z1:=k1.size;have H1:=H.keep k1 (by simp);have m0:∀ x∈([]:List Nat),x∈t::ay aT:=by simp
 unfold wW;by_cases h0:(bB (aO (aB L)) path).2.2.2=0
 ·obtain ⟨d,nm,nd,P⟩:=pY W.w h0;rw [P.is];(conv=>whnf);refine aj.f rfl ?_;by_cases hnd:nd=0
  ·subst hnd;(conv=>whnf);refine aj.f rfl ?_;have hd:=P.inn;have hd1:=hd.1;have hd2:=hd.2;rw [nZ] at hd2;have e1:d=((d.toNat:Nat):Int):=by omega
   have hk:d.toNat<L.length:=by omega
   have dx:tn (aB L) d=(L[d.toNat]'hk).nd:=by have:=vk hk;rw [<-e1] at this;exact this
   (conv=>whnf);refine ax.o H1.tr rfl ?_;(conv=>whnf);refine ax.o H1.tr rfl ?_;(conv=>whnf);refine aL.i λb2 h2 e2 s2 o2 k2=>?_;have z2:=k2.size;have H2:=H1.keep k2 (by simp);obtain ⟨zt,zT⟩:=H2.zt;(conv=>whnf);refine jO (e:=77) (sz:=5) (aQ:=64) (new:=bY.cells ⟨⟨L.length,kind,1,data,[]⟩,none,0,0⟩) rfl rfl rfl rfl rfl rfl rfl H2.own rfl ?_ rfl (by omega) (by omega) ?_ ?_
   ·intro j hj;unfold Heap.cell?;rw [o2];have:j=0\/j=1\/j=2\/j=3\/j=4:=by simp [bY.cells] at hj;omega
    rcases this with rfl|rfl|rfl|rfl|rfl <;> rfl
   ·intro y hy hx2;simp [au] at hx2
   ·intro a3 c3 h3 O3 k3 n3;have z3:=k3.size;have tr3:=k3.obj H2.tr (λhb=>by
     obtain ⟨cs,oc⟩:=oJ H2.own t hb;exact rH H2.tr oc (by decide) rfl)
    (conv=>whnf);refine dN.i tr3 (Nat.le_of_ble_eq_true rfl) (by simp [au]) λh4 s4 o4 k4=>?_;have H4:=H2.push (by omega) k3 n3 ⟨⟨L.length,kind,1,data,[]⟩,none,0,0⟩ O3 k4 o4 ⟨rfl,rfl,rfl,rfl⟩;have kk4:Keeps (t::ay aT) h h4:=(((k1.trans k2).mono m0).gQ k3 (λx hx=>.inl (by simp [hx]))).gQ k4 (λx hx=>.inl (by simp at hx;simp [hx]));have hk4:d.toNat<(L++[(⟨⟨L.length,kind,1,data,[]⟩,none,0,0⟩:bY)]).length:=by rw [List.length_append];omega
    have eL:((L++[(⟨⟨L.length,kind,1,data,[]⟩,none,0,0⟩:bY)])[d.toNat]'hk4)=L[d.toNat]'hk:=List.getElem_append_left hk;have e2:IntKind.i64.wrap (((L.length+1:Nat):Int)-1)=(L.length:Int):=by rw [show ((L.length+1:Nat):Int)-1=(L.length:Int) by omega];exact wrapN rfl (by omega)
    have hpn:=P.wQ W.w;rw [dx] at hpn;have hl4:(L++[(⟨⟨L.length,kind,1,data,[]⟩,none,0,0⟩:bY)]).length=L.length+1:=by rw [List.length_append];rfl
    have ad:=GJ H4 (by have:=k4.size;omega) hk4 (by rw [hl4];omega) P.len P.name (by rw [eL];exact hpn) (x:=(L.length:Int)) ⟨by omega,by omega⟩ (by rw [eL];exact W.few _ (List.getElem_mem hk));rw [eL,<-e1] at ad;(conv=>whnf);refine ax.o H4.tr rfl ?_;(conv=>whnf);rw [hl4,e2];refine ak.m ad (by simp [au]) λv h5 k5 hv=>?_;obtain ⟨rfl,a5,c5,H5⟩:=hv;(conv=>whnf);refine ⟨kk4.gQ k5 (λx hx=>?_),0,rfl,a3,c3,_,H5,.inr ⟨d,nm,0,P,.inr ⟨rfl,rfl,?_⟩⟩⟩
    ·rcases n3 x hx with h|h
     ·exact .inl (by simp [h])
     ·right;omega
    ·rw [oK];unfold bJ;have hn4:aB (L++[(⟨⟨L.length,kind,1,data,[]⟩,none,0,0⟩:bY)])=aB L++[⟨L.length,kind,1,data,[]⟩]:=by unfold aB;rw [List.map_append];rfl
     rw [hn4,List.set_append,if_pos (by rw [nZ];exact hk),dx,nZ]
  ·(conv=>whnf);refine aj.t (by simp [hnd]) ?_;(conv=>whnf);exact ⟨k1.mono m0,5,rfl,aT,cT,L,H1,.inr ⟨d,nm,nd,P,.inl ⟨hnd,rfl⟩⟩⟩
 ·(conv=>whnf);refine aj.t (by simp [h0]) ?_;(conv=>whnf);exact ⟨k1.mono m0,_,rfl,aT,cT,L,H1,.inl ⟨h0,rfl⟩⟩
theorem NA {h:Heap}{z t:Nat}{aT:Option Addr}{cT:Nat}{L:List bY}(H:dh h z t aT cT L)(hz:z<=h.size)(W:mg L)(path:List UInt8)(hp:path.length<=1048576){kind:Int}(hk:kind=1\/kind=2) :
 aC Tryz.prog 45 [.pointer (some ⟨t,0,none⟩),.string (ba path),.int .i64 kind] h (λv h'=>Keeps (t::ay aT) h h'/\∃ e:Int,v=.int .i64 e/\∃ dY d9 L',dh h' z t dY d9 L'/\mE (aB L) path kind [] e (aB L')):=by
 refine aG aH Tryz.func45 rfl ok45 (by simp [Tryz.f45]) ?_;(conv=>whnf);refine aj.f ?_ ?_
 ·rcases hk with rfl|rfl <;> rfl
 (conv=>whnf);refine ak.m (NR (data:=[]) H hz W path hp) (by simp [au]) λv h1 k1 hv=>?_;obtain ⟨e,rfl,R⟩:=hv;(conv=>whnf);exact ⟨k1,e,rfl,R⟩
theorem WX {h:Heap}{z t:Nat}{aT:Option Addr}{cT:Nat}{L:List bY}(H:dh h z t aT cT L)(hz:z<=h.size)(W:mg L)(path target:List UInt8)(hp:path.length<=1048576)(ht:target.length<=1048576) :
 aC Tryz.prog 47 [.pointer (some ⟨t,0,none⟩),.string (ba path),.string (ba target)] h (λv h'=>Keeps (t::ay aT) h h'/\∃ e:Int,v=.int .i64 e/\∃ dY d9 L',dh h' z t dY d9 L'/\((bC target=none/\e=3)\/(bC target≠none/\mE (aB L) path 3 target e (aB L')))):=by
 refine aG aH Tryz.func47 rfl ok47 (by simp [Tryz.f47]) ?_;(conv=>whnf);refine ak.i (vg target ht h) λv h1 k1 hv=>?_;have z1:=k1.size;have H1:=H.keep k1 (by simp);cases hpp:bC target with
 | none=>
  rw [hpp] at hv;have hv:v=.tuple #[.slice none 0 0,.int .i64 3]:=hv;subst hv;(conv=>whnf);refine aj.t rfl ?_;(conv=>whnf);exact ⟨k1.mono (by simp),3,rfl,aT,cT,L,H1,.inl ⟨rfl,rfl⟩⟩
 | some l=>
  rw [hpp] at hv;obtain ⟨a,c,rfl,T,n1⟩:=hv;(conv=>whnf);refine aj.f rfl ?_;(conv=>whnf);refine ak.m (NR (data:=target) H1 (by omega) W path hp) (by simp [au]) λv h2 k2 hv=>?_;obtain ⟨e,rfl,dY,d9,L',H2,R⟩:=hv;(conv=>whnf);exact ⟨(k1.mono (by simp)).trans k2,e,rfl,dY,d9,L',H2,.inr ⟨by simp,R⟩⟩
end Go.Proofs.YtoociceebodfeaaGreatDoor
