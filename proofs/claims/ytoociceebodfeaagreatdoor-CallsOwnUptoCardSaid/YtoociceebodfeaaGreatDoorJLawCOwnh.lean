/-
  Joined texts: FileN, WalA, WalB, CrdA, WalE, WalF, WalG, EntA, WrdA, CrdC, CrdD, CrdE, CrdF, VieA.
-/
import Derived.Test.YtoociceebodfeaaGreatDoorJLawCOwng
import Derived.Test.YtoociceebodfeaaGreatDoorJLawCOwne
import Derived.Test.YtoociceebodfeaaGreatDoorJLawCOwnd
import Derived.Test.YtoociceebodfeaaGreatDoorJLawCOwnf
set_option linter.all false
set_option maxRecDepth 100000
set_option maxHeartbeats 1000000
namespace Go.Proofs.YtoociceebodfeaaGreatDoor
open Go Go.aK
def m0:List Int:=List.replicate 21 (-1)
structure K7 (node more:Int)(X:VS)(m:List Int)(z:Nat)(size:Int)(i f:Nat)(r:Int×VS×List Int):Prop where
 e:r.1=0
 x:r.2.1={ X with now:=r.2.1.now }
 wk:Wk r.2.1.now node more r.2.2
 fr:Fr node X.now r.2.1.now
 yH:more ≠ -1->dw r.2.1.now more=dw X.now more
 aL:∀ p,p<2688->fb r.2.1.now r.2.2 p=if ((z:Int)<size)/\i<=p/128/\p/128<i+f/\z<=p then 0 else fb X.now m p
 holes:∀ j,j<21->(r.2.2[j]?.getD (-1) = -1↔m[j]?.getD (-1) = -1\/((z:Int)<size/\i<=j/\j<i+f/\z<=128*j))
theorem Ua {node more:Int}(hn:0<=node/\node<24){X:VS}{m:List Int}(W:Wk X.now node more m){z:Nat}{size:Int}{i:Nat}(hi:i<21):K7 node more X m z size i 1 (kg z size i X m):=by
 have hl:=W.len;unfold kg;rw [getD_21 hl hi];by_cases h1:m[i]?.getD (-1) = -1\/size<=(z:Int)\/128*i+128<=z
 ·rw [if_pos h1];refine ⟨rfl,rfl,W,Fr.refl _ _,λ_=>rfl,λp hp=>?_,λj hj=>⟨.inl,λh=>?_⟩⟩
  ·simp only;split
   ·rename_i hc;have hpi:p/128=i:=by omega
    rcases h1 with h1|h1|h1
    ·unfold fb;rw [hpi,h1];unfold dz;rw [if_pos rfl,Ev]
    ·omega
    ·omega
   ·rfl
  ·rcases h with h|h
   ·exact h
   ·have:j=i:=by omega
    subst this;rcases h1 with h1|h1|h1
    ·exact h1
    ·omega
    ·omega
 ·rw [if_neg h1];have hm:m[i]?.getD (-1) ≠ -1:=λh=>h1 (.inl h);have hs:(z:Int)<size:=by
   refine Classical.byContradiction λh=>h1 (.inr (.inl (by omega)))
  have hz:¬ 128*i+128<=z:=λh=>h1 (.inr (.inr h));by_cases h2:z<=128*i
  ·rw [if_pos h2];obtain ⟨hk,ho,W1,F1,M1,B1⟩:=W.drop_at hn hi rfl hm;have hdr:fI X (m[i]?.getD (-1))=(0,{ X with now:=upd X.now (200+m[i]?.getD (-1)) 0 }):=by
    unfold fI;rw [if_pos hk,if_neg (by rw [ho];exact ic hn)]
   rw [hdr];refine ⟨rfl,rfl,W1,F1,M1,λp hp=>?_,λj hj=>?_⟩
   ·simp only;rw [B1 p hp];by_cases hpi:p/128=i
    ·rw [if_pos hpi,if_pos ⟨hs,by omega,by omega,by omega⟩]
    ·rw [if_neg hpi,if_neg (by omega)]
   ·simp only;by_cases hji:j=i
    ·subst hji;have:(m.set j (-1))[j]?.getD (-1) = -1:=by simp [hl,hj]
     rw [this];exact ⟨λ_=>.inr ⟨hs,by omega,by omega,h2⟩,λ_=>rfl⟩
    ·rw [List.getElem?_set_ne (λx=>hji x.symm)];exact ⟨.inl,λh=>by rcases h with h|h;exact h;omega⟩
  ·rw [if_neg h2];have hbl:=kP X.now (m[i]?.getD (-1));obtain ⟨W2,F2,M2,B2⟩:=W.put hi (l:=(dz X.now (m[i]?.getD (-1))).take (z-128*i)) (by rw [List.length_take];omega) rfl hm;refine ⟨rfl,rfl,W2,F2,M2,λp hp=>?_,λj hj=>?_⟩
   ·simp only;rw [B2 p hp];by_cases hpi:p/128=i
    ·rw [if_pos hpi,List.getElem?_take];by_cases hpz:z<=p
     ·rw [if_neg (by omega),if_pos ⟨hs,by omega,by omega,hpz⟩];rfl
     ·rw [if_pos (by omega),if_neg (by omega)];unfold fb;rw [hpi]
    ·rw [if_neg hpi,if_neg (by omega)]
   ·simp only;exact ⟨.inl,λh=>by rcases h with h|h;exact h;omega⟩
theorem K8 {node more:Int}(hn:0<=node/\node<24){z:Nat}{size:Int}:∀ (f i:Nat) (X:VS) (m:List Int),Wk X.now node more m->i+f<=21->K7 node more X m z size i f (kQ z size f i X m)
 | 0,i,X,m,W,_=>by
  unfold kQ;refine ⟨rfl,rfl,W,Fr.refl _ _,λ_=>rfl,λp hp=>?_,λj hj=>⟨.inl,λh=>by rcases h with h|h;exact h;omega⟩⟩;simp only;rw [if_neg (by omega)]
 | f+1,i,X,m,W,hf=>by
  unfold kQ;have S:=Ua hn W (z:=z) (size:=size) (i:=i) (by omega);rw [S.e];simp only [if_true];have R:=K8 (z:=z) (size:=size) hn f (i+1) (kg z size i X m).2.1 (kg z size i X m).2.2 S.wk (by omega);refine ⟨R.e,?_,R.wk,S.fr.trans R.fr (ic hn),λh=>(R.yH h).trans (S.yH h),λp hp=>?_,λj hj=>?_⟩
  ·rw [R.x,S.x]
  ·rw [R.aL p hp,S.aL p hp];by_cases c3:(z:Int)<size/\i+1<=p/128/\p/128<i+1+f/\z<=p
   ·rw [if_pos c3,if_pos ⟨c3.1,by omega,by omega,c3.2.2.2⟩]
   ·rw [if_neg c3];by_cases c4:(z:Int)<size/\i<=p/128/\p/128<i+1/\z<=p
    ·rw [if_pos c4,if_pos ⟨c4.1,c4.2.1,by omega,c4.2.2.2⟩]
    ·rw [if_neg c4,if_neg (by omega)]
  ·rw [R.holes j hj,S.holes j hj]
   constructor
   ·rintro ((h|h)|h)
    ·exact .inl h
    ·exact .inr ⟨h.1,by omega,by omega,h.2.2.2⟩
    ·exact .inr ⟨h.1,by omega,by omega,h.2.2.2⟩
   ·rintro (h|h)
    ·exact .inl (.inl h)
    ·by_cases hji:j=i
     ·exact .inl (.inr ⟨h.1,by omega,by omega,h.2.2.2⟩)
     ·exact .inr ⟨h.1,by omega,by omega,h.2.2.2⟩
def iw (s:List UInt8)(size:Int):List UInt8×Int:=
 if size<0 then ([],1)
 else if 2688<size then ([],10)
 else if size<=(s.length:Int) then (s.take size.toNat,0) else (s++zeros (size.toNat-s.length),0)
theorem Ub (s:List UInt8)(z:Nat)(p:Nat):(if (z:Int)<=(s.length:Int) then s.take z else s++zeros (z-s.length))[p]?.getD 0=if (z:Int)<(s.length:Int)/\z<=p then 0 else s[p]?.getD 0:=by
 split
 ·rw [List.getElem?_take];by_cases h:p<z
  ·rw [if_pos h,if_neg (by omega)]
  ·rw [if_neg h];split
   ·rfl
   ·rw [List.getElem?_eq_none (by omega)]
 ·rw [Fe,if_neg (by omega)]
theorem Fp (s:List UInt8)(z:Nat):(if (z:Int)<=(s.length:Int) then s.take z else s++zeros (z-s.length)).length=z:=by
 split
 ·rw [List.length_take];omega
 ·simp [zeros];omega
theorem Gy {B:Int->UInt64}{node:Int}(hn:0<=node/\node<24){X:VS}{c:aB}{m:List Int}{s:List UInt8}(F:gm X.now node c m s)(size:Int) :
 (iP B X node c size).2.1=(iw s size).2/\((iw s size).2=0->∃ m',gm (iP B X node c size).2.2.now node (iP B X node c size).1 m' (iw s size).1/\Fr node X.now (iP B X node c size).2.2.now/\(iP B X node c size).2.2={ X with now:=(iP B X node c size).2.2.now } /\
  ∀ j:Nat,j<21->(m'[j]?.getD (-1) = -1↔m[j]?.getD (-1) = -1\/(size<s.length/\size<=128*(j:Int)))):=by
 unfold iP iw;by_cases h1:size<0
 ·rw [if_pos (.inr h1),if_pos h1];exact ⟨rfl,λh=>by cases h⟩
 ·rw [if_neg (by rintro (x|x);exact x hn;exact h1 x),if_neg h1];by_cases h2:2688<size
  ·rw [if_pos h2,if_pos h2];exact ⟨rfl,λh=>by cases h⟩
  ·rw [if_neg h2,if_neg h2,F.map];simp only;obtain ⟨z,rfl⟩:∃ z:Nat,size=(z:Int):=⟨size.toNat,by omega⟩;simp only [Int.toNat_natCast];have R:=K8 (z:=z) (size:=c.size) hn 21 0 X m F.wk (by omega);rw [R.e];simp only [if_true];have hsz:=F.size;have hfit:=F.fits;have hlr:=R.wk.len;have hc:({ c with size:=(z:Int) }:aB).more=c.more:=rfl;have hmono:(((kQ z c.size 21 0 X m).2.2).drop 5).any eH=true->(m.drop 5).any eH=true:=by
    intro h;rw [List.any_eq_true] at h ⊢;obtain ⟨x,hx,hu⟩:=h;rw [List.mem_drop_iff_getElem] at hx;obtain ⟨j,hj,rfl⟩:=hx;have h5:5+j<21:=by omega
    have hh:=R.holes (5+j) h5;rw [R.wk.at_ h5,F.wk.at_ h5] at hh;have hne:=jr.1 hu;have hml:=F.wk.len;refine ⟨m[5+j],?_,jr.2 λe=>hne (hh.2 (.inl e))⟩;rw [List.mem_drop_iff_getElem];exact ⟨j,by omega,rfl⟩
   have Uc:(if (z:Int)<=(s.length:Int) then (s.take z,(0:Int)) else (s++zeros (z-s.length),0))=(if (z:Int)<=(s.length:Int) then s.take z else s++zeros (z-s.length),0):=by split <;> rfl
   rw [Uc];rcases ul (B:=B) (c:={ c with size:=(z:Int) }) hn (hc ▸ R.wk) with ⟨_,_,hmo,Ud⟩|K
   ·exact absurd (F.kG.1 hmo) (by rw [hmono Ud];decide)
   ·refine ⟨K.e,λ_=>⟨(kQ z c.size 21 0 X m).2.2,?_,R.fr.trans K.fr (ic hn),by rw [K.x,R.x],λj hj=>?_⟩⟩
    ·have hcc:=K.c_;refine ⟨K.map,K.wk,?_,?_,?_,λp hp=>?_,λj hj hs=>?_,K.kG⟩
     ·rw [hcc];exact F.kind
     ·rw [hcc,Fp];rfl
     ·rw [Fp];omega
     ·rw [K.aL p hp,R.aL p hp,Ub,F.aL p hp,hsz];by_cases hq:(z:Int)<(s.length:Int)/\z<=p
      ·rw [if_pos ⟨hq.1,by omega,by omega,hq.2⟩,if_pos hq]
      ·rw [if_neg (λh=>hq ⟨h.1,h.2.2.2⟩),if_neg hq]
     ·rw [Fp] at hs;refine (R.holes j hj).2 ?_;rw [hsz];by_cases hq:(z:Int)<(s.length:Int)
      ·exact .inr ⟨hq,by omega,by omega,hs⟩
      ·exact .inl (F.hol j hj (by omega))
    ·rw [R.holes j hj,hsz]
     constructor
     ·rintro (h|h)
      ·exact .inl h
      ·exact .inr ⟨h.1,by omega⟩
     ·rintro (h|h)
      ·exact .inl h
      ·exact .inr ⟨h.1,by omega,by omega,by omega⟩
theorem Eu {a b:Int}(ha:0<=a/\a<24)(hb:0<=b/\b<24)(h:w64 (a+1)=w64 (b+1)):a=b:=by
 have h1:=qA (a+1);have h2:=qA (b+1);rw [h] at h1;omega
theorem gm.other {now g:Int->UInt64}{x y:Int}(hx:0<=x/\x<24)(hy:0<=y/\y<24)(hne:x≠y){c:aB}{m:List Int}{s:List UInt8}(F:gm now y c m s)(R:Fr0 x now g):gm g y c m s:=by
 have hxy:w64 (y+1)≠w64 (x+1):=λe=>hne (Eu hx hy e.symm);have hy0:=ic hy;have key:∀ k,0<=k->k<96->now (200+k)=w64 (y+1)->g (200+k)=w64 (y+1)/\bU g (1288+k*16) 16=bU now (1288+k*16) 16:=by
  intro k h0 h1 h;obtain ⟨p,q⟩:=R.kR k h0 h1 (by rw [h];exact hxy);refine ⟨?_,q (by rw [h];exact hy0)⟩;rcases p with p|⟨p,_⟩
  ·rw [p,h]
  ·exact absurd (h ▸ p) hy0
 have back:∀ k,0<=k->k<96->g (200+k)=w64 (y+1)->now (200+k)=w64 (y+1):=by
  intro k h0 h1 h;by_cases hm:now (200+k)=w64 (x+1)
  ·rcases R.mine k h0 h1 hm with p|p
   ·exact absurd (h.symm.trans p) hxy
   ·exact absurd (h.symm.trans p) hy0
  ·rcases (R.kR k h0 h1 hm).1 with p|⟨_,p⟩
   ·rw [<-p,h]
   ·exact absurd (h.symm.trans p) hxy
 have hown:∀ k,k∈gV c.more m->0<=k/\k<96/\now (200+k)=w64 (y+1):=by
  intro k hk;obtain ⟨h1,h2⟩:=mY.1 hk;have hb:=F.wk.bG k (by rcases h1 with rfl|h1;exact List.mem_cons_self;exact List.mem_cons_of_mem _ h1);unfold ng at hb;exact ⟨by omega,by omega,(F.wk.own k (by omega) (by omega)).1 hk⟩
 refine ⟨?_,⟨F.wk.len,F.wk.bG,F.wk.jm,λk h0 h1=>?_⟩,F.kind,F.size,F.fits,λp hp=>?_,F.hol,F.kG⟩
 ·have h:=F.map;unfold mapOf at h ⊢;by_cases hm:c.more = -1
  ·rw [if_pos hm] at h ⊢;exact h
  ·obtain ⟨k0,k1,ko⟩:=hown c.more (mY.2 ⟨.inl rfl,hm⟩);have e:dw g c.more=dw now c.more:=(key _ k0 k1 ko).2;rw [e];exact h
 ·rw [F.wk.own k h0 h1];exact ⟨λh=>(key k h0 h1 h).1,back k h0 h1⟩
 ·rw [F.wk.Bp (λk hk h0 h1=>?_) p hp,F.aL p hp];exact (key k h0 h1 (hown k (mY.2 ⟨.inr hk,by omega⟩)).2.2).2
def dA:List UInt8->List (List UInt8)
 | []=>[[]]
 | c::l=>if c=47 then []::dA l else (match dA l with
  | []=>[[c]]
  | x::r=>(c::x)::r)
def bJ (l:List (List UInt8)):List UInt8:=l.flatMap λx=>47::x
theorem yJ (s:List UInt8):dA s≠[]:=by
 cases s with
 | nil=>simp [dA]
 | cons c l=>
  unfold dA;split
  ·simp
  ·split <;> simp
theorem Br:∀ s:List UInt8,bJ (dA s)=47::s
 | []=>rfl
 | c::l=>by
  have ih:=Br l;unfold dA;by_cases h:c=47
  ·rw [if_pos h];show 47::[]++bJ (dA l)=_;rw [ih,h];rfl
  ·rw [if_neg h];cases hc:dA l with
   | nil=>exact absurd hc (yJ l)
   | cons x r=>
    rw [hc] at ih;simp only;have e:bJ (x::r)=47::(x++bJ r):=by simp [bJ]
    rw [e] at ih;have e2:bJ ((c::x)::r)=47::c::(x++bJ r):=by simp [bJ]
    rw [e2];have:=(List.cons.inj ih).2;rw [this]
theorem Fg:∀ {x:List UInt8},47∉x->dA x=[x]
 | [],_=>rfl
 | c::x,h=>by
  have h1:c≠47:=λe=>h (by simp [e]);have ih:=Fg (x:=x) (λe=>h (by simp [e]));unfold dA;rw [if_neg h1,ih]
theorem Fh:∀ {x:List UInt8} {s:List UInt8},47∉x->dA (x++47::s)=x::dA s
 | [],s,_=>by
  show dA (47::s)=_
  conv=>lhs;unfold dA
  rw [if_pos rfl]
 | c::x,s,h=>by
  have h1:c≠47:=λe=>h (by simp [e]);have ih:=Fh (x:=x) (s:=s) (λe=>h (by simp [e]));show dA (c::(x++47::s))=_
  conv=>lhs;unfold dA
  rw [if_neg h1,ih]
theorem KX:∀ {l:List (List UInt8)} {x:List UInt8},(∀ y∈x::l,47∉y)->dA (x++bJ l)=x::l
 | [],x,h=>by
  show dA (x++[])=_;rw [List.append_nil,Fg (h x (by simp))]
 | y::l,x,h=>by
  have e:bJ (y::l)=47::(y++bJ l):=by simp [bJ]
  rw [e,Fh (h x (by simp)),KX λz hz=>h z (by simp only [List.mem_cons] at hz ⊢;exact .inr hz)]
theorem TH {x:List UInt8}(h:dG x=true):47∉x:=by
 intro hm;unfold dG at h;simp only [Bool.and_eq_true] at h;have:=List.all_eq_true.1 h.1 47 hm
 revert this
 decide
def bH (s:List UInt8):Option (List (List UInt8)):=
 match s with
 | []=>none
 | c::r=>if c≠47\/120<s.length then none else if r=[] then some [] else if (dA r).all dG=true then some (dA r) else none
theorem TI {l:List (List UInt8)}(h:l.all dG=true)(hl:(bJ l).length<=120):bH (if l=[] then [47] else bJ l)=some l:=by
 cases l with
 | nil=>simp [bH]
 | cons x r=>
  rw [if_neg (by simp)];have e:bJ (x::r)=47::(x++bJ r):=by simp [bJ]
  have hn:∀ y∈x::r,47∉y:=λy hy=>TH (List.all_eq_true.1 h y hy);have hx:x≠[]:=by
   intro e0;have:=List.all_eq_true.1 h x (by simp);rw [e0] at this
   revert this;decide
  rw [e] at hl ⊢;unfold bH;simp only;rw [if_neg (by simp only [ne_eq,not_true_eq_false,false_or];omega),if_neg (by simp [hx]),KX hn,if_pos h]
theorem Fj:∀ {l:List (List UInt8)},(∀ x∈l,x≠[])->2*l.length<=(bJ l).length
 | [],_=>by simp [bJ]
 | x::l,h=>by
  have ih:=Fj (l:=l) λy hy=>h y (by simp [hy]);have hx:0<x.length:=List.length_pos_iff.2 (h x (by simp));have e:(bJ (x::l)).length=x.length+1+(bJ l).length:=by simp [bJ];omega
  rw [e,List.length_cons];omega
theorem KY {x:List UInt8}(h:dG x=true):x≠[]:=by
 rintro rfl
 revert h;decide
theorem mE {s:List UInt8}{l:List (List UInt8)}(h:bH s=some l):l.length<=60/\l.all dG=true/\s.length<=120/\(if l=[] then [47] else bJ l)=s:=by
 unfold bH at h;split at h
 ·cases h
 ·rename_i c r;split at h
  ·cases h
  ·rename_i h1;split at h
   ·rename_i h2;cases h;subst h2;have h3:c=47:=by simpa using λe=>h1 (.inl e)
    exact ⟨by simp,rfl,by omega,by simp [h3]⟩
   ·rename_i h2;split at h
    ·rename_i h3;cases h;have hc:c=47:=by
      apply Classical.byContradiction;intro e;exact h1 (.inl e)
     have hj:=Br r;have hn:=Fj (l:=dA r) λx hx=>KY (List.all_eq_true.1 h3 x hx);rw [hj] at hn;have hl:(c::r).length<=120:=by omega
     simp only [List.length_cons] at hn hl;refine ⟨by omega,h3,by simpa using hl,?_⟩;rw [if_neg (yJ r),hj,hc]
    ·cases h
structure Fs where
 kind:Int->Int
 find:Int->List UInt8->Option Int
 data:Int->List UInt8
def dW (F:Fs)(root:Int)(follow:Bool):Nat->Int->Nat->List (List UInt8)->Int×Int
 | 0,_,_,_=>(0,-1)
 | f+1,at_,links,l=>(match l with
  | []=>(at_,0)
  | name::rest=>
   if F.kind at_≠2 then (0,6)
   else (match F.find at_ name with
    | none=>(0,4)
    | some next=>
     if F.kind next≠3\/(rest=[]/\follow=false) then dW F root follow f next links rest
     else if 8<links+1 then (0,11)
     else (match bH (F.data next) with
      | none=>(0,15)
      | some head=>dW F root follow f root (links+1) (head++rest))))
structure Alike (F G:Fs)(φ:Int->Int)(S:Int->Prop):Prop where
 kind:∀ x,S x->G.kind (φ x)=F.kind x
 find:∀ x n,S x->F.kind x=2->G.find (φ x) n=(F.find x n).map φ
 stay:∀ x n y,S x->F.kind x=2->F.find x n=some y->S y
 data:∀ x,S x->F.kind x=3->G.data (φ x)=F.data x
theorem sj {F G:Fs}{φ:Int->Int}{S:Int->Prop}(A:Alike F G φ S){root:Int}(hr:S root){follow:Bool}:∀ (f:Nat) (at_:Int) (links:Nat) (l:List (List UInt8)),S at_ ->
 (dW G (φ root) follow f (φ at_) links l).2=(dW F root follow f at_ links l).2 /\
 ((dW F root follow f at_ links l).2=0->(dW G (φ root) follow f (φ at_) links l).1=φ (dW F root follow f at_ links l).1/\S (dW F root follow f at_ links l).1)
 | 0,at_,links,l,_=>⟨rfl,λh=>by cases h⟩
 | f+1,at_,links,[],hs=>⟨rfl,λ_=>⟨rfl,hs⟩⟩
 | f+1,at_,links,name::rest,hs=>by
  unfold dW;simp only;by_cases hk:F.kind at_=2
  ·rw [A.kind at_ hs,A.find at_ name hs hk];rw [if_neg (by simp [hk]),if_neg (by simp [hk])];cases hf:F.find at_ name with
   | none=>exact ⟨rfl,λh=>by simp at h⟩
   | some next=>
    have hn:=A.stay at_ name next hs hk hf;simp only [Option.map_some];rw [A.kind next hn];by_cases hc:F.kind next≠3\/(rest=[]/\follow=false)
    ·rw [if_pos hc,if_pos hc];exact sj A hr f next links rest hn
    ·rw [if_neg hc,if_neg hc];have h3:F.kind next=3:=by
      by_cases e:F.kind next=3
      ·exact e
      ·exact absurd (.inl e) hc
     by_cases hl:8<links+1
     ·rw [if_pos hl,if_pos hl];exact ⟨rfl,λh=>by simp at h⟩
     ·rw [if_neg hl,if_neg hl,A.data next hn h3];cases hp:bH (F.data next) with
      | none=>exact ⟨rfl,λh=>by simp at h⟩
      | some head=>exact sj A hr f root (links+1) (head++rest) hr
  ·rw [A.kind at_ hs,if_pos hk,if_pos hk];exact ⟨rfl,λh=>by simp at h⟩
def mh (width:Nat):UInt64:=UInt64.ofNat (2 ^ width-1)
def fK (w:UInt64)(at_ width:Nat)(v:UInt64):UInt64:=(w &&& ~~~(mh width <<< UInt64.ofNat at_)) ||| (v <<< UInt64.ofNat at_)
def lF (w:UInt64)(at_ width:Nat):UInt64:=(w >>> UInt64.ofNat at_) &&& mh width
theorem QC {n:Nat}(h:n<=63):2 ^ n<18446744073709551616:=by
 have:2 ^ n<=2 ^ 63:=Nat.pow_le_pow_right (by decide) h;omega
theorem Eh {width:Nat}(h:width<=63):(mh width).toNat=2 ^ width-1:=by
 unfold mh;have:=QC h;rw [UInt64.toNat_ofNat'];omega
theorem xN {n:Nat}(h:n<=63):(UInt64.ofNat n).toNat=n:=by
 rw [UInt64.toNat_ofNat'];omega
theorem Ee (w:UInt64){at_ width:Nat}(h1:at_<=63)(h2:width<=63):(lF w at_ width).toNat=w.toNat/2 ^ at_%2 ^ width:=by
 unfold lF;rw [UInt64.toNat_and,UInt64.toNat_shiftRight,xN h1,Eh h2,Nat.and_two_pow_sub_one_eq_mod,Nat.shiftRight_eq_div_pow];rw [Nat.mod_eq_of_lt (show at_<64 by omega)]
theorem qB {w v:UInt64}{at_ width:Nat}(h:at_+width<=64)(h1:1<=width)(h2:width<=63)(hw:w.toNat<2 ^ at_)(hv:v.toNat<2 ^ width):(fK w at_ width v).toNat=w.toNat+v.toNat*2 ^ at_:=by
 have ha:at_<=63:=by omega
 have hand:w &&& ~~~(mh width <<< UInt64.ofNat at_)=w:=by
  apply UInt64.toBitVec_inj.1;apply BitVec.eq_of_getLsbD_eq;intro i hi;have hwb:w.toBitVec.getLsbD i=true->i<at_:=by
   intro hb;rcases Nat.lt_or_ge i at_ with h|h
   ·exact h
   ·have:w.toNat<2 ^ i:=Nat.lt_of_lt_of_le hw (Nat.pow_le_pow_right (by decide) h);have hf:w.toBitVec.getLsbD i=false:=by
     rw [BitVec.getLsbD];exact Nat.testBit_lt_two_pow this
    rw [hf] at hb;cases hb
  have hsh:(mh width <<< UInt64.ofNat at_).toBitVec=(mh width).toBitVec <<< at_:=by
   apply BitVec.eq_of_toNat_eq;have e:=UInt64.toNat_shiftLeft (mh width) (UInt64.ofNat at_);rw [xN ha,Nat.mod_eq_of_lt (show at_<64 by omega)] at e;show (mh width <<< UInt64.ofNat at_).toNat=_;rw [e,BitVec.toNat_shiftLeft];rfl
  rw [UInt64.toBitVec_and,UInt64.toBitVec_not,hsh];rw [BitVec.getLsbD_and,BitVec.getLsbD_not,BitVec.getLsbD_shiftLeft];cases hb:w.toBitVec.getLsbD i with
  | false=>rfl
  | true=>
   have:=hwb hb;simp [hi,this]
 unfold fK;rw [hand,UInt64.toNat_or,UInt64.toNat_shiftLeft,xN ha,Nat.mod_eq_of_lt (show at_<64 by omega)];have hlt:v.toNat*2 ^ at_<2 ^ 64:=by
  have h3:v.toNat*2 ^ at_<2 ^ width*2 ^ at_:=Nat.mul_lt_mul_of_pos_right hv (Nat.two_pow_pos _);rw [<-Nat.pow_add] at h3;exact Nat.lt_of_lt_of_le h3 (Nat.pow_le_pow_right (by decide) (by omega))
 rw [Nat.shiftLeft_eq,Nat.mod_eq_of_lt hlt,Nat.or_comm,<-Nat.shiftLeft_eq,<-Nat.shiftLeft_add_eq_or_of_lt hw,Nat.shiftLeft_eq,Nat.add_comm]
def uf (c:aB):UInt64:=fK (fK (fK 0 0 8 (w64 c.kind)) 8 16 (w64 c.links)) 24 32 (w64 c.size)
def xK (c:aB):UInt64:=fK (fK (fK (fK 0 0 16 (w64 (c.d0+1))) 16 16 (w64 (c.d1+1))) 32 16 (w64 (c.d2+1))) 48 16 (w64 (c.d3+1))
def xL (c:aB):UInt64:=fK (fK 0 0 16 (w64 (c.d4+1))) 16 16 (w64 (c.more+1))
def fJ (c:aB):List UInt64:=[uf c,c.dR,xK c,xL c,0,0,0,0]
def l9 (ws:List UInt64)(i at_ width:Nat):Int:=((lF (ws[i]?.getD 0) at_ width).toNat:Int)
def mQ (ws:List UInt64):aB:=⟨l9 ws 0 0 8,l9 ws 0 8 16,l9 ws 0 24 32,ws[1]?.getD 0,l9 ws 2 0 16-1,l9 ws 2 16 16-1,l9 ws 2 32 16-1,l9 ws 2 48 16-1,l9 ws 3 0 16-1,l9 ws 3 16 16-1⟩
def gU (ws:List UInt64):Option aB:=if ws.length=8/\gq (mQ ws)=true/\fJ (mQ ws)=ws then some (mQ ws) else none
structure rT (c:aB):Prop where
 k:0<=c.kind/\c.kind<=3
 l:0<=c.links/\c.links<=255
 s:0<=c.size/\c.size<=2688
 d0 : -1<=c.d0/\c.d0<96
 d1 : -1<=c.d1/\c.d1<96
 d2 : -1<=c.d2/\c.d2<96
 d3 : -1<=c.d3/\c.d3<96
 d4 : -1<=c.d4/\c.d4<96
 m : -1<=c.more/\c.more<96
theorem jD {x:Int}(h0:0<=x)(h1:x<4294967296):(w64 x).toNat=x.toNat:=by
 have:=qA x;omega
theorem QD {c:aB}(B:rT c):(uf c).toNat=c.kind.toNat+c.links.toNat*256+c.size.toNat*16777216:=by
 have hk:=B.k;have hl:=B.l;have hs:=B.s;unfold uf;have e1:(fK 0 0 8 (w64 c.kind)).toNat=c.kind.toNat:=by
  rw [qB (by decide) (by decide) (by decide) (by decide) (by rw [jD hk.1 (by omega)];omega),jD hk.1 (by omega)];simp
 have e2:(fK (fK 0 0 8 (w64 c.kind)) 8 16 (w64 c.links)).toNat=c.kind.toNat+c.links.toNat*256:=by
  rw [qB (by decide) (by decide) (by decide) (by rw [e1];omega) (by rw [jD hl.1 (by omega)];omega),jD hl.1 (by omega),e1]
 rw [qB (by decide) (by decide) (by decide) (by rw [e2];omega) (by rw [jD hs.1 (by omega)];omega),jD hs.1 (by omega),e2]
theorem QE {c:aB}(B:rT c):(xK c).toNat=(c.d0+1).toNat+(c.d1+1).toNat*65536+(c.d2+1).toNat*4294967296+(c.d3+1).toNat*281474976710656:=by
 have h0:=B.d0;have h1:=B.d1;have h2:=B.d2;have h3:=B.d3;unfold xK;have e1:(fK 0 0 16 (w64 (c.d0+1))).toNat=(c.d0+1).toNat:=by
  rw [qB (by decide) (by decide) (by decide) (by decide) (by rw [jD (by omega) (by omega)];omega),jD (by omega) (by omega)];simp
 have e2:(fK (fK 0 0 16 (w64 (c.d0+1))) 16 16 (w64 (c.d1+1))).toNat=(c.d0+1).toNat+(c.d1+1).toNat*65536:=by
  rw [qB (by decide) (by decide) (by decide) (by rw [e1];omega) (by rw [jD (by omega) (by omega)];omega),jD (by omega) (by omega),e1]
 have e3:(fK (fK (fK 0 0 16 (w64 (c.d0+1))) 16 16 (w64 (c.d1+1))) 32 16 (w64 (c.d2+1))).toNat=(c.d0+1).toNat+(c.d1+1).toNat*65536+(c.d2+1).toNat*4294967296:=by
  rw [qB (by decide) (by decide) (by decide) (by rw [e2];omega) (by rw [jD (by omega) (by omega)];omega),jD (by omega) (by omega),e2]
 rw [qB (by decide) (by decide) (by decide) (by rw [e3];omega) (by rw [jD (by omega) (by omega)];omega),jD (by omega) (by omega),e3]
theorem QF {c:aB}(B:rT c):(xL c).toNat=(c.d4+1).toNat+(c.more+1).toNat*65536:=by
 have h0:=B.d4;have h1:=B.m;unfold xL;have e1:(fK 0 0 16 (w64 (c.d4+1))).toNat=(c.d4+1).toNat:=by
  rw [qB (by decide) (by decide) (by decide) (by decide) (by rw [jD (by omega) (by omega)];omega),jD (by omega) (by omega)];simp
 rw [qB (by decide) (by decide) (by decide) (by rw [e1];omega) (by rw [jD (by omega) (by omega)];omega),jD (by omega) (by omega),e1]
theorem vB {c:aB}(h:gq c=true):rT c:=by
 unfold gq at h;split at h
 ·rename_i h0;have:=of_decide_eq_true h;rw [this]
  constructor <;> (show _<=_/\_) <;> simp [fQ]
 ·rename_i h0;simp [aB.direct,lG] at h
  constructor <;> omega
theorem Jr {c:aB}(B:rT c):mQ (fJ c)=c:=by
 have h1:=B.k;have h2:=B.l;have h3:=B.s;have h4:=B.d0;have h5:=B.d1;have h6:=B.d2;have h7:=B.d3;have h8:=B.d4;have h9:=B.m;have g:∀ i at_ width,at_<=63->width<=63->l9 (fJ c) i at_ width=(((((fJ c)[i]?.getD 0).toNat/2 ^ at_%2 ^ width:Nat)):Int):=λi at_ width p q=>by unfold l9;rw [Ee _ p q]
 unfold mQ;rw [g 0 0 8 (by decide) (by decide),g 0 8 16 (by decide) (by decide),g 0 24 32 (by decide) (by decide),g 2 0 16 (by decide) (by decide),g 2 16 16 (by decide) (by decide),g 2 32 16 (by decide) (by decide),g 2 48 16 (by decide) (by decide),g 3 0 16 (by decide) (by decide),g 3 16 16 (by decide) (by decide)];have k0:(fJ c)[0]?.getD 0=uf c:=rfl;have k1:(fJ c)[1]?.getD 0=c.dR:=rfl;have k2:(fJ c)[2]?.getD 0=xK c:=rfl;have k3:(fJ c)[3]?.getD 0=xL c:=rfl;rw [k0,k1,k2,k3,QD B,QE B,QF B];obtain ⟨a,b,c',d,e,f,g',i,j,k⟩:=c;simp only at *
 congr 1 <;> omega
theorem qZ {c:aB}(h:gq c=true):gU (fJ c)=some c:=by
 have B:=vB h;unfold gU;rw [Jr B,if_pos ⟨rfl,h,rfl⟩]
structure FS where
 C:Int->aB
 nm:Int->List aF
 aL:Int->List UInt8
def FS.put (S:FS)(n:Int)(c:aB)(l:List aF)(s:List UInt8):FS:=⟨λx=>if x=n then c else S.C x,λx=>if x=n then l else S.nm x,λx=>if x=n then s else S.aL x⟩
structure gN (now:Int->UInt64)(n:Int)(c:aB)(l:List aF)(s:List UInt8):Prop where
 kind:0<=c.kind/\c.kind<=3
 free:c.kind=0->c=fQ c.dR/\∀ k,0<=k->k<96->now (200+k)≠w64 (n+1)
 dir:c.kind=2->∃ m,eu now n c m l
 file:c.kind=1\/c.kind=3->∃ m,gm now n c m s
structure bK (now:Int->UInt64)(S:FS):Prop where
 card:∀ n,0<=n->n<24->bU now (8+n*8) 8=fJ (S.C n)
 node:∀ n,0<=n->n<24->gN now n (S.C n) (S.nm n) (S.aL n)
 zero:(S.C 0).kind=0
 own:∀ k,0<=k->k<96->now (200+k)=0\/∃ n,0<=n/\n<24/\now (200+k)=w64 (n+1)
theorem gN.right {now:Int->UInt64}{n:Int}{c:aB}{l:List aF}{s:List UInt8}(N:gN now n c l s):gq c=true:=by
 by_cases h0:c.kind=0
 ·have:=(N.free h0).1;unfold gq;rw [if_pos h0];exact decide_eq_true this
 ·by_cases h2:c.kind=2
  ·obtain ⟨m,D⟩:=N.dir h2;exact D.right.1
  ·have:=N.kind;obtain ⟨m,F⟩:=N.file (by omega);exact F.right
theorem Ea {c:aB}(B:rT c):c.ok:=by
 have h1:=B.k;have h2:=B.l;have h3:=B.s;have h4:=B.d0;have h5:=B.d1;have h6:=B.d2;have h7:=B.d3;have h8:=B.d4;have h9:=B.m;refine ⟨by unfold inI64;omega,by unfold inI64;omega,by unfold inI64;omega,λx hx=>?_,by unfold inI64;omega⟩;unfold aB.direct at hx;simp only [List.mem_cons,List.not_mem_nil,or_false] at hx;unfold inI64;omega
theorem gN.ok {now:Int->UInt64}{n:Int}{c:aB}{l:List aF}{s:List UInt8}(N:gN now n c l s):c.ok:=Ea (vB N.right)
theorem gN.other {f g:Int->UInt64}{x y:Int}(hx:0<=x/\x<24)(hy:0<=y/\y<24)(hne:x≠y){c:aB}{l:List aF}{s:List UInt8}(N:gN f y c l s)(R:Fr0 x f g):gN g y c l s:=by
 refine ⟨N.kind,λh=>⟨(N.free h).1,λk h0 h1 e=>?_⟩,λh=>?_,λh=>?_⟩
 ·have hn:=(N.free h).2 k h0 h1;by_cases hm:f (200+k)=w64 (x+1)
  ·rcases R.mine k h0 h1 hm with p|p
   ·exact hne (Eu hx hy (p.symm.trans e))
   ·exact ic hy (e.symm.trans p)
  ·rcases (R.kR k h0 h1 hm).1 with p|⟨_,p⟩
   ·exact hn (p ▸ e)
   ·exact hne (Eu hx hy (p.symm.trans e))
 ·obtain ⟨m,D⟩:=N.dir h;exact ⟨m,D.other hx hy hne R⟩
 ·obtain ⟨m,F⟩:=N.file h;exact ⟨m,F.other hx hy hne R⟩
theorem bK.put {f g:Int->UInt64}{S:FS}(I:bK f S){n:Int}(h0:0<=n/\n<24)(R:Fr0 n f g)(hc:∀ k,0<=k->k<24->k≠n->bU g (8+k*8) 8=bU f (8+k*8) 8){c:aB}{l:List aF}{s:List UInt8}
 (hn:bU g (8+n*8) 8=fJ c) (N:gN g n c l s) (hz:n≠0):bK g (S.put n c l s):=by
 have hw:=ic h0;refine ⟨λk k0 k1=>?_,λk k0 k1=>?_,?_,λk k0 k1=>?_⟩
 ·show _=fJ (if k=n then c else S.C k);by_cases e:k=n
  ·rw [if_pos e,e];exact hn
  ·rw [if_neg e,hc k k0 k1 e];exact I.card k k0 k1
 ·show gN g k (if k=n then c else S.C k) (if k=n then l else S.nm k) (if k=n then s else S.aL k);by_cases e:k=n
  ·rw [if_pos e,if_pos e,if_pos e,e];exact N
  ·rw [if_neg e,if_neg e,if_neg e];exact (I.node k k0 k1).other h0 ⟨k0,k1⟩ (λx=>e x.symm) R
 ·show (if (0:Int)=n then c else S.C 0).kind=0;rw [if_neg (λe=>hz e.symm)];exact I.zero
 ·by_cases hm:f (200+k)=w64 (n+1)
  ·rcases R.mine k k0 k1 hm with p|p
   ·exact .inr ⟨n,h0.1,h0.2,p⟩
   ·exact .inl p
  ·rcases (R.kR k k0 k1 hm).1 with p|⟨_,p⟩
   ·rw [p];exact I.own k k0 k1
   ·exact .inr ⟨n,h0.1,h0.2,p⟩
def setW (now:Int->UInt64)(n:Int)(c:aB):Int->UInt64:=j6 now (8+n*8) (fJ c)
theorem uO {now:Int->UInt64}{n:Int}(hn:n<24){c:aB}{a:Int}(ha:200<=a):setW now n c a=now a:=by
 unfold setW j6;rw [if_neg (by rw [show (fJ c).length=8 from rfl];omega)]
theorem zw {now:Int->UInt64}{n:Int}{c:aB}:bU (setW now n c) (8+n*8) 8=fJ c:=by
 unfold setW bU;apply List.ext_getElem
 ·rfl
 ·intro i h1 h2;have hi:i<8:=by simpa using h1
  rw [List.getElem_map,List.getElem_range];unfold j6;rw [if_pos ⟨by omega,by rw [show (fJ c).length=8 from rfl];omega⟩];have:(8+n*8+(i:Int)-(8+n*8)).toNat=i:=by omega
  rw [this,List.getElem?_eq_getElem h2];rfl
theorem QS {now:Int->UInt64}{n k:Int}{c:aB}(h:k≠n):bU (setW now n c) (8+k*8) 8=bU now (8+k*8) 8:=by
 unfold bU;refine List.map_congr_left λi hi=>?_;have hi:i<8:=by simpa using hi
 unfold setW j6;rw [if_neg (by rw [show (fJ c).length=8 from rfl];omega)]
theorem bK.set {f g:Int->UInt64}{S:FS}(I:bK f S){n:Int}(h0:0<n/\n<24)(R:Fr n f g){c:aB}{l:List aF}{s:List UInt8}(N:gN g n c l s):bK (setW g n c) (S.put n c l s):=by
 have hn:0<=n/\n<24:=⟨by omega,h0.2⟩;have R2:Fr0 n f (setW g n c):=R.z.after λa ha=>uO h0.2 ha;refine I.put hn R2 (λk k0 k1 hk=>?_) zw ?_ (by omega)
 ·rw [QS hk];exact List.map_congr_left λi hi=>R.low _ (by
   have:i<8:=by simpa using hi
   omega)
 ·
  have hhi:∀ a,200<=a->setW g n c a=g a:=λa ha=>uO h0.2 ha;obtain ⟨z,hz⟩:∃ z:Int,(0<=z/\z<24)/\z≠n:=⟨0,⟨by decide,by decide⟩,by omega⟩;exact N.other hz.1 hn hz.2 (Fr0.of z hhi)
theorem JE {now:Int->UInt64}{node:Int}{kind:Int}(hk:kind=1\/kind=3)(v:UInt64)(h:∀ x,0<=x->x<96->now (200+x)≠w64 (node+1)):gm now node (bZ kind v) m0 []:=by
 have hu:gV (bZ kind v).more m0=[]:=by show gV (-1) m0=[];decide
 refine ⟨rfl,⟨rfl,?_,by rw [hu];exact List.nodup_nil,λx x0 x1=>by rw [hu];exact ⟨λh=>(nomatch h),λe=>absurd e (h x x0 x1)⟩⟩,⟨hk,by show (0:Int)<=1/\(1:Int)<=255;decide⟩,rfl,by simp,λp hp=>?_,λj hj _=>?_,?_⟩
 ·intro x hx
  left
  have:x∈List.replicate 22 (-1:Int):=hx;exact (List.mem_replicate.1 this).2
 ·unfold fb;have:m0[p/128]?.getD (-1) = -1:=by
   unfold m0;rw [List.getElem?_replicate];split <;> rfl
  rw [this];unfold dz;rw [if_pos rfl,Ev];rfl
 ·unfold m0;rw [List.getElem?_replicate];split <;> rfl
 ·exact ⟨λ_=>by decide,λ_=>rfl⟩
theorem QT {now:Int->UInt64}{node:Int}(v:UInt64)(h:∀ x,0<=x->x<96->now (200+x)≠w64 (node+1)):eu now node (bZ 2 v) ig []:=by
 have hu:gV (bZ 2 v).more ig=[]:=by show gV (-1) ig=[];decide
 refine ⟨rfl,⟨rfl,?_,by rw [hu];exact List.nodup_nil,λx x0 x1=>by rw [hu];exact ⟨λh=>(nomatch h),λe=>absurd e (h x x0 x1)⟩⟩,⟨rfl,rfl⟩,rfl,λi hi hu=>absurd (xV i) hu,?_,List.Pairwise.nil,⟨λ_=>by decide,λ_=>rfl⟩⟩
 ·intro x hx
  left
  have:x∈List.replicate 22 (-1:Int):=hx;exact (List.mem_replicate.1 this).2
 ·have:dS now ig=[]:=by
   unfold dS;rw [List.flatMap_eq_nil_iff];intro i _;exact mV (xV i)
  rw [this]
theorem JF {now:Int->UInt64}{n kind:Int}(hk:1<=kind/\kind<=3)(v:UInt64)(h:∀ x,0<=x->x<96->now (200+x)≠w64 (n+1)):gN now n (bZ kind v) [] []:=by
 have hk':(bZ kind v).kind=kind:=rfl;refine ⟨by rw [hk'];omega,λh0=>by rw [hk'] at h0;omega,λh2=>?_,λh13=>?_⟩
 ·rw [hk'] at h2;subst h2;exact ⟨ig,QT v h⟩
 ·rw [hk'] at h13;exact ⟨m0,JE h13 v h⟩
theorem zA {now:Int->UInt64}{n:Int}(v:UInt64)(h:∀ x,0<=x->x<96->now (200+x)≠w64 (n+1)):gN now n (fQ v) [] []:=
 ⟨by show (0:Int)<=0/\(0:Int)<=3;decide,λ_=>⟨rfl,h⟩,λh2=>(by cases h2),λh13=>(by rcases h13 with h|h <;> cases h)⟩
theorem Bt {F:Fs}{root:Int}{follow:Bool}:∀ (f:Nat) (at_:Int) (links:Nat) (l:List (List UInt8)),links<=8->(8-links)*61+l.length+1<=f->(dW F root follow f at_ links l).2 ≠ -1
 | 0,_,_,_,_,h=>by omega
 | f+1,at_,links,[],_,_=>by unfold dW;simp
 | f+1,at_,links,name::rest,hl,h=>by
  simp only [List.length_cons] at h;unfold dW;simp only;split
  ·simp
  ·split
   ·simp
   ·split
    ·exact Bt f _ _ _ hl (by omega)
    ·split
     ·simp
     ·split
      ·simp
      ·rename_i head hp;have:=(mE hp).1;exact Bt f _ _ _ (by omega) (by rw [List.length_append];omega)
structure aS where
 id:Int
 kind:Int
 links:Int
 data:List UInt8
 names:List aF
def tn (T:List aS)(i:Int):aS:=T[i.toNat]?.getD ⟨0,0,0,[],[]⟩
def nu (num:List Int)(i:Int):Int:=num[i.toNat]?.getD 0
def aY (T:List aS):Fs:=⟨λi=>(tn T i).kind,λi name=>(cK (tn T i).names name).map (·.node),λi=>(tn T i).data⟩
def aX (S:FS):Fs:=⟨λi=>(S.C i).kind,λi name=>(cK (S.nm i) name).map (·.node),λi=>S.aL i⟩
def rn (num:List Int)(e:aF):aF:=⟨e.name,nu num e.node⟩
def inT (T:List aS)(i:Int):Prop:=1<=i/\i<T.length
structure qN (S:FS)(T:List aS)(num:List Int):Prop where
 len:num.length=T.length
 two:2<=T.length
 root:nu num 1=1/\(tn T 1).kind=2
 bG:∀ i,inT T i->1<=nu num i/\nu num i<24
 inj:∀ i j,inT T i->inT T j->nu num i=nu num j->i=j
 kind:∀ i,inT T i->(S.C (nu num i)).kind=(tn T i).kind/\1<=(tn T i).kind/\(tn T i).kind<=3
 dir:∀ i,inT T i->(tn T i).kind=2->S.nm (nu num i)=(tn T i).names.map (rn num)/\(∀ e∈(tn T i).names,inT T e.node)/\strict (tn T i).names
 data:∀ i,inT T i->(tn T i).kind≠2->(tn T i).data=S.aL (nu num i)
 kR:∀ i,inT T i->(tn T i).kind≠2->(tn T i).names=[]
theorem Fz (num:List Int)(name:List UInt8):∀ l:List aF,cK (l.map (rn num)) name=(cK l name).map (rn num)
 | []=>rfl
 | x::l=>by
  have ih:=Fz num name l;unfold cK at ih ⊢;rw [List.map_cons,List.find?_cons,List.find?_cons];have:(rn num x).name=x.name:=rfl;rw [this];split
  ·rfl
  ·exact ih
theorem qN.alike {S:FS}{T:List aS}{num:List Int}(W:qN S T num):Alike (aY T) (aX S) (nu num) (inT T):=by
 refine ⟨λi hi=>(W.kind i hi).1,λi name hi hk=>?_,λi name y hi hk hf=>?_,λi hi hk=>?_⟩
 ·show (cK (S.nm (nu num i)) name).map (·.node)=((cK (tn T i).names name).map (·.node)).map (nu num);rw [(W.dir i hi hk).1,Fz,Option.map_map,Option.map_map];rfl
 ·have hf':(cK (tn T i).names name).map (·.node)=some y:=hf;cases he:cK (tn T i).names name with
  | none=>rw [he] at hf';cases hf'
  | some e=>
   rw [he] at hf';have:e.node=y:=by simpa using hf'
   rw [<-this];exact (W.dir i hi hk).2.1 e (List.mem_of_find?_eq_some he)
 ·have:(tn T i).kind=3:=hk;exact (W.data i hi (by omega)).symm
theorem zi (f:aF->aF)(hf:∀ e,(f e).name=e.name)(name:List UInt8):∀ l:List aF,aO (l.map f) name=aO l name
 | []=>rfl
 | x::l=>by
  have ih:=zi f hf name l;unfold aO at ih ⊢;rw [List.map_cons,List.takeWhile_cons,List.takeWhile_cons,hf x];split
  ·rw [List.length_cons,List.length_cons,ih]
  ·rfl
theorem Bw (f:aF->aF)(hf:∀ e,(f e).name=e.name)(l:List aF)(e:aF):(bF l e).map f=bF (l.map f) (f e):=by
 unfold bF;rw [hf e,zi f hf,List.map_append,List.map_cons,List.map_take,List.map_drop]
def oM (T:List aS)(d:Int)(l:List aF):List aS:=T.set d.toNat { tn T d with names:=l }
theorem UD {T:List aS}{d:Int}(hd:inT T d)(l:List aF)(x:aS){i:Int}(hi:1<=i/\i<T.length+1):tn (oM T d l++[x]) i=if i=T.length then x else if i=d then { tn T d with names:=l } else tn T i:=by
 obtain ⟨d0,d1⟩:=hd;have hl:(oM T d l).length=T.length:=by unfold oM;simp
 unfold tn;by_cases e:i=T.length
 ·rw [if_pos e];have:i.toNat=(oM T d l).length:=by rw [hl];omega
  rw [this];simp
 ·rw [if_neg e,List.getElem?_append_left (by rw [hl];omega)];unfold oM;rw [List.getElem?_set];by_cases e2:i=d
  ·subst e2;rw [if_pos rfl,if_pos (by omega),if_pos rfl];rfl
  ·rw [if_neg (by omega),if_neg e2]
theorem UE {num:List Int}{n:Int}{i:Int}(hi:1<=i/\i<num.length+1):nu (num++[n]) i=if i=num.length then n else nu num i:=by
 unfold nu;by_cases e:i=num.length
 ·rw [if_pos e];have:i.toNat=num.length:=by omega
  rw [this];simp
 ·rw [if_neg e,List.getElem?_append_left (by omega)]
theorem qN.grow {S S':FS}{T:List aS}{num:List Int}(W:qN S T num){d n kind:Int}{name data:List UInt8}(hd:inT T d)(hk:(tn T d).kind=2)(hn0:(S.C n).kind=0)(hn:1<=n/\n<24)(hp:dx (tn T d).names name=false)(hkind:1<=kind/\kind<=3)
 (hS:∀ x,x≠n->x≠nu num d->(S'.C x).kind=(S.C x).kind/\S'.nm x=S.nm x/\S'.aL x=S.aL x)
 (h1:(S'.C (nu num d)).kind=2/\S'.nm (nu num d)=bF (S.nm (nu num d)) ⟨name,n⟩)
 (h2:(S'.C n).kind=kind/\(kind≠2->S'.aL n=data)/\(kind=2->S'.nm n=[])) :
 qN S' (oM T d (bF (tn T d).names ⟨name,(T.length:Int)⟩)++[⟨n,kind,1,data,[]⟩]) (num++[n]):=by
 have hl:=W.len;have vZ:=W.two;obtain ⟨d0,d1⟩:=hd;have hL:(oM T d (bF (tn T d).names ⟨name,(T.length:Int)⟩)++[(⟨n,kind,1,data,[]⟩:aS)]).length=T.length+1:=by unfold oM;simp
 have hin:∀ i,inT (oM T d (bF (tn T d).names ⟨name,(T.length:Int)⟩)++[(⟨n,kind,1,data,[]⟩:aS)]) i↔inT T i\/i=T.length:=by
  intro i;unfold inT;rw [hL];omega
 have hne:∀ i,inT T i->nu num i≠n:=by
  intro i hi e;have:=(W.kind i hi).1;have h3:=(W.kind i hi).2.1;rw [e,hn0] at this;omega
 have htn:∀ i,inT T i\/i=T.length->tn (oM T d (bF (tn T d).names ⟨name,(T.length:Int)⟩)++[(⟨n,kind,1,data,[]⟩:aS)]) i=if i=T.length then ⟨n,kind,1,data,[]⟩ else if i=d then { tn T d with names:=bF (tn T d).names ⟨name,(T.length:Int)⟩ } else tn T i:=
  λi hi=>UD ⟨d0,d1⟩ _ _ (by unfold inT at hi;omega)
 have hnu:∀ i,inT T i\/i=T.length->nu (num++[n]) i=if i=T.length then n else nu num i:=λi hi=>by
  have:=UE (num:=num) (n:=n) (i:=i) (by unfold inT at hi;omega);rw [hl] at this;exact this
 have hdn:nu num d≠n:=hne d ⟨d0,d1⟩;have hlt:∀ i,inT T i->i≠T.length:=λi hi=>by unfold inT at hi;omega
 refine ⟨by rw [hL,List.length_append,hl];rfl,by rw [hL];omega,?_,λi hi=>?_,λi j hi hj e=>?_,λi hi=>?_,λi hi hki=>?_,λi hi hki=>?_,λi hi hki=>?_⟩
 ·have Bz:inT T 1:=⟨by omega,by omega⟩;rw [hnu 1 (.inl Bz),htn 1 (.inl Bz),if_neg (hlt 1 Bz),if_neg (hlt 1 Bz)];refine ⟨W.root.1,?_⟩;split
  ·exact hk
  ·exact W.root.2
 ·have hi':=(hin i).1 hi;rw [hnu i hi'];by_cases e:i=T.length
  ·rw [if_pos e];exact hn
  ·rw [if_neg e];exact W.bG i (hi'.resolve_right e)
 ·have hi':=(hin i).1 hi;have hj':=(hin j).1 hj;rw [hnu i hi',hnu j hj'] at e;by_cases ei:i=T.length
  ·by_cases ej:j=T.length
   ·omega
   ·rw [if_pos ei,if_neg ej] at e;exact absurd e.symm (hne j (hj'.resolve_right ej))
  ·by_cases ej:j=T.length
   ·rw [if_neg ei,if_pos ej] at e;exact absurd e (hne i (hi'.resolve_right ei))
   ·rw [if_neg ei,if_neg ej] at e;exact W.inj i j (hi'.resolve_right ei) (hj'.resolve_right ej) e
 ·have hi':=(hin i).1 hi;rw [hnu i hi',htn i hi'];by_cases e:i=T.length
  ·rw [if_pos e,if_pos e];exact ⟨h2.1,hkind.1,hkind.2⟩
  ·have hi2:=hi'.resolve_right e;rw [if_neg e,if_neg e];by_cases e2:i=d
   ·rw [if_pos e2,e2];exact ⟨h1.1.trans hk.symm,(W.kind d ⟨d0,d1⟩).2⟩
   ·rw [if_neg e2];rw [(hS (nu num i) (hne i hi2) (λx=>e2 (W.inj i d hi2 ⟨d0,d1⟩ x))).1];exact W.kind i hi2
 ·have hi':=(hin i).1 hi;rw [htn i hi'] at hki;rw [hnu i hi',htn i hi'];have hrn:∀ e:aF,inT T e.node->rn (num++[n]) e=rn num e:=by
   intro e he;unfold rn;rw [hnu e.node (.inl he),if_neg (hlt _ he)]
  by_cases e:i=T.length
  ·rw [if_pos e] at hki ⊢;rw [if_pos e];exact ⟨h2.2.2 hki,by simp,List.Pairwise.nil⟩
  ·have hi2:=hi'.resolve_right e;rw [if_neg e] at hki ⊢;rw [if_neg e];by_cases e2:i=d
   ·rw [if_pos e2];subst e2;obtain ⟨q1,q2,q3⟩:=W.dir i hi2 hk;refine ⟨?_,λe he=>(hin _).2 ?_,xY q3 hp⟩
    ·rw [h1.2,q1];show _=(bF (tn T i).names ⟨name,(T.length:Int)⟩).map (rn (num++[n]));rw [Bw (rn (num++[n])) (λ_=>rfl)];have e1:(tn T i).names.map (rn (num++[n]))=(tn T i).names.map (rn num):=List.map_congr_left λe he=>hrn e (q2 e he);have e3:rn (num++[n]) ⟨name,(T.length:Int)⟩=⟨name,n⟩:=by
      unfold rn;rw [hnu _ (.inr rfl),if_pos rfl]
     rw [e1,e3]
    ·have he':e∈bF (tn T i).names ⟨name,(T.length:Int)⟩:=he;rcases List.mem_cons.1 ((mX _ _).mem_iff.1 he') with rfl|h
     ·exact .inr rfl
     ·exact .inl (q2 e h)
   ·rw [if_neg e2] at hki ⊢;obtain ⟨q1,q2,q3⟩:=W.dir i hi2 hki;refine ⟨?_,λe he=>(hin _).2 (.inl (q2 e he)),q3⟩;rw [(hS (nu num i) (hne i hi2) (λx=>e2 (W.inj i d hi2 ⟨d0,d1⟩ x))).2.1,q1];exact (List.map_congr_left λe he=>hrn e (q2 e he)).symm
 ·have hi':=(hin i).1 hi;rw [htn i hi'] at hki;rw [hnu i hi',htn i hi'];by_cases e:i=T.length
  ·rw [if_pos e] at hki ⊢;rw [if_pos e];exact (h2.2.1 hki).symm
  ·have hi2:=hi'.resolve_right e;rw [if_neg e] at hki ⊢;rw [if_neg e];by_cases e2:i=d
   ·rw [if_pos e2] at hki;exact absurd hk hki
   ·rw [if_neg e2] at hki ⊢;rw [(hS (nu num i) (hne i hi2) (λx=>e2 (W.inj i d hi2 ⟨d0,d1⟩ x))).2.2];exact W.data i hi2 hki
 ·have hi':=(hin i).1 hi;rw [htn i hi'] at hki ⊢;by_cases e:i=T.length
  ·rw [if_pos e]
  ·have hi2:=hi'.resolve_right e;rw [if_neg e] at hki ⊢;by_cases e2:i=d
   ·rw [if_pos e2] at hki;exact absurd hk hki
   ·rw [if_neg e2] at hki ⊢;exact W.kR i hi2 hki
end Go.Proofs.YtoociceebodfeaaGreatDoor
namespace Go.aK
def Ue (h:Heap)(r:Nat)(m:List (Int×Value))(n:Int)(born:Int):Prop:=
 ∃ (es:Array MapEntry) (cl j:Nat) (hj:j<es.size),h[r]?=some (.map es cl)/\es.toList.map (λe=>(e.key,e.val))=m.map (λp=>(Value.int .i64 p.1,p.2))/\(m.map (·.1)).Nodup/\(es.toList.map (·.born)).Nodup/\(∀ e∈es.toList,e.born<cl) /\
  (m[j]?).map (·.1)=some n/\born=((es[j]'hj).born:Int)/\(es[j]'hj).key=.int .i64 n
def K9 (h:Heap)(r:Nat)(m:List (Int×Value))(n:Int)(born:Int):Prop:=(gJ m n=none/\yB h r m n born)\/Ue h r m n born
theorem Uf {α:Type}(a:Array α)(j:Nat)(f g:α->α)(h:∀ hj:j<a.size,f a[j]=g a[j]):a.modify j f=a.modify j g:=by
 apply Array.ext
 ·simp
 ·intro i i1 i2;rw [Array.getElem_modify,Array.getElem_modify];split
  ·rename_i e;subst e;exact h (by simpa using i1)
  ·rfl
theorem aP.Ji {P:Program}{T kT eT:TypeId}{i:TypeInfo}{z:Value}(hu:P.underlying T=some (.map kT eT))(hk:P.underlying kT=some (.int .i64))(hi:P.info? eT=some i)(hz:i.zero=some z){h:Heap}{r:Nat}{m:List (Int×Value)}(o:dF h r m){n:Int}{bs:List Nat}(hb:r∉bs)
 {K:Value->Heap->Prop} (H:∀ h' v born,h'.size=h.size->K9 h' r m n born->Keeps [r] h h'->K (.tuple #[v,.int .i64 born]) h'):aP P (Instr.mapEntry T (.map (some r)) (.int .i64 n)) bs h K:=by
 by_cases hn:gJ m n=none
 ·refine aP.J6 hu hk hi hz o ((Bh m n).1 hn) hb λh' born s p k=>H h' z born s (.inl ⟨hn,p⟩) k
 ·unfold aP;intro hlt w hw;subst hw;have hr:=o.lt;obtain ⟨es,cl,h1,h2,h3,h4,h5⟩:=o;obtain ⟨q,h6,h7,h8⟩:=vg es.toList m n 0 h2;obtain ⟨p,rfl⟩:∃ p,q=some p:=by
   cases q with
   | none=>exact absurd (by simpa using h7.symm) hn
   | some p=>exact ⟨p,rfl⟩
  obtain ⟨j,hj1,hj2,hj3⟩:=h8 p rfl;have hj:p.1=j:=by omega
  have hjl:j<es.size:=by simpa using hj2
  have hkey:(es[j]'hjl).key=.int .i64 n:=by
   have:=congrArg (λl=>l[j]?) h2;simp only [List.getElem?_map] at this;cases hm:m[j]? with
   | none=>rw [hm] at hj3;simp at hj3
   | some q=>
    rw [hm] at this hj3;simp at hj3;simp [hjl] at this;rw [this.1,hj3]
  have hmod:(es.modify j λe=>{ e with key:=.int .i64 n })=es:=by
   apply Array.ext
   ·simp
   ·intro i i1 i2;rw [Array.getElem_modify];split
    ·rename_i e;subst e;cases he:es[j]'hjl;rw [he] at hkey;simp at hkey;simp [hkey]
    ·rfl
  refine ⟨.tuple #[p.2,.int .i64 ((es[j]'hjl).born:Int)],{ w with heap:=w.heap.setIfInBounds r (.map es cl) },?_,⟨rfl,rfl,rfl⟩,λb hb'=>?_,H _ _ _ (by simp) (.inr ⟨es,cl,j,hjl,by rw [jN _ _ _ _ hr,if_pos rfl],h2,h3,h4,h5,hj3,rfl,hkey⟩) (rJ _ _ _ hr)⟩
  ·simp only [Instr.mapEntry,Sem.run_bind,dI P T w hu,Result.andThen_ok,qx h1];rw [tK hk (.inl ⟨_,rfl⟩)];simp only [Result.andThen_ok,tL hk h6 w];rw [hj];have hold:((es[j]?).map (·.key)).getD (Value.int .i64 n)=.int .i64 n:=by simp [hjl,hkey]
   have hbn:((es[j]?).map (λx=>(x.born:Int))).getD 0=((es[j]'hjl).born:Int):=by simp [hjl]
   simp only [hold,hbn,Instr.keyThatStays,Instr.sameBits,beq_self_eq_true,Bool.and_self,if_true,Sem.run_bind,Sem.run_pure,Result.andThen_ok];have he2:(es.modify j λe=>{ key:=Value.int IntKind.i64 n,val:=e.val,born:=e.born })=es:=hmod;rw [he2,rO h1];rfl
  ·show (w.heap.setIfInBounds r _)[b]?=_;rw [jN _ _ _ _ hr,if_neg (by intro e;subst e;exact hb hb')]
theorem aP.Jj {P:Program}{T:TypeId}{h:Heap}{r:Nat}{m:List (Int×Value)}{n born:Int}(o:K9 h r m n born){v:Value}{bs:List Nat}(hb:r∉bs)
 {K:Unit->Heap->Prop} (H:∀ h',h'.size=h.size->dF h' r (jg m n v)->Keeps [r] h h'->K () h'):aP P (Instr.entryStore T (.map (some r)) (.int .i64 born) v) bs h K:=by
 rcases o with ⟨hn,o⟩|o
 ·exact aP.entryStore o hb λh' s M k=>H h' s (by rw [Ai m n v hn];exact M) k
 ·unfold aP;intro hlt w hw;subst hw;obtain ⟨es,cl,j,hj,h1,h2,h3,h4,h5,h6,rfl,hkey⟩:=o;have hr:=eZ h1;have hg:=qx (P:=P) h1;have hfind:es.findIdx? (λe=>(e.born:Int)==((es[j]'hj).born:Int))=some j:=by
   rw [Array.findIdx?_eq_some_iff_getElem];refine ⟨hj,by simp,λi hi=>?_⟩;have hne:(es[i]'(by omega)).born≠(es[j]'hj).born:=by
    intro e;have hp:=List.pairwise_iff_getElem.1 h4 i j (by simpa using (by omega:i<es.size)) (by simpa using hj) hi;simp at hp;exact hp e
   simp;omega
  have hmod:(es.modify j λe=>{ e with val:=v })=es.modify j λe=>{ e with key:=.int .i64 n,val:=v }:=Uf _ _ _ _ λhj'=>by
   cases he:es[j]'hj';rw [he] at hkey;simp at hkey;simp [hkey]
  have hs:=rO (P:=P) h1 (.map (es.modify j λe=>{ e with val:=v }) cl);refine ⟨(),{ w with heap:=w.heap.setIfInBounds r (.map (es.modify j λe=>{ e with val:=v }) cl) },?_,⟨rfl,rfl,rfl⟩,λb hb'=>?_,H _ (by simp) ⟨es.modify j λe=>{ e with val:=v },cl,by rw [jN _ _ _ _ hr,if_pos rfl],?_,?_,?_,?_⟩ (rJ _ _ _ hr)⟩
  ·simp [Instr.entryStore,hg,asInt,asIntOf,hfind,hs]
  ·show (w.heap.setIfInBounds r _)[b]?=_;rw [jN _ _ _ _ hr,if_neg (by intro e;subst e;exact hb hb')]
  ·rw [hmod,Array.toList_modify];exact DF es.toList m n v j h2 h3 h6
  ·rw [DC];have:n∈m.map (·.1):=by
    simp only [Option.map_eq_some_iff] at h6;obtain ⟨q,hq,rfl⟩:=h6;exact List.mem_map.2 ⟨q,List.mem_of_getElem? hq,rfl⟩
   rw [if_pos this];exact h3
  ·have:(es.modify j λe=>{ e with val:=v }).toList.map (·.born)=es.toList.map (·.born):=by
    rw [Array.toList_modify];apply List.ext_getElem?;intro i;simp only [List.getElem?_map,List.getElem?_modify];cases es.toList[i]? with
    | none=>simp
    | some e=>by_cases hij:j=i <;> simp [hij]
   rw [this];exact h4
  ·intro e he;rw [Array.toList_modify] at he;obtain ⟨i,hi⟩:=List.getElem?_of_mem he;rw [List.getElem?_modify] at hi;cases hee:es.toList[i]? with
   | none=>rw [hee] at hi;simp at hi
   | some e0=>
    rw [hee] at hi;simp at hi;have:=h5 e0 (List.mem_of_getElem? hee);rw [<-hi];split <;> simpa using this
end Go.aK
namespace Go.Proofs.YtoociceebodfeaaGreatDoor
open Go Go.aK
def lH (at_ width:Nat):Prop:=at_+width<=64/\1<=width/\width<=32/\(width=8\/width=16\/width=32)
theorem Jp (at_ width:Nat)(hf:lH at_ width)(h:Heap):aD Tryz.prog 193 [.int .i64 (at_:Int),.int .i64 (width:Int)] h (λv h'=>Keeps [] h h'/\v=wv (mh width)):=by
 unfold lH at hf;have e:IntKind.i64.wrap (64-(width:Int))=((64-width:Nat):Int):=wrapN (by omega) (by omega);refine aH aI Tryz.func193 rfl ok193 (by simp [Tryz.f193]) ?_;(conv=>whnf);refine ak.f (by simp [di,e];omega) ?_;(conv=>whnf);refine dH.i (by rw [e];omega) ?_;(conv=>whnf);refine ⟨Keeps.refl _ _,?_⟩;rw [e];rcases hf.2.2.2 with rfl|rfl|rfl <;> rfl
theorem QA (n:Nat)(hn:n<65536)(h:Heap):aD Tryz.prog 192 [.int .u64 (n:Int)] h (λv h'=>Keeps [] h h'/\∃ L:Nat,v=.int .i64 (L:Int)/\L<=16/\(n<256->L<=8)):=by
 refine aH aI Tryz.func192 rfl ok192 (by simp [Tryz.f192]) ?_;(conv=>whnf);refine aU.pass ?_;(conv=>whnf);(try refine aU.pass ?_;conv=>whnf);refine ak.f (by simp;omega) ?_;(conv=>whnf);(try refine aU.pass ?_;conv=>whnf);refine ak.f (by simp;omega) ?_;(conv=>whnf);(try refine aU.pass ?_;conv=>whnf);refine ak.i (λhc=>?_) (λhc=>?_)
 ·(conv=>whnf);refine dH.i (by decide) ?_;(conv=>whnf);have e:IntKind.u8.wrap ((n:Int).fdiv (2 ^ min (Int.toNat 8) IntKind.u64.bits))=((n/256:Nat):Int):=by
   have:(2:Int) ^ min (Int.toNat 8) IntKind.u64.bits=256:=by decide
   rw [this];have h2:(n:Int).fdiv 256=((n/256:Nat):Int):=by rw [Int.fdiv_eq_ediv_of_nonneg _ (by decide)];simp
   rw [h2];rw [wrap_u8];omega
  generalize hB:ByteArray.mk _=B;have hs:B.size=256:=by rw [<-hB];rfl
  have hv:∀ j,j<256->0<=iY B j/\iY B j<=8:=by rw [<-hB];decide +kernel
  refine fC.i (n/256) e (by omega) ?_;(conv=>whnf);have ⟨b0,b1⟩:=hv (n/256) (by omega);refine ⟨Keeps.refl _ _,(8+iY B (n/256)).toNat,?_,by omega,λhn=>?_⟩
  ·rw [dQ (x:=(0:Int)+8) (by omega) (by omega),dQ (x:=iY B (n/256)) (by omega) (by omega),dQ (by omega) (by omega)]
   (first|(congr 1;done)|(congr 1;omega))
  ·simp at hc;omega
 ·(conv=>whnf);have e:IntKind.u8.wrap (n:Int)=((n:Nat):Int):=by
   simp at hc;rw [wrap_u8];omega
  generalize hB:ByteArray.mk _=B;have hs:B.size=256:=by rw [<-hB];rfl
  have hv:∀ j,j<256->0<=iY B j/\iY B j<=8:=by rw [<-hB];decide +kernel
  have hn2:n<256:=by simp at hc;omega
  refine fC.i n e (by omega) ?_;(conv=>whnf);have ⟨b0,b1⟩:=hv n hn2;refine ⟨Keeps.refl _ _,(iY B n).toNat,?_,by omega,λhn=>by omega⟩;rw [dQ (x:=iY B n) (by omega) (by omega),dQ (by omega) (by omega)]
  (first|(congr 1;done)|(congr 1;omega))
theorem vD (x:UInt64):BitVec.ofInt 64 (x.toNat:Int)=x.toBitVec:=by
 apply BitVec.eq_of_toNat_eq;rw [BitVec.toNat_ofInt];have:=x.toNat_lt;show ((x.toNat:Int)%((2 ^ 64:Nat):Int)).toNat=x.toNat;omega
theorem Jq (x:UInt64){n:Nat}(h:n<=63):IntKind.u64.wrap ((x.toNat:Int)*2 ^ min ((n:Int)).toNat IntKind.u64.bits)=(((x <<< UInt64.ofNat n).toNat:Nat):Int):=by
 have hb:IntKind.u64.bits=64:=rfl;have hm:min ((n:Int)).toNat IntKind.u64.bits=n:=by rw [hb];omega
 rw [hm,UInt64.toNat_shiftLeft,xN h,Nat.mod_eq_of_lt (show n<64 by omega),Nat.shiftLeft_eq,qy];have:(x.toNat:Int)*2 ^ n=((x.toNat*2 ^ n:Nat):Int):=by simp
 rw [this];omega
theorem QB (x:UInt64){n:Nat}(h:n<=63):((x.toNat:Int)).fdiv (2 ^ min ((n:Int)).toNat IntKind.u64.bits)=(((x >>> UInt64.ofNat n).toNat:Nat):Int):=by
 have hb:IntKind.u64.bits=64:=rfl;have hm:min ((n:Int)).toNat IntKind.u64.bits=n:=by rw [hb];omega
 rw [hm,UInt64.toNat_shiftRight,xN h,Nat.mod_eq_of_lt (show n<64 by omega),Nat.shiftRight_eq_div_pow,Int.fdiv_eq_ediv_of_nonneg _ (Int.le_of_lt (Int.pow_pos (by decide)))];simp
theorem Eg (x:UInt64):IntKind.u64.wrap (x.toBitVec.toNat:Int)=(x.toNat:Int):=by
 have:=x.toNat_lt;rw [qy];show ((x.toNat:Nat):Int)%_=_;omega
theorem Jl (w:UInt64)(at_ width:Nat)(hf:lH at_ width)(h:Heap):aD Tryz.prog 121 [wv w,.int .i64 (at_:Int),.int .i64 (width:Int)] h (λv h'=>Keeps [] h h'/\v=.tuple #[wv (lF w at_ width),.int .i64 0]):=by
 refine aH aI Tryz.func121 rfl ok121 (by simp [Tryz.f121]) ?_;(conv=>whnf);refine au.i (Jp at_ width hf h) λv h1 k1 hv=>?_;subst hv;unfold lH at hf;have hm:(mh width).toNat=2 ^ width-1:=Eh (by omega);have hp:2<=2 ^ width:=by
  have:2 ^ 1<=2 ^ width:=Nat.pow_le_pow_right (by decide) hf.2.1;simpa using this
 (conv=>whnf);refine ak.f (by simp;omega) ?_;(conv=>whnf);refine dH.i (by omega) ?_;(conv=>whnf);refine ⟨k1,?_⟩;have hb:IntKind.u64.bits=64:=rfl;have e:=Eg (lF w at_ width);unfold lF at e;rw [UInt64.toBitVec_and] at e;rw [QB w (show at_<=63 by omega),hb,vD,vD,e];rfl
theorem Qv (w:UInt64)(at_ width:Nat)(hf:lH at_ width)(v:UInt64)(hv:v.toNat<2 ^ width)(hs:v.toNat<65536)(h:Heap):aD Tryz.prog 196 [wv w,.int .i64 (at_:Int),.int .i64 (width:Int),wv v] h (λr h'=>Keeps [] h h'/\r=.tuple #[wv (fK w at_ width v),.int .i64 0]):=by
 refine aH aI Tryz.func196 rfl ok196 (by simp [Tryz.f196]) ?_;(conv=>whnf);refine au.i (Jp at_ width hf h) λr h1 k1 hr=>?_;subst hr;unfold lH at hf;have hm:(mh width).toNat=2 ^ width-1:=Eh (by omega);have hp:2<=2 ^ width:=by
  have:2 ^ 1<=2 ^ width:=Nat.pow_le_pow_right (by decide) hf.2.1;simpa using this
 (conv=>whnf);(try refine aU.pass ?_;conv=>whnf);refine ak.f (by simp;omega) ?_;(conv=>whnf);refine au.i (QA v.toNat hs h1) λr h2 k2 hr=>?_;obtain ⟨L,rfl,l1,l2⟩:=hr;have hL:L<=width:=by
  rcases hf.2.2.2 with rfl|rfl|rfl
  ·exact l2 (by simpa using hv)
  ·exact l1
  ·omega
 (conv=>whnf);refine ak.f (by simp;omega) ?_;(conv=>whnf);refine dH.i (by omega) ?_;(conv=>whnf);refine dH.i (by omega) ?_;(conv=>whnf);refine ⟨k1.trans k2,?_⟩;have hb:IntKind.u64.bits=64:=rfl;rw [Jq (mh width) (show at_<=63 by omega),Jq v (show at_<=63 by omega),hb,vD,vD,vD,<-UInt64.toBitVec_not,<-UInt64.toBitVec_and,Eg (w &&& ~~~(mh width <<< UInt64.ofNat at_)),vD,<-UInt64.toBitVec_or,Eg];rfl
def iG (i:Nat):Nat:=if i<3 then 0 else 2+(i-3)/4
def mP (i:Nat):Nat:=if i=0 then 0 else if i=1 then 8 else if i=2 then 24 else 16*((i-3)%4)
def jC (i:Nat):Nat:=if i=0 then 8 else if i=1 then 16 else if i=2 then 32 else 16
def tZ (i:Nat):List Value:=[.int .i64 (iG i),.int .i64 (mP i),.int .i64 (jC i)]
def pQ:Nat->List Value
 | 0=>[]
 | n+1=>pQ n++tZ n
theorem Jm (h:Heap):aD Tryz.prog 120 [] h (λv h'=>Keeps [] h h'/\∃ b c fz sp,v=.slice (some ⟨b,0,none⟩) 9 c/\9<=c/\h.size<=b/\h'[b]?=some (.cells ⟨pQ 9++sp⟩ 189 fz)):=by
 refine aH aI Tryz.func120 rfl ok120 (by simp [Tryz.f120]) ?_;(conv=>whnf);refine aR.i λb1 h1 e1 s1 o1 k1=>?_;(conv=>whnf);refine bP.on [1,7] [] (λq:Nat×Option Addr×Nat=>[(1,.v (.slice q.2.1 (3+q.1) q.2.2)),(7,.v (.int .i64 (q.1:Int)))]) (λ_=>[])
  (λq h'=>q.1<=6/\Keeps [] h h'/\Own h' 189 3 q.2.1 (3+q.1) q.2.2 (pQ (3+q.1))/\∀ b∈ay q.2.1,h.size<=b) (λq=>6-q.1) (0,some ⟨b1,0,none⟩,3) ?_ ?_
 ·(conv=>whnf);refine ⟨(0,some ⟨b1,0,none⟩,3),rfl,rfl,rfl,Nat.zero_le _,k1,?_,λb hb=>by simp [ay] at hb;omega⟩;exact .inr ⟨b1,_,rfl,o1,rfl,rfl,rfl,Nat.le_refl _⟩
 ·rintro ⟨i,ai,ci⟩ h2 ⟨hi,k2,O2,n2⟩;simp only at hi O2 n2;(conv=>whnf);refine ak.i (λhc=>?_) (λhc=>?_)
  ·have hi6:i<6:=by simp at hc;omega
   (conv=>whnf);refine dH.i (by decide) ?_;(conv=>whnf);refine dH.i (by decide) ?_;(conv=>whnf);refine aR.i λb3 h3 e3 s3 o3 k3=>?_;have hval:([.int .i64 (IntKind.i64.wrap (2+IntKind.i64.wrap ((i:Int).tdiv 4))),.int .i64 (IntKind.i64.wrap (16*((i:Int).tmod 4))),.int .i64 16]:List Value)=tZ (3+i):=by
    have:i=0\/i=1\/i=2\/i=3\/i=4\/i=5:=by omega
    rcases this with rfl|rfl|rfl|rfl|rfl|rfl <;> rfl
   (conv=>whnf);refine jO (e:=189) (sz:=3) (aL:=24) (n:=1) (new:=tZ (3+i)) rfl rfl rfl rfl rfl rfl rfl (O2.keep k3 (by simp)) rfl (λj hj=>?_) rfl (by omega) (by decide) (by simp [aA]) ?_
   ·rw [<-hval];have mO:h3[b3]?=some (.cells ⟨[.int .i64 (IntKind.i64.wrap (2+IntKind.i64.wrap ((i:Int).tdiv 4))),.int .i64 (IntKind.i64.wrap (16*((i:Int).tmod 4))),.int .i64 16]⟩ 189 (0,0)):=o3;simp only [Heap.cell?,mO];rw [Nat.zero_add];simp
   intro a5 c5 h5 O5 k5 n5;(conv=>whnf);refine ⟨6-(i+1),by omega,?_⟩;(conv=>whnf);refine ⟨(i+1,a5,c5),rfl,?_,rfl,by simp only;omega,(k2.trans k3).dL k5 n2,?_,λb hb=>?_⟩
   ·simp only;rw [wrapN (x:=(i:Int)+1) (n:=i+1) (by simp) (by omega)];rfl
   ·exact O5
   ·rcases n5 b hb with h|h
    ·exact n2 b h
    ·have:=k2.size;omega
  ·have hi6:i=6:=by simp at hc;omega
   subst hi6;(conv=>whnf);rcases O2 with ⟨_,h,_⟩|⟨b,c,rfl,o,t,l1,_,cl⟩
   ·cases h
   ·refine ⟨k2,b,ci,(0,0),c.drop 27,rfl,cl,n2 b (by simp [ay]),?_⟩;rw [o];have:c=pQ 9++c.drop 27:=by
     have e:(pQ (3+6)).length=27:=rfl;rw [e] at t;rw [show pQ 9=pQ (3+6) from rfl,<-t,List.take_append_drop]
    rw [<-this]
def numsL (c:aB):List Int:=[c.kind,c.links,c.size,c.d0+1,c.d1+1,c.d2+1,c.d3+1,c.d4+1,c.more+1]
theorem Qu (c:aB)(B:rT c)(h:Heap):aD Tryz.prog 195 [.agg ⟨c.cells⟩] h (λv h'=>Keeps [] h h'/\∃ b q,v=.slice (some ⟨b,0,none⟩) 9 q/\Sl h' (some ⟨b,0,none⟩) 9 q (numsL c)/\h.size<=b):=by
 have B0:=B.d0;have B1:=B.d1;have B2:=B.d2;have B3:=B.d3;have B4:=B.d4;have Bm:=B.m;refine aH aI Tryz.func195 rfl ok195 (by simp [Tryz.f195]) ?_;(conv=>whnf);refine aR.i λb1 h1 e1 s1 o1 k1=>?_;(conv=>whnf);refine aR.i λb2 h2 e2 s2 o2 k2=>?_;(conv=>whnf);refine bP.on [1,3,14,15] [1] (λq:Nat×Option Addr×Nat=>[(1,.lp 1 0),(3,.v (.slice q.2.1 (3+q.1) q.2.2)),(14,.v (.agg ⟨[.int .i64 c.d0,.int .i64 c.d1,.int .i64 c.d2,.int .i64 c.d3,.int .i64 c.d4]⟩)),(15,.v (.int .i64 (q.1:Int)))]) (λ_=>[(1,b1,c.cells)])
  (λq h'=>q.1<=5/\Keeps [] h1 h'/\Own h' 3 1 q.2.1 (3+q.1) q.2.2 (((numsL c).take (3+q.1)).map λx=>.int .i64 x)/\∀ b∈ay q.2.1,h1.size<=b) (λq=>5-q.1) (0,some ⟨b2,0,none⟩,3) ?_ ?_
 ·(conv=>whnf);refine ⟨(0,some ⟨b2,0,none⟩,3),rfl,rfl,rfl,Nat.zero_le _,k2,?_,λb hb=>by simp [ay] at hb;omega⟩;exact .inr ⟨b2,_,rfl,o2,rfl,rfl,rfl,Nat.le_refl _⟩
 ·rintro ⟨i,ai,ci⟩ h3 ⟨hi,k3,O3,n3⟩;simp only at hi O3 n3;(conv=>whnf);refine ak.i (λhc=>?_) (λhc=>?_)
  ·have hi5:i<5:=by simp at hc;omega
   (conv=>whnf);refine fC.i i rfl hi5 ?_;(conv=>whnf);refine oq.i (v:=.int .i64 (c.direct[i]'(by simpa [aB.direct] using hi5))) ?_ ?_
   ·have:i=0\/i=1\/i=2\/i=3\/i=4:=by omega
    rcases this with rfl|rfl|rfl|rfl|rfl <;> rfl
   (conv=>whnf);refine aR.i λb4 h4 e4 s4 o4 k4=>?_;have hw:IntKind.i64.wrap ((c.direct[i]'(by simpa [aB.direct] using hi5))+1)=(numsL c)[3+i]'(by simp [numsL];omega):=by
    have:i=0\/i=1\/i=2\/i=3\/i=4:=by omega
    rcases this with rfl|rfl|rfl|rfl|rfl <;> exact dQ (by simp [aB.direct];omega) (by simp [aB.direct];omega)
   (conv=>whnf);refine jO (e:=3) (sz:=1) (aL:=8) (n:=1) (new:=[.int .i64 ((numsL c)[3+i]'(by simp [numsL];omega))]) rfl rfl rfl rfl rfl rfl rfl (O3.keep k4 (by simp)) rfl (λj hj=>?_) rfl (by omega) (by decide) (λx hx hm=>by
    have:=n3 x hx;have e:x=b1:=by simpa [aA] using hm
    omega) ?_
   ·rw [<-hw];have kN:h4[b4]?=some (.cells ⟨[.int .i64 (IntKind.i64.wrap ((c.direct[i]'(by simpa [aB.direct] using hi5))+1))]⟩ 3 (0,0)):=o4;simp only [Heap.cell?,kN];rw [Nat.zero_add];simp
   intro a5 c5 h5 O5 k5 n5;(conv=>whnf);refine ⟨5-(i+1),by omega,?_⟩;(conv=>whnf);refine ⟨(i+1,a5,c5),rfl,?_,rfl,by simp only;omega,(k3.trans k4).dL k5 n3,?_,λb hb=>?_⟩
   ·simp only;rw [wrapN (x:=(i:Int)+1) (n:=i+1) (by simp) (by omega)];rfl
   ·simp only;rw [show 3+(i+1)=(3+i)+1 by omega,List.take_succ_eq_append_getElem (by simp [numsL];omega),List.map_append];exact O5
   ·rcases n5 b hb with h|h
    ·exact n3 b h
    ·have:=k3.size;omega
  ·have hi5:i=5:=by simp at hc;omega
   subst hi5;(conv=>whnf);refine aR.i λb4 h4 e4 s4 o4 k4=>?_;have hw:IntKind.i64.wrap (c.more+1)=c.more+1:=dQ (by omega) (by omega);(conv=>whnf);refine jO (e:=3) (sz:=1) (aL:=8) (n:=1) (new:=[.int .i64 (c.more+1)]) rfl rfl rfl rfl rfl rfl rfl (O3.keep k4 (by simp)) rfl (λj hj=>?_) rfl (by omega) (by decide) (λx hx hm=>by
    have:=n3 x hx;have e:x=b1:=by simpa [aA] using hm
    omega) ?_
   ·rw [<-hw];have kN:h4[b4]?=some (.cells ⟨[.int .i64 (IntKind.i64.wrap (c.more+1))]⟩ 3 (0,0)):=o4;simp only [Heap.cell?,kN];rw [Nat.zero_add];simp
   intro a5 c5 h5 O5 k5 n5;(conv=>whnf);have n5':∀ b∈ay a5,h.size<=b:=λb hb=>by
    rcases n5 b hb with h|h
    ·have:=n3 b h;omega
    ·have:=k3.size;omega
   have Q:Own h5 3 1 a5 9 c5 ((numsL c).map λx=>.int .i64 x):=O5;have R:=Q.sl (α:=Int) (xs:=numsL c) (Cm _ _ (by
    intro x hx;have h1:=B.k;have h2:=B.l;have h3:=B.s;simp only [numsL,List.mem_cons,List.not_mem_nil,or_false] at hx;unfold inI64;omega)) rfl (by decide) (by simp [numsL])
   rcases O5 with ⟨_,h,_⟩|⟨b,cs,rfl,_⟩
   ·cases h
   ·exact ⟨k1.trans ((k3.trans k4).dL k5 n3),b,c5,rfl,R,n5' b (by simp [ay])⟩
theorem Ec (v:UInt64)(h:Heap):aD Tryz.prog 210 [wv v] h (λr h'=>Keeps [] h h'/\r=.agg ⟨(fQ v).cells⟩):=by
 refine aH aI Tryz.func210 rfl ok210 (by simp [Tryz.f210]) ?_;(conv=>whnf);refine aR.i λb1 h1 e1 s1 o1 k1=>?_;(conv=>whnf);refine aR.i λb2 h2 e2 s2 o2 k2=>?_;(conv=>whnf);refine aN.i λh3 s3 k3=>?_;(conv=>whnf);refine bP.on [2,3,7] [2,3] (λi:Nat=>[(2,.lp 2 0),(3,.lp 3 0),(7,.v (.int .i64 (i:Int)))]) (λi=>[(2,b1,aB.zero.cells),(3,b2,[.int .i64 0,.int .i64 0,.int .i64 0,wv v,.int .i64 (if 0<i then -1 else 0),.int .i64 (if 1<i then -1 else 0),.int .i64 (if 2<i then -1 else 0),.int .i64 (if 3<i then -1 else 0),.int .i64 (if 4<i then -1 else 0),.int .i64 (-1)])])
  (λi h'=>i<=5/\Keeps [] h h'/\h3.size<=h'.size) (λi=>5-i) 0 ?_ ?_
 ·(conv=>whnf);exact ⟨0,rfl,rfl,rfl,Nat.zero_le _,((k1.trans k2).new1 k3 (by omega)),Nat.le_refl _⟩
 ·rintro i h4 ⟨hi,k4,z4⟩;(conv=>whnf);refine ak.i (λhc=>?_) (λhc=>?_)
  ·have hi5:i<5:=by simp at hc;omega
   (conv=>whnf);refine fC.i i rfl hi5 ?_;(conv=>whnf);refine dH.i (by show 4+i*1+1<=10;omega) ?_;(conv=>whnf);refine aN.i λh5 s5 k5=>?_;(conv=>whnf);refine ⟨5-(i+1),by omega,?_⟩;(conv=>whnf);refine ⟨i+1,rfl,by rw [wrapN (x:=(i:Int)+1) (n:=i+1) (by simp) (by omega)],?_,by omega,k4.new1 k5 (by omega),by omega⟩;have:i=0\/i=1\/i=2\/i=3\/i=4:=by omega
   rcases this with rfl|rfl|rfl|rfl|rfl <;> rfl
  ·have hi5:i=5:=by simp at hc;omega
   subst hi5;(conv=>whnf);refine aN.i λh5 s5 k5=>?_;(conv=>whnf);exact ⟨k4.new1 k5 (by omega),rfl⟩
theorem Eb (kind:Int)(v:UInt64)(h:Heap):aD Tryz.prog 141 [.int .i64 kind,wv v] h (λr h'=>Keeps [] h h'/\r=.tuple (if 1<=kind/\kind<=3 then #[.agg ⟨(bZ kind v).cells⟩,.int .i64 0] else #[.agg ⟨aB.zero.cells⟩,.int .i64 1])):=by
 refine aH aI Tryz.func141 rfl ok141 (by simp [Tryz.f141]) ?_;(conv=>whnf);refine aR.i λb1 h1 e1 s1 o1 k1=>?_;by_cases hk:1<=kind/\kind<=3
 ·rw [if_pos hk];have hk3:kind=1\/kind=2\/kind=3:=by omega
  rcases hk3 with rfl|rfl|rfl
  case' inl=>
   (conv=>whnf);(try refine aU.pass ?_;conv=>whnf);refine ak.t rfl ?_
  case' inr.inl=>
   (conv=>whnf);(try refine aU.pass ?_;conv=>whnf);refine ak.f rfl ?_;(conv=>whnf);(try refine aU.pass ?_;conv=>whnf);refine ak.t rfl ?_
  case' inr.inr=>
   (conv=>whnf);(try refine aU.pass ?_;conv=>whnf);refine ak.f rfl ?_;(conv=>whnf);(try refine aU.pass ?_;conv=>whnf);refine ak.f rfl ?_
  all_goals
   (conv=>whnf);(try refine aU.pass ?_;conv=>whnf);refine ak.t rfl ?_;(conv=>whnf);refine au.i (Ec v h1) λv2 h2 k2 hv=>?_;subst hv;(conv=>whnf);refine aR.i λb3 h3 e3 s3 o3 k3=>?_;(conv=>whnf);refine aN.i λh4 s4 k4=>?_;(conv=>whnf);refine aN.i λh5 s5 k5=>?_;(conv=>whnf);refine aN.i λh6 s6 k6=>?_;(conv=>whnf);refine aN.i λh7 s7 k7=>?_;(conv=>whnf);have z2:=k2.size;exact ⟨((((k1.trans (k2.trans k3)).new1 k4 (by omega)).new1 k5 (by omega)).new1 k6 (by omega)).new1 k7 (by omega),rfl⟩
 ·rw [if_neg hk];(conv=>whnf);(try refine aU.pass ?_;conv=>whnf);refine ak.f (by simp;omega) ?_;(conv=>whnf);(try refine aU.pass ?_;conv=>whnf);refine ak.f (by simp;omega) ?_;(conv=>whnf);(try refine aU.pass ?_;conv=>whnf);refine ak.f (by simp;omega) ?_;(conv=>whnf);refine aN.i λh2 s2 k2=>?_;(conv=>whnf);exact ⟨k1.new1 k2 (by omega),rfl⟩
theorem Jo (n:Int)(h:Heap):aD Tryz.prog 242 [.int .i64 n] h (λv h'=>Keeps [] h h'/\v=.bool (gW n)):=by
 refine aH aI Tryz.func242 rfl ok242 (by simp [Tryz.f242]) ?_;(conv=>whnf);refine ⟨Keeps.refl _ _,?_⟩
 congr 1
theorem Qw {h:Heap}{a:Option Addr}{n c:Nat}{xs:List Int}(S:Sl h a n c xs)(hn:n<=1000000000) :
 aD Tryz.prog 232 [.slice a n c,.func (.func 242) #[] #[]] h (λv h'=>Keeps [] h h'/\v=.int .i64 (kK gW xs 0)):=by
 have hl:=S.hlen;refine aH aI Tryz.func232 rfl ok232 (by simp [Tryz.f232]) ?_;(conv=>whnf);refine bP.on [0,1,7,8] [] (λi:Nat=>[(0,.v (.slice a n c)),(1,.v (.func (.func 242) #[] #[])),(7,.v (.int .i64 (n:Int))),(8,.v (.int .i64 (i:Int)))]) (λ_=>[])
  (λi h'=>i<=n/\Keeps [] h h'/\kK gW xs 0=kK gW (xs.drop i) i) (λi=>n-i) 0 ?_ ?_
 ·(conv=>whnf);exact ⟨0,rfl,rfl,rfl,Nat.zero_le _,Keeps.refl _ _,rfl⟩
 ·rintro i h2 ⟨hi,k2,hI⟩;(conv=>whnf);refine ak.i (λhc=>?_) (λhc=>?_)
  ·have hi1:i<xs.length:=by simp at hc;omega
   obtain ⟨b,off,hb,_,hcell⟩:=(S.keep k2).at1 i hi1;rw [List.drop_eq_getElem_cons hi1] at hI;simp only [kK] at hI;(conv=>whnf);refine aQ.i i rfl (by omega) hb ?_;(conv=>whnf);refine ax.i hcell ?_;(conv=>whnf);refine au.i (Jo xs[i] h2) λv h3 k3 hv=>?_;subst hv;(conv=>whnf);refine ak.i (λhd=>?_) (λhd=>?_)
   ·(conv=>whnf);rw [if_pos (by simpa using hd)] at hI;exact ⟨k2.trans k3,by rw [hI]⟩
   ·rw [if_neg (by simpa using hd)] at hI;(conv=>whnf);refine ⟨n-(i+1),by omega,?_⟩;(conv=>whnf);exact ⟨i+1,rfl,by rw [wrapN (n:=i+1) (by simp) (by omega)],rfl,by omega,k2.trans k3,hI⟩
  ·have hi1:i=xs.length:=by simp at hc;omega
   (conv=>whnf);refine ⟨k2,?_⟩;rw [hI,hi1,List.drop_length];rfl
theorem Qx {h:Heap}{a:Option Addr}{n c:Nat}{xs:List Int}(S:Sl h a n c xs)(hn:n<=1000000000) :
 aD Tryz.prog 179 [.slice a n c,.func (.func 242) #[] #[]] h (λv h'=>Keeps [] h h'/\v=.bool (xs.any gW)):=by
 refine aH aI Tryz.func179 rfl ok179 (by simp [Tryz.f179]) ?_;(conv=>whnf);refine au.i (Qw S hn) λv h1 k1 hv=>?_;subst hv;(conv=>whnf);refine ⟨k1,?_⟩;rw [<-DN gW xs 0]
theorem Qy (a b:aB):mg Tryz.prog 10000 65 (.agg ⟨[.int .i64 a.d0,.int .i64 a.d1,.int .i64 a.d2,.int .i64 a.d3,.int .i64 a.d4]⟩) (.agg ⟨[.int .i64 b.d0,.int .i64 b.d1,.int .i64 b.d2,.int .i64 b.d3,.int .i64 b.d4]⟩)=some (decide (a.direct=b.direct)):=by
 have h:mg Tryz.prog 10000 65 (.agg ⟨[.int .i64 a.d0,.int .i64 a.d1,.int .i64 a.d2,.int .i64 a.d3,.int .i64 a.d4]⟩) (.agg ⟨[.int .i64 b.d0,.int .i64 b.d1,.int .i64 b.d2,.int .i64 b.d3,.int .i64 b.d4]⟩)=some ((a.d0==b.d0)&&((a.d1==b.d1)&&((a.d2==b.d2)&&((a.d3==b.d3)&&((a.d4==b.d4)&&true))))):=rfl;rw [h]
 congr 1
 rw [Bool.eq_iff_iff];simp [aB.direct]
theorem Qt (c:aB)(h:Heap)(hc:c.ok):aD Tryz.prog 194 [.agg ⟨c.cells⟩] h (λv h'=>Keeps [] h h'/\v=.bool (gq c)):=by
 refine aH aI Tryz.func194 rfl ok194 (by simp [Tryz.f194]) ?_;(conv=>whnf);refine aR.i λb1 h1 e1 s1 o1 k1=>?_;(conv=>whnf);refine ax.o o1 rfl ?_;(conv=>whnf);(try refine aU.pass ?_;conv=>whnf);refine ak.i (λhd=>?_) (λhd=>?_)
 ·have h0:c.kind=0:=by simpa using hd
  (conv=>whnf);refine ax.o o1 rfl ?_;(conv=>whnf);refine au.i (Ec c.dR h1) λv h2 k2 hv=>?_;subst hv;(conv=>whnf);refine aR.i λb3 h3 e3 s3 o3 k3=>?_;(conv=>whnf);refine aN.i λh4 s4 k4=>?_;have k14:Keeps [] h1 h4:=(k2.trans k3).new1 k4 (by have:=k2.size;omega);(conv=>whnf);refine eY.o (k14.obj o1 (by simp)) rfl ?_;(conv=>whnf);refine gP.Ef (by kernel_rfl) (Qy c (fQ c.dR)) ?_;(conv=>whnf);refine eY.o (k14.obj o1 (by simp)) rfl ?_;(conv=>whnf);refine gP.Ef (by kernel_rfl) (Qz c (fQ c.dR)) ?_;(conv=>whnf);refine ⟨k1.trans k14,?_⟩;unfold gq;rw [if_pos h0,dB]
  congr 1
  by_cases e:c=fQ c.dR
  ·rw [decide_eq_true e,<-e];simp
  ·rw [decide_eq_false e];simp
 ·have h0:¬ c.kind=0:=by simpa using hd
  by_cases hk:1<=c.kind/\c.kind<=3
  ·have hk3:c.kind=1\/c.kind=2\/c.kind=3:=by omega
   have fin:∀ b:Bool,(b=true↔(0<=c.links/\c.links<=255/\0<=c.size/\c.size<=2688)/\gW c.more=false/\c.direct.any gW=false)->Value.bool b=Value.bool (gq c):=by
    intro b hb
    congr 1
    rw [Bool.eq_iff_iff,hb];unfold gq;rw [if_neg h0];have hd:(c.direct.any gW=false)↔c.direct.all lG=true:=by
     rw [List.any_eq_false,List.all_eq_true];refine ⟨λh x hx=>?_,λh x hx=>?_⟩
     ·have:=h x hx;simp [gW,lG] at this ⊢;omega
     ·have:=h x hx;simp [gW,lG] at this ⊢;omega
    rw [hd];simp [gW,lG]
    constructor
    ·rintro ⟨a1,a2,a3⟩;exact ⟨a3,by omega⟩
    ·rintro ⟨a1,a2⟩;exact ⟨by omega,by omega,a1⟩
   rcases hk3 with hk3|hk3|hk3
   case' inl=>
    (conv=>whnf);(try refine aU.pass ?_;conv=>whnf);refine ak.t (by rw [hk3];rfl) ?_
   case' inr.inl=>
    (conv=>whnf);(try refine aU.pass ?_;conv=>whnf);refine ak.f (by rw [hk3];rfl) ?_;(conv=>whnf);(try refine aU.pass ?_;conv=>whnf);refine ak.t (by rw [hk3];rfl) ?_
   case' inr.inr=>
    (conv=>whnf);(try refine aU.pass ?_;conv=>whnf);refine ak.f (by rw [hk3];rfl) ?_;(conv=>whnf);(try refine aU.pass ?_;conv=>whnf);refine ak.f (by rw [hk3];rfl) ?_
   all_goals
    (conv=>whnf);(try refine aU.pass ?_;conv=>whnf);refine ak.t (by first|rfl|(rw [hk3];rfl)) ?_;(conv=>whnf);refine ax.o o1 rfl ?_;(conv=>whnf);refine ax.o o1 rfl ?_;(conv=>whnf);refine ax.o o1 rfl ?_;(conv=>whnf);refine ax.o o1 rfl ?_;(conv=>whnf);refine ax.o o1 rfl ?_;have S5:∀ h',Keeps [] h1 h'->Sl h' (some ⟨b1,4,none⟩) 5 5 c.direct:=λh' kk=>⟨rfl,Nat.le_refl _,by simp [aB.direct],λi hi=>⟨b1,4,rfl,[.int .i64 c.direct[i]],⟨rfl,hc.2.2.2.1 _ (List.getElem_mem hi)⟩,λj hj=>by
     have hj0:j=0:=by simpa using hj
     subst hj0;have o14:=kk.obj o1 (by simp);simp only [Heap.cell?,o14];have hi':i<5:=hi;have:i=0\/i=1\/i=2\/i=3\/i=4:=by omega
     rcases this with rfl|rfl|rfl|rfl|rfl <;> rfl⟩⟩
    (conv=>whnf);refine ak.i (λg1=>?_) (λg1=>?_)
    ·(conv=>whnf);refine au.i (Jo c.more h1) λv h2 k2 hv=>?_;subst hv;(conv=>whnf);refine gP.i (v:=.slice (some ⟨b1,4,none⟩) 5 5) (λw=>rfl) ?_;(conv=>whnf);refine ak.i (λg2=>?_) (λg2=>?_)
     ·(conv=>whnf);refine au.i (Qx (S5 h2 k2) (by decide)) λv h3 k3 hv=>?_;subst hv;(conv=>whnf);refine ⟨k1.trans (k2.trans k3),fin _ ?_⟩;simp [dB] at g1 g2 ⊢
      constructor
      ·rintro ⟨⟨⟨⟨⟨a,b⟩,c⟩,d⟩,e⟩,f⟩;exact ⟨⟨a,b,c,d⟩,e,f⟩
      ·rintro ⟨⟨a,b,c,d⟩,e,f⟩;exact ⟨⟨⟨⟨⟨a,b⟩,c⟩,d⟩,e⟩,f⟩
     ·(conv=>whnf);refine ⟨k1.trans k2,fin _ ?_⟩;simp [dB] at g1 g2 ⊢;have:=g2 g1.1.1.1 g1.1.1.2 g1.1.2 g1.2;rw [this];simp
    ·(conv=>whnf);refine gP.i (v:=.slice (some ⟨b1,4,none⟩) 5 5) (λw=>rfl) ?_;(conv=>whnf);refine ak.i (λg2=>?_) (λg2=>?_)
     ·exfalso;simp [dB] at g1 g2;have:=g1 g2.1.1.1 g2.1.1.2 g2.1.2;omega
     ·(conv=>whnf);refine ⟨k1,fin _ ?_⟩;simp [dB] at g1 g2 ⊢
      constructor
      ·rintro ⟨⟨⟨a,b⟩,c⟩,d⟩;have:=g1 a b c;omega
      ·rintro ⟨⟨a,b,c,d⟩,_⟩;have:=g1 a b c;omega
  ·(conv=>whnf);(try refine aU.pass ?_;conv=>whnf);refine ak.f (by simp;omega) ?_;(conv=>whnf);(try refine aU.pass ?_;conv=>whnf);refine ak.f (by simp;omega) ?_;(conv=>whnf);(try refine aU.pass ?_;conv=>whnf);refine ak.f (by simp;omega) ?_;(conv=>whnf);refine ⟨k1,?_⟩;unfold gq;rw [if_neg h0];have:(decide (1<=c.kind)&&decide (c.kind<=3))=false:=by simp;omega
   rw [this];simp
set_option maxHeartbeats 4000000
def Qp (c:aB):Nat->UInt64
 | 0=>0
 | 1=>fK 0 0 8 (w64 c.kind)
 | 2=>fK (fK 0 0 8 (w64 c.kind)) 8 16 (w64 c.links)
 | _+3=>uf c
def Qq (c:aB):Nat->UInt64
 | 0=>0
 | 1=>0
 | 2=>0
 | 3=>0
 | 4=>fK 0 0 16 (w64 (c.d0+1))
 | 5=>fK (fK 0 0 16 (w64 (c.d0+1))) 16 16 (w64 (c.d1+1))
 | 6=>fK (fK (fK 0 0 16 (w64 (c.d0+1))) 16 16 (w64 (c.d1+1))) 32 16 (w64 (c.d2+1))
 | _+7=>xK c
def Qr (c:aB):Nat->UInt64
 | 0=>0
 | 1=>0
 | 2=>0
 | 3=>0
 | 4=>0
 | 5=>0
 | 6=>0
 | 7=>0
 | 8=>fK 0 0 16 (w64 (c.d4+1))
 | _+9=>xL c
def cWi (c:aB)(i:Nat):List UInt64:=[Qp c i,c.dR,Qq c i,Qr c i,0,0,0,0]
theorem Qs {c:aB}(B:rT c):∀ i (hi:i<(numsL c).length),0<=(numsL c)[i]/\(numsL c)[i]<65536/\(numsL c)[i]<2 ^ jC i:=by
 intro i hi;have h1:=B.k;have h2:=B.l;have h3:=B.s;have h4:=B.d0;have h5:=B.d1;have h6:=B.d2;have h7:=B.d3;have h8:=B.d4;have h9:=B.m;have hi':i<9:=hi;have:i=0\/i=1\/i=2\/i=3\/i=4\/i=5\/i=6\/i=7\/i=8:=by omega
 rcases this with rfl|rfl|rfl|rfl|rfl|rfl|rfl|rfl|rfl <;> simp [numsL,jC] <;> omega
theorem D7 (c:aB)(hc:c.ok)(h:Heap):aD Tryz.prog 122 [.agg ⟨c.cells⟩] h (λv h'=>Keeps [] h h' /\
 if gq c=true then ∃ b,v=.tuple #[.slice (some ⟨b,0,none⟩) 8 8,.int .i64 0]/\h.size<=b/\h'[b]?=some (.cells ⟨(fJ c).map wv⟩ 46 (0,0)) else v=.tuple #[.slice none 0 0,.int .i64 1]):=by
 refine aH aI Tryz.func122 rfl ok122 (by simp [Tryz.f122]) ?_;(conv=>whnf);refine aR.i λb1 h1 e1 s1 o1 k1=>?_;(conv=>whnf);refine au.i (Qt c h1 hc) λv h2 k2 hv=>?_;subst hv;cases hr:gq c with
 | false=>
  (conv=>whnf);refine ak.t rfl ?_;(conv=>whnf);exact ⟨k1.trans k2,rfl⟩
 | true=>
  have B:=vB hr;(conv=>whnf);refine ak.f rfl ?_;(conv=>whnf);refine aP.make (n:=8) rfl rfl rfl rfl rfl (by decide) (by decide) λb3 h3 e3 s3 o3 k3=>?_;have z2:=k2.size;(conv=>whnf);refine aQ.i 1 rfl (by decide) rfl ?_;(conv=>whnf);refine dO.i o3 (Nat.le_of_ble_eq_true rfl) (by simp [aA,bg];omega) λh4 s4 o4 k4=>?_;have k04:Keeps [] h h4:=(k1.trans (k2.trans k3)).new1 k4 (by omega);(conv=>whnf);refine au.i (Qu c B h4) λv h5 k5 hv=>?_;obtain ⟨b5,q5,rfl,S5,hb5⟩:=hv;have kN:h4[b3]?=some (.cells ⟨(cWi c 0).map wv⟩ 46 (0,0)):=o4;(conv=>whnf);refine bP.on [4,19,20,21] [] (λi:Nat=>[(4,.v (.slice (some ⟨b3,0,none⟩) 8 8)),(19,.v (.slice (some ⟨b5,0,none⟩) 9 q5)),(20,.v (.int .i64 9)),(21,.v (.int .i64 (i:Int)))]) (λ_=>[])
   (λi h'=>i<=9/\Keeps [b3] h4 h'/\h5.size<=h'.size/\Sl h' (some ⟨b5,0,none⟩) 9 q5 (numsL c)/\h'[b3]?=some (.cells ⟨(cWi c i).map wv⟩ 46 (0,0))) (λi=>9-i) 0 ?_ ?_
  ·(conv=>whnf);exact ⟨0,rfl,rfl,rfl,Nat.zero_le _,k5.mono (by simp),Nat.le_refl _,S5,k5.obj kN (by simp)⟩
  ·rintro i h6 ⟨hi,k6,z6,S6,o6⟩;(conv=>whnf);refine ak.i (λhd=>?_) (λhd=>?_)
   ·have hi9:i<9:=by simp at hd;omega
    obtain ⟨n0,n1,n2⟩:=Qs B i hi9;obtain ⟨b,off,hb',_,hcell⟩:=S6.at1 i hi9;(conv=>whnf);refine aQ.i i rfl hi9 hb' ?_;(conv=>whnf);refine ax.i hcell ?_;(conv=>whnf);refine au.i (Jm h6) λv h7 k7 hv=>?_;obtain ⟨bf,cf,fz,sp,rfl,hcf,hbf,o7⟩:=hv;(conv=>whnf);refine aQ.i i rfl hi9 rfl ?_;have xM:=k7.obj o6 (by simp);have Ed:ow 3 (oz (0+i*3) (pQ 9++sp))=some (tZ i):=by
     have:i=0\/i=1\/i=2\/i=3\/i=4\/i=5\/i=6\/i=7\/i=8:=by omega
     rcases this with rfl|rfl|rfl|rfl|rfl|rfl|rfl|rfl|rfl <;> rfl
    (conv=>whnf);refine eY.o (vs:=tZ i) o7 Ed ?_;(conv=>whnf);refine aR.i λb8 h8 e8 s8 o8 k8=>?_;(conv=>whnf);refine aN.i λh9 s9 k9=>?_;have k79:Keeps [] h7 h9:=k8.new1 k9 (by omega);have hA:iG i<8:=by
     unfold iG;split <;> omega
    have hF:lH (mP i) (jC i):=by
     have:i=0\/i=1\/i=2\/i=3\/i=4\/i=5\/i=6\/i=7\/i=8:=by omega
     rcases this with rfl|rfl|rfl|rfl|rfl|rfl|rfl|rfl|rfl <;> (unfold lH;decide)
    have hcl:(cWi c i).length=8:=rfl;(conv=>whnf);refine aQ.i (iG i) rfl hA rfl ?_;(conv=>whnf);refine ax.o (v:=wv ((cWi c i)[iG i]'(by omega))) (k79.obj xM (by simp)) ?_ ?_
    ·rw [mI];show ((cWi c i).map wv)[0+iG i*1]?=_;rw [show 0+iG i*1=iG i by omega];simp [hA,hcl]
    (conv=>whnf);rw [<-Au];have hws:(w64 (numsL c)[i]).toNat<65536/\(w64 (numsL c)[i]).toNat<2 ^ jC i:=by
     rw [jD n0 (by omega)];have h2:(((numsL c)[i].toNat:Nat):Int)<((2 ^ jC i:Nat):Int):=by
      rw [Int.toNat_of_nonneg n0]
      exact_mod_cast n2
     omega
    refine au.i (Qv _ (mP i) (jC i) hF _ hws.2 hws.1 h9) λv h10 k10 hv=>?_;subst hv;(conv=>whnf);refine ak.f rfl ?_;have hnew:(cWi c i).set (iG i) (fK ((cWi c i)[iG i]'(by omega)) (mP i) (jC i) (w64 (numsL c)[i]))=cWi c (i+1):=by
     have:i=0\/i=1\/i=2\/i=3\/i=4\/i=5\/i=6\/i=7\/i=8:=by omega
     rcases this with rfl|rfl|rfl|rfl|rfl|rfl|rfl|rfl|rfl <;> rfl
    (conv=>whnf);refine aQ.i (iG i) rfl hA rfl ?_;have k610:Keeps [] h6 h10:=k7.trans (k79.trans k10);(conv=>whnf);refine dO.i (k610.obj o6 (by simp)) ?_ ?_ λh11 s11 o11 k11=>?_
    ·show 0+iG i*1+1<=_;simp [hcl];omega
    ·have:=eZ o6;have:=k7.size;simp [aA,bg];omega
    (conv=>whnf);refine ⟨9-(i+1),by omega,?_⟩;(conv=>whnf);refine ⟨i+1,rfl,by rw [wrapN (x:=(i:Int)+1) (n:=i+1) (by simp) (by omega)],rfl,by omega,(k6.trans (k610.mono (by simp))).trans k11,by have:=k610.size;omega,(S6.keep k610).je k11 (λx hx hm=>?_),?_⟩
    ·simp [ay] at hx hm;omega
    ·have e5:bC (0+iG i*1) [wv (fK ((cWi c i)[iG i]'(by omega)) (mP i) (jC i) (w64 (numsL c)[i]))] ((cWi c i).map wv)=(cWi c (i+1)).map wv:=by
      rw [show 0+iG i*1=iG i by omega,vC _ _ _ (by simp [hcl];omega),<-hnew,List.map_set]
     rw [<-e5];exact o11
   ·have hi9:i=9:=by simp at hd;omega
    subst hi9;(conv=>whnf);exact ⟨k04.dL k6 (by
     intro x hx;have:x=b3:=by simpa using hx
     omega),b3,rfl,by omega,o6⟩
theorem Qn {h:Heap}{a b:Option Addr}{n c m d:Nat}{x y:List UInt64}(S:Sl h a n c x)(T:Sl h b m d y)(hn:n<=1000):aD Tryz.prog 123 [.slice a n c,.slice b m d] h (λv h'=>Keeps [] h h'/\v=.bool (decide (x=y))):=by
 have hl:=S.hlen;have hm:=T.hlen;refine aH aI Tryz.func123 rfl ok123 (by simp [Tryz.f123]) ?_;(conv=>whnf);refine ak.i (λhc=>?_) (λhc=>?_)
 ·(conv=>whnf);have:¬ x=y:=by
   rintro rfl;simp at hc;omega
  rw [decide_eq_false this];exact ⟨Keeps.refl _ _,rfl⟩
 ·have hnm:n=m:=by simp at hc;omega
  (conv=>whnf);refine bP.on [0,1,12,13] [] (λi:Nat=>[(0,.v (.slice a n c)),(1,.v (.slice b m d)),(12,.v (.int .i64 (n:Int))),(13,.v (.int .i64 (i:Int)))]) (λ_=>[])
   (λi h'=>i<=n/\Keeps [] h h'/\x.take i=y.take i) (λi=>n-i) 0 ?_ ?_
  ·(conv=>whnf);exact ⟨0,rfl,rfl,rfl,Nat.zero_le _,Keeps.refl _ _,rfl⟩
  ·rintro i h2 ⟨hi,k2,he⟩;(conv=>whnf);refine ak.i (λhd=>?_) (λhd=>?_)
   ·have hi1:i<x.length:=by simp at hd;omega
    have hi2:i<y.length:=by omega
    obtain ⟨b1,off1,hb1,_,hc1⟩:=(S.keep k2).at1 i hi1;obtain ⟨b2,off2,hb2,_,hc2⟩:=(T.keep k2).at1 i hi2;(conv=>whnf);refine aQ.i i rfl (by omega) hb1 ?_;(conv=>whnf);refine ax.i hc1 ?_;(conv=>whnf);refine aQ.i i rfl (by omega) hb2 ?_;(conv=>whnf);refine ax.i hc2 ?_;(conv=>whnf);refine ak.i (λhq=>?_) (λhq=>?_)
    ·(conv=>whnf);have:¬ x=y:=by
      rintro rfl;simp at hq
     rw [decide_eq_false this];exact ⟨k2,rfl⟩
    ·have hxy:x[i]=y[i]:=by
      have:((x[i].toNat:Nat):Int)=((y[i].toNat:Nat):Int):=by simpa using hq
      exact UInt64.toNat_inj.1 (by omega)
     (conv=>whnf);refine ⟨n-(i+1),by omega,?_⟩;(conv=>whnf);refine ⟨i+1,rfl,by rw [wrapN (x:=(i:Int)+1) (n:=i+1) (by simp) (by omega)],rfl,by omega,k2,?_⟩;rw [List.take_succ_eq_append_getElem hi1,List.take_succ_eq_append_getElem hi2,he,hxy]
   ·have hi1:i=n:=by simp at hd;omega
    (conv=>whnf);refine ⟨k2,?_⟩;have e1:x.take i=x:=by rw [hi1,hl];exact List.take_length
    have e2:y.take i=y:=by rw [hi1,hnm,hm];exact List.take_length
    rw [e1,e2] at he;rw [decide_eq_true he]
def gH (ws:List UInt64)(i:Nat):Int:=l9 ws (iG i) (mP i) (jC i)
def lI (ws:List UInt64)(i:Nat):List Int:=(List.range i).map (gH ws)
theorem Qj {h:Heap}{a:Option Addr}{cp:Nat}{ws:List UInt64}(S:Sl h a 8 cp ws):aD Tryz.prog 72 [.slice a 8 cp] h (λv h'=>Keeps [] h h' /\
 v=match gU ws with|some c=>.tuple #[.agg ⟨c.cells⟩,.int .i64 0]|none=>.tuple #[.agg ⟨aB.zero.cells⟩,.int .i64 15]):=by
 have hl:=S.hlen;refine aH aI Tryz.func72 rfl ok72 (by simp [Tryz.f72]) ?_;(conv=>whnf);refine aR.i λb1 h1 e1 s1 o1 k1=>?_;(conv=>whnf);refine ak.f rfl ?_;(conv=>whnf);refine au.i (Jm h1) λv h2 k2 hv=>?_;obtain ⟨bf,cf,fz,sp,rfl,hcf,hbf,o2⟩:=hv;(conv=>whnf);refine bP.on [0,2,4,17,18,19] [2] (λq:Nat×Option Addr×Nat=>[(0,.v (.slice a 8 cp)),(2,.lp 2 0),(4,.v (.slice q.2.1 q.1 q.2.2)),(17,.v (.slice (some ⟨bf,0,none⟩) 9 cf)),(18,.v (.int .i64 9)),(19,.v (.int .i64 (q.1:Int)))]) (λ_=>[(2,b1,aB.zero.cells)])
  (λq h'=>q.1<=9/\Keeps [] h1 h'/\h2.size<=h'.size/\Own h' 3 1 q.2.1 q.1 q.2.2 ((lI ws q.1).map λx=>.int .i64 x)/\(∀ b∈ay q.2.1,h2.size<=b)/\h'[bf]?=some (.cells ⟨pQ 9++sp⟩ 189 fz)) (λq=>9-q.1) (0,none,0) ?_ ?_
 ·(conv=>whnf);exact ⟨(0,none,0),rfl,rfl,rfl,Nat.zero_le _,k2,Nat.le_refl _,.inl ⟨rfl,rfl,rfl,rfl⟩,by simp [ay],o2⟩
 ·rintro ⟨i,a4,c4⟩ h3 ⟨hi,k3,z3,O3,n3,o3⟩;simp only at hi O3 n3;(conv=>whnf);refine ak.i (λhd=>?_) (λhd=>?_)
  ·have hi9:i<9:=by simp at hd;omega
   (conv=>whnf);refine aQ.i i rfl hi9 rfl ?_;have Ed:ow 3 (oz (0+i*3) (pQ 9++sp))=some (tZ i):=by
    have:i=0\/i=1\/i=2\/i=3\/i=4\/i=5\/i=6\/i=7\/i=8:=by omega
    rcases this with rfl|rfl|rfl|rfl|rfl|rfl|rfl|rfl|rfl <;> rfl
   (conv=>whnf);refine eY.o (vs:=tZ i) o3 Ed ?_;(conv=>whnf);refine aR.i λb8 h8 e8 s8 o8 k8=>?_;(conv=>whnf);refine aN.i λh9 s9 k9=>?_;have k39:Keeps [] h3 h9:=k8.new1 k9 (by omega);have hA:iG i<8:=by
    unfold iG;split <;> omega
   have hF:lH (mP i) (jC i):=by
    have:i=0\/i=1\/i=2\/i=3\/i=4\/i=5\/i=6\/i=7\/i=8:=by omega
    rcases this with rfl|rfl|rfl|rfl|rfl|rfl|rfl|rfl|rfl <;> (unfold lH;decide)
   obtain ⟨b,off,hb',_,hcell⟩:=(S.keep (k1.trans (k3.trans k39))).at1 (iG i) (by omega);(conv=>whnf);refine aQ.i (iG i) rfl hA hb' ?_;(conv=>whnf);refine ax.i hcell ?_;(conv=>whnf);refine au.i (Jl _ (mP i) (jC i) hF h9) λv h10 k10 hv=>?_;subst hv;(conv=>whnf);refine aR.i λb11 h11 e11 s11 o11 k11=>?_;have hg:(lF (ws[iG i]'(by omega)) (mP i) (jC i)).toNat<4294967296:=by
    unfold lH at hF;rw [Ee _ (by omega) (by omega)];have h1:=Nat.mod_lt ((ws[iG i]'(by omega)).toNat/2 ^ mP i) (Nat.two_pow_pos (jC i));have h2:2 ^ jC i<=2 ^ 32:=Nat.pow_le_pow_right (by decide) hF.2.2.1;omega
   have hval:IntKind.i64.wrap ((lF (ws[iG i]'(by omega)) (mP i) (jC i)).toNat:Int)=gH ws i:=by
    rw [dQ (by omega) (by omega)];unfold gH l9;rw [List.getElem?_eq_getElem (by omega)];rfl
   have BO:h11[b11]?=some (.cells ⟨[.int .i64 (gH ws i)]⟩ 3 (0,0)):=by
    rw [<-hval];exact o11
   have kk:Keeps [] h3 h11:=k39.trans (k10.trans k11);have hgl:(lI ws i).length=i:=by simp [lI]
   (conv=>whnf);refine Qo (O3.keep kk (by simp)) hgl.symm (by omega) BO (λb hb hx=>?_) λa12 c12 h12 O12 k12 n12=>?_
   ·have hx2:b=b1\/b=b8:=by simpa [aA,bg] using hx
    have:=n3 b hb;have:=O3.lt b hb;have:=k2.size;omega
   (conv=>whnf);refine ⟨9-(i+1),by omega,?_⟩;(conv=>whnf);have hz:=kk.size;refine ⟨(i+1,a12,c12),rfl,?_,rfl,by simp only;omega,(k3.trans kk).dL k12 (λx hx=>by have:=n3 x hx;have:=k2.size;omega),by have:=k12.size;omega,?_,λb hb=>?_,(kk.obj o3 (by simp)) |> λo=>k12.obj o (λhb=>by have:=n3 bf hb;have:=eZ o2;omega)⟩
   ·simp only;rw [wrapN (x:=(i:Int)+1) (n:=i+1) (by simp) (by omega)]
   ·have:lI ws (i+1)=lI ws i++[gH ws i]:=by simp [lI,List.range_succ]
    simp only [this];exact O12
   ·rcases n12 b hb with h|h
    ·exact n3 b h
    ·omega
  ·have hi9:i=9:=by simp at hd;omega
   subst hi9;have hG:∀ x∈lI ws 9,0<=x/\x<4294967296:=by
    intro x hx;obtain ⟨i,hi,rfl⟩:=List.mem_map.1 hx;have hi:i<9:=by simpa using hi
    unfold gH l9;have hF:lH (mP i) (jC i):=by
     have:i=0\/i=1\/i=2\/i=3\/i=4\/i=5\/i=6\/i=7\/i=8:=by omega
     rcases this with rfl|rfl|rfl|rfl|rfl|rfl|rfl|rfl|rfl <;> (unfold lH;decide)
    unfold lH at hF;rw [Ee _ (by omega) (by omega)];have h1:=Nat.mod_lt ((ws[iG i]?.getD 0).toNat/2 ^ mP i) (Nat.two_pow_pos (jC i));have h2:2 ^ jC i<=2 ^ 32:=Nat.pow_le_pow_right (by decide) hF.2.2.1;omega
   have S9:Sl h3 a4 9 c4 (lI ws 9):=O3.sl (α:=Int) (Cm _ _ (λx hx=>by have:=hG x hx;unfold inI64;omega)) rfl (by decide) (by simp [lI]);have g9:(lI ws 9).length=9:=by simp [lI]
   obtain ⟨p0,q0,hp0,_,hc0⟩:=S9.at1 0 (by omega);obtain ⟨p1,q1,hp1,_,hc1⟩:=S9.at1 1 (by omega);obtain ⟨p2,q2,hp2,_,hc2⟩:=S9.at1 2 (by omega);obtain ⟨p8,q8,hp8,_,hc8⟩:=S9.at1 8 (by omega);obtain ⟨pw,qw,hpw,_,hcw⟩:=(S.keep (k1.trans k3)).at1 1 (by omega);(conv=>whnf);refine aQ.i 0 rfl (show (0:Nat)<9 by decide) hp0 ?_;(conv=>whnf);refine ax.i hc0 ?_;(conv=>whnf);refine aQ.i 1 rfl (show (1:Nat)<9 by decide) hp1 ?_;(conv=>whnf);refine ax.i hc1 ?_;(conv=>whnf);refine aQ.i 2 rfl (show (2:Nat)<9 by decide) hp2 ?_;(conv=>whnf);refine ax.i hc2 ?_;(conv=>whnf);refine aQ.i 1 rfl (by decide) hpw ?_;(conv=>whnf);refine ax.i hcw ?_;(conv=>whnf);refine aQ.i 8 rfl (show (8:Nat)<9 by decide) hp8 ?_;(conv=>whnf);refine ax.i hc8 ?_;(conv=>whnf);refine aR.i λb10 h10 e10 s10 o10 k10=>?_;(conv=>whnf);refine aN.i λh11 s11 k11=>?_;have k311:Keeps [] h3 h11:=k10.new1 k11 (by omega);have hgn:∀ i (hi:i<9),(lI ws 9)[i]'(by omega)=gH ws i:=λi hi=>by simp [lI]
   have hgb:∀ i,i<9->0<=gH ws i/\gH ws i<4294967296:=λi hi=>hG _ (by rw [<-hgn i hi];exact List.getElem_mem _);have hv1:ws[1]'(by omega)=ws[1]?.getD 0:=by rw [List.getElem?_eq_getElem (by omega)];rfl
   have hm8:IntKind.i64.wrap (gH ws 8-1)=gH ws 8-1:=by
    have:=hgb 8 (by decide);exact dQ (by omega) (by omega)
   (conv=>whnf);refine bP.on [0,2,4,9,62] [2,9] (λi:Nat=>[(0,.v (.slice a 8 cp)),(2,.lp 2 0),(4,.v (.slice a4 9 c4)),(9,.lp 9 0),(62,.v (.int .i64 (i:Int)))]) (λi=>[(2,b1,aB.zero.cells),(9,b10,[.int .i64 (gH ws 0),.int .i64 (gH ws 1),.int .i64 (gH ws 2),wv (ws[1]?.getD 0),.int .i64 (if 0<i then gH ws 3-1 else 0),.int .i64 (if 1<i then gH ws 4-1 else 0),.int .i64 (if 2<i then gH ws 5-1 else 0),.int .i64 (if 3<i then gH ws 6-1 else 0),.int .i64 (if 4<i then gH ws 7-1 else 0),.int .i64 (gH ws 8-1)])])
    (λi h'=>i<=5/\Keeps [] h3 h'/\h11.size<=h'.size) (λi=>5-i) 0 ?_ ?_
   ·(conv=>whnf);refine ⟨0,rfl,rfl,?_,Nat.zero_le _,k311,Nat.le_refl _⟩;rw [<-hm8,<-hv1,<-hgn 0 (by decide),<-hgn 1 (by decide),<-hgn 2 (by decide),<-hgn 8 (by decide)];rfl
   ·rintro i h12 ⟨hi,k12,z12⟩;(conv=>whnf);refine ak.i (λhd=>?_) (λhd=>?_)
    ·have hi5:i<5:=by simp at hd;omega
     obtain ⟨p,q,hp,_,hc⟩:=(S9.keep k12).at1 (3+i) (by omega);have ei:IntKind.i64.wrap (3+(i:Int))=((3+i:Nat):Int):=wrapN (by omega) (by omega);(conv=>whnf);refine aQ.i (3+i) ei (show 3+i<9 by omega) hp ?_;(conv=>whnf);refine ax.i hc ?_;(conv=>whnf);refine fC.i i rfl hi5 ?_;(conv=>whnf);refine dH.i (by show 4+i*1+1<=10;omega) ?_;(conv=>whnf);refine aN.i λh13 s13 k13=>?_;(conv=>whnf);refine ⟨5-(i+1),by omega,?_⟩;(conv=>whnf);refine ⟨i+1,rfl,by rw [wrapN (x:=(i:Int)+1) (n:=i+1) (by simp) (by omega)],?_,by omega,k12.new1 k13 (by omega),by omega⟩;have hw:IntKind.i64.wrap ((lI ws 9)[3+i]'(by omega)-1)=gH ws (3+i)-1:=by
      rw [hgn (3+i) (by omega)];have:=hgb (3+i) (by omega);exact dQ (by omega) (by omega)
     refine congrArg (λx=>[(2,b1,aB.zero.cells),(9,b10,x)]) ?_;show bC (4+i*1) [.int .i64 (IntKind.i64.wrap ((lI ws 9)[3+i]'(by omega)-1))] _=_;rw [hw];have:i=0\/i=1\/i=2\/i=3\/i=4:=by omega
     rcases this with rfl|rfl|rfl|rfl|rfl <;> rfl
    ·have hi5:i=5:=by simp at hd;omega
     subst hi5;have gb0:=hgb 0 (by decide);have gb1:=hgb 1 (by decide);have gb2:=hgb 2 (by decide);have gb3:=hgb 3 (by decide);have gb4:=hgb 4 (by decide);have gb5:=hgb 5 (by decide);have gb6:=hgb 6 (by decide);have gb7:=hgb 7 (by decide);have gb8:=hgb 8 (by decide);have hok:(mQ ws).ok:=by
      refine ⟨?_,?_,?_,λx hx=>?_,?_⟩
      ·show inI64 (gH ws 0);unfold inI64;omega
      ·show inI64 (gH ws 1);unfold inI64;omega
      ·show inI64 (gH ws 2);unfold inI64;omega
      ·have hx:x∈[gH ws 3-1,gH ws 4-1,gH ws 5-1,gH ws 6-1,gH ws 7-1]:=hx;simp only [List.mem_cons,List.not_mem_nil,or_false] at hx;unfold inI64;omega
      ·show inI64 (gH ws 8-1);unfold inI64;omega
     (conv=>whnf);refine au.i (D7 (mQ ws) hok h12) λv h13 k13 hv=>?_;have kk:=k1.trans (k3.trans (k12.trans k13));by_cases hr:gq (mQ ws)=true
     ·rw [if_pos hr] at hv;obtain ⟨b14,rfl,hb14,o14⟩:=hv;have S14:Sl h13 (some ⟨b14,0,none⟩) 8 8 (fJ (mQ ws)):=Sl.l7 o14 (by simp [One.ok]) rfl (by show 8<=281474976710656;decide);(conv=>whnf);refine ak.t rfl ?_;(conv=>whnf);refine au.i (Qn S14 (S.keep kk) (by decide)) λv h15 k15 hv=>?_;subst hv;by_cases he:fJ (mQ ws)=ws
      ·have hR:gU ws=some (mQ ws):=by
        unfold gU;rw [if_pos ⟨hl.symm,hr,he⟩]
       rw [hR,decide_eq_true he];(conv=>whnf);refine ak.f rfl ?_;(conv=>whnf);refine aN.i λh16 s16 k16=>?_;(conv=>whnf);exact ⟨(kk.trans k15).new1 k16 (by omega),rfl⟩
      ·have hR:gU ws=none:=by
        unfold gU;rw [if_neg (λx=>he x.2.2)]
       rw [hR,decide_eq_false he];(conv=>whnf);refine ak.t rfl ?_;(conv=>whnf);refine aN.i λh16 s16 k16=>?_;(conv=>whnf);exact ⟨(kk.trans k15).new1 k16 (by omega),rfl⟩
     ·rw [if_neg hr] at hv;subst hv;have hR:gU ws=none:=by
       unfold gU;rw [if_neg (λx=>hr x.2.1)]
      rw [hR];(conv=>whnf);refine ak.f rfl ?_;(conv=>whnf);refine ak.t rfl ?_;(conv=>whnf);refine aN.i λh16 s16 k16=>?_;(conv=>whnf);exact ⟨kk.new1 k16 (by omega),rfl⟩
def eP (X:VS)(n:Int):VS:={ X with seen:=lg X.seen n }
def dX (X:VS)(n:Int)(c:aB):VS:={ X with now:=setW X.now n c,seen:=lg X.seen n,mine:=lg X.mine n }
theorem At.see {h h':Heap}{V:VL}{M:aV}{X:VS}(A:At h V M X){s:List Int}(k:Keeps [V.sb] h h')(m:dF h' V.sb (kH s))(hs:∀ x∈s,0<=x/\x<24):At h' V M { X with seen:=s }:=by
 have a1:=A.ap1;have ne:=A.D5;refine ⟨A.mem.keep k (λb hb hx=>?_),k.obj A.obj (by simp;exact ne.2.1),?_,m,A.mine.keep k (by simp;exact λe=>a1.2.2 e.symm),A.away.keep k (λb hb=>?_),A.bE.keep k (λb hb=>?_),A.ap1,A.ap2,A.ap3,λx hx=>by
  rcases List.mem_append.1 hx with h|h
  ·exact hs x h
  ·exact A.bG x (List.mem_append_right _ h)⟩
 ·have e:b=V.sb:=by simpa using hx
  exact A.ap2 V.sb (by simp) (e ▸ hb)
 ·obtain ⟨own,q1,q2⟩:=A.own;exact ⟨own,q1.keep k (by simp;exact a1.1),q2⟩
 ·have:=A.ap3 b (by simp at hb ⊢;exact .inl hb);simp;exact this.2.1
 ·have:=A.ap3 b (by simp at hb ⊢;exact .inr hb);simp;exact this.2.1
theorem At.min_ {h h':Heap}{V:VL}{M:aV}{X:VS}(A:At h V M X){s:List Int}(k:Keeps [V.mb] h h')(m:dF h' V.mb (kH s))(hs:∀ x∈s,0<=x/\x<24):At h' V M { X with mine:=s }:=by
 have a1:=A.ap1;have ne:=A.D5;refine ⟨A.mem.keep k (λb hb hx=>?_),k.obj A.obj (by simp;exact ne.2.2),?_,A.seen.keep k (by simp;exact a1.2.2),m,A.away.keep k (λb hb=>?_),A.bE.keep k (λb hb=>?_),A.ap1,A.ap2,A.ap3,λx hx=>by
  rcases List.mem_append.1 hx with h|h
  ·exact A.bG x (List.mem_append_left _ h)
  ·exact hs x h⟩
 ·have e:b=V.mb:=by simpa using hx
  exact A.ap2 V.mb (by simp) (e ▸ hb)
 ·obtain ⟨own,q1,q2⟩:=A.own;exact ⟨own,q1.keep k (by simp;exact a1.2.1),q2⟩
 ·have:=A.ap3 b (by simp at hb ⊢;exact .inl hb);simp;exact this.2.2.1
 ·have:=A.ap3 b (by simp at hb ⊢;exact .inr hb);simp;exact this.2.2.1
theorem At.Jh {h:Heap}{V:VL}{M:aV}{X:VS}(A:At h V M X){n:Int}(hn:0<=n/\n<24):∀ x∈lg X.seen n,0<=x/\x<24:=λx hx=>by
 rcases mH.1 hx with h|rfl
 ·exact A.bG x (List.mem_append_left _ h)
 ·exact hn
theorem At.Qi {h:Heap}{V:VL}{M:aV}{X:VS}(A:At h V M X){n:Int}(hn:0<=n/\n<24):∀ x∈lg X.mine n,0<=x/\x<24:=λx hx=>by
 rcases mH.1 hx with h|rfl
 ·exact A.bG x (List.mem_append_right _ h)
 ·exact hn
def qb (o:Option aB):Value:=match o with|some c=>.tuple #[.agg ⟨c.cells⟩,.int .i64 0]|none=>.tuple #[.agg ⟨aB.zero.cells⟩,.int .i64 15]
theorem sN {h:Heap}{V:VL}{M:aV}{X:VS}(A:At h V M X)(n:Int):aD Tryz.prog 26 [.pointer (some ⟨V.v,0,none⟩),.int .i64 n] h (λv h'=>Keeps [V.sb] h h' /\
 (if 0<=n/\n<24 then v=qb (gU (bU X.now (8+n*8) 8))/\At h' V M (eP X n) else v=.tuple #[.agg ⟨aB.zero.cells⟩,.int .i64 1]/\At h' V M X)):=by
 have bl:=A.blt;refine aH aI Tryz.func26 rfl ok26 (by simp [Tryz.f26]) ?_;(conv=>whnf);refine aR.i λb1 h1 e1 s1 o1 k1=>?_;(conv=>whnf);refine au.i (sS n h1) λv h2 k2 hv=>?_;subst hv;have A2:=A.on (k1.trans k2);by_cases hn:0<=n/\n<24
 ·rw [if_pos hn,if_pos hn];(conv=>whnf);refine ak.f rfl ?_;(conv=>whnf);refine ax.o A2.obj rfl ?_;(conv=>whnf);refine aP.put rfl rfl A2.seen (by simp [aA,bg];have:=bl V.sb (by simp [VL.blocks]);omega) λh3 s3 M3 k3=>?_;have A3:=A2.see k3 (by rw [<-zG];exact M3) (A2.Jh hn);(conv=>whnf);refine au.i (Jb A3 (8+n*8) 8 (by omega) (by decide)) λv h4 k4 hv=>?_;obtain ⟨b4,rfl,q1,q2,o4⟩:=hv;have S4:Sl h4 (some ⟨b4,0,none⟩) 8 8 (bU X.now (8+n*8) 8):=Sl.l7 o4 (by simp [One.ok]) (by simp [bU]) (by simp [bU]);(conv=>whnf);refine au.i (Qj S4) λv h5 k5 hv=>?_;have kk:Keeps [V.sb] h h5:=(((k1.trans k2).mono (by simp)).trans k3).cu (k4.trans k5);have A5:=A3.on (k4.trans k5);have hb1:∀ b∈V.blocks,b≠b1:=λb hb=>by have:=bl b hb;omega
  cases hc:gU (bU X.now (8+n*8) 8) with
  | some c=>
   rw [hc] at hv;subst hv;(conv=>whnf);refine aN.i λh6 s6 k6=>?_;(conv=>whnf);refine ⟨kk.m1 k6 (by omega),?_⟩;rw [if_pos hn];exact ⟨rfl,A5.keep k6 (λb hb=>by simp;exact hb1 b hb)⟩
  | none=>
   rw [hc] at hv;subst hv;(conv=>whnf);refine aN.i λh6 s6 k6=>?_;(conv=>whnf);refine ⟨kk.m1 k6 (by omega),?_⟩;rw [if_pos hn];exact ⟨rfl,A5.keep k6 (λb hb=>by simp;exact hb1 b hb)⟩
 ·rw [if_neg hn,if_neg hn];(conv=>whnf);refine ak.t rfl ?_;(conv=>whnf);refine aN.i λh3 s3 k3=>?_;(conv=>whnf);have hb1:∀ b∈V.blocks,b≠b1:=λb hb=>by have:=bl b hb;omega
  refine ⟨((k1.trans k2).mono (by simp)).m1 k3 (by omega),?_⟩;rw [if_neg hn];exact ⟨rfl,A2.keep k3 (λb hb=>by simp;exact hb1 b hb)⟩
theorem zD {h:Heap}{V:VL}{M:aV}{X:VS}(A:At h V M X)(n:Int)(hn:0<=n/\n<24)(c:aB)(hc:c.ok)(hr:gq c=true):aD Tryz.prog 138 [.pointer (some ⟨V.v,0,none⟩),.int .i64 n,.agg ⟨c.cells⟩] h (λv h'=>Keeps [V.ob,V.sb,V.mb] h h'/\v=.int .i64 0/\At h' V M (dX X n c)):=by
 have bl:=A.blt;refine aH aI Tryz.func138 rfl ok138 (by simp [Tryz.f138]) ?_;(conv=>whnf);refine aR.i λb1 h1 e1 s1 o1 k1=>?_;(conv=>whnf);refine au.i (sS n h1) λv h2 k2 hv=>?_;subst hv;rw [if_pos hn,if_pos hn];(conv=>whnf);refine au.i (D7 c hc h2) λv h3 k3 hv=>?_;rw [if_pos hr] at hv;obtain ⟨b3,rfl,hb3,o3⟩:=hv;have A3:=A.on (k1.trans (k2.trans k3));(conv=>whnf);refine ak.f rfl ?_;(conv=>whnf);refine ax.o A3.obj rfl ?_;(conv=>whnf);refine ax.o A3.obj rfl ?_;have z1:=k1.size;have z2:=k2.size;have z3:=k3.size;have nb1:∀ b∈V.blocks,b≠b1:=λb hb=>by have:=bl b hb;omega
 have msb:V.sb∈V.blocks:=by simp [VL.blocks]
 have om:V.mb∈V.blocks:=by simp [VL.blocks]
 have a1:=A.ap1;(conv=>whnf);refine aP.Ji rfl rfl rfl rfl A3.seen (by simp [aA,bg];exact nb1 _ msb) λh4 v4 born4 s4 Q4 k4=>?_;(conv=>whnf);refine aP.Jj Q4 (by simp [aA,bg];exact nb1 _ msb) λh5 s5 M5 k5=>?_;rw [zG] at M5;have A5:=A3.see (k4.trans k5) M5 (A3.Jh hn);(conv=>whnf);refine aP.Ji rfl rfl rfl rfl A5.mine (by simp [aA,bg];exact nb1 _ om) λh6 v6 born6 s6 Q6 k6=>?_;(conv=>whnf);refine aP.Jj Q6 (by simp [aA,bg];exact nb1 _ om) λh7 s7 M7 k7=>?_;rw [zG] at M7;have A7:=A5.min_ (k6.trans k7) M7 (A5.Qi hn);have nb3:∀ b∈V.blocks,b≠b3:=λb hb=>by have:=bl b hb;omega
 have o7:=(k6.trans k7).obj ((k4.trans k5).obj o3 (by simp;exact λe=>nb3 _ msb e.symm)) (by simp;exact λe=>nb3 _ om e.symm);have S7:Sl h7 (some ⟨b3,0,none⟩) 8 8 (fJ c):=Sl.l7 o7 (by simp [One.ok]) rfl (by show 8<=281474976710656;decide);(conv=>whnf);refine au.m (Jc A7 (8+n*8) S7 (by omega) (by decide) (λi hi=>by simp [l8];omega) (by simp [ay];exact nb3 V.ob (by simp [VL.blocks]))) (λy hy hx=>by
  have hy2:y=b1:=by simpa [aA,bg] using hy
  have hx2:y=V.ob:=by simpa using hx
  exact nb1 V.ob (by simp [VL.blocks]) (hx2.symm.trans hy2)) λv h8 k8 hv=>?_
 (conv=>whnf);refine ⟨?_,rfl,hv⟩;exact ((((k1.trans (k2.trans k3)).mono (by simp)).trans ((k4.trans k5).mono (by simp))).trans ((k6.trans k7).mono (by simp))).trans (k8.mono (by simp))
theorem Qk {h:Heap}{V:VL}{M:aV}{X:VS}(A:At h V M X)(k:Int):aD Tryz.prog 176 [.pointer (some ⟨V.v,0,none⟩),.int .i64 k] h (λv h'=>Keeps [] h h'/\v=.bool (decide (k∈X.bE))):=by
 have ha:=A.bE;have ho:=A.obj;cases hab:V.lS with
 | none=>
  rw [hab] at ha ho;refine aH aI Tryz.func176 rfl ok176 (by simp [Tryz.f176]) ?_;(conv=>whnf);refine ax.u (.map none) (λ_=>by unfold Heap.cell?;rw [ho];rfl) ?_;(conv=>whnf);have:X.bE=[]:=ha;exact ⟨Keeps.refl _ _,by rw [this];rfl⟩
 | some r=>
  rw [hab] at ha ho;refine aH aI Tryz.func176 rfl ok176 (by simp [Tryz.f176]) ?_;(conv=>whnf);refine ax.u (.map (some r)) (λ_=>by unfold Heap.cell?;rw [ho];rfl) ?_;(conv=>whnf);refine gF.z (.bool false) ha rfl (GX _ _) ?_;(conv=>whnf);exact ⟨Keeps.refl _ _,rfl⟩
def nQ (X:VS)(n:Int):Bool:=decide (lF (X.now (8+n*8)) 0 8=0)&&!decide (n∈X.bE)
def kM (X:VS):Nat->Nat->Option Nat
 | 0,_=>none
 | f+1,i=>if nQ X (i:Int) then some i else kM X f (i+1)
theorem Jk {X:VS}:∀ {f i k:Nat},kM X f i=some k->nQ X (k:Int)=true/\i<=k/\k<i+f
 | 0,_,_,h=>by cases h
 | f+1,i,k,h=>by
  unfold kM at h;split at h
  ·cases h;rename_i hh;exact ⟨hh,Nat.le_refl _,by omega⟩
  ·have:=Jk h;exact ⟨this.1,by omega,by omega⟩
def tY (X:VS)(kind:Int):Int×Int×VS:=
 if 1<=kind/\kind<=3 then (match kM X 22 2 with|some n=>((n:Int),0,dX X n (bZ kind (X.now (8+(n:Int)*8+1)+1)))|none=>(0,9,X)) else (0,1,X)
theorem Av {kind:Int}(hk:1<=kind/\kind<=3)(v:UInt64):(bZ kind v).ok/\gq (bZ kind v)=true:=by
 have e1:(bZ kind v).kind=kind:=rfl;have hr:gq (bZ kind v)=true:=by
  unfold gq;rw [e1,if_neg (by omega)];have:(bZ kind v).direct.all lG=true:=rfl;rw [this];have e2:(bZ kind v).links=1:=rfl;have e3:(bZ kind v).size=0:=rfl;have e4:(bZ kind v).more = -1:=rfl;rw [e2,e3,e4];simp [lG];omega
 exact ⟨Ea (vB hr),hr⟩
theorem Cj (w:UInt64):Value.int .u64 (IntKind.u64.wrap ((w.toNat:Int)+1))=wv (w+1):=by
 have h:IntKind.u64.wrap ((w.toNat:Int)+1)=(((w+1).toNat:Nat):Int):=by
  have h1:(1:UInt64).toNat=1:=rfl;rw [qy,UInt64.toNat_add,h1];have:=w.toNat_lt;omega
 rw [h];rfl
theorem Ql {h:Heap}{V:VL}{M:aV}{X:VS}(A:At h V M X)(kind:Int):aD Tryz.prog 111 [.pointer (some ⟨V.v,0,none⟩),.int .i64 kind] h (λv h'=>Keeps [V.ob,V.sb,V.mb] h h'/\v=.tuple #[.int .i64 (tY X kind).1,.int .i64 (tY X kind).2.1]/\At h' V M (tY X kind).2.2):=by
 have bl:=A.blt;refine aH aI Tryz.func111 rfl ok111 (by simp [Tryz.f111]) ?_;(conv=>whnf);refine au.i (Eb kind 0 h) λv h1 k1 hv=>?_;subst hv;unfold tY;by_cases hk:1<=kind/\kind<=3
 ·rw [if_pos hk,if_pos hk];(conv=>whnf);refine aR.i λb2 h2 e2 s2 o2 k2=>?_;(conv=>whnf);refine aN.i λh3 s3 k3=>?_;(conv=>whnf);refine ak.f rfl ?_;have kk:Keeps [] h h3:=(k1.trans k2).new1 k3 (by have:=k1.size;omega);(conv=>whnf);refine bP.on [0,1,8] [] (λi:Nat=>[(0,.v (.pointer (some ⟨V.v,0,none⟩))),(1,.v (.int .i64 kind)),(8,.v (.int .i64 (i:Int)))]) (λ_=>[])
   (λi h'=>2<=i/\i<=24/\Keeps [] h h'/\kM X 22 2=kM X (24-i) i) (λi=>24-i) 2 ?_ ?_
  ·(conv=>whnf);exact ⟨2,rfl,rfl,rfl,by decide,by decide,kk,rfl⟩
  ·rintro i h4 ⟨hi2,hi,k4,hf⟩;have A4:=A.on k4;(conv=>whnf);refine ak.i (λhc=>?_) (λhc=>?_)
   ·have hi1:i<24:=by simp at hc;omega
    rw [show 24-i=(24-(i+1))+1 by omega] at hf;have hstep:kM X (24-(i+1)+1) i=if nQ X (i:Int) then some i else kM X (24-(i+1)) (i+1):=rfl;rw [hstep] at hf;(conv=>whnf);refine au.i (sS (i:Int) h4) λv h5 k5 hv=>?_;subst hv;rw [if_pos (show 0<=(i:Int)/\(i:Int)<24 by omega),if_pos (show 0<=(i:Int)/\(i:Int)<24 by omega)];have A5:=A4.on k5;(conv=>whnf);refine au.i (xI A5 (8+(i:Int)*8)) λv h6 k6 hv=>?_;subst hv;have A6:=A5.on k6;(conv=>whnf);refine au.i (Jl (X.now (8+(i:Int)*8)) 0 8 (by unfold lH;decide) h6) λv h7 k7 hv=>?_;subst hv;have A7:=A6.on k7;have hz0:(((lF (X.now (8+(i:Int)*8)) 0 8).toNat:Int)=0)↔lF (X.now (8+(i:Int)*8)) 0 8=0:=by
     constructor
     ·intro e;exact UInt64.toNat_inj.1 (by simpa using e)
     ·intro e;rw [e];rfl
    have next:∀ h8,Keeps [] h7 h8->nQ X (i:Int)=false->Keeps [] h h8/\kM X 22 2=kM X (24-(i+1)) (i+1):=by
     intro h8 k8 hfree;refine ⟨k4.trans (k5.trans (k6.trans (k7.trans k8))),?_⟩;rw [hf,if_neg (by rw [hfree];simp)]
    (conv=>whnf);refine ak.i (λhq=>?_) (λhq=>?_)
    ·have hw0:lF (X.now (8+(i:Int)*8)) 0 8=0:=hz0.1 (by simpa using hq);(conv=>whnf);refine au.i (Qk A7 (i:Int)) λv h8 k8 hv=>?_;subst hv;have A8:=A7.on k8;by_cases Aw:(i:Int)∈X.bE
     ·(conv=>whnf);refine ak.t (by simp [Aw,di]) ?_;(conv=>whnf);refine ⟨24-(i+1),by omega,?_⟩;(conv=>whnf);obtain ⟨n1,n2⟩:=next h8 k8 (by unfold nQ;rw [decide_eq_true Aw];simp);exact ⟨i+1,rfl,by rw [wrapN (x:=(i:Int)+1) (n:=i+1) (by simp) (by omega)],rfl,by omega,by omega,n1,n2⟩
     ·(conv=>whnf);refine ak.f (by simp [Aw,di,hw0]) ?_;have hfree:nQ X (i:Int)=true:=by unfold nQ;rw [decide_eq_true hw0,decide_eq_false Aw];rfl
      rw [if_pos hfree] at hf;rw [hf];have e1:IntKind.i64.wrap (8+(i:Int)*8+1)=8+(i:Int)*8+1:=dQ (by omega) (by omega);(conv=>whnf);rw [e1];refine au.i (xI A8 (8+(i:Int)*8+1)) λv h9 k9 hv=>?_;subst hv;have A9:=A8.on k9;(conv=>whnf);rw [Cj];refine au.i (Eb kind _ h9) λv h10 k10 hv=>?_;rw [if_pos hk] at hv;subst hv;have A10:=A9.on k10;(conv=>whnf);refine aR.i λb11 h11 e11 s11 o11 k11=>?_;(conv=>whnf);refine aN.i λh12 s12 k12=>?_;have A11:=A10.on k11;have z11:∀ b∈V.blocks,b<h10.size:=λb hb=>A10.blt b hb;have A12:=A11.keep k12 (λb hb=>by simp;have:=z11 b hb;omega);obtain ⟨fo,fr⟩:=Av hk (X.now (8+(i:Int)*8+1)+1);(conv=>whnf);refine au.m (zD A12 (i:Int) (by omega) (bZ kind (X.now (8+(i:Int)*8+1)+1)) fo fr) (λy hy hx=>by
       have hy2:y=b11:=by simpa [aA,bg] using hy
       have q1:=z11 V.ob (by simp [VL.blocks]);have q2:=z11 V.sb (by simp [VL.blocks]);have q3:=z11 V.mb (by simp [VL.blocks]);simp at hx;omega) λv h13 k13 hv=>?_
      obtain ⟨rfl,A13⟩:=hv;(conv=>whnf);have k0:Keeps [] h h10:=k4.trans (k5.trans (k6.trans (k7.trans (k8.trans (k9.trans k10)))));have z0:=k0.size;exact ⟨((k0.trans k11).new1 k12 (by omega)).mono (by simp) |>.trans k13,rfl,A13⟩
    ·have hw0:¬ lF (X.now (8+(i:Int)*8)) 0 8=0:=λe=>by
      have:=hz0.2 e;rw [this] at hq;simp at hq
     (conv=>whnf);refine ak.t (by
      have:¬ ((lF (X.now (8+(i:Int)*8)) 0 8).toNat:Int)=0:=λe=>hw0 (hz0.1 e);simp [di];omega) ?_
     (conv=>whnf);refine ⟨24-(i+1),by omega,?_⟩;(conv=>whnf);obtain ⟨n1,n2⟩:=next h7 (Keeps.refl _ _) (by unfold nQ;rw [decide_eq_false hw0];rfl);exact ⟨i+1,rfl,by rw [wrapN (x:=(i:Int)+1) (n:=i+1) (by simp) (by omega)],rfl,by omega,by omega,n1,n2⟩
   ·have hi1:i=24:=by simp at hc;omega
    subst hi1;(conv=>whnf);have hf0:kM X 22 2=none:=hf;rw [hf0];exact ⟨k4.mono (by simp),rfl,A4⟩
 ·rw [if_neg hk,if_neg hk];(conv=>whnf);refine aR.i λb2 h2 e2 s2 o2 k2=>?_;(conv=>whnf);refine aN.i λh3 s3 k3=>?_;(conv=>whnf);refine ak.t rfl ?_;(conv=>whnf);have kk:Keeps [] h h3:=(k1.trans k2).new1 k3 (by have:=k1.size;omega);exact ⟨kk.mono (by simp),rfl,A.on kk⟩
def sO (X:VS)(n:Int):Int×VS:=
 if 0<=n/\n<24 then (match gU (bU X.now (8+n*8) 8) with|none=>(15,eP X n)|some c=>if c.kind=0 then (15,eP X n) else (0,dX (eP X n) n (fQ (c.dR+1)))) else (1,X)
theorem Qm (v:UInt64):(fQ v).ok/\gq (fQ v)=true:=by
 have hr:gq (fQ v)=true:=by
  unfold gq;rw [if_pos (show (fQ v).kind=0 from rfl)];exact decide_eq_true rfl
 exact ⟨Ea (vB hr),hr⟩
theorem GL {h:Heap}{V:VL}{M:aV}{X:VS}(A:At h V M X)(n:Int):aD Tryz.prog 209 [.pointer (some ⟨V.v,0,none⟩),.int .i64 n] h (λv h'=>Keeps [V.ob,V.sb,V.mb] h h'/\v=.int .i64 (sO X n).1/\At h' V M (sO X n).2):=by
 refine aH aI Tryz.func209 rfl ok209 (by simp [Tryz.f209]) ?_;(conv=>whnf);refine au.m (sN A n) (by simp [aA]) λv h1 k1 hv=>?_;unfold sO;have fin:∀ (e:Int) (Y:VS) (h2 h3:Heap) (b2:Nat),b2=h1.size->Keeps [] h1 h2->Keeps [b2] h2 h3->At h1 V M Y->Keeps [V.ob,V.sb,V.mb] h h3/\At h3 V M Y:=by
  intro e Y h2 h3 b2 e2 k2 k3 AY;have kk:Keeps [] h1 h3:=k2.new1 k3 (by omega);exact ⟨(k1.mono (by simp)).cu kk,AY.on kk⟩
 by_cases hn:0<=n/\n<24
 ·rw [if_pos hn] at hv ⊢;obtain ⟨rfl,A1⟩:=hv;cases hc:gU (bU X.now (8+n*8) 8) with
  | none=>
   unfold qb;(conv=>whnf);refine aR.i λb2 h2 e2 s2 o2 k2=>?_;(conv=>whnf);refine aN.i λh3 s3 k3=>?_;(conv=>whnf);refine ak.t rfl ?_;(conv=>whnf);obtain ⟨f1,f2⟩:=fin 0 _ h2 h3 b2 e2 k2 k3 A1;exact ⟨f1,rfl,f2⟩
  | some c=>
   unfold qb;(conv=>whnf);refine aR.i λb2 h2 e2 s2 o2 k2=>?_;(conv=>whnf);refine aN.i λh3 s3 k3=>?_;(conv=>whnf);refine ak.f rfl ?_;obtain ⟨f1,f2⟩:=fin 0 _ h2 h3 b2 e2 k2 k3 A1;(conv=>whnf);refine ak.i (λhk=>?_) (λhk=>?_)
   ·(conv=>whnf);have h0:c.kind=0:=by simpa using hk
    refine ⟨f1,?_⟩;simp only;rw [if_pos h0];exact ⟨rfl,f2⟩
   ·have h0:¬ c.kind=0:=by simpa using hk
    (conv=>whnf);rw [Cj];refine au.i (Ec _ h3) λv h4 k4 hv=>?_;subst hv;obtain ⟨no,nr⟩:=Qm (c.dR+1);have A4:=f2.on k4;have z1:=λb hb=>A1.blt b hb;(conv=>whnf);refine au.m (zD A4 n hn (fQ (c.dR+1)) no nr) (λy hy hx=>by
     have hy2:y=b2:=by simpa [aA,bg] using hy
     have q1:=z1 V.ob (by simp [VL.blocks]);have q2:=z1 V.sb (by simp [VL.blocks]);have q3:=z1 V.mb (by simp [VL.blocks]);simp at hx;omega) λv h5 k5 hv=>?_
    obtain ⟨rfl,A5⟩:=hv;(conv=>whnf);refine ⟨(f1.cu k4).trans k5,?_⟩;simp only;rw [if_neg h0];exact ⟨rfl,A5⟩
 ·rw [if_neg hn] at hv ⊢;obtain ⟨rfl,A1⟩:=hv;(conv=>whnf);refine aR.i λb2 h2 e2 s2 o2 k2=>?_;(conv=>whnf);refine aN.i λh3 s3 k3=>?_;(conv=>whnf);refine ak.t rfl ?_;(conv=>whnf);obtain ⟨f1,f2⟩:=fin 0 _ h2 h3 b2 e2 k2 k3 A1;exact ⟨f1,rfl,f2⟩
end Go.Proofs.YtoociceebodfeaaGreatDoor
