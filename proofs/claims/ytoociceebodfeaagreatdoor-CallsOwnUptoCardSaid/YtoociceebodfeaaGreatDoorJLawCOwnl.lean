/-
  Joined texts: CalD, CalE, CalF, CalG, CalN, CalQ, CalL, FomG, CalM, CalO, CalP.
-/
import Derived.Test.YtoociceebodfeaaGreatDoorJLawCOwnk
import Derived.Test.YtoociceebodfeaaGreatDoorJLawCOwng
import Derived.Test.YtoociceebodfeaaGreatDoorJLawCOwnh
import Derived.Test.YtoociceebodfeaaGreatDoorJLawCOwnf
set_option linter.all false
set_option maxRecDepth 100000
set_option maxHeartbeats 4000000
namespace Go.Proofs.YtoociceebodfeaaGreatDoor
open Go Go.aK
theorem lU.there {X:VS}{S:FS}(I:bK X.now S)(C:fZ S){path:List UInt8}{d:Int}{nm:List UInt8}{nd:Int}(P:lU S path d nm nd)(h0:nd≠0) :
 ∃ en,cK (S.nm d) nm=some en/\en.node=nd/\en∈S.nm d/\0<nd/\nd<24/\(S.C nd).kind≠0:=by
 have hn:=P.node;cases hf:cK (S.nm d) nm with
 | none=>rw [hf] at hn;exact absurd hn h0
 | some en=>
  rw [hf] at hn;have he:nd=en.node:=hn;have hm:en∈S.nm d:=List.mem_of_find?_eq_some hf;obtain ⟨c1,c2,c3⟩:=C.names d (by have:=P.bG;omega) P.bG.2 P.kind en hm;rw [<-he] at c1 c2 c3;exact ⟨en,rfl,he.symm,hm,by omega,c2,c3⟩
def uI (S:FS):Prop:=∀ d,0<d->d<24->(S.C d).kind=2->∀ e∈S.nm d,e.node≠d
def qV (c:aB):aB:={ c with links:=c.links-1 }
def GK (now:Int->UInt64)(S:FS)(d nd:Int)(nm:List UInt8):Prop:=∃ c1,c1.kind=2/\c1.links=1 /\
 (
  (1<(S.C nd).links/\∃ vv,bK now ((S.put d c1 ((S.nm d).eraseIdx (aO (S.nm d) nm)) (S.aL d)).put nd (lT (qV (S.C nd)) vv) (S.nm nd) (S.aL nd))) \/
  ((S.C nd).links<=1/\∃ vv,bK now ((S.put d c1 ((S.nm d).eraseIdx (aO (S.nm d) nm)) (S.aL d)).put nd (fQ vv) [] [])))
theorem NZ {h:Heap}{V:VL}{M:aV}{X:VS}(A:At h V M X){S:FS}(I:bK X.now S)(C:fZ S)(Q:uI S)(path:List UInt8)(hp:path.length<=140737488351232){f:Nat}(hb:zu Tryz.prog f=true){may:aB->Int}
 (hf:∀ (c:aB) (h:Heap),aD Tryz.prog f [.agg ⟨c.cells⟩] h (λv h'=>Keeps [] h h'/\v=.int .i64 (may c))) (hmay:∀ c,may c=0->c.kind≠2) :
 aD Tryz.prog 80 [.pointer (some ⟨V.v,0,none⟩),.string (ba path),.func (.func f) #[] #[]] h (λv h'=>Keeps [V.ob,V.sb,V.mb] h h'/\∃ X',At h' V M X'/\X'.away=X.away/\X'.bE=X.bE /\
  (
   ((bD (aX S) path).2.2.2≠0/\v=.int .i64 (bD (aX S) path).2.2.2/\X'.now=X.now/\X'.mine=X.mine) \/
   ∃ d nm nd,lU S path d nm nd/\((nd=0/\v=.int .i64 4/\X'.now=X.now/\X'.mine=X.mine)\/(nd≠0/\may (S.C nd)≠0/\v=.int .i64 (may (S.C nd))/\X'.now=X.now/\X'.mine=X.mine) \/
    (nd≠0/\may (S.C nd)=0/\v=.int .i64 0/\(∀ x∈X.mine,x∈X'.mine)/\GK X'.now S d nd nm)))):=by
 have bl:=A.blt;have qX:V.ob∈V.blocks:=by simp [VL.blocks]
 have msb:V.sb∈V.blocks:=by simp [VL.blocks]
 have om:V.mb∈V.blocks:=by simp [VL.blocks]
 have q1:=bl V.ob qX;have q2:=bl V.sb msb;have q3:=bl V.mb om;refine aH aI Tryz.func80 rfl ok80 (by simp [Tryz.f80]) ?_;(conv=>whnf);refine au.m (wM A I C path hp) (by simp [aA]) λv h1 k1 hv=>?_;obtain ⟨rfl,s,A1⟩:=hv;have z1:=k1.size;by_cases he:(bD (aX S) path).2.2.2=0
 ·obtain ⟨d,nm,nd,P⟩:=uN I C he;rw [P.is];have hsp:lX S (d,nm,nd,0)=qY d (S.C d) nm nd:=by unfold lX;rw [if_pos rfl];rfl
  rw [hsp];generalize hX1:({ X with seen:=s }:VS)=X1 at A1;have w1:X1.now=X.now:=by rw [<-hX1]
  have w2:X1.away=X.away:=by rw [<-hX1]
  have w3:X1.bE=X.bE:=by rw [<-hX1]
  have w4:X1.mine=X.mine:=by rw [<-hX1]
  have I1:bK X1.now S:=by rw [w1];exact I
  (conv=>whnf);refine aR.i λb2 h2 e2 s2 o2 k2=>?_;(conv=>whnf);refine aN.i λh3 s3 k3=>?_;have k13:Keeps [] h1 h3:=k2.new1 k3 (by omega);have z2:=k2.size;have z3:=k3.size;have A3:=A1.on k13;(conv=>whnf);refine ak.f rfl ?_;by_cases hnd:nd=0
  ·subst hnd;(conv=>whnf);refine ak.t rfl ?_;(conv=>whnf);exact ⟨(k1.mono (by simp)).cu k13,X1,A3,w2,w3,.inr ⟨d,nm,0,P,.inl ⟨rfl,rfl,w1,w4⟩⟩⟩
  ·obtain ⟨en,hfe,hen,hmem,n0,n24,hkn⟩:=P.there I C hnd;have hne:nd≠d:=by rw [<-hen];exact Q d P.bG.1 P.bG.2 P.kind en hmem
   have N:=I1.node nd (by omega) n24;have hcr:gU (bU X1.now (8+nd*8) 8)=some (S.C nd):=by rw [I1.card nd (by omega) n24];exact qZ N.right
   (conv=>whnf);refine ak.f (by simp [hnd]) ?_;(conv=>whnf);refine au.m (sN A3 nd) (λy hy hx=>by
    simp [aA,bg] at hy hx;omega) λv h4 k4 hv=>?_
   rw [if_pos ⟨by omega,n24⟩,hcr] at hv;obtain ⟨rfl,A4⟩:=hv;have z4:=k4.size;unfold qb;(conv=>whnf);refine aR.i λb5 h5 e5 s5 o5 k5=>?_;(conv=>whnf);refine aN.i λh6 s6 k6=>?_;have k46:Keeps [] h4 h6:=k5.new1 k6 (by omega);have z5:=k5.size;have z6:=k6.size;(conv=>whnf);refine ak.f (by simp [hkn]) ?_;(conv=>whnf);rw [hb];(conv=>whnf);refine au.i (hf (S.C nd) h6) λv h7 k7 hv=>?_;subst hv;have z7:=k7.size;have A7:=A4.on (k46.trans k7);have I7:bK (eP X1 nd).now S:=I1;have kk7:Keeps [V.ob,V.sb,V.mb] h h7:=((k1.mono (by simp)).cu k13).trans ((k4.mono (by simp)).cu (k46.trans k7));by_cases hm:may (S.C nd)=0
   ·rw [hm];have jY:(S.C nd).kind=1\/(S.C nd).kind=3:=by have:=hmay _ hm;have:=N.kind;omega
    (conv=>whnf);refine ak.f rfl ?_;(conv=>whnf);refine au.m (Cg A7 I7 P.bG P.kind P.len hfe nd) (λy hy hx=>by
     simp [aA,bg] at hy hx;omega) λv h8 k8 hv=>?_
    obtain ⟨rfl,X2,A8,a1,a2,a3,c1,I8,hc1,hc2⟩:=hv;have z8:=k8.size;have eC:(S.put d c1 ((S.nm d).eraseIdx (aO (S.nm d) nm)) (S.aL d)).C nd=S.C nd:=if_neg hne;have eN:(S.put d c1 ((S.nm d).eraseIdx (aO (S.nm d) nm)) (S.aL d)).nm nd=S.nm nd:=if_neg hne;have eB:(S.put d c1 ((S.nm d).eraseIdx (aO (S.nm d) nm)) (S.aL d)).aL nd=S.aL nd:=if_neg hne;have N8:=I8.node nd (by omega) n24;rw [eC,eN,eB] at N8;obtain ⟨mf,F8⟩:=N8.file jY;have hlk:=F8.kind.2;(conv=>whnf);refine ak.f rfl ?_;by_cases hl:1<(S.C nd).links
    ·(conv=>whnf);refine ak.t (by simp [hl]) ?_;(conv=>whnf);refine aN.i λh9 s9 k9=>?_;have A9:=A8.keep k9 (λb hb=>by have:=bl b hb;simp;omega);have F9:gm X2.now nd (qV (S.C nd)) mf (S.aL nd):=⟨F8.map,F8.wk,⟨F8.kind.1,by show 0<=(S.C nd).links-1;omega,by show (S.C nd).links-1<=255;omega⟩,F8.size,F8.fits,F8.aL,F8.hol,F8.kG⟩;have CS:=pX A9 nd ⟨by omega,n24⟩ (qV (S.C nd)) F9.ok F9.right;have hcells:(qV (S.C nd)).cells=[.int .i64 (S.C nd).kind,.int .i64 (IntKind.i64.wrap ((S.C nd).links-1)),.int .i64 (S.C nd).size,wv (S.C nd).dR,.int .i64 (S.C nd).d0,.int .i64 (S.C nd).d1,.int .i64 (S.C nd).d2,.int .i64 (S.C nd).d3,.int .i64 (S.C nd).d4,.int .i64 (S.C nd).more]:=by
      rw [dQ (by omega) (by omega)];rfl
     rw [hcells] at CS;(conv=>whnf);refine au.m CS (λy hy hx=>by
      simp [aA,bg] at hy hx;omega) λv h10 k10 hv=>?_
     obtain ⟨rfl,A10⟩:=hv;(conv=>whnf);obtain ⟨vv,ev⟩:=pY X2 nd (qV (S.C nd));have N9:gN X2.now nd (qV (S.C nd)) (S.nm nd) (S.aL nd):=⟨N8.kind,λh=>absurd h hkn,λh=>(by have h:(S.C nd).kind=2:=h;omega),λ_=>⟨mf,F9⟩⟩;have N10:=N9.dR vv;have I10:=I8.set (n:=nd) ⟨by omega,n24⟩ (Fr.refl _ _) N10;rw [<-ev] at I10;refine ⟨((kk7.trans k8).m1 k9 (by omega)).trans k10,_,A10,?_,?_,.inr ⟨d,nm,nd,P,.inr (.inr ⟨hnd,hm,rfl,λx hx=>qa (a3 x ?_),c1,hc1,hc2,.inl ⟨hl,vv,?_⟩⟩)⟩⟩
     ·show X2.away=_;rw [a1];exact w2
     ·show X2.bE=_;rw [a2];exact w3
     ·show x∈X1.mine;rw [w4];exact hx
     ·rw [<-ev];exact I10
    ·(conv=>whnf);refine ak.f (by simp;omega) ?_;have CG:=Ob A8 I8 (n:=nd) ⟨n0,n24⟩ (by rw [eC];exact jY);rw [eC] at CG;(conv=>whnf);refine au.m CG (λy hy hx=>by
      simp [aA,bg] at hy hx;omega) λv h9 k9 hv=>?_
     obtain ⟨rfl,X3,A9,b1,b2,b3,vv,I9⟩:=hv;(conv=>whnf);refine ⟨(kk7.trans k8).trans k9,X3,A9,?_,?_,.inr ⟨d,nm,nd,P,.inr (.inr ⟨hnd,hm,rfl,λx hx=>b3 x (a3 x ?_),c1,hc1,hc2,.inr ⟨by omega,vv,I9⟩⟩)⟩⟩
     ·rw [b1,a1];exact w2
     ·rw [b2,a2];exact w3
     ·show x∈X1.mine;rw [w4];exact hx
   ·(conv=>whnf);refine ak.t (by simp [hm]) ?_;(conv=>whnf);exact ⟨kk7,_,A7,w2,w3,.inr ⟨d,nm,nd,P,.inr (.inl ⟨hnd,hm,rfl,w1,w4⟩)⟩⟩
 ·generalize bD (aX S) path=r at he;obtain ⟨d',c',gI,nd',hsp,_⟩:=wN S r;rw [hsp];(conv=>whnf);refine aR.i λb2 h2 e2 s2 o2 k2=>?_;(conv=>whnf);refine aN.i λh3 s3 k3=>?_;have k13:Keeps [] h1 h3:=k2.new1 k3 (by omega);(conv=>whnf);refine ak.t (by simp [he]) ?_;(conv=>whnf);exact ⟨(k1.mono (by simp)).cu k13,_,A1.on k13,rfl,rfl,.inl ⟨he,rfl,rfl,rfl⟩⟩
theorem Oa (c:aB)(h:Heap):aD Tryz.prog 81 [.agg ⟨c.cells⟩] h (λv h'=>Keeps [] h h'/\v=.int .i64 (if c.kind=2 then 7 else 0)):=by
 refine aH aI Tryz.func81 rfl ok81 (by simp [Tryz.f81]) ?_;(conv=>whnf);refine aR.i λb1 h1 e1 s1 o1 k1=>?_;(conv=>whnf);refine ak.i (λhc=>?_) (λhc=>?_)
 ·(conv=>whnf);have:c.kind=2:=by simpa using hc
  exact ⟨k1,by rw [if_pos this]⟩
 ·(conv=>whnf);have:¬ c.kind=2:=by simpa using hc
  exact ⟨k1,by rw [if_neg this]⟩
theorem UJ (B:Int->UInt64)(node:Int)(a:Nat)(data:List UInt8)(i:Nat)(X:VS)(m:List Int):qW X (iN B node a data i X m).2.1:=by
 have ht:=K3 B X node;unfold iN;by_cases hm:m[i]?.getD 0 = -1
 ·simp only [if_pos hm];split <;> exact ht
 ·simp only [if_neg hm,if_true];exact ⟨rfl,rfl⟩
theorem Lp (B:Int->UInt64)(node:Int)(a:Nat)(data:List UInt8):∀ (f i:Nat) (X:VS) (m:List Int),qW X (gT B node a data f i X m).2.1
 | 0,i,X,m=>⟨rfl,rfl⟩
 | f+1,i,X,m=>by
  have h1:=UJ B node a data i X m;unfold gT;split
  ·have h2:=Lp B node a data f (i+1) (iN B node a data i X m).2.1 (iN B node a data i X m).2.2;exact ⟨h2.1.trans h1.1,h2.2.trans h1.2⟩
  ·exact h1
theorem GH (B:Int->UInt64)(X:VS)(node:Int)(c:aB)(at_:Int)(data:List UInt8):qW X (fP B X node c at_ data).2.2:=by
 unfold fP;split
 ·exact ⟨rfl,rfl⟩
 ·split
  ·split <;> exact ⟨rfl,rfl⟩
  ·split
   ·exact ⟨rfl,rfl⟩
   ·split
    ·exact ⟨rfl,rfl⟩
    ·rename_i m _;have h1:=Lp B node at_.toNat data ((at_.toNat+data.length+127)/128-at_.toNat/128) (at_.toNat/128) X m;simp only;split
     ·have h2:=K5 B (gT B node at_.toNat data ((at_.toNat+data.length+127)/128-at_.toNat/128) (at_.toNat/128) X m).2.1 node { c with size:=max c.size (at_+data.length) } (gT B node at_.toNat data ((at_.toNat+data.length+127)/128-at_.toNat/128) (at_.toNat/128) X m).2.2;exact ⟨h2.1.trans h1.1,h2.2.trans h1.2⟩
     ·exact h1
theorem UK {X:VS}{S:FS}(I:bK X.now S)(aw:X.bE=[]){kind:Int}(hk:1<=kind/\kind<=3) :
 (tY X kind=(0,9,X)/\∀ k,2<=k->k<24->(S.C k).kind≠0)\/∃ n v,tY X kind=(n,0,dX X n (bZ kind v))/\2<=n/\n<24/\(S.C n).kind=0/\∀ k,2<=k->k<n->(S.C k).kind≠0:=by
 unfold tY;rw [if_pos hk];cases hf:kM X 22 2 with
 | some n=>
  right
  obtain ⟨f1,f2,f3⟩:=Jk hf;refine ⟨(n:Int),_,rfl,by omega,by omega,(FB I aw (by omega)).1 f1,λk k2 kn hk0=>?_⟩;have:=Ll hf k.toNat (by omega) (by omega);rw [Int.toNat_of_nonneg (by omega)] at this;rw [(FB I aw (by omega)).2 hk0] at this;cases this
 | none=>
  left
  refine ⟨rfl,λk k2 k24 hk0=>?_⟩;have h1:=Lm hf k.toNat (by omega) (by omega);rw [Int.toNat_of_nonneg (by omega)] at h1;rw [(FB I aw (by omega)).2 hk0] at h1;cases h1
theorem lU.new {X:VS}{S:FS}(I:bK X.now S)(C:fZ S){path:List UInt8}{d:Int}{nm:List UInt8}(P:lU S path d nm 0):cK (S.nm d) nm=none:=by
 have hn:=P.node;cases hf:cK (S.nm d) nm with
 | none=>rfl
 | some en=>
  rw [hf] at hn;have he:(0:Int)=en.node:=hn;obtain ⟨c1,c2,c3⟩:=C.names d (by have:=P.bG;omega) P.bG.2 P.kind en (List.mem_of_find?_eq_some hf);rw [<-he] at c3;exact absurd I.zero c3
structure Made (now:Int->UInt64)(S:FS)(d:Int)(nm:List UInt8)(n kind:Int)(data:List UInt8):Prop where
 bG:2<=n/\n<24
 was:(S.C n).kind=0
 least:∀ k,2<=k->k<n->(S.C k).kind≠0
 fs:∃ c2 c1,c2.kind=kind/\c2.links=1/\c1.kind=2/\c1.links=1/\bK now ((S.put n c2 [] data).put d c1 (bF (S.nm d) ⟨nm,n⟩) (S.aL d))
def kF (B:Int->UInt64)(X:VS)(S:FS)(path:List UInt8)(kind:Int)(data:List UInt8)(v:Value)(X':VS):Prop:=X'.away=X.away/\X'.bE=X.bE /\
 (
  ((bD (aX S) path).2.2.2≠0/\v=.int .i64 (bD (aX S) path).2.2.2/\X'.now=X.now/\X'.mine=X.mine) \/
  ∃ d nm nd,lU S path d nm nd/\((nd≠0/\v=.int .i64 5/\X'.now=X.now/\X'.mine=X.mine) \/
   (nd=0/\v=.int .i64 9/\(bB B X 96<8\/10<=(S.nm d).length\/∀ k,2<=k->k<24->(S.C k).kind≠0)) \/
   (nd=0/\v=.int .i64 0/\(∀ x∈X.mine,x∈X'.mine)/\bB B X 96<=bB B X' 96+8/\∃ n,Made X'.now S d nm n kind data)))
theorem Lr {B:Int->UInt64}{X Xb X':VS}{S:FS}{path nm data:List UInt8}{d n kind:Int}{v:Value}{c2:aB}(P:lU S path d nm 0)(hn:2<=n/\n<24)(hw:(S.C n).kind=0)(hl:∀ k,2<=k->k<n->(S.C k).kind≠0)
 (hk2:c2.kind=kind/\c2.links=1) (hf:bB B X 96<=bB B Xb 96+3) (hm:∀ x∈X.mine,x∈Xb.mine) (e1:X'.away=X.away) (e2:X'.bE=X.bE)
 (H:((v=.int .i64 9/\(bB B Xb 96<2\/nL (bR nm)<=pz ((S.put n c2 [] data).nm d) nm)) \/
  (v=.int .i64 0/\bB B Xb 96<=bB B X' 96+2/\(∀ x∈Xb.mine,x∈X'.mine)/\∃ c',bK X'.now ((S.put n c2 [] data).put d c' (bF ((S.put n c2 [] data).nm d) ⟨nm,n⟩) ((S.put n c2 [] data).aL d))/\c'.kind=2/\c'.links=1))) :
 kF B X S path kind data v X':=by
 have hne:d≠n:=by
  intro e;have:=P.kind;rw [e,hw] at this;cases this
 have eN:(S.put n c2 [] data).nm d=S.nm d:=if_neg hne;have eB:(S.put n c2 [] data).aL d=S.aL d:=if_neg hne;rw [eN,eB] at H;refine ⟨e1,e2,.inr ⟨d,nm,0,P,.inr ?_⟩⟩;rcases H with ⟨rfl,H⟩|⟨rfl,h1,h2,c',h3,h4,h5⟩
 ·refine .inl ⟨rfl,rfl,?_⟩;rcases H with H|H
  ·left;omega
  ·right;left
   have h6:pz (S.nm d) nm<=(S.nm d).length:=List.length_filter_le _ _;have h7:10<=nL (bR nm):=by unfold nL;split <;> omega
   omega
 ·exact .inr ⟨rfl,rfl,λx hx=>h2 x (hm x hx),by omega,n,hn,hw,hl,c2,c',hk2.1,hk2.2,h4,h5,h3⟩
theorem GJ {h:Heap}{V:VL}{M:aV}{X:VS}(A:At h V M X){S:FS}(I:bK X.now S)(C:fZ S)(aw:X.bE=[])(path:List UInt8)(hp:path.length<=140737488351232){kind:Int}(hk:1<=kind/\kind<=3){data:List UInt8}(hd:data.length<=120)(hd2:kind=2->data=[]) :
 aD Tryz.prog 65 [.pointer (some ⟨V.v,0,none⟩),.string (ba path),.int .i64 kind,.string (ba data)] h (λv h'=>Keeps [V.ob,V.sb,V.mb] h h'/\∃ X',At h' V M X'/\kF M.read X S path kind data v X'):=by
 have bl:=A.blt;have qX:V.ob∈V.blocks:=by simp [VL.blocks]
 have msb:V.sb∈V.blocks:=by simp [VL.blocks]
 have om:V.mb∈V.blocks:=by simp [VL.blocks]
 have q1:=bl V.ob qX;have q2:=bl V.sb msb;have q3:=bl V.mb om;refine aH aI Tryz.func65 rfl ok65 (by simp [Tryz.f65]) ?_;(conv=>whnf);refine au.m (GN A I C path hp) (by simp [aA]) λv h1 k1 hv=>?_;obtain ⟨⟨s,A1⟩,d',c',gI,nd',rfl,hq⟩:=hv;have z1:=k1.size;(conv=>whnf);refine aR.i λb2 h2 e2 s2 o2 k2=>?_;(conv=>whnf);refine aN.i λh3 s3 k3=>?_;have k13:Keeps [] h1 h3:=k2.new1 k3 (by omega);have z2:=k2.size;have z3:=k3.size;have A3:=A1.on k13;have kk3:Keeps [V.ob,V.sb,V.mb] h h3:=(k1.mono (by simp)).cu k13;by_cases he:(bD (aX S) path).2.2.2=0
 ·obtain ⟨d,nm,nd,P⟩:=uN I C he;rw [P.is] at hq ⊢;obtain ⟨t1,t2,t3,t4⟩:=hq rfl;have t1:d=d':=t1.symm;have t3:nm=gI:=t3.symm;have t4:nd=nd':=t4.symm;subst t1 t3 t4;have t2:c'=S.C d:=t2;subst t2;simp only;generalize hX1:({ X with seen:=s }:VS)=X1 at A3;have w1:X1.now=X.now:=by rw [<-hX1]
  have w2:X1.away=X.away:=by rw [<-hX1]
  have w3:X1.bE=X.bE:=by rw [<-hX1]
  have w4:X1.mine=X.mine:=by rw [<-hX1]
  have w5:bB M.read X1 96=bB M.read X 96:=by rw [<-hX1];rfl
  have I1:bK X1.now S:=by rw [w1];exact I
  by_cases hnd:nd=0
  ·subst hnd;have hfe:=P.new I C;(conv=>whnf);refine ak.f rfl ?_;(conv=>whnf);refine au.m (Ql A3 kind) (λy hy hx=>by
    simp [aA,bg] at hy hx;omega) λv h4 k4 hv=>?_
   obtain ⟨rfl,A4⟩:=hv;have z4:=k4.size;rcases UK I1 (w3.trans aw) hk with ⟨hno,hfull⟩|⟨n,vn,hno,hn2,hn24,hn0,Ls⟩
   ·rw [hno] at A4 ⊢;(conv=>whnf);refine ak.t rfl ?_;(conv=>whnf);exact ⟨kk3.trans k4,X1,A4,w2,w3,.inr ⟨d,nm,0,P,.inr (.inl ⟨rfl,rfl,.inr (.inr hfull)⟩)⟩⟩
   ·rw [hno] at A4 ⊢;have hno2:∀ x,0<=x->x<96->X1.now (200+x)≠w64 (n+1):=((I1.node n (by omega) hn24).free hn0).2;have N4:gN X1.now n (bZ kind vn) [] []:=JF hk vn hno2;have I4:bK (dX X1 n (bZ kind vn)).now (S.put n (bZ kind vn) [] []):=I1.set (by omega) (Fr.refl n X1.now) N4;have hf4:bB M.read (dX X1 n (bZ kind vn)) 96=bB M.read X 96:=by rw [zC hn24,w5]
    have hdn:d≠n:=by
     intro e;have:=P.kind;rw [e,hn0] at this;cases this
    (conv=>whnf);refine ak.f rfl ?_;by_cases hdata:data=[]
    ·subst hdata;have hs0:(!(ba []).toList==(ByteArray.mk #[]).toList)=false:=by
      have h1:((ba []).toList==(ba []).toList)=true:=beq_self_eq_true _;have h2:((ba []).toList==(ByteArray.mk #[]).toList)=true:=h1;rw [h2];rfl
     (conv=>whnf);(try refine aU.pass ?_;conv=>whnf);refine ak.f hs0 ?_;(conv=>whnf);refine au.m (zB A4 I4 P.bG (by show (if d=n then _ else S.C d).kind=2;rw [if_neg hdn];exact P.kind) P.name P.len (by show cK (if d=n then _ else S.nm d) nm=none;rw [if_neg hdn];exact hfe) (S.C d) 0 n ⟨by omega,hn24⟩) (λy hy hx=>by
      simp [aA,bg] at hy hx;omega) λv h5 k5 hv=>?_
     obtain ⟨X5,A5,x1,x2,H⟩:=hv;(conv=>whnf);refine ⟨(kk3.trans k4).trans k5,X5,A5,Lr (Xb:=dX X1 n (bZ kind vn)) P ⟨hn2,hn24⟩ hn0 Ls ⟨rfl,rfl⟩ (by rw [hf4];omega) (λx hx=>mH.2 (.inl (by rw [w4];exact hx))) (x1.trans w2) (x2.trans w3) H⟩
    ·have jY:kind=1\/kind=3:=by
      by_cases e:kind=2
      ·exact absurd (hd2 e) hdata
      ·omega
     have hcr:gU (bU (dX X1 n (bZ kind vn)).now (8+n*8) 8)=some (bZ kind vn):=by
      show gU (bU (setW X1.now n _) (8+n*8) 8)=_;rw [zw];exact qZ (Av hk vn).2
     have hX5:∀ a,200<=a->(eP (dX X1 n (bZ kind vn)) n).now a=X1.now a:=λa ha=>uO hn24 ha;have FF:gm (eP (dX X1 n (bZ kind vn)) n).now n (bZ kind vn) m0 []:=JE jY vn (λx x0 x1=>by rw [hX5 _ (by omega)];exact hno2 x x0 x1);have hf5:bB M.read (eP (dX X1 n (bZ kind vn)) n) 96=bB M.read X 96:=by rw [UG];exact hf4
     have hrw:fq [] 0 data=(data,0):=UF data (by omega);have WP:=Ce (B:=M.read) (X:=eP (dX X1 n (bZ kind vn)) n) ⟨by omega,hn24⟩ FF 0 data;have WR:=λhr=>GA (B:=M.read) (X:=eP (dX X1 n (bZ kind vn)) n) ⟨by omega,hn24⟩ FF 0 data hr;rw [show ((0:Nat):Int)=0 from rfl] at WR;rw [hrw] at WP WR;have WS:=GD (B:=M.read) (X:=eP (dX X1 n (bZ kind vn)) n) (node:=n) (c:=bZ kind vn) (at_:=0) (data:=data);rw [hf5] at WR;have WA:qW (eP (dX X1 n (bZ kind vn)) n) (fP M.read (eP (dX X1 n (bZ kind vn)) n) n (bZ kind vn) 0 data).2.2:=GH M.read _ n (bZ kind vn) 0 data;have hs0:(!(ba data).toList==(ByteArray.mk #[]).toList)=true:=by
      have h2:((ba data).toList==(ByteArray.mk #[]).toList)=false:=by
       have:=iV data [];rw [decide_eq_false hdata] at this;exact this
      rw [h2];rfl
     have hroom:(0+data.length+127)/128-0/128+1<=2:=by omega
     (conv=>whnf);(try refine aU.pass ?_;conv=>whnf);refine ak.t hs0 ?_;(conv=>whnf);refine au.m (sN A4 n) (λy hy hx=>by
      simp [aA,bg] at hy hx;omega) λv h5 k5 hv=>?_
     rw [if_pos ⟨by omega,hn24⟩,hcr] at hv;obtain ⟨rfl,A5⟩:=hv;have z5:=k5.size;unfold qb;(conv=>whnf);refine aR.i λb6 h6 e6 s6 o6 k6=>?_;(conv=>whnf);refine aN.i λh7 s7 k7=>?_;have k57:Keeps [] h5 h7:=k6.new1 k7 (by omega);have z6:=k6.size;have z7:=k7.size;(conv=>whnf);refine ak.f rfl ?_;(conv=>whnf);refine au.m (GI (A5.on k57) n (bZ kind vn) (Av hk vn).1 FF.mG 0 data) (λy hy hx=>by
      simp [aA,bg] at hy hx;omega) λv h8 k8 hv=>?_
     obtain ⟨rfl,A8⟩:=hv;generalize fP M.read (eP (dX X1 n (bZ kind vn)) n) n (bZ kind vn) 0 data=q at WP WR WS WA A8;have z8:=k8.size;(conv=>whnf);refine aN.i λh9 s9 k9=>?_;have A9:=A8.keep k9 (λb hb=>by have:=bl b hb;simp;omega);have z9:=k9.size;have kk9:Keeps [V.ob,V.sb,V.mb] h h9:=(((kk3.trans k4).trans ((k5.mono (by simp)).cu k57)).trans (k8.mono (by simp))).m1 k9 (by omega);by_cases hq0:q.2.1=0
     ·obtain ⟨g1,g2,g3⟩:=WS hq0;obtain ⟨m',W⟩:∃ m',Wrote n (eP (dX X1 n (bZ kind vn)) n) m0 0 data data q m':=by
       rcases WP with ⟨h9,_⟩|⟨_,hw⟩
       ·rw [hq0] at h9;cases h9
       ·exact hw rfl
      have N8:gN q.2.2.now n q.1 [] data:=⟨by rw [g1];show 0<=kind/\kind<=3;omega,λh=>(by rw [g1] at h;have h:kind=0:=h;omega),λh=>(by rw [g1] at h;have h:kind=2:=h;omega),λ_=>⟨m',W.file⟩⟩;rw [hq0];(conv=>whnf);refine au.m (pX A9 n ⟨by omega,hn24⟩ q.1 N8.ok N8.right) (λy hy hx=>by
       simp [aA,bg] at hy hx;omega) λv h10 k10 hv=>?_
      obtain ⟨rfl,A10⟩:=hv;have z10:=k10.size;obtain ⟨vv,ev⟩:=pY q.2.2 n q.1;have N9:=N8.dR vv;rw [<-ev] at N9;have I9:=I4.set (n:=n) (by omega) W.fr N9;rw [FS.Ch] at I9;(conv=>whnf);refine ak.f rfl ?_;have hf9:bB M.read X 96<=bB M.read (dX q.2.2 n (iy q.2.2 n q.1)) 96+3:=by
       rw [zC hn24];by_cases h2:2<=bB M.read X 96
       ·have:=((WR (by omega)).2 rfl).1;omega
       ·omega
      (conv=>whnf);refine au.m (zB A10 I9 P.bG (by show (if d=n then _ else S.C d).kind=2;rw [if_neg hdn];exact P.kind) P.name P.len (by show cK (if d=n then _ else S.nm d) nm=none;rw [if_neg hdn];exact hfe) (S.C d) 0 n ⟨by omega,hn24⟩) (λy hy hx=>by
       simp [aA,bg] at hy hx;omega) λv h11 k11 hv=>?_
      obtain ⟨X11,A11,x1,x2,H⟩:=hv;(conv=>whnf);have wx:=W.x;refine ⟨(kk9.trans k10).trans k11,X11,A11,Lr (Xb:=dX q.2.2 n (iy q.2.2 n q.1)) P ⟨hn2,hn24⟩ hn0 Ls ?_ hf9 (λx hx=>mH.2 (.inl ?_)) ?_ ?_ H⟩
      ·rw [ev];exact ⟨g1,g2⟩
      ·rw [wx];exact mH.2 (.inl (by rw [w4];exact hx))
      ·rw [x1];show q.2.2.away=_;rw [wx];exact w2
      ·rw [x2];show q.2.2.bE=_;rw [wx];exact w3
     ·have hq9:q.2.1=9:=by
       rcases WP with ⟨h9,_⟩|⟨h9,_⟩
       ·exact h9
       ·exact absurd h9 hq0
      rw [hq9];(conv=>whnf);refine au.i (zq _ n q.1 9 (by decide)) λv h10 k10 hv=>?_;subst hv;(conv=>whnf);refine ak.t rfl ?_;(conv=>whnf);have hX8:q.2.2.away=X.away/\q.2.2.bE=X.bE:=⟨WA.1.trans w2,WA.2.trans w3⟩;refine ⟨kk9.cu k10,q.2.2,A9.on k10,hX8.1,hX8.2,.inr ⟨d,nm,0,P,.inr (.inl ⟨rfl,rfl,.inl ?_⟩)⟩⟩;by_cases h2:2<=bB M.read X 96
      ·exact absurd (WR (by omega)).1 hq0
      ·omega
  ·(conv=>whnf);refine ak.t (by simp [hnd]) ?_;(conv=>whnf);refine ⟨kk3,X1,A3,w2,w3,.inr ⟨d,nm,nd,P,.inl ⟨hnd,?_,w1,w4⟩⟩⟩;rw [if_neg (by simp),if_pos hnd]
 ·(conv=>whnf);refine ak.t (by simp [he]) ?_;(conv=>whnf);refine ⟨kk3,_,A3,rfl,rfl,.inl ⟨he,?_,rfl,rfl⟩⟩;rw [if_pos he]
def cB (S:FS)(path:List UInt8):Int×Int:=aW (aX S) path true
def fU (S:FS)(path:List UInt8):Int:=if (cB S path).2=0/\(S.C (cB S path).1).kind=2 then 7 else (cB S path).2
def uM (S:FS)(path:List UInt8):aB:=if (cB S path).2=0 then S.C (cB S path).1 else aB.zero
theorem zo {X:VS}{S:FS}(I:bK X.now S)(C:fZ S){path:List UInt8}{follow:Bool}(h0:(aW (aX S) path follow).2=0) :
 0<(aW (aX S) path follow).1/\(aW (aX S) path follow).1<24/\(S.C (aW (aX S) path follow).1).kind≠0:=by
 have key:0<=(aW (aX S) path follow).1/\(aW (aX S) path follow).1<24/\(S.C (aW (aX S) path follow).1).kind≠0:=by
  unfold aW at h0 ⊢;cases hp:bH path with
  | none=>rw [hp] at h0;cases h0
  | some l=>
   rw [hp] at h0;exact Cf (X:=X) C 600 1 0 l ⟨by decide,by decide,by rw [C.root];decide⟩ h0
 obtain ⟨a,b,c⟩:=key;refine ⟨?_,b,c⟩;have:(aW (aX S) path follow).1≠0:=λe=>by rw [e] at c;exact c I.zero
 omega
theorem BZ {h:Heap}{V:VL}{M:aV}{X:VS}(A:At h V M X){S:FS}(I:bK X.now S)(C:fZ S)(path:List UInt8)(hp:path.length<=140737488351232) :
 aD Tryz.prog 67 [.pointer (some ⟨V.v,0,none⟩),.string (ba path)] h (λv h'=>Keeps [V.sb] h h'/\(∃ s,At h' V M { X with seen:=s })/\v=.tuple #[.int .i64 (cB S path).1,.agg ⟨(uM S path).cells⟩,.int .i64 (fU S path)]):=by
 have bl:=A.blt;have msb:V.sb∈V.blocks:=by simp [VL.blocks]
 have q2:=bl V.sb msb;refine aH aI Tryz.func67 rfl ok67 (by simp [Tryz.f67]) ?_;(conv=>whnf);refine aR.i λb1 h1 e1 s1 o1 k1=>?_;have z1:=k1.size;(conv=>whnf);refine au.m (uK (A.on k1) I C path hp true) (λy hy hx=>by
  simp [aA,bg] at hy hx;omega) λv h2 k2 hv=>?_
 obtain ⟨rfl,s,A2⟩:=hv;have z2:=k2.size;have hw:lW S (aW (aX S) path true)=.tuple #[.int .i64 (cB S path).1,.agg ⟨(uM S path).cells⟩,.int .i64 (cB S path).2]:=rfl;rw [hw];have hfe:fU S path=if (cB S path).2=0/\(uM S path).kind=2 then 7 else (cB S path).2:=by
  unfold fU uM;by_cases h0:(cB S path).2=0
  ·rw [if_pos h0]
  ·rw [if_neg (λe=>h0 e.1),if_neg (λe=>h0 e.1)]
 rw [hfe];generalize uM S path=c;generalize cB S path=r;clear hw hfe;(conv=>whnf);refine aR.i λb3 h3 e3 s3 o3 k3=>?_;(conv=>whnf);refine aN.i λh4 s4 k4=>?_;have k24:Keeps [] h2 h4:=k3.new1 k4 (by omega);have z3:=k3.size;have z4:=k4.size;have A4:=A2.on k24;have kk4:Keeps [V.sb] h h4:=(k1.mono (by simp)).trans (k2.cu k24);(conv=>whnf);(try refine aU.pass ?_;conv=>whnf);refine ak.i (λhd=>?_) (λhd=>?_)
 ·have hd1:r.2=0/\c.kind=2:=by
   rw [dB] at hd;simpa using hd
  rw [if_pos hd1];(conv=>whnf);refine aN.i λh5 s5 k5=>?_;(conv=>whnf);exact ⟨kk4.m1 k5 (by omega),⟨s,A4.keep k5 (λb hb=>by have:=bl b hb;simp;omega)⟩,rfl⟩
 ·have hd1:¬ (r.2=0/\c.kind=2):=by
   rw [dB] at hd;simpa using hd
  rw [if_neg hd1];(conv=>whnf);refine aN.i λh5 s5 k5=>?_;(conv=>whnf);exact ⟨kk4.m1 k5 (by omega),⟨s,A4.keep k5 (λb hb=>by have:=bl b hb;simp;omega)⟩,rfl⟩
theorem Ca {X:VS}{S:FS}(I:bK X.now S)(C:fZ S){path:List UInt8}(h0:fU S path=0):(cB S path).2=0/\0<(cB S path).1/\(cB S path).1<24/\((S.C (cB S path).1).kind=1\/(S.C (cB S path).1).kind=3)/\uM S path=S.C (cB S path).1:=by
 unfold fU at h0;by_cases h:(cB S path).2=0/\(S.C (cB S path).1).kind=2
 ·rw [if_pos h] at h0;cases h0
 ·rw [if_neg h] at h0;obtain ⟨a,b,c⟩:=zo I C (path:=path) (follow:=true) h0;have a:0<(cB S path).1:=a;have b:(cB S path).1<24:=b;have c:(S.C (cB S path).1).kind≠0:=c;have N:=(I.node (cB S path).1 (by omega) b).kind;have hk:(S.C (cB S path).1).kind≠2:=λe=>h ⟨h0,e⟩;exact ⟨h0,a,b,by omega,if_pos h0⟩
theorem Gr {h:Heap}{V:VL}{M:aV}{X:VS}(A:At h V M X){S:FS}(I:bK X.now S)(C:fZ S)(path:List UInt8)(hp:path.length<=140737488351232)(at_ n:Int) :
 aD Tryz.prog 24 [.pointer (some ⟨V.v,0,none⟩),.string (ba path),.int .i64 at_,.int .i64 n] h (λv h'=>Keeps [V.sb] h h'/\(∃ s,At h' V M { X with seen:=s }) /\
  v=(if fU S path=0 then .tuple #[.string (ba (iO (S.aL (cB S path).1) at_ n).1),.int .i64 (iO (S.aL (cB S path).1) at_ n).2] else .tuple #[.string (ba []),.int .i64 (fU S path)])):=by
 have bl:=A.blt;have msb:V.sb∈V.blocks:=by simp [VL.blocks]
 have q2:=bl V.sb msb;refine aH aI Tryz.func24 rfl ok24 (by simp [Tryz.f24]) ?_;(conv=>whnf);refine au.m (BZ A I C path hp) (by simp [aA]) λv h2 k2 hv=>?_;obtain ⟨⟨s,A2⟩,rfl⟩:=hv;have z2:=k2.size;(conv=>whnf);refine aR.i λb3 h3 e3 s3 o3 k3=>?_;(conv=>whnf);refine aN.i λh4 s4 k4=>?_;have k24:Keeps [] h2 h4:=k3.new1 k4 (by omega);have A4:=A2.on k24;have kk4:Keeps [V.sb] h h4:=k2.cu k24;by_cases h0:fU S path=0
 ·obtain ⟨p0,p1,p2,p3,p4⟩:=Ca I C h0;obtain ⟨m,F⟩:=(I.node (cB S path).1 (by omega) p2).file p3;have F':gm ({ X with seen:=s }:VS).now (cB S path).1 (S.C (cB S path).1) m (S.aL (cB S path).1):=F;rw [h0,p4,if_pos rfl];(conv=>whnf);refine ak.f rfl ?_;(conv=>whnf);refine au.i (Cb A4 (S.C (cB S path).1) F.ok F.szr F'.mG at_ n) λv h5 k5 hv=>?_;subst hv;rw [Cc F'];(conv=>whnf);exact ⟨kk4.cu k5,⟨s,A4.on k5⟩,rfl⟩
 ·rw [if_neg h0];(conv=>whnf);refine ak.t (by simp [h0]) ?_;(conv=>whnf);exact ⟨kk4,⟨s,A4⟩,rfl⟩
theorem Gs {h:Heap}{V:VL}{M:aV}{X:VS}(A:At h V M X){S:FS}(I:bK X.now S)(C:fZ S)(path:List UInt8)(hp:path.length<=140737488351232) :
 aD Tryz.prog 19 [.pointer (some ⟨V.v,0,none⟩),.string (ba path)] h (λv h'=>Keeps [V.sb] h h'/\(∃ s,At h' V M { X with seen:=s }) /\
  v=(if (aW (aX S) path false).2=0 then .tuple #[.agg #[.int .i64 0,.int .i64 (S.C (aW (aX S) path false).1).kind,.int .i64 (S.C (aW (aX S) path false).1).links,.int .i64 (S.C (aW (aX S) path false).1).size],.int .i64 0] else .tuple #[.agg #[.int .i64 0,.int .i64 0,.int .i64 0,.int .i64 0],.int .i64 (aW (aX S) path false).2])):=by
 have bl:=A.blt;have msb:V.sb∈V.blocks:=by simp [VL.blocks]
 have q2:=bl V.sb msb;refine aH aI Tryz.func19 rfl ok19 (by simp [Tryz.f19]) ?_;(conv=>whnf);refine aR.i λb1 h1 e1 s1 o1 k1=>?_;have z1:=k1.size;(conv=>whnf);refine au.m (uK (A.on k1) I C path hp false) (λy hy hx=>by
  simp [aA,bg] at hy hx;omega) λv h2 k2 hv=>?_
 obtain ⟨rfl,s,A2⟩:=hv;have z2:=k2.size;generalize aW (aX S) path false=r;unfold lW;(conv=>whnf);refine aR.i λb3 h3 e3 s3 o3 k3=>?_;(conv=>whnf);refine aN.i λh4 s4 k4=>?_;have k24:Keeps [] h2 h4:=k3.new1 k4 (by omega);have z3:=k3.size;have z4:=k4.size;have A4:=A2.on k24;have kk4:Keeps [V.sb] h h4:=(k1.mono (by simp)).trans (k2.cu k24);by_cases h0:r.2=0
 ·rw [h0,if_pos rfl,if_pos rfl];(conv=>whnf);refine ak.f rfl ?_;(conv=>whnf);refine aN.i λh5 s5 k5=>?_;(conv=>whnf);exact ⟨kk4.m1 k5 (by omega),⟨s,A4.keep k5 (λb hb=>by have:=bl b hb;simp;omega)⟩,rfl⟩
 ·rw [if_neg h0,if_neg h0];(conv=>whnf);refine ak.t (by simp [h0]) ?_;(conv=>whnf);refine aN.i λh5 s5 k5=>?_;(conv=>whnf);exact ⟨kk4.m1 k5 (by omega),⟨s,A4.keep k5 (λb hb=>by have:=bl b hb;simp;omega)⟩,rfl⟩
theorem NY {B:Int->UInt64}{X:VS}{n:Int}(hn:0<=n/\n<24){c:aB}{m:List Int}{s:List UInt8}(F:gm X.now n c m s){at_:Int}{data:List UInt8}(h:(fq s at_ data).2≠0) :
 (fP B X n c at_ data).2.2=X:=by
 unfold fq at h;unfold fP;by_cases h1:at_<0\/400<data.length
 ·rw [if_pos (.inr h1)]
 ·rw [if_neg h1] at h;rw [if_neg (by rintro (x|x);exact x hn;exact h1 x)];by_cases h2:data=[]
  ·rw [if_pos h2] at h;exact absurd rfl h
  ·rw [if_neg h2] at h ⊢;by_cases h3:2688-(data.length:Int)<at_
   ·rw [if_pos h3]
   ·rw [if_neg h3] at h;exact absurd rfl h
def qU (B:Int->UInt64)(X:VS)(S:FS)(path:List UInt8)(at_:Int)(data:List UInt8)(v:Value)(X':VS):Prop:=X'.away=X.away/\X'.bE=X.bE /\
 (
  (fU S path≠0/\v=.int .i64 (fU S path)/\X'.now=X.now/\X'.mine=X.mine) \/
  (fU S path=0/\(fq (S.aL (cB S path).1) at_ data).2≠0/\v=.int .i64 (fq (S.aL (cB S path).1) at_ data).2/\X'.now=X.now/\X'.mine=X.mine) \/
  (fU S path=0/\(fq (S.aL (cB S path).1) at_ data).2=0/\v=.int .i64 9/\bB B X 96<(at_.toNat+data.length+127)/128-at_.toNat/128+1) \/
  (fU S path=0/\(fq (S.aL (cB S path).1) at_ data).2=0/\v=.int .i64 0/\(∀ x∈X.mine,x∈X'.mine) /\
   ∃ c',c'.kind=(S.C (cB S path).1).kind/\c'.links=(S.C (cB S path).1).links/\bK X'.now (S.put (cB S path).1 c' (S.nm (cB S path).1) (fq (S.aL (cB S path).1) at_ data).1)))
theorem Gq {h:Heap}{V:VL}{M:aV}{X:VS}(A:At h V M X){S:FS}(I:bK X.now S)(C:fZ S)(path:List UInt8)(hp:path.length<=140737488351232)(at_:Int)(data:List UInt8) :
 aD Tryz.prog 35 [.pointer (some ⟨V.v,0,none⟩),.string (ba path),.int .i64 at_,.string (ba data)] h (λv h'=>Keeps [V.ob,V.sb,V.mb] h h'/\∃ X',At h' V M X'/\qU M.read X S path at_ data v X'):=by
 have bl:=A.blt;have q1:=bl V.ob (by simp [VL.blocks]);have q2:=bl V.sb (by simp [VL.blocks]);have q3:=bl V.mb (by simp [VL.blocks]);refine aH aI Tryz.func35 rfl ok35 (by simp [Tryz.f35]) ?_;(conv=>whnf);refine au.m (BZ A I C path hp) (by simp [aA]) λv h2 k2 hv=>?_;obtain ⟨⟨s,A2⟩,rfl⟩:=hv;have z2:=k2.size;(conv=>whnf);refine aR.i λb3 h3 e3 s3 o3 k3=>?_;(conv=>whnf);refine aN.i λh4 s4 k4=>?_;have k24:Keeps [] h2 h4:=k3.new1 k4 (by omega);have z3:=k3.size;have z4:=k4.size;have A4:=A2.on k24;have kk4:Keeps [V.ob,V.sb,V.mb] h h4:=(k2.mono (by simp)).cu k24;by_cases h0:fU S path=0
 ·obtain ⟨p0,p1,p2,p3,p4⟩:=Ca I C h0;unfold qU;rw [h0,p4];generalize (cB S path).1=n at p1 p2 p3;generalize hX1:({ X with seen:=s }:VS)=X1 at A4;have w1:X1.now=X.now:=by rw [<-hX1]
  have w2:X1.away=X.away:=by rw [<-hX1]
  have w3:X1.bE=X.bE:=by rw [<-hX1]
  have w4:X1.mine=X.mine:=by rw [<-hX1]
  have w5:bB M.read X1 96=bB M.read X 96:=by rw [<-hX1];rfl
  have I1:bK X1.now S:=by rw [w1];exact I
  have hn0:0<=n/\n<24:=⟨by omega,p2⟩;have N:=I1.node n hn0.1 p2;obtain ⟨m,F⟩:=N.file p3;have WP:=Ce (B:=M.read) hn0 F at_ data;have WR:=λhr=>GA (B:=M.read) hn0 F at_.toNat data hr;have WS:=GD (B:=M.read) (X:=X1) (node:=n) (c:=S.C n) (at_:=at_) (data:=data);have WA:qW X1 (fP M.read X1 n (S.C n) at_ data).2.2:=GH M.read _ n (S.C n) at_ data;have WN:=NY (B:=M.read) (X:=X1) hn0 F (at_:=at_) (data:=data);have hat:(fq (S.aL n) at_ data).2=0->at_<0->False:=λe hlt=>by
   unfold fq at e;rw [if_pos (.inl hlt)] at e;cases e
  (conv=>whnf);refine ak.f rfl ?_;(conv=>whnf);refine au.m (GI A4 n (S.C n) F.ok F.mG at_ data) (λy hy hx=>by
   simp [aA,bg] at hy hx;omega) λv h5 k5 hv=>?_
  obtain ⟨rfl,A5⟩:=hv;generalize hq:fP M.read X1 n (S.C n) at_ data=q at WP WS WA WN A5;have z5:=k5.size;(conv=>whnf);refine aN.i λh6 s6 k6=>?_;have A6:=A5.keep k6 (λb hb=>by have:=bl b hb;simp;omega);have kk6:Keeps [V.ob,V.sb,V.mb] h h6:=(kk4.trans (k5.mono (by simp))).m1 k6 (by omega);by_cases hq0:q.2.1=0
  ·have hr0:(fq (S.aL n) at_ data).2=0:=by
    rcases WP with ⟨_,e,_⟩|⟨e,_⟩
    ·exact e
    ·rw [<-e];exact hq0
   obtain ⟨m',W⟩:∃ m',Wrote n X1 m at_ data (fq (S.aL n) at_ data).1 q m':=by
    rcases WP with ⟨e,_⟩|⟨_,hw⟩
    ·rw [hq0] at e;cases e
    ·exact hw hr0
   obtain ⟨g1,g2,g3⟩:=WS hq0;have N5:gN q.2.2.now n q.1 (S.nm n) (fq (S.aL n) at_ data).1:=⟨by rw [g1];exact N.kind,λh=>(by rw [g1] at h;omega),λh=>(by rw [g1] at h;omega),λ_=>⟨m',W.file⟩⟩;rw [hq0];(conv=>whnf);refine au.m (pX A6 n hn0 q.1 N5.ok N5.right) (λy hy hx=>by
    simp [aA,bg] at hy hx;omega) λv h7 k7 hv=>?_
   obtain ⟨rfl,A7⟩:=hv;(conv=>whnf);obtain ⟨vv,ev⟩:=pY q.2.2 n q.1;have N6:=N5.dR vv;rw [<-ev] at N6;have I6:=I1.set (n:=n) ⟨p1,p2⟩ W.fr N6;refine ⟨kk6.trans k7,_,A7,WA.1.trans w2,WA.2.trans w3,.inr (.inr (.inr ⟨rfl,hr0,rfl,λx hx=>qa ?_,_,?_,?_,I6⟩))⟩
   ·rw [W.x];show x∈X1.mine;rw [w4];exact hx
   ·rw [ev];exact g1
   ·rw [ev];exact g2
  ·(conv=>whnf);refine au.i (zq _ n q.1 q.2.1 hq0) λv h7 k7 hv=>?_;subst hv;(conv=>whnf);have A7:=A6.on k7;by_cases hr0:(fq (S.aL n) at_ data).2=0
   ·have hq9:q.2.1=9:=by
     rcases WP with ⟨e,_⟩|⟨e,_⟩
     ·exact e
     ·rw [hr0] at e;exact absurd e hq0
    refine ⟨kk6.cu k7,_,A7,WA.1.trans w2,WA.2.trans w3,.inr (.inr (.inl ⟨rfl,hr0,by rw [hq9],?_⟩))⟩;have h1:0<=at_:=Int.not_lt.1 (hat hr0);by_cases h2:(at_.toNat+data.length+127)/128-at_.toNat/128+1<=bB M.read X 96
    ·have h3:=(WR (by rw [w5];exact h2)).1;rw [Int.toNat_of_nonneg h1,hq] at h3;rw [h3,hr0] at hq0;exact absurd rfl hq0
    ·omega
   ·have hqe:q.2.1=(fq (S.aL n) at_ data).2:=by
     rcases WP with ⟨_,e,_⟩|⟨e,_⟩
     ·exact absurd e hr0
     ·exact e
    have hx:=WN hr0;refine ⟨kk6.cu k7,_,A7,WA.1.trans w2,WA.2.trans w3,.inr (.inl ⟨rfl,hr0,by rw [hqe],?_,?_⟩)⟩
    ·rw [hx];exact w1
    ·rw [hx];exact w4
 ·(conv=>whnf);refine ak.t (by simp [h0]) ?_;(conv=>whnf);exact ⟨kk4,_,A4,rfl,rfl,.inl ⟨h0,rfl,rfl,rfl⟩⟩
theorem BX {h:Heap}{V:VL}{M:aV}{X:VS}(A:At h V M X){S:FS}(I:bK X.now S)(C:fZ S)(aw:X.bE=[])(path:List UInt8)(hp:path.length<=140737488351232){kind:Int}(hk:kind=1\/kind=2) :
 aD Tryz.prog 34 [.pointer (some ⟨V.v,0,none⟩),.string (ba path),.int .i64 kind] h (λv h'=>Keeps [V.ob,V.sb,V.mb] h h'/\∃ X',At h' V M X'/\kF M.read X S path kind [] v X'):=by
 have CF:=GJ A I C aw path hp (kind:=kind) (by omega) (data:=[]) (by simp) (λ_=>rfl);rcases hk with rfl|rfl
 ·refine aH aI Tryz.func34 rfl ok34 (by simp [Tryz.f34]) ?_;(conv=>whnf);refine ak.f rfl ?_;(conv=>whnf);refine au.m CF (by simp [aA]) λv h1 k1 hv=>?_;(conv=>whnf);exact ⟨k1,hv⟩
 ·refine aH aI Tryz.func34 rfl ok34 (by simp [Tryz.f34]) ?_;(conv=>whnf);refine ak.f rfl ?_;(conv=>whnf);refine au.m CF (by simp [aA]) λv h1 k1 hv=>?_;(conv=>whnf);exact ⟨k1,hv⟩
theorem Gn {h:Heap}{V:VL}{M:aV}{X:VS}(A:At h V M X){S:FS}(I:bK X.now S)(C:fZ S)(aw:X.bE=[])(path target:List UInt8)(hp:path.length<=140737488351232)(ht:target.length<=140737488351232) :
 aD Tryz.prog 22 [.pointer (some ⟨V.v,0,none⟩),.string (ba path),.string (ba target)] h (λv h'=>Keeps [V.ob,V.sb,V.mb] h h'/\∃ X',At h' V M X' /\
  ((bH target=none/\v=.int .i64 3/\X'=X)\/(bH target≠none/\kF M.read X S path 3 target v X'))):=by
 refine aH aI Tryz.func22 rfl ok22 (by simp [Tryz.f22]) ?_;(conv=>whnf);refine ak.f rfl ?_;(conv=>whnf);refine au.i (wL target ht h) λv h1 k1 hv=>?_;have A1:=A.on k1;cases hpp:bH target with
 | none=>
  rw [hpp] at hv;have hv:v=.tuple #[.slice none 0 0,.int .i64 3]:=hv;subst hv;(conv=>whnf);refine ak.t rfl ?_;(conv=>whnf);exact ⟨k1.mono (by simp),X,A1,.inl ⟨rfl,rfl,rfl⟩⟩
 | some l=>
  rw [hpp] at hv;obtain ⟨a,c,rfl,_,_⟩:=hv;obtain ⟨_,_,p3,_⟩:=mE hpp;(conv=>whnf);refine ak.f rfl ?_;(conv=>whnf);refine au.m (GJ A1 I C aw path hp (kind:=3) (by decide) (data:=target) p3 (λe=>by cases e)) (by simp [aA]) λv h2 k2 hv=>?_;(conv=>whnf);obtain ⟨X',A2,H⟩:=hv;exact ⟨(k1.mono (by simp)).trans k2,X',A2,.inr ⟨by simp,H⟩⟩
def oZ (c:aB):Int:=if c.kind=2 then 7 else 0
def mF (X:VS)(S:FS)(path:List UInt8)(may:aB->Int)(v:Value)(X':VS):Prop:=X'.away=X.away/\X'.bE=X.bE /\
 (
  ((bD (aX S) path).2.2.2≠0/\v=.int .i64 (bD (aX S) path).2.2.2/\X'.now=X.now/\X'.mine=X.mine) \/
  ∃ d nm nd,lU S path d nm nd/\((nd=0/\v=.int .i64 4/\X'.now=X.now/\X'.mine=X.mine)\/(nd≠0/\may (S.C nd)≠0/\v=.int .i64 (may (S.C nd))/\X'.now=X.now/\X'.mine=X.mine) \/
   (nd≠0/\may (S.C nd)=0/\v=.int .i64 0/\(∀ x∈X.mine,x∈X'.mine)/\GK X'.now S d nd nm)))
theorem Gp {h:Heap}{V:VL}{M:aV}{X:VS}(A:At h V M X){S:FS}(I:bK X.now S)(C:fZ S)(Q:uI S)(path:List UInt8)(hp:path.length<=140737488351232) :
 aD Tryz.prog 36 [.pointer (some ⟨V.v,0,none⟩),.string (ba path)] h (λv h'=>Keeps [V.ob,V.sb,V.mb] h h'/\∃ X',At h' V M X'/\mF X S path oZ v X'):=by
 refine aH aI Tryz.func36 rfl ok36 (by simp [Tryz.f36]) ?_;(conv=>whnf);refine au.m (NZ A I C Q path hp (f:=81) (by kernel_rfl) (may:=oZ) (λc h=>Oa c h) (λc hc e=>by unfold oZ at hc;rw [if_pos e] at hc;cases hc)) (by simp [aA]) λv h1 k1 hv=>?_;(conv=>whnf);exact ⟨k1,hv⟩
theorem NV {B:Int->UInt64}{X:VS}{node:Int}{c:aB}{size:Int}(h:(iP B X node c size).2.1=0):(iP B X node c size).1.kind=c.kind/\(iP B X node c size).1.links=c.links/\(iP B X node c size).1.dR=c.dR:=by
 unfold iP at h ⊢;split at h
 ·simp at h
 rename_i h1;rw [if_neg h1];split at h
 ·simp at h
 rename_i h2;rw [if_neg h2];split at h
 ·simp at h
 ·rename_i m hm;simp only at h ⊢;split at h
  ·rename_i h5;rw [if_pos h5];exact Gx (c:={ c with size:=size }) h
  ·rename_i h5;exact absurd h h5
theorem NW {B:Int->UInt64}{X:VS}{n:Int}(hn:0<=n/\n<24){c:aB}{s:List UInt8}{size:Int}(h:(iw s size).2≠0):(iP B X n c size).2.2=X:=by
 unfold iw at h;unfold iP;by_cases h1:size<0
 ·rw [if_pos (.inr h1)]
 ·rw [if_neg h1] at h;rw [if_neg (by rintro (x|x);exact x hn;exact h1 x)];by_cases h2:2688<size
  ·rw [if_pos h2]
  ·rw [if_neg h2] at h;split at h <;> exact absurd rfl h
def sI (X:VS)(S:FS)(path:List UInt8)(size:Int)(v:Value)(X':VS):Prop:=X'.away=X.away/\X'.bE=X.bE /\
 (
  (fU S path≠0/\v=.int .i64 (fU S path)/\X'.now=X.now/\X'.mine=X.mine) \/
  (fU S path=0/\(iw (S.aL (cB S path).1) size).2≠0/\v=.int .i64 (iw (S.aL (cB S path).1) size).2/\X'.now=X.now/\X'.mine=X.mine) \/
  (fU S path=0/\(iw (S.aL (cB S path).1) size).2=0/\v=.int .i64 0/\(∀ x∈X.mine,x∈X'.mine) /\
   ∃ c',c'.kind=(S.C (cB S path).1).kind/\c'.links=(S.C (cB S path).1).links/\bK X'.now (S.put (cB S path).1 c' (S.nm (cB S path).1) (iw (S.aL (cB S path).1) size).1)))
theorem NR {h:Heap}{V:VL}{M:aV}{X:VS}(A:At h V M X){S:FS}(I:bK X.now S)(C:fZ S)(path:List UInt8)(hp:path.length<=140737488351232)(size:Int) :
 aD Tryz.prog 44 [.pointer (some ⟨V.v,0,none⟩),.string (ba path),.int .i64 size] h (λv h'=>Keeps [V.ob,V.sb,V.mb] h h'/\∃ X',At h' V M X'/\sI X S path size v X'):=by
 have bl:=A.blt;have q1:=bl V.ob (by simp [VL.blocks]);have q2:=bl V.sb (by simp [VL.blocks]);have q3:=bl V.mb (by simp [VL.blocks]);refine aH aI Tryz.func44 rfl ok44 (by simp [Tryz.f44]) ?_;(conv=>whnf);refine au.m (BZ A I C path hp) (by simp [aA]) λv h2 k2 hv=>?_;obtain ⟨⟨s,A2⟩,rfl⟩:=hv;have z2:=k2.size;(conv=>whnf);refine aR.i λb3 h3 e3 s3 o3 k3=>?_;(conv=>whnf);refine aN.i λh4 s4 k4=>?_;have k24:Keeps [] h2 h4:=k3.new1 k4 (by omega);have z3:=k3.size;have z4:=k4.size;have A4:=A2.on k24;have kk4:Keeps [V.ob,V.sb,V.mb] h h4:=(k2.mono (by simp)).cu k24;by_cases h0:fU S path=0
 ·obtain ⟨p0,p1,p2,p3,p4⟩:=Ca I C h0;unfold sI;rw [h0,p4];generalize (cB S path).1=n at p1 p2 p3;generalize hX1:({ X with seen:=s }:VS)=X1 at A4;have w1:X1.now=X.now:=by rw [<-hX1]
  have w2:X1.away=X.away:=by rw [<-hX1]
  have w3:X1.bE=X.bE:=by rw [<-hX1]
  have w4:X1.mine=X.mine:=by rw [<-hX1]
  have I1:bK X1.now S:=by rw [w1];exact I
  have hn0:0<=n/\n<24:=⟨by omega,p2⟩;have N:=I1.node n hn0.1 p2;obtain ⟨m,F⟩:=N.file p3;obtain ⟨c1,c2⟩:=Gy (B:=M.read) hn0 F size;have CS:=NV (B:=M.read) (X:=X1) (node:=n) (c:=S.C n) (size:=size);have CN:=NW (B:=M.read) (X:=X1) hn0 (c:=S.C n) (s:=S.aL n) (size:=size);(conv=>whnf);refine ak.f rfl ?_;(conv=>whnf);refine au.m (Gz A4 n (S.C n) F.ok F.mG size) (λy hy hx=>by
   simp [aA,bg] at hy hx;omega) λv h5 k5 hv=>?_
  obtain ⟨rfl,A5⟩:=hv;generalize iP M.read X1 n (S.C n) size=q at c1 c2 CS CN A5;have z5:=k5.size;(conv=>whnf);refine aN.i λh6 s6 k6=>?_;have A6:=A5.keep k6 (λb hb=>by have:=bl b hb;simp;omega);have kk6:Keeps [V.ob,V.sb,V.mb] h h6:=(kk4.trans (k5.mono (by simp))).m1 k6 (by omega);by_cases hr0:(iw (S.aL n) size).2=0
  ·obtain ⟨m',F2,R2,x2,_⟩:=c2 hr0;have hq0:q.2.1=0:=c1.trans hr0;obtain ⟨g1,g2,g3⟩:=CS hq0;have N5:gN q.2.2.now n q.1 (S.nm n) (iw (S.aL n) size).1:=⟨by rw [g1];exact N.kind,λh=>(by rw [g1] at h;omega),λh=>(by rw [g1] at h;omega),λ_=>⟨m',F2⟩⟩;rw [hq0];(conv=>whnf);refine au.m (pX A6 n hn0 q.1 N5.ok N5.right) (λy hy hx=>by
    simp [aA,bg] at hy hx;omega) λv h7 k7 hv=>?_
   obtain ⟨rfl,A7⟩:=hv;(conv=>whnf);obtain ⟨vv,ev⟩:=pY q.2.2 n q.1;have N6:=N5.dR vv;rw [<-ev] at N6;have I6:=I1.set (n:=n) ⟨p1,p2⟩ R2 N6;refine ⟨kk6.trans k7,_,A7,?_,?_,.inr (.inr ⟨rfl,hr0,rfl,λx hx=>qa ?_,_,?_,?_,I6⟩)⟩
   ·show q.2.2.away=_;rw [x2];exact w2
   ·show q.2.2.bE=_;rw [x2];exact w3
   ·rw [x2];show x∈X1.mine;rw [w4];exact hx
   ·rw [ev];exact g1
   ·rw [ev];exact g2
  ·have hq0:q.2.1≠0:=by rw [c1];exact hr0
   (conv=>whnf);refine au.i (zq _ n q.1 q.2.1 hq0) λv h7 k7 hv=>?_;subst hv;(conv=>whnf);have hx:=CN hr0;refine ⟨kk6.cu k7,_,A6.on k7,?_,?_,.inr (.inl ⟨rfl,hr0,by rw [c1],?_,?_⟩)⟩
   ·rw [hx];exact w2
   ·rw [hx];exact w3
   ·rw [hx];exact w1
   ·rw [hx];exact w4
 ·(conv=>whnf);refine ak.t (by simp [h0]) ?_;(conv=>whnf);exact ⟨kk4,_,A4,rfl,rfl,.inl ⟨h0,rfl,rfl,rfl⟩⟩
theorem NS {h:Heap}{V:VL}{M:aV}{X:VS}(A:At h V M X){S:FS}(I:bK X.now S)(C:fZ S)(path:List UInt8)(hp:path.length<=140737488351232) :
 aD Tryz.prog 23 [.pointer (some ⟨V.v,0,none⟩),.string (ba path)] h (λv h'=>Keeps [V.sb] h h'/\(∃ s,At h' V M { X with seen:=s }) /\
  v=(if (aW (aX S) path false).2=0 then (if (S.C (aW (aX S) path false).1).kind=3 then .tuple #[.string (ba (iO (S.aL (aW (aX S) path false).1) 0 120).1),.int .i64 (iO (S.aL (aW (aX S) path false).1) 0 120).2] else .tuple #[.string (ba []),.int .i64 1]) else .tuple #[.string (ba []),.int .i64 (aW (aX S) path false).2])):=by
 have bl:=A.blt;have q2:=bl V.sb (by simp [VL.blocks]);refine aH aI Tryz.func23 rfl ok23 (by simp [Tryz.f23]) ?_;(conv=>whnf);refine au.m (uK A I C path hp false) (by simp [aA]) λv h2 k2 hv=>?_;obtain ⟨rfl,s,A2⟩:=hv;have z2:=k2.size;have hin:=λh0=>zo I C (path:=path) (follow:=false) h0;generalize aW (aX S) path false=r at hin;unfold lW;(conv=>whnf);refine aR.i λb3 h3 e3 s3 o3 k3=>?_;(conv=>whnf);refine aN.i λh4 s4 k4=>?_;have k24:Keeps [] h2 h4:=k3.new1 k4 (by omega);have A4:=A2.on k24;have kk4:Keeps [V.sb] h h4:=k2.cu k24;by_cases h0:r.2=0
 ·obtain ⟨n0,n24,hkn⟩:=hin h0;rw [h0,if_pos rfl,if_pos rfl];(conv=>whnf);refine ak.f rfl ?_;by_cases hk:(S.C r.1).kind=3
  ·obtain ⟨m,F⟩:=(I.node r.1 (by omega) n24).file (.inr hk);have F':gm ({ X with seen:=s }:VS).now r.1 (S.C r.1) m (S.aL r.1):=F;rw [if_pos hk];(conv=>whnf);refine ak.f (by simp [hk]) ?_;(conv=>whnf);refine au.i (Cb A4 (S.C r.1) F.ok F.szr F'.mG 0 120) λv h5 k5 hv=>?_;subst hv;rw [Cc F'];(conv=>whnf);exact ⟨kk4.cu k5,⟨s,A4.on k5⟩,rfl⟩
  ·rw [if_neg hk];(conv=>whnf);refine ak.t (by simp [hk]) ?_;(conv=>whnf);exact ⟨kk4,⟨s,A4⟩,rfl⟩
 ·rw [if_neg h0,if_neg h0];(conv=>whnf);refine ak.t (by simp [h0]) ?_;(conv=>whnf);exact ⟨kk4,⟨s,A4⟩,rfl⟩
def vE (S:FS)(path:List UInt8):Int:=if (aW (aX S) path true).2=0/\(S.C (aW (aX S) path true).1).kind≠2 then 6 else (aW (aX S) path true).2
def vN (S:FS)(path:List UInt8):List (List UInt8):=if vE S path=0 then fV (S.nm (aW (aX S) path true).1) else []
theorem NT {h:Heap}{V:VL}{M:aV}{X:VS}(A:At h V M X){S:FS}(I:bK X.now S)(C:fZ S)(path:List UInt8)(hp:path.length<=140737488351232) :
 aD Tryz.prog 20 [.pointer (some ⟨V.v,0,none⟩),.string (ba path)] h (λv h'=>Keeps [V.sb] h h'/\(∃ s,At h' V M { X with seen:=s })/\Gu h h' (vN S path) v (vE S path)/\(∀ x∈vN S path,x.length<=140737488351232)/\(vN S path).length<=105):=by
 have bl:=A.blt;have msb:V.sb∈V.blocks:=by simp [VL.blocks]
 have q2:=bl V.sb msb;refine aH aI Tryz.func20 rfl ok20 (by simp [Tryz.f20]) ?_;(conv=>whnf);refine au.m (uK A I C path hp true) (by simp [aA]) λv h1 k1 hv=>?_;obtain ⟨rfl,s,A1⟩:=hv;have z1:=k1.size;have I1:bK ({ X with seen:=s }:VS).now S:=I;by_cases h0:(aW (aX S) path true).2=0
 ·obtain ⟨x0,x1,xk⟩:=zo I C h0;unfold lW;rw [if_pos h0];(conv=>whnf);refine aR.i λb3 h3 e3 s3 o3 k3=>?_;(conv=>whnf);refine aN.i λh4 s4 k4=>?_;have k14:Keeps [] h1 h4:=k3.new1 k4 (by omega);have z3:=k3.size;have z4:=k4.size;have A4:=A1.on k14;have kk4:Keeps [V.sb] h h4:=k1.cu k14;have N:=I.node (aW (aX S) path true).1 (by omega) x1;(conv=>whnf);refine ak.f (by simp [h0]) ?_;(conv=>whnf);refine au.i (Gv A4 (S.C (aW (aX S) path true).1) N.ok) λv h5 k5 hv=>?_;have hv':∃ (a:Option Addr) (cc:Nat) (l:List aF),v=.tuple #[.slice a l.length cc,.int .i64 (vE S path)]/\Own h5 93 2 a l.length cc (bS l)/\(∀ y∈ay a,h4.size<=y)/\(∀ e∈l,e.ok)/\l.length<=105/\fV l=vN S path:=by
   by_cases hk:(S.C (aW (aX S) path true).1).kind=2
   ·have hE:vE S path=0:=by unfold vE;rw [if_neg (λh=>h.2 hk)];exact h0
    have hN:vN S path=fV (S.nm (aW (aX S) path true).1):=by unfold vN;rw [if_pos hE]
    obtain ⟨m,D⟩:=N.dir hk;have D':eu ({ X with seen:=s }:VS).now (aW (aX S) path true).1 (S.C (aW (aX S) path true).1) m (S.nm (aW (aX S) path true).1):=D;rw [D'.open_] at hv;unfold uL at hv;rw [if_pos rfl] at hv;obtain ⟨a,cc,rfl,O5,n5,ok5⟩:=hv;rw [hE,hN];exact ⟨a,cc,_,rfl,O5,n5,ok5,D.few,rfl⟩
   ·have hE:vE S path=6:=by unfold vE;rw [if_pos ⟨h0,hk⟩]
    have hN:vN S path=[]:=by unfold vN;rw [hE,if_neg (by decide)]
    have hop:fu ({ X with seen:=s }:VS).now (S.C (aW (aX S) path true).1)=(6,[],[]):=by unfold fu;rw [if_pos hk]
    rw [hop] at hv;unfold uL at hv;rw [if_neg (by decide)] at hv;rw [hE,hN];exact ⟨none,0,[],hv,.inl ⟨rfl,rfl,rfl,rfl⟩,λb hb=>(by cases hb),λe he=>(by cases he),Nat.zero_le _,rfl⟩
  clear hv;obtain ⟨a,cc,l,rfl,O5,n5,ok5,l5,NU⟩:=hv';rw [<-NU];generalize vE S path=e at *;have z5:=k5.size;have A5:=A4.on k5;have kk5:=kk4.cu k5;have S5:=jX O5 ok5 (by omega);(conv=>whnf);refine bP.on [8,10,29,30,31] [] (λq:Nat×Option Addr×Nat=>[(8,.v (.int .i64 e)),(10,.v (.slice q.2.1 q.1 q.2.2)),(29,.v (.slice a l.length cc)),(30,.v (.int .i64 (l.length:Int))),(31,.v (.int .i64 (q.1:Int)))]) (λ_=>[])
   (λq h'=>q.1<=l.length/\Keeps [] h5 h'/\Own h' 9 1 q.2.1 q.1 q.2.2 ((bq ((fV l).take q.1)).map λx=>.string x)/\(∀ b∈ay q.2.1,h5.size<=b)) (λq=>l.length-q.1) (0,none,0) ?_ ?_
  ·(conv=>whnf);exact ⟨(0,none,0),rfl,rfl,rfl,Nat.zero_le _,Keeps.refl _ _,.inl ⟨rfl,rfl,rfl,rfl⟩,λb hb=>(by cases hb)⟩
  ·rintro ⟨i,a6,c6⟩ h6 ⟨hi,k6,O6,n6⟩;simp only at hi O6 n6;have z6:=k6.size;(conv=>whnf);refine ak.i (λhd=>?_) (λhd=>?_)
   ·have hi1:i<l.length:=by simpa using hd
    obtain ⟨b7,o7,hb7,_,⟨rfl,hok⟩,hc7⟩:=(S5.keep k6).at_ i hi1;have hnl:i<(fV l).length:=by rw [pu];exact hi1
    have htl:((fV l).take i).length=i:=by rw [List.length_take];omega
    have hnx:(fV l).take (i+1)=(fV l).take i++[(l[i]'hi1).name]:=by
     rw [List.take_succ_eq_append_getElem hnl];simp [fV]
    (conv=>whnf);refine aQ.i i rfl hi1 hb7 ?_;(conv=>whnf);refine eY.i (vs:=(l[i]'hi1).cells) rfl (λj hj=>hc7 j hj) ?_;(conv=>whnf);refine aR.i λb8 h8 e8 s8 o8 k8=>?_;(conv=>whnf);refine aN.i λh9 s9 k9=>?_;have z8:=k8.size;have z9:=k9.size;have k69:Keeps [] h6 h9:=k8.new1 k9 (by omega);(conv=>whnf);refine aR.i λb10 h10 e10 s10 o10 k10=>?_;have z10:=k10.size;(conv=>whnf);refine Gw (s:=(l[i]'hi1).name) ((O6.keep k69 (by simp)).keep k10 (by simp)) htl.symm (by omega) (by simp only [Heap.cell?,o10];rfl) (λy hy hx=>?_) ?_
    ·have:=O6.lt y hy;simp [aA,bg] at hx;omega
    intro a11 c11 h11 O11 k11 n11;have ew:IntKind.i64.wrap ((i:Int)+1)=((i+1:Nat):Int):=wrapN (by simp) (by omega);(conv=>whnf);refine ⟨l.length-(i+1),by omega,?_⟩;(conv=>whnf);rw [ew];refine ⟨(i+1,a11,c11),rfl,rfl,rfl,hi1,((k6.trans k69).trans k10).dL k11 n6,by rw [hnx];exact O11,λb hb=>?_⟩;rcases n11 b hb with h|h
    ·exact n6 b h
    ·omega
   ·have hi1:i=l.length:=by simp at hd;omega
    (conv=>whnf);have ht:(fV l).take i=fV l:=by rw [hi1,<-pu,List.take_length]
    rw [ht] at O6;subst hi1;refine ⟨kk5.cu k6,⟨s,A5.on k6⟩,⟨a6,c6,by rw [pu],by rw [pu];exact O6,λb hb=>by have:=n6 b hb;omega⟩,λx hx=>?_,by rw [pu];exact l5⟩;obtain ⟨y,hy,rfl⟩:=List.mem_map.1 hx;exact (ok5 y hy).1
 ·unfold lW;rw [if_neg h0];(conv=>whnf);refine aR.i λb3 h3 e3 s3 o3 k3=>?_;(conv=>whnf);refine aN.i λh4 s4 k4=>?_;have k14:Keeps [] h1 h4:=k3.new1 k4 (by omega);(conv=>whnf);refine ak.t (by simp [h0]) ?_;(conv=>whnf);have hE:vE S path=(aW (aX S) path true).2:=by unfold vE;rw [if_neg (λh=>h0 h.1)]
  have hN:vN S path=[]:=by unfold vN;rw [if_neg (by rw [hE];exact h0)]
  rw [hN,hE];exact ⟨k1.cu k14,⟨s,A1.on k14⟩,⟨none,0,rfl,.inl ⟨rfl,rfl,rfl,rfl⟩,λb hb=>(by cases hb)⟩,λx hx=>(by cases hx),Nat.zero_le _⟩
def oU (c:aB):aB:={ c with links:=c.links+1 }
def sM (B:Int->UInt64)(X:VS)(S:FS)(old name:List UInt8)(v:Value)(X':VS):Prop:=X'.away=X.away/\X'.bE=X.bE /\
 (
  ((aW (aX S) old false).2≠0/\v=.int .i64 (aW (aX S) old false).2/\X'.now=X.now/\X'.mine=X.mine) \/
  ((aW (aX S) old false).2=0/\(S.C (aW (aX S) old false).1).kind=2/\v=.int .i64 7/\X'.now=X.now/\X'.mine=X.mine) \/
  (
   (aW (aX S) old false).2=0/\(S.C (aW (aX S) old false).1).kind≠2 /\
   (
    ((bD (aX S) name).2.2.2≠0/\v=.int .i64 (bD (aX S) name).2.2.2/\X'.now=X.now/\X'.mine=X.mine) \/
    ∃ d nm nd,lU S name d nm nd/\((nd≠0/\v=.int .i64 5/\X'.now=X.now/\X'.mine=X.mine) \/
     (nd=0/\255<=(S.C (aW (aX S) old false).1).links/\v=.int .i64 10/\X'.now=X.now/\X'.mine=X.mine) \/
     (nd=0/\(S.C (aW (aX S) old false).1).links<255/\v=.int .i64 9/\(bB B X 96<2\/10<=(S.nm d).length)) \/
     (nd=0/\(S.C (aW (aX S) old false).1).links<255/\v=.int .i64 0/\(∀ x∈X.mine,x∈X'.mine)/\bB B X 96<=bB B X' 96+2/\∃ c2 c1,c2.kind=(S.C (aW (aX S) old false).1).kind/\c2.links=(S.C (aW (aX S) old false).1).links+1/\c1.kind=2/\c1.links=1 /\
      bK X'.now ((S.put (aW (aX S) old false).1 c2 (S.nm (aW (aX S) old false).1) (S.aL (aW (aX S) old false).1)).put d c1 (bF (S.nm d) ⟨nm,(aW (aX S) old false).1⟩) (S.aL d)))))))
theorem NN {h:Heap}{V:VL}{M:aV}{X:VS}(A:At h V M X){S:FS}(I:bK X.now S)(C:fZ S)(old name:List UInt8)(ho:old.length<=140737488351232)(hp:name.length<=140737488351232) :
 aD Tryz.prog 42 [.pointer (some ⟨V.v,0,none⟩),.string (ba old),.string (ba name)] h (λv h'=>Keeps [V.ob,V.sb,V.mb] h h'/\∃ X',At h' V M X'/\sM M.read X S old name v X'):=by
 have bl:=A.blt;have q1:=bl V.ob (by simp [VL.blocks]);have q2:=bl V.sb (by simp [VL.blocks]);have q3:=bl V.mb (by simp [VL.blocks]);refine aH aI Tryz.func42 rfl ok42 (by simp [Tryz.f42]) ?_;(conv=>whnf);refine au.m (uK A I C old ho false) (by simp [aA]) λv h1 k1 hv=>?_;obtain ⟨rfl,s,A1⟩:=hv;have z1:=k1.size;have hin:=λh0=>zo I C (path:=old) (follow:=false) h0;unfold sM;generalize aW (aX S) old false=r at hin;unfold lW;(conv=>whnf);refine aR.i λb2 h2 e2 s2 o2 k2=>?_;(conv=>whnf);refine aN.i λh3 s3 k3=>?_;have k13:Keeps [] h1 h3:=k2.new1 k3 (by omega);have z2:=k2.size;have z3:=k3.size;have A3:=A1.on k13;have kk3:Keeps [V.ob,V.sb,V.mb] h h3:=(k1.mono (by simp)).cu k13;by_cases h0:r.2=0
 ·obtain ⟨n0,n24,hkn⟩:=hin h0;rw [h0,if_pos rfl];generalize r.1=n at n0 n24 hkn;have hn0:0<=n/\n<24:=⟨by omega,n24⟩;generalize hX1:({ X with seen:=s }:VS)=X1 at A3;have w1:X1.now=X.now:=by rw [<-hX1]
  have w2:X1.away=X.away:=by rw [<-hX1]
  have w3:X1.bE=X.bE:=by rw [<-hX1]
  have w4:X1.mine=X.mine:=by rw [<-hX1]
  have w5:bB M.read X1 96=bB M.read X 96:=by rw [<-hX1];rfl
  have I1:bK X1.now S:=by rw [w1];exact I
  have N:=I1.node n hn0.1 n24;(conv=>whnf);refine ak.f rfl ?_;by_cases hkd:(S.C n).kind=2
  ·(conv=>whnf);refine ak.t (by simp [hkd]) ?_;(conv=>whnf);exact ⟨kk3,X1,A3,w2,w3,.inr (.inl ⟨rfl,hkd,rfl,w1,w4⟩)⟩
  ·have jY:(S.C n).kind=1\/(S.C n).kind=3:=by have:=N.kind;omega
   obtain ⟨m,F⟩:=N.file jY;have hlk:=F.kind.2;(conv=>whnf);refine ak.f (by simp [hkd]) ?_;(conv=>whnf);refine au.m (GN A3 I1 C name hp) (λy hy hx=>by
    simp [aA,bg] at hy hx;omega) λv h4 k4 hv=>?_
   obtain ⟨⟨s4,A4⟩,d',c',gI,nd',rfl,hq⟩:=hv;have z4:=k4.size;(conv=>whnf);refine aR.i λb5 h5 e5 s5 o5 k5=>?_;(conv=>whnf);refine aN.i λh6 s6 k6=>?_;have k46:Keeps [] h4 h6:=k5.new1 k6 (by omega);have z5:=k5.size;have z6:=k6.size;have A6:=A4.on k46;have kk6:Keeps [V.ob,V.sb,V.mb] h h6:=kk3.trans ((k4.mono (by simp)).cu k46);by_cases he:(bD (aX S) name).2.2.2=0
   ·obtain ⟨d,nm,nd,P⟩:=uN I C he;rw [P.is] at hq ⊢;obtain ⟨t1,t2,t3,t4⟩:=hq rfl;have t1:d=d':=t1.symm;have t3:nm=gI:=t3.symm;have t4:nd=nd':=t4.symm;subst t1 t3 t4;have t2:c'=S.C d:=t2;subst t2;simp only;by_cases hnd:nd=0
    ·subst hnd;have hfe:=P.new I C;have hdn:n≠d:=λe=>hkd (by rw [e];exact P.kind);(conv=>whnf);refine ak.f rfl ?_;by_cases Mi:255<=(S.C n).links
     ·(conv=>whnf);refine ak.t (by simp [Mi]) ?_;(conv=>whnf);exact ⟨kk6,_,A6,w2,w3,.inr (.inr ⟨trivial,hkd,.inr ⟨d,nm,0,P,.inr (.inl ⟨rfl,Mi,rfl,w1,w4⟩)⟩⟩)⟩
     ·(conv=>whnf);refine ak.f (by simp;omega) ?_;(conv=>whnf);refine aN.i λh7 s7 k7=>?_;have A7:=A6.keep k7 (λb hb=>by have:=bl b hb;simp;omega);have kk7:=kk6.m1 k7 (by omega);have z7:=k7.size;have F7:gm X1.now n (oU (S.C n)) m (S.aL n):=⟨F.map,F.wk,⟨F.kind.1,by show 0<=(S.C n).links+1;omega,by show (S.C n).links+1<=255;omega⟩,F.size,F.fits,F.aL,F.hol,F.kG⟩;have CS:=pX A7 n hn0 (oU (S.C n)) F7.ok F7.right;have hcells:(oU (S.C n)).cells=[.int .i64 (S.C n).kind,.int .i64 (IntKind.i64.wrap ((S.C n).links+1)),.int .i64 (S.C n).size,wv (S.C n).dR,.int .i64 (S.C n).d0,.int .i64 (S.C n).d1,.int .i64 (S.C n).d2,.int .i64 (S.C n).d3,.int .i64 (S.C n).d4,.int .i64 (S.C n).more]:=by
       rw [dQ (by omega) (by omega)];rfl
      rw [hcells] at CS;(conv=>whnf);refine au.m CS (λy hy hx=>by
       simp [aA,bg] at hy hx;omega) λv h8 k8 hv=>?_
      obtain ⟨rfl,A8⟩:=hv;have z8:=k8.size;(conv=>whnf);refine ak.f rfl ?_;obtain ⟨vv,ev⟩:=pY ({ X1 with seen:=s4 }:VS) n (oU (S.C n));have N7:gN X1.now n (oU (S.C n)) (S.nm n) (S.aL n):=⟨N.kind,λh=>absurd h hkn,λh=>(by have h:(S.C n).kind=2:=h;omega),λ_=>⟨m,F7⟩⟩;have N8:=N7.dR vv;have I8:=I1.set (n:=n) ⟨n0,n24⟩ (Fr.refl _ _) N8;rw [<-ev] at I8;have hkd1:(S.put n (iy ({ X1 with seen:=s4 }:VS) n (oU (S.C n))) (S.nm n) (S.aL n)).C d=S.C d:=if_neg (λe=>hdn e.symm);have hnm1:(S.put n (iy ({ X1 with seen:=s4 }:VS) n (oU (S.C n))) (S.nm n) (S.aL n)).nm d=S.nm d:=if_neg (λe=>hdn e.symm);have hby1:(S.put n (iy ({ X1 with seen:=s4 }:VS) n (oU (S.C n))) (S.nm n) (S.aL n)).aL d=S.aL d:=if_neg (λe=>hdn e.symm);have Vw:bK (dX ({ X1 with seen:=s4 }:VS) n (iy ({ X1 with seen:=s4 }:VS) n (oU (S.C n)))).now (S.put n (iy ({ X1 with seen:=s4 }:VS) n (oU (S.C n))) (S.nm n) (S.aL n)):=I8;(conv=>whnf);refine au.m (zB A8 Vw P.bG (by rw [hkd1];exact P.kind) P.name P.len (by rw [hnm1];exact hfe) (S.C d) 0 n ⟨by omega,n24⟩) (λy hy hx=>by
       simp [aA,bg] at hy hx;omega) λv h9 k9 hv=>?_
      obtain ⟨X9,A9,x1,x2,H⟩:=hv;(conv=>whnf);have hf8:bB M.read (dX ({ X1 with seen:=s4 }:VS) n (iy ({ X1 with seen:=s4 }:VS) n (oU (S.C n)))) 96=bB M.read X 96:=by
       rw [zC n24];exact w5
      rw [hnm1,hby1,hf8] at H;refine ⟨(kk7.trans k8).trans k9,X9,A9,x1.trans w2,x2.trans w3,.inr (.inr ⟨trivial,hkd,.inr ⟨d,nm,0,P,.inr (.inr ?_)⟩⟩)⟩;rcases H with ⟨rfl,H⟩|⟨rfl,g1,g2,c1,g3,g4,g5⟩
      ·refine .inl ⟨rfl,by omega,rfl,?_⟩;rcases H with H|H
       ·exact .inl H
       ·right
        have h6:pz (S.nm d) nm<=(S.nm d).length:=List.length_filter_le _ _;have h7:10<=nL (bR nm):=by unfold nL;split <;> omega
        omega
      ·refine .inr ⟨rfl,by omega,rfl,λx hx=>g2 x (qa (by show x∈X1.mine;rw [w4];exact hx)),g1,_,c1,?_,?_,g4,g5,g3⟩
       ·rw [ev];rfl
       ·rw [ev];rfl
    ·(conv=>whnf);refine ak.t (by simp [hnd]) ?_;(conv=>whnf);refine ⟨kk6,_,A6,w2,w3,.inr (.inr ⟨trivial,hkd,.inr ⟨d,nm,nd,P,.inl ⟨hnd,?_,w1,w4⟩⟩⟩)⟩;rw [if_neg (by simp),if_pos hnd]
   ·(conv=>whnf);refine ak.t (by simp [he]) ?_;(conv=>whnf);refine ⟨kk6,_,A6,w2,w3,.inr (.inr ⟨rfl,hkd,.inl ⟨he,?_,w1,w4⟩⟩)⟩;rw [if_pos he]
 ·rw [if_neg h0];(conv=>whnf);refine ak.t (by simp [h0]) ?_;(conv=>whnf);exact ⟨kk3,_,A3,rfl,rfl,.inl ⟨h0,rfl,rfl,rfl⟩⟩
theorem VB {m:List Int}(hl:m.length=21)(h:∀ j,j<21->aM m j = -1):m=ig:=by
 apply List.ext_getElem (by rw [hl];rfl);intro j h1 h2;have:=h j (by omega);unfold aM at this;rw [List.getElem?_eq_getElem h1] at this;have e:=xV j;unfold aM at e;rw [List.getElem?_eq_getElem h2] at e;exact this.trans e.symm
theorem VD {B:Int->UInt64}{node:Int}(hn:0<=node/\node<24){X:VS}{c:aB}(hk:c.kind=2/\c.links=1)(W:Wk X.now node c.more ig) :
 (eD B X node { c with size:=0 } ig).2.1=0/\eu (eD B X node { c with size:=0 } ig).2.2.now node (eD B X node { c with size:=0 } ig).1 ig []/\Fr node X.now (eD B X node { c with size:=0 } ig).2.2.now:=by
 have hu:(ig.drop 5).any eH=false:=by decide
 rcases ul (B:=B) (c:={ c with size:=0 }) hn W with ⟨_,_,_,h⟩|K
 ·rw [hu] at h;cases h
 ·refine ⟨K.e,⟨K.map,K.wk,?_,?_,λi hi hu=>absurd (xV i) hu,?_,List.Pairwise.nil,K.kG⟩,K.fr⟩
  ·rw [K.c_];exact hk
  ·rw [K.c_];rfl
  ·have:dS (eD B X node { c with size:=0 } ig).2.2.now ig=[]:=by
    unfold dS;rw [List.flatMap_eq_nil_iff];intro i _;exact mV (xV i)
   rw [this]
theorem Vy {h:Heap}{V:VL}{M:aV}{X:VS}(A:At h V M X){node:Int}(hn:0<=node/\node<24){c:aB}{m:List Int}{l:List aF}(D:eu X.now node c m l) :
 aD Tryz.prog 208 [.pointer (some ⟨V.v,0,none⟩),.int .i64 node,.agg ⟨c.cells⟩] h (λv h'=>Keeps [V.ob] h h'/\∃ c' X',v=.tuple #[.agg ⟨c'.cells⟩,.int .i64 0]/\At h' V M X'/\X'.away=X.away/\X'.bE=X.bE /\
  eu X'.now node c' ig []/\Fr node X.now X'.now/\X'.mine=X.mine):=by
 have hvb:=A.blt;have qC:=hvb V.ob (by simp [VL.blocks]);obtain ⟨_,hc⟩:=D.right;have hop:=D.open_;refine aH aI Tryz.func208 rfl ok208 (by simp [Tryz.f208]) ?_;(conv=>whnf);refine aR.i λb1 h1 e1 s1 o1 k1=>?_;(conv=>whnf);refine aR.i λb2 h2 e2 s2 o2 k2=>?_;(conv=>whnf);refine au.i (ES node h2) λv h4 k4 hv=>?_;subst hv;rw [if_pos hn];have k04:=(k1.trans k2).trans k4;(conv=>whnf);refine ak.f rfl ?_;(conv=>whnf);refine au.i (yj (A.on k04) c hc) λv h5 k5 hv=>?_;have k05:=k04.trans k5;unfold r9 at hv;rw [hop,if_pos rfl] at hv;obtain ⟨b,L,a,cc,rfl,B5,nB,O5,nO,ok⟩:=hv;have z1:=k1.size;have z2:=k2.size;have z4:=k4.size;have z5:=k5.size;have yu:∀ x∈BL.blocks b L,x∉V.blocks:=λx hx hx2=>by have:=nB x hx;have:=hvb x hx2;omega
 simp only at B5 ⊢;have hnd:=B5.jm;simp only [BL.blocks,List.nodup_cons,List.mem_cons,not_or] at hnd;have WZ:h4.size<=L.pb:=nB L.pb (by simp [BL.blocks]);have W9:L.pb<h5.size:=B5.lt L.pb (by simp [BL.blocks]);have hbn:h4.size<=b:=nB b (by simp [BL.blocks]);(conv=>whnf);refine ak.f rfl ?_;(conv=>whnf);refine ax.o B5.obj rfl ?_;(conv=>whnf);refine bP.on [0,1,5,6,9,36,37,38] [5,6] (λi:Nat=>[(0,.v (.pointer (some ⟨V.v,0,none⟩))),(1,.v (.int .i64 node)),(5,.lp 5 0),(6,.lp 6 0),(9,.v (.pointer (some ⟨b,0,none⟩))),(36,.v (.slice (some ⟨L.pb,0,none⟩) 21 L.iH)),(37,.v (.int .i64 21)),(38,.v (.int .i64 (i:Int)))]) (λ_=>[(5,b1,c.cells),(6,b2,aB.zero.cells)])
  (λi h'=>i<=21/\Keeps [V.ob,L.pb] h5 h'/\∃ X' m',At h' V M X'/\X'.away=X.away/\X'.bE=X.bE/\X'.mine=X.mine/\Fr node X.now X'.now/\Wk X'.now node c.more m'/\fw h' L.pb m' L.sp/\∀ j,j<i->aM m' j = -1) (λi=>21-i) 0 ?_ ?_
 ·(conv=>whnf);exact ⟨0,rfl,rfl,rfl,Nat.zero_le _,Keeps.refl _ _,X,m,A.on k05,rfl,rfl,rfl,Fr.refl _ _,D.wk,B5.pl,λj hj=>by omega⟩
 ·rintro i h6 ⟨hi,k6,X6,m6,A6,aw6,an6,am6,F6,W6,P6,H6⟩;have hml:=W6.len;have z6:=k6.size;have ob6:=k6.obj B5.obj (by simp;exact ⟨by omega,hnd.1.1⟩);have in6:∀ x∈m6,inI64 x:=W6.rV.in64;have S6:=P6.sl in6 (n:=21) (cap:=L.iH) hml.symm B5.cap (by rw [hml];decide);(conv=>whnf);refine ak.i (λhd=>?_) (λhd=>?_)
  ·have hi1:i<m6.length:=by simp at hd;omega
   have hi2:i<21:=by omega
   have hpi:aM m6 i=m6[i]:=by unfold aM;rw [List.getElem?_eq_getElem hi1];rfl
   obtain ⟨b7,o7,hb7,_,hc7⟩:=S6.at1 i hi1;(conv=>whnf);(try refine aU.pass ?_;conv=>whnf);refine aQ.i i rfl (by omega) hb7 ?_;(conv=>whnf);refine ax.i hc7 ?_;(conv=>whnf);refine ak.i (λhe=>?_) (λhe=>?_)
   ·have hx:m6[i] = -1:=by simpa [One.val] using he
    (conv=>whnf);refine ⟨21-(i+1),by omega,?_⟩;(conv=>whnf);refine ⟨i+1,rfl,by rw [wrapN (n:=i+1) (by simp) (by omega)],rfl,by omega,k6,X6,m6,A6,aw6,an6,am6,F6,W6,P6,λj hj=>?_⟩;by_cases e:j=i
    ·subst e;rw [hpi];exact hx
    ·exact H6 j (by omega)
   ·have hx:m6[i] ≠ -1:=by simpa [One.val] using he
    obtain ⟨hk,hw,W8,F8,_,_⟩:=W6.drop_at hn hi2 (k:=m6[i]) (by rw [<-hpi];rfl) hx;have hdp:fI X6 m6[i]=(0,{ X6 with now:=upd X6.now (200+m6[i]) 0 }):=by
     unfold fI;rw [if_pos hk,if_neg (by rw [hw];exact ic hn)]
    have DS:=DX A6 m6[i];rw [hdp] at DS;(conv=>whnf);refine au.m DS ?_ λv h8 k8 hv=>?_
    ·intro y hy hx;have hy2:y=b1\/y=b2:=by simpa [aA,bg,or_comm] using hy
     simp at hx;omega
    obtain ⟨rfl,A8⟩:=hv;have ob8:=k8.obj ob6 (by simp;omega);have P8:fw h8 L.pb m6 L.sp:=k8.obj P6 (by simp;omega);have S8:=P8.sl in6 (n:=21) (cap:=L.iH) hml.symm B5.cap (by rw [hml];decide);(conv=>whnf);refine ak.f rfl ?_;(conv=>whnf);refine ax.o ob8 rfl ?_;(conv=>whnf);refine aQ.i i rfl (by omega) rfl ?_;have hpl8:0+i*1+1<=(m6.map (λx=>Value.int .i64 x)++L.sp).length:=by rw [List.length_append,List.length_map];omega
    (conv=>whnf);refine dO.i P8 hpl8 ?_ λh9 s9 o9 k9=>?_
    ·intro hx;have hy2:L.pb=b1\/L.pb=b2:=by simpa [aA,bg,or_comm] using hx
     omega
    have EU:fw h9 L.pb (m6.set i (-1)) L.sp:=by
     have e:=ints_set (m:=m6) (sp:=L.sp) (i:=i) (x := -1) hi1;unfold fw;rw [<-e];exact o9
    (conv=>whnf);refine ⟨21-(i+1),by omega,?_⟩;(conv=>whnf);refine ⟨i+1,rfl,by rw [wrapN (n:=i+1) (by simp) (by omega)],rfl,by omega,k6.trans ((k8.mono (by simp)).trans (k9.mono (by simp))),_,m6.set i (-1),A8.keep k9 (λy hy=>by have:=hvb y hy;simp;omega),aw6,an6,am6,F6.trans F8 (ic hn),W8,EU,λj hj=>?_⟩;rw [xW hi1];by_cases e:j=i
    ·rw [if_pos e]
    ·rw [if_neg e];exact H6 j (by omega)
  ·have hi1:i=21:=by simp at hd;omega
   subst hi1;obtain rfl:=VB hml H6;obtain ⟨r1,r2,r3⟩:=VD (B:=M.read) (X:=X6) hn D.kind W6;have aw:=K5 M.read X6 node { c with size:=0 } ig;have am:(eD M.read X6 node { c with size:=0 } ig).2.2.mine=X6.mine:=by
    rcases ul (B:=M.read) (c:={ c with size:=0 }) hn W6 with ⟨_,_,_,h⟩|K
    ·have hu:(ig.drop 5).any eH=false:=by decide
     rw [hu] at h;cases h
    ·rw [K.x]
   have yw:({ c with size:=0 }:aB).cells=bC (0+2) (cellsOf (.int .i64 0)) c.cells:=rfl;(conv=>whnf);refine aN.i λh7 s7 k7=>?_;have ob7:=k7.obj ob6 (by simp;omega);have P7:fw h7 L.pb ig L.sp:=k7.obj P6 (by simp;omega);have S7:=P7.sl in6 (n:=21) (cap:=L.iH) hml.symm B5.cap (by rw [hml];decide);have A7:=A6.keep k7 (λy hy=>by have:=hvb y hy;simp;omega);have KS:=AB A7 node { c with size:=0 } S7 (λ_=>by simp [ay];omega);rw [yw] at KS;(conv=>whnf);refine ax.o ob7 rfl ?_;(conv=>whnf);refine au.m KS ?_ λv h8 k8 hv=>?_
   ·intro y hy hx;have hy2:y=b1\/y=b2:=by simpa [aA,bg,or_comm] using hy
    simp at hx;omega
   obtain ⟨rfl,A8⟩:=hv;(conv=>whnf);refine aN.i λh9 s9 k9=>?_;(conv=>whnf);rw [r1];have kk:Keeps [V.ob] h h9:=(((k05.mono (by simp)).gL k6 (λy hy=>by simp at hy;rcases hy with rfl|rfl;exact .inl (by simp);right;omega)).gL k7 (λy hy=>by simp at hy;right;omega)).trans k8 |>.gL k9 (λy hy=>by simp at hy;right;omega);exact ⟨kk,_,_,rfl,A8.keep k9 (λy hy=>by have:=hvb y hy;simp;omega),aw.1.trans aw6,aw.2.trans an6,r2,F6.trans r3 (ic hn),am.trans am6⟩
theorem eu.bare {now:Int->UInt64}{n:Int}{c:aB}(D:eu now n c ig []):∀ x,0<=x->x<96->now (200+x)≠w64 (n+1):=by
 have hmore:c.more = -1:=D.kG.2 (by decide);intro x x0 x1 e;have:=(D.wk.own x x0 x1).2 e;rw [hmore] at this;have hu:gV (-1) ig=[]:=by decide
 rw [hu] at this;cases this
theorem Vx {h:Heap}{V:VL}{M:aV}{X:VS}(A:At h V M X){n:Int}(hn:0<=n/\n<24){c:aB}{m:List Int}{l:List aF}(D:eu X.now n c m l) :
 aD Tryz.prog 207 [.pointer (some ⟨V.v,0,none⟩),.int .i64 n,.agg ⟨c.cells⟩,.int .i64 0] h (λv h'=>Keeps [V.ob] h h'/\∃ c' X',v=.tuple #[.agg ⟨c'.cells⟩,.int .i64 0]/\At h' V M X'/\X'.away=X.away/\X'.bE=X.bE /\
  eu X'.now n c' ig []/\Fr n X.now X'.now/\X'.mine=X.mine):=by
 have bl:=A.blt;have q1:=bl V.ob (by simp [VL.blocks]);refine aH aI Tryz.func207 rfl ok207 (by simp [Tryz.f207]) ?_;(conv=>whnf);refine aR.i λb1 h1 e1 s1 o1 k1=>?_;(conv=>whnf);refine aR.i λb2 h2 e2 s2 o2 k2=>?_;have z1:=k1.size;have z2:=k2.size;(conv=>whnf);refine au.m (Vy (A.on (k1.trans k2)) hn D) (λy hy hx=>by
  simp [aA,bg] at hy hx;omega) λv h3 k3 hv=>?_
 obtain ⟨c',X',rfl,A3,a1,a2,a3,a4,a5⟩:=hv;have z3:=k3.size;(conv=>whnf);refine aN.i λh4 s4 k4=>?_;(conv=>whnf);exact ⟨(((k1.trans k2).mono (by simp)).trans k3).m1 k4 (by omega),c',X',rfl,A3.keep k4 (λb hb=>by have:=bl b hb;simp;omega),a1,a2,a3,a4,a5⟩
theorem Vz {h:Heap}{V:VL}{M:aV}{X:VS}(A:At h V M X){S:FS}(I:bK X.now S){n:Int}(hn:0<n/\n<24)(hk:(S.C n).kind=2) :
 aD Tryz.prog 139 [.pointer (some ⟨V.v,0,none⟩),.int .i64 n,.agg ⟨(S.C n).cells⟩] h (λv h'=>Keeps [V.ob,V.sb,V.mb] h h'/\v=.int .i64 0/\∃ X',At h' V M X'/\X'.away=X.away/\X'.bE=X.bE/\(∀ x∈X.mine,x∈X'.mine) /\
  ∃ vv,bK X'.now (S.put n (fQ vv) [] [])):=by
 have bl:=A.blt;have hn0:0<=n/\n<24:=⟨by omega,hn.2⟩;have N:=I.node n hn0.1 hn0.2;obtain ⟨m,D⟩:=N.dir hk;have q1:=bl V.ob (by simp [VL.blocks]);have q2:=bl V.sb (by simp [VL.blocks]);have q3:=bl V.mb (by simp [VL.blocks]);refine aH aI Tryz.func139 rfl ok139 (by simp [Tryz.f139]) ?_;(conv=>whnf);refine aR.i λb1 h1 e1 s1 o1 k1=>?_;have z1:=k1.size;(conv=>whnf);(try refine aU.pass ?_;conv=>whnf);refine ak.t (by simp [hk]) ?_;(conv=>whnf);refine au.m (Vx (A.on k1) hn0 D) (λy hy hx=>by
  simp [aA,bg] at hy hx;omega) λv h2 k2 hv=>?_
 obtain ⟨c',X2,rfl,A2,a1,a2,D2,R2,a5⟩:=hv;have z2:=k2.size;(conv=>whnf);refine aR.i λb3 h3 e3 s3 o3 k3=>?_;(conv=>whnf);refine aN.i λh4 s4 k4=>?_;have k24:Keeps [] h2 h4:=k3.new1 k4 (by omega);have A4:=A2.on k24;have z3:=k3.size;have z4:=k4.size;(conv=>whnf);refine au.m (pX A4 n hn0 c' D2.right.2 D2.right.1) (λy hy hx=>by
  simp [aA,bg] at hy hx;omega) λv h5 k5 hv=>?_
 obtain ⟨rfl,A5⟩:=hv;(conv=>whnf);refine ak.f rfl ?_;have z5:=k5.size;(conv=>whnf);refine au.m (GL A5 n) (λy hy hx=>by
  simp [aA,bg] at hy hx;omega) λv h6 k6 hv=>?_
 obtain ⟨rfl,A6⟩:=hv;(conv=>whnf);obtain ⟨vv,ev⟩:=pY X2 n c';have N2:gN X2.now n c' [] []:=⟨by rw [D2.kind.1];decide,λh=>(by rw [D2.kind.1] at h;cases h),λ_=>⟨ig,D2⟩,λh=>(by rw [D2.kind.1] at h;omega)⟩;have N3:=N2.dR vv;rw [<-ev] at N3;have I2:=I.set hn R2 N3;have hcr:gU (bU (dX X2 n (iy X2 n c')).now (8+n*8) 8)=some (iy X2 n c'):=by
  show gU (bU (setW X2.now n _) (8+n*8) 8)=_;rw [zw];exact qZ N3.right
 have hrel:sO (dX X2 n (iy X2 n c')) n=(0,dX (eP (dX X2 n (iy X2 n c')) n) n (fQ ((iy X2 n c').dR+1))):=by
  unfold sO;rw [if_pos hn0,hcr];simp only;rw [if_neg (by rw [ev];show ¬ c'.kind=0;rw [D2.kind.1];decide)]
 rw [hrel] at A6 ⊢;have I3:=I2.set hn (Fr.refl n _) (zA ((iy X2 n c').dR+1) (λx x0 x1=>by
  rw [uO hn.2 (by omega)];exact D2.bare x x0 x1))
 rw [FS.Ch] at I3;refine ⟨((k1.mono (by simp)).trans ((k2.mono (by simp)).cu k24)).trans (k5.trans k6),rfl,_,A6,a1,a2,λx hx=>?_,_,I3⟩;refine qa (qa ?_);rw [a5];exact hx
def pq (c:aB):Int:=if c.kind≠2 then 6 else if 0<c.size then 8 else 0
theorem VA (c:aB)(h:Heap):aD Tryz.prog 90 [.agg ⟨c.cells⟩] h (λv h'=>Keeps [] h h'/\v=.int .i64 (pq c)):=by
 refine aH aI Tryz.func90 rfl ok90 (by simp [Tryz.f90]) ?_;(conv=>whnf);refine aR.i λb1 h1 e1 s1 o1 k1=>?_;unfold pq;by_cases hk:c.kind=2
 ·rw [if_neg (by simp [hk])];(conv=>whnf);(try refine aU.pass ?_;conv=>whnf);refine ak.f (by simp [hk]) ?_;by_cases hs:0<c.size
  ·rw [if_pos hs];(conv=>whnf);(try refine aU.pass ?_;conv=>whnf);refine ak.t (by simp [hs]) ?_;(conv=>whnf);exact ⟨k1,rfl⟩
  ·rw [if_neg hs];(conv=>whnf);(try refine aU.pass ?_;conv=>whnf);refine ak.f (by simp;omega) ?_;(conv=>whnf);exact ⟨k1,rfl⟩
 ·rw [if_pos hk];(conv=>whnf);(try refine aU.pass ?_;conv=>whnf);refine ak.t (by simp [hk]) ?_;(conv=>whnf);exact ⟨k1,rfl⟩
theorem NP {h:Heap}{V:VL}{M:aV}{X:VS}(A:At h V M X){S:FS}(I:bK X.now S)(C:fZ S)(Q:uI S)(path:List UInt8)(hp:path.length<=140737488351232) :
 aD Tryz.prog 43 [.pointer (some ⟨V.v,0,none⟩),.string (ba path)] h (λv h'=>Keeps [V.ob,V.sb,V.mb] h h'/\∃ X',At h' V M X'/\mF X S path pq v X'):=by
 have bl:=A.blt;have q1:=bl V.ob (by simp [VL.blocks]);have q2:=bl V.sb (by simp [VL.blocks]);have q3:=bl V.mb (by simp [VL.blocks]);refine aH aI Tryz.func43 rfl ok43 (by simp [Tryz.f43]) ?_;(conv=>whnf);refine au.m (?_:aD Tryz.prog 80 [.pointer (some ⟨V.v,0,none⟩),.string (ba path),.func (.func 90) #[] #[]] h (λv h'=>Keeps [V.ob,V.sb,V.mb] h h'/\∃ X',At h' V M X'/\mF X S path pq v X')) (by simp [aA]) λv h1 k1 hv=>?_
 ·refine aH aI Tryz.func80 rfl ok80 (by simp [Tryz.f80]) ?_;(conv=>whnf);refine au.m (wM A I C path hp) (by simp [aA]) λv h1 k1 hv=>?_;obtain ⟨rfl,s,A1⟩:=hv;have z1:=k1.size;by_cases he:(bD (aX S) path).2.2.2=0
  ·obtain ⟨d,nm,nd,P⟩:=uN I C he;unfold mF;rw [P.is];have hsp:lX S (d,nm,nd,0)=qY d (S.C d) nm nd:=by unfold lX;rw [if_pos rfl];rfl
   rw [hsp];generalize hX1:({ X with seen:=s }:VS)=X1 at A1;have w1:X1.now=X.now:=by rw [<-hX1]
   have w2:X1.away=X.away:=by rw [<-hX1]
   have w3:X1.bE=X.bE:=by rw [<-hX1]
   have w4:X1.mine=X.mine:=by rw [<-hX1]
   have I1:bK X1.now S:=by rw [w1];exact I
   (conv=>whnf);refine aR.i λb2 h2 e2 s2 o2 k2=>?_;(conv=>whnf);refine aN.i λh3 s3 k3=>?_;have k13:Keeps [] h1 h3:=k2.new1 k3 (by omega);have z2:=k2.size;have z3:=k3.size;have A3:=A1.on k13;(conv=>whnf);refine ak.f rfl ?_;by_cases hnd:nd=0
   ·subst hnd;(conv=>whnf);refine ak.t rfl ?_;(conv=>whnf);exact ⟨(k1.mono (by simp)).cu k13,X1,A3,w2,w3,.inr ⟨d,nm,0,P,.inl ⟨rfl,rfl,w1,w4⟩⟩⟩
   ·obtain ⟨en,hfe,hen,hmem,n0,n24,hkn⟩:=P.there I C hnd;have hne:nd≠d:=by rw [<-hen];exact Q d P.bG.1 P.bG.2 P.kind en hmem
    have N:=I1.node nd (by omega) n24;have hcr:gU (bU X1.now (8+nd*8) 8)=some (S.C nd):=by rw [I1.card nd (by omega) n24];exact qZ N.right
    (conv=>whnf);refine ak.f (by simp [hnd]) ?_;(conv=>whnf);refine au.m (sN A3 nd) (λy hy hx=>by
     simp [aA,bg] at hy hx;omega) λv h4 k4 hv=>?_
    rw [if_pos ⟨by omega,n24⟩,hcr] at hv;obtain ⟨rfl,A4⟩:=hv;have z4:=k4.size;unfold qb;(conv=>whnf);refine aR.i λb5 h5 e5 s5 o5 k5=>?_;(conv=>whnf);refine aN.i λh6 s6 k6=>?_;have k46:Keeps [] h4 h6:=k5.new1 k6 (by omega);have z5:=k5.size;have z6:=k6.size;(conv=>whnf);refine ak.f (by simp [hkn]) ?_;(conv=>whnf);refine au.i (VA (S.C nd) h6) λv h7 k7 hv=>?_;subst hv;have z7:=k7.size;have A7:=A4.on (k46.trans k7);have I7:bK (eP X1 nd).now S:=I1;have kk7:Keeps [V.ob,V.sb,V.mb] h h7:=((k1.mono (by simp)).cu k13).trans ((k4.mono (by simp)).cu (k46.trans k7));by_cases hm:pq (S.C nd)=0
    ·rw [hm];have hkd:(S.C nd).kind=2:=by
      apply Classical.byContradiction;intro hk;unfold pq at hm;rw [if_pos hk] at hm;cases hm
     (conv=>whnf);refine ak.f rfl ?_;(conv=>whnf);refine au.m (Cg A7 I7 P.bG P.kind P.len hfe nd) (λy hy hx=>by
      simp [aA,bg] at hy hx;omega) λv h8 k8 hv=>?_
     obtain ⟨rfl,X2,A8,a1,a2,a3,c1,I8,hc1,hc2⟩:=hv;have z8:=k8.size;have eC:(S.put d c1 ((S.nm d).eraseIdx (aO (S.nm d) nm)) (S.aL d)).C nd=S.C nd:=if_neg hne;obtain ⟨mf,D8⟩:=N.dir hkd;have hlk:(S.C nd).links=1:=D8.kind.2;(conv=>whnf);refine ak.f rfl ?_;(conv=>whnf);refine ak.f (by rw [hlk];rfl) ?_;have CG:=Vz A8 I8 (n:=nd) ⟨n0,n24⟩ (by rw [eC];exact hkd);rw [eC] at CG;(conv=>whnf);refine au.m CG (λy hy hx=>by
      simp [aA,bg] at hy hx;omega) λv h9 k9 hv=>?_
     obtain ⟨rfl,X3,A9,b1,b2,b3,vv,I9⟩:=hv;(conv=>whnf);refine ⟨(kk7.trans k8).trans k9,X3,A9,?_,?_,.inr ⟨d,nm,nd,P,.inr (.inr ⟨hnd,hm,rfl,λx hx=>b3 x (a3 x ?_),c1,hc1,hc2,.inr ⟨by omega,vv,I9⟩⟩)⟩⟩
     ·rw [b1,a1];exact w2
     ·rw [b2,a2];exact w3
     ·show x∈X1.mine;rw [w4];exact hx
    ·(conv=>whnf);refine ak.t (by simp [hm]) ?_;(conv=>whnf);exact ⟨kk7,_,A7,w2,w3,.inr ⟨d,nm,nd,P,.inr (.inl ⟨hnd,hm,rfl,w1,w4⟩)⟩⟩
  ·unfold mF;generalize bD (aX S) path=r at he;obtain ⟨d',c',gI,nd',hsp,_⟩:=wN S r;rw [hsp];(conv=>whnf);refine aR.i λb2 h2 e2 s2 o2 k2=>?_;(conv=>whnf);refine aN.i λh3 s3 k3=>?_;have k13:Keeps [] h1 h3:=k2.new1 k3 (by omega);(conv=>whnf);refine ak.t (by simp [he]) ?_;(conv=>whnf);exact ⟨(k1.mono (by simp)).cu k13,_,A1.on k13,rfl,rfl,.inl ⟨he,rfl,rfl,rfl⟩⟩
 ·(conv=>whnf);exact ⟨k1,hv⟩
inductive kZ (S:FS) (y:Int):Int->Prop
 | refl:kZ S y y
 | head {x:Int} {e:aF}:(S.C x).kind=2->e∈S.nm x->kZ S y e.node->kZ S y x
theorem Ml {S:FS}{y x:Int}(hne:y≠x):kZ S y x↔(S.C x).kind=2/\∃ e∈S.nm x,kZ S y e.node:=by
 constructor
 ·intro h;cases h with
  | refl=>exact absurd rfl hne
  | head h1 h2 h3=>exact ⟨h1,_,h2,h3⟩
 ·rintro ⟨h1,e,h2,h3⟩;exact .head h1 h2 h3
def zf (S:FS)(rk:Int->Nat):Prop:=∀ x,0<x->x<24->(S.C x).kind=2->∀ e∈S.nm x,rk e.node<rk x
theorem Mj {M:aV}{V:VL}{S:FS}(C:fZ S){rk:Int->Nat}(hr:zf S rk)(hz:(S.C 0).kind=0)(dir:Int):∀ (n:Nat) (of:Int) (h:Heap) (X:VS),rk of<n->0<of/\of<24/\(S.C of).kind≠0->At h V M X->bK X.now S ->
 aD Tryz.prog 62 [.pointer (some ⟨V.v,0,none⟩),.int .i64 dir,.int .i64 of] h (λv h'=>Keeps [V.sb] h h'/\(∃ s,At h' V M { X with seen:=s })/\∃ b:Bool,v=.tuple #[.bool b,.int .i64 0]/\(b=true↔kZ S dir of))
 | 0,_,_,_,hn,_,_,_=>by omega
 | n+1,of,h,X,hn,ho,A,I=>by
  have bl:=A.blt;have q2:=bl V.sb (by simp [VL.blocks]);obtain ⟨o0,o24,ok⟩:=ho;have hcr:gU (bU X.now (8+of*8) 8)=some (S.C of):=by rw [I.card of (by omega) o24];exact qZ (I.node of (by omega) o24).right
  refine aH aI Tryz.func62 rfl ok62 (by simp [Tryz.f62]) ?_;(conv=>whnf);by_cases hdo:dir=of
  ·subst hdo;refine ak.t (by simp) ?_;(conv=>whnf);exact ⟨Keeps.refl _ _,⟨X.seen,A⟩,true,rfl,λ_=>.refl,λ_=>rfl⟩
  ·refine ak.f (by simp [hdo]) ?_;(conv=>whnf);refine au.m (sN A of) (by simp [aA]) λv h1 k1 hv=>?_;rw [if_pos ⟨by omega,o24⟩,hcr] at hv;obtain ⟨rfl,A1⟩:=hv;have z1:=k1.size;unfold qb;(conv=>whnf);refine aR.i λb2 h2 e2 s2 o2 k2=>?_;(conv=>whnf);refine aN.i λh3 s3 k3=>?_;have k13:Keeps [] h1 h3:=k2.new1 k3 (by omega);have z2:=k2.size;have z3:=k3.size;have A3:=A1.on k13;have kk3:Keeps [V.sb] h h3:=k1.cu k13;by_cases hk:(S.C of).kind=2
   ·have N:=I.node of (by omega) o24;obtain ⟨m,D⟩:=N.dir hk;have D':eu (eP X of).now of (S.C of) m (S.nm of):=D;(conv=>whnf);refine ak.f (by simp [hk]) ?_;(conv=>whnf);refine au.i (Gv A3 (S.C of) N.ok) λv h4 k4 hv=>?_;rw [D'.open_] at hv;unfold uL at hv;rw [if_pos rfl] at hv;obtain ⟨a,cc,rfl,O4,nO,EP⟩:=hv;simp only at O4 EP ⊢;have hlf:=D.few;have z4:=k4.size;have A4:=A3.on k4;have SE:=jX O4 EP (by omega);(conv=>whnf);refine ak.f rfl ?_;(conv=>whnf);refine bP.on [0,1,41,42,43] [] (λq:Nat×VS=>[(0,.v (.pointer (some ⟨V.v,0,none⟩))),(1,.v (.int .i64 dir)),(41,.v (.slice a (S.nm of).length cc)),(42,.v (.int .i64 ((S.nm of).length:Int))),(43,.v (.int .i64 (q.1:Int)))]) (λ_=>[])
     (λq h'=>q.1<=(S.nm of).length/\Keeps [V.sb] h h'/\h3.size<=h'.size/\Sl h' a (S.nm of).length cc (S.nm of)/\(∃ s,q.2={ X with seen:=s })/\At h' V M q.2/\∀ e∈(S.nm of).take q.1,¬ kZ S dir e.node) (λq=>(S.nm of).length-q.1) (0,eP X of) ?_ ?_
    ·(conv=>whnf);exact ⟨(0,eP X of),rfl,rfl,rfl,Nat.zero_le _,kk3.cu k4,by omega,SE,⟨_,rfl⟩,A4,by simp⟩
    ·rintro ⟨i,X5⟩ h5 ⟨hi,k5,z5,S5,⟨s5,hs5⟩,A5,n5⟩;simp only at hi hs5 A5 n5;(conv=>whnf);refine ak.i (λhd=>?_) (λhd=>?_)
     ·have hi1:i<(S.nm of).length:=by simp at hd;omega
      obtain ⟨b6,o6,hb6,_,⟨rfl,hok⟩,hc6⟩:=S5.at_ i hi1;have hem:=List.getElem_mem hi1;obtain ⟨c1,c2,c3⟩:=C.names of (by omega) o24 hk _ hem;have hne0:(S.nm of)[i].node≠0:=λe=>c3 (by rw [e];exact hz);have U8:=hr of o0 o24 hk _ hem;have I5:bK X5.now S:=by rw [hs5];exact I
      have IH:=λ(hh:Heap) (A':At hh V M X5)=>Mj C hr hz dir n (S.nm of)[i].node hh X5 (by omega) ⟨by omega,c2,c3⟩ A' I5;(conv=>whnf);refine aQ.i i rfl hi1 hb6 ?_;(conv=>whnf);refine eY.i (vs:=(S.nm of)[i].cells) rfl (λj hj=>hc6 j hj) ?_;(conv=>whnf);refine aR.i λb7 h7 e7 s7 o7 k7=>?_;have z7:=k7.size;(conv=>whnf);refine aN.i λh8 s8 k8=>?_;have k58:Keeps [] h5 h8:=k7.new1 k8 (by omega);(conv=>whnf);refine au.m (IH h8 (A5.on k58)) (λy hy hx=>by
       simp [aA,bg] at hy hx;omega) λv h9 k9 hv=>?_
      obtain ⟨⟨s9,A9⟩,b,rfl,hb⟩:=hv;have z9:=k9.size;have k09:Keeps [V.sb] h h9:=(k5.cu k58).trans k9;have hs9:({ X5 with seen:=s9 }:VS)={ X with seen:=s9 }:=by rw [hs5]
      rw [hs9] at A9;cases b with
      | true=>
       (conv=>whnf);refine ak.t rfl ?_;(conv=>whnf);exact ⟨k09,⟨s9,A9⟩,true,rfl,λ_=>.head hk hem (hb.1 rfl),λ_=>rfl⟩
      | false=>
       (conv=>whnf);refine ak.f rfl ?_;(conv=>whnf);refine ⟨(S.nm of).length-(i+1),by omega,?_⟩;(conv=>whnf);have nE:∀ y∈ay a,y∉[V.sb]:=λy hy hx=>by have:=nO y hy;simp at hx;omega
       refine ⟨(i+1,{ X with seen:=s9 }),rfl,by rw [wrapN (x:=(i:Int)+1) (n:=i+1) (by simp) (by omega)],rfl,hi1,k09,by omega,(S5.keep k58).je k9 nE,⟨s9,rfl⟩,A9,λe he=>?_⟩;rw [List.take_succ_eq_append_getElem hi1,List.mem_append] at he;rcases he with he|he
       ·exact n5 e he
       ·obtain rfl:=List.mem_singleton.1 he;exact λhbe=>by have:=hb.2 hbe;cases this
     ·have hi1:i=(S.nm of).length:=by simp at hd;omega
      (conv=>whnf);rw [hs5] at A5;refine ⟨k5,⟨s5,A5⟩,false,rfl,λh=>(by cases h),λh=>?_⟩;obtain ⟨_,e,he,hbe⟩:=(Ml hdo).1 h;exact absurd hbe (n5 e (by rw [hi1,List.take_length];exact he))
   ·(conv=>whnf);refine ak.t (by simp [hk]) ?_;(conv=>whnf);refine ⟨kk3,⟨_,A3⟩,false,rfl,λh=>(by cases h),λh=>?_⟩;exact absurd ((Ml hdo).1 h).1 hk
set_option maxHeartbeats 8000000
theorem VE {l:List aF}{nm:List UInt8}(h:cK l nm=none)(k:Nat):cK (l.eraseIdx k) nm=none:=by
 unfold cK at h ⊢;rw [List.find?_eq_none] at h ⊢;exact λe he=>h e (List.mem_of_mem_eraseIdx he)
def sJ (X:VS)(S:FS)(old name:List UInt8)(v:Value)(X':VS):Prop:=X'.away=X.away/\X'.bE=X.bE /\
 (
  ((bH old=none\/bH name=none)/\v=.int .i64 3/\X'.now=X.now/\X'.mine=X.mine) \/
  (
   bH old≠none/\bH name≠none/\(((bD (aX S) old).2.2.2≠0/\v=.int .i64 (bD (aX S) old).2.2.2/\X'.now=X.now/\X'.mine=X.mine) \/
   ∃ d nm nd,lU S old d nm nd/\((nd=0/\v=.int .i64 4/\X'.now=X.now/\X'.mine=X.mine)\/(nd≠0 /\
    (
     ((bD (aX S) name).2.2.2≠0/\v=.int .i64 (bD (aX S) name).2.2.2/\X'.now=X.now/\X'.mine=X.mine) \/
     ∃ f nm2 nd2,lU S name f nm2 nd2/\((nd2=nd/\v=.int .i64 0/\X'.now=X.now/\X'.mine=X.mine) \/
      (nd2≠nd/\kZ S f nd/\v=.int .i64 1/\X'.now=X.now/\X'.mine=X.mine) \/
      (nd2≠nd/\¬ kZ S f nd/\nd2≠0/\v=.int .i64 5/\X'.now=X.now/\X'.mine=X.mine) \/
      (nd2=0/\¬ kZ S f nd/\v=.int .i64 9) \/
      (nd2=0/\¬ kZ S f nd/\v=.int .i64 0/\(∀ x∈X.mine,x∈X'.mine)/\∃ c1 c2,c1.kind=2/\c1.links=1/\c2.kind=2/\c2.links=1 /\
       bK X'.now ((S.put d c1 ((S.nm d).eraseIdx (aO (S.nm d) nm)) (S.aL d)).put f c2 (bF ((S.put d c1 ((S.nm d).eraseIdx (aO (S.nm d) nm)) (S.aL d)).nm f) ⟨nm2,nd⟩) (S.aL f))))))))))
theorem NQ {h:Heap}{V:VL}{M:aV}{X:VS}(A:At h V M X){S:FS}(I:bK X.now S)(C:fZ S){rk:Int->Nat}(hr:zf S rk)(old name:List UInt8)(ho:old.length<=140737488351232)(hp:name.length<=140737488351232) :
 aD Tryz.prog 21 [.pointer (some ⟨V.v,0,none⟩),.string (ba old),.string (ba name)] h (λv h'=>Keeps [V.ob,V.sb,V.mb] h h'/\∃ X',At h' V M X'/\sJ X S old name v X'):=by
 have bl:=A.blt;have q1:=bl V.ob (by simp [VL.blocks]);have q2:=bl V.sb (by simp [VL.blocks]);have q3:=bl V.mb (by simp [VL.blocks]);refine aH aI Tryz.func21 rfl ok21 (by simp [Tryz.f21]) ?_;(conv=>whnf);refine ak.f rfl ?_;(conv=>whnf);refine aR.i λb1 h1 e1 s1 o1 k1=>?_;have z1:=k1.size;have S1:Sl h1 (some ⟨b1,0,none⟩) 2 2 (bq [old,name]):=Sl.l7 (α:=ByteArray) (n:=2) o1 (λx hx=>by
  have:x=ba old\/x=ba name:=by simpa [bq] using hx
  rcases this with rfl|rfl
  ·show mK (ba old);unfold mK;rw [dN];exact ho
  ·show mK (ba name);unfold mK;rw [dN];exact hp) rfl (by show 2<=281474976710656;decide)
 (conv=>whnf);refine bP.on [0,1,2,20,21,22] [] (λi:Nat=>[(0,.v (.pointer (some ⟨V.v,0,none⟩))),(1,.v (.string (ba old))),(2,.v (.string (ba name))),(20,.v (.slice (some ⟨b1,0,none⟩) 2 2)),(21,.v (.int .i64 2)),(22,.v (.int .i64 (i:Int)))]) (λ_=>[])
  (λi h'=>i<=2/\Keeps [] h h'/\Sl h' (some ⟨b1,0,none⟩) 2 2 (bq [old,name])/\(1<=i->bH old≠none)/\(2<=i->bH name≠none)) (λi=>2-i) 0 ?_ ?_
 ·(conv=>whnf);exact ⟨0,rfl,rfl,rfl,by decide,k1,S1,λh=>by omega,λh=>by omega⟩
 ·rintro i h2 ⟨hi,k2,S2,p1,p2⟩;have A2:=A.on k2;(conv=>whnf);refine ak.i (λhd=>?_) (λhd=>?_)
  ·have hi1:i<2:=by simp at hd;omega
   have hib:i<(bq [old,name]).length:=hi1;obtain ⟨b3,o3,hb3,_,⟨rfl,_⟩,hc3⟩:=S2.at_ i hib;obtain ⟨pt,hpt,hpl,hpn⟩:∃ pt:List UInt8,(bq [old,name])[i]=ba pt/\pt.length<=140737488351232/\(bH pt=none->bH old=none\/bH name=none)/\(bH pt≠none->(1<=i+1->bH old≠none)/\(2<=i+1->bH name≠none)):=by
    have:i=0\/i=1:=by omega
    rcases this with rfl|rfl
    ·exact ⟨old,rfl,ho,.inl,λh=>⟨λ_=>h,λh2=>by omega⟩⟩
    ·exact ⟨name,rfl,hp,.inr,λh=>⟨λ_=>p1 (by decide),λ_=>h⟩⟩
   rw [hpt] at hc3;(conv=>whnf);refine aQ.i i rfl hi1 hb3 ?_;(conv=>whnf);refine ax.i (hc3 0 (by show 0<1;decide)) ?_;(conv=>whnf);refine au.i (wL pt hpl h2) λv h4 k4 hv=>?_;cases hpp:bH pt with
   | none=>
    rw [hpp] at hv;have hv:v=.tuple #[.slice none 0 0,.int .i64 3]:=hv;subst hv;(conv=>whnf);refine ak.t rfl ?_;(conv=>whnf);exact ⟨(k2.trans k4).mono (by simp),X,A2.on k4,rfl,rfl,.inl ⟨hpn.1 hpp,rfl,rfl,rfl⟩⟩
   | some l=>
    rw [hpp] at hv;obtain ⟨a,c,rfl,_,_⟩:=hv;obtain ⟨g1,g2⟩:=hpn.2 (by rw [hpp];simp);(conv=>whnf);refine ak.f rfl ?_;(conv=>whnf);refine ⟨2-(i+1),by omega,?_⟩;(conv=>whnf);exact ⟨i+1,rfl,by rw [wrapN (x:=(i:Int)+1) (n:=i+1) (by simp) (by omega)],rfl,hi1,k2.trans k4,S2.keep k4,g1,g2⟩
  ·have hi1:i=2:=by simp at hd;omega
   subst hi1;have po:=p1 (by decide);have pn:=p2 (by decide);have z2:=k2.size;(conv=>whnf);refine au.m (wM A2 I C old ho) (by simp [aA]) λv h3 k3 hv=>?_;obtain ⟨rfl,s3,A3⟩:=hv;have z3:=k3.size;have kk3:Keeps [V.ob,V.sb,V.mb] h h3:=(k2.mono (by simp)).trans (k3.mono (by simp));unfold sJ;by_cases he:(bD (aX S) old).2.2.2=0
   ·obtain ⟨d,nm,nd,P⟩:=uN I C he;rw [P.is];have hsp:lX S (d,nm,nd,0)=qY d (S.C d) nm nd:=by unfold lX;rw [if_pos rfl];rfl
    rw [hsp];generalize hX1:({ X with seen:=s3 }:VS)=X1 at A3;have w1:X1.now=X.now:=by rw [<-hX1]
    have w2:X1.away=X.away:=by rw [<-hX1]
    have w3:X1.bE=X.bE:=by rw [<-hX1]
    have w4:X1.mine=X.mine:=by rw [<-hX1]
    have I1:bK X1.now S:=by rw [w1];exact I
    (conv=>whnf);refine aR.i λb4 h4 e4 s4 o4 k4=>?_;(conv=>whnf);refine aN.i λh5 s5 k5=>?_;have k35:Keeps [] h3 h5:=k4.new1 k5 (by omega);have z4:=k4.size;have z5:=k5.size;have A5:=A3.on k35;(conv=>whnf);refine ak.f rfl ?_;by_cases hnd:nd=0
    ·subst hnd;(conv=>whnf);refine ak.t rfl ?_;(conv=>whnf);exact ⟨kk3.cu k35,X1,A5,w2,w3,.inr ⟨po,pn,.inr ⟨d,nm,0,P,.inl ⟨rfl,rfl,w1,w4⟩⟩⟩⟩
    ·obtain ⟨en,hfe,hen,hmem,n0,n24,hkn⟩:=P.there I C hnd;(conv=>whnf);refine ak.f (by simp [hnd]) ?_;(conv=>whnf);refine au.m (wM A5 I1 C name hp) (λy hy hx=>by
      simp [aA,bg] at hy hx;omega) λv h6 k6 hv=>?_
     obtain ⟨rfl,s6,A6⟩:=hv;have z6:=k6.size;have kk6:Keeps [V.ob,V.sb,V.mb] h h6:=(kk3.cu k35).trans (k6.mono (by simp));by_cases he2:(bD (aX S) name).2.2.2=0
     ·obtain ⟨f,nm2,nd2,Q⟩:=uN I C he2;rw [Q.is];have hsp2:lX S (f,nm2,nd2,0)=qY f (S.C f) nm2 nd2:=by unfold lX;rw [if_pos rfl];rfl
      rw [hsp2];generalize hX2:({ X1 with seen:=s6 }:VS)=X2 at A6;have v1:X2.now=X.now:=by rw [<-hX2];exact w1
      have v2:X2.away=X.away:=by rw [<-hX2];exact w2
      have v3:X2.bE=X.bE:=by rw [<-hX2];exact w3
      have v4:X2.mine=X.mine:=by rw [<-hX2];exact w4
      have I2:bK X2.now S:=by rw [v1];exact I
      (conv=>whnf);refine aR.i λb7 h7 e7 s7 o7 k7=>?_;(conv=>whnf);refine aN.i λh8 s8 k8=>?_;have k68:Keeps [] h6 h8:=k7.new1 k8 (by omega);have z7:=k7.size;have z8:=k8.size;have A8:=A6.on k68;have kk8:=kk6.cu k68;(conv=>whnf);refine ak.f rfl ?_;by_cases hsame:nd2=nd
      ·(conv=>whnf);refine ak.t (by simp [hsame]) ?_;(conv=>whnf);exact ⟨kk8,X2,A8,v2,v3,.inr ⟨po,pn,.inr ⟨d,nm,nd,P,.inr ⟨hnd,.inr ⟨f,nm2,nd2,Q,.inl ⟨hsame,rfl,v1,v4⟩⟩⟩⟩⟩⟩
      ·(conv=>whnf);refine ak.f (by simp [hsame]) ?_;(conv=>whnf);refine au.m (Mj C hr I.zero f (rk nd+1) nd h8 X2 (Nat.lt_succ_self _) ⟨n0,n24,hkn⟩ A8 I2) (λy hy hx=>by
        simp [aA,bg] at hy hx;omega) λv h9 k9 hv=>?_
       obtain ⟨⟨s9,A9⟩,b,rfl,hb⟩:=hv;have z9:=k9.size;have kk9:Keeps [V.ob,V.sb,V.mb] h h9:=kk8.trans (k9.mono (by simp));(conv=>whnf);refine ak.f rfl ?_;cases b with
       | true=>
        (conv=>whnf);refine ak.t rfl ?_;(conv=>whnf);exact ⟨kk9,_,A9,v2,v3,.inr ⟨po,pn,.inr ⟨d,nm,nd,P,.inr ⟨hnd,.inr ⟨f,nm2,nd2,Q,.inr (.inl ⟨hsame,hb.1 rfl,rfl,v1,v4⟩)⟩⟩⟩⟩⟩
       | false=>
        have hnb:¬ kZ S f nd:=λhx=>by have:=hb.2 hx;cases this
        (conv=>whnf);refine ak.f rfl ?_;by_cases hn2:nd2=0
        ·subst hn2;have hfe2:=Q.new I C;have I9:bK ({ X2 with seen:=s9 }:VS).now S:=I2;(conv=>whnf);refine ak.f rfl ?_;(conv=>whnf);refine au.m (Cg A9 I9 P.bG P.kind P.len hfe nd) (λy hy hx=>by
          simp [aA,bg] at hy hx;omega) λv h10 k10 hv=>?_
         obtain ⟨rfl,X3,A10,a1,a2,a3,c1,I10,hc1,hc2⟩:=hv;have z10:=k10.size;(conv=>whnf);refine ak.f rfl ?_;have jY:((S.put d c1 ((S.nm d).eraseIdx (aO (S.nm d) nm)) (S.aL d)).C f).kind=2:=by
          show (if f=d then c1 else S.C f).kind=2;by_cases e:f=d
          ·rw [if_pos e];exact hc1
          ·rw [if_neg e];exact Q.kind
         have VF:cK ((S.put d c1 ((S.nm d).eraseIdx (aO (S.nm d) nm)) (S.aL d)).nm f) nm2=none:=by
          show cK (if f=d then (S.nm d).eraseIdx (aO (S.nm d) nm) else S.nm f) nm2=none;by_cases e:f=d
          ·rw [if_pos e];refine VE ?_ _;rw [<-e];exact hfe2
          ·rw [if_neg e];exact hfe2
         have hbf:(S.put d c1 ((S.nm d).eraseIdx (aO (S.nm d) nm)) (S.aL d)).aL f=S.aL f:=by
          show (if f=d then S.aL d else S.aL f)=_;by_cases e:f=d
          ·rw [if_pos e,e]
          ·rw [if_neg e]
         (conv=>whnf);refine au.m (zB A10 I10 Q.bG jY Q.name Q.len VF (S.C f) 0 nd ⟨by omega,n24⟩) (λy hy hx=>by
          simp [aA,bg] at hy hx;omega) λv h11 k11 hv=>?_
         obtain ⟨X4,A11,x1,x2,H⟩:=hv;rw [hbf] at H;(conv=>whnf);refine ⟨(kk9.trans k10).trans k11,X4,A11,x1.trans (a1.trans v2),x2.trans (a2.trans v3),.inr ⟨po,pn,.inr ⟨d,nm,nd,P,.inr ⟨hnd,.inr ⟨f,nm2,0,Q,.inr (.inr (.inr ?_))⟩⟩⟩⟩⟩;rcases H with ⟨rfl,_⟩|⟨rfl,g1,g2,c2,g3,g4,g5⟩
         ·exact .inl ⟨rfl,hnb,rfl⟩
         ·refine .inr ⟨rfl,hnb,rfl,λx hx=>g2 x (a3 x ?_),c1,c2,hc1,hc2,g4,g5,g3⟩;show x∈X2.mine;rw [v4];exact hx
        ·(conv=>whnf);refine ak.t (by simp [hn2]) ?_;(conv=>whnf);exact ⟨kk9,_,A9,v2,v3,.inr ⟨po,pn,.inr ⟨d,nm,nd,P,.inr ⟨hnd,.inr ⟨f,nm2,nd2,Q,.inr (.inr (.inl ⟨hsame,hnb,hn2,rfl,v1,v4⟩))⟩⟩⟩⟩⟩
     ·generalize bD (aX S) name=r at he2;obtain ⟨d',c',gI,nd',FQ,_⟩:=wN S r;rw [FQ];(conv=>whnf);refine aR.i λb7 h7 e7 s7 o7 k7=>?_;(conv=>whnf);refine aN.i λh8 s8 k8=>?_;have k68:Keeps [] h6 h8:=k7.new1 k8 (by omega);(conv=>whnf);refine ak.t (by simp [he2]) ?_;(conv=>whnf);exact ⟨kk6.cu k68,_,A6.on k68,w2,w3,.inr ⟨po,pn,.inr ⟨d,nm,nd,P,.inr ⟨hnd,.inl ⟨he2,rfl,w1,w4⟩⟩⟩⟩⟩
   ·generalize bD (aX S) old=r at he;obtain ⟨d',c',gI,nd',FQ,_⟩:=wN S r;rw [FQ];(conv=>whnf);refine aR.i λb4 h4 e4 s4 o4 k4=>?_;(conv=>whnf);refine aN.i λh5 s5 k5=>?_;have k35:Keeps [] h3 h5:=k4.new1 k5 (by omega);(conv=>whnf);refine ak.t (by simp [he]) ?_;(conv=>whnf);exact ⟨kk3.cu k35,_,A3.on k35,rfl,rfl,.inr ⟨po,pn,.inl ⟨he,rfl,rfl,rfl⟩⟩⟩
end Go.Proofs.YtoociceebodfeaaGreatDoor
