/-
  Joined texts: CalP, CalR, StpA, StpB, StpC, StpD, StpE, PlyA, PlyB, FndB, TwcA, TelA, RooA.
-/
import Derived.Test.YtoociceebodfeaaGreatDoorJLawCRenamel
import Derived.Test.YtoociceebodfeaaGreatDoorJLawCRenameg
import Derived.Test.YtoociceebodfeaaGreatDoorJLawCRenamej
import Derived.Test.YtoociceebodfeaaGreatDoorJLawCRenamei
set_option linter.all false
set_option maxRecDepth 100000
set_option maxHeartbeats 8000000
namespace Go.Proofs.YtoociceebodfeaaGreatDoor
open Go Go.aN
theorem XM {l:List aF}{nm:List UInt8}(h:bR l nm=none)(k:Nat):bR (l.eraseIdx k) nm=none:=by
 unfold bR at h ⊢;rw [List.find?_eq_none] at h ⊢;exact λe he=>h e (List.mem_of_mem_eraseIdx he)
def uY (X:VS)(S:FS)(old name:List UInt8)(v:Value)(X':VS):Prop:=X'.away=X.away/\X'.bG=X.bG /\
 (
  ((bC old=none\/bC name=none)/\v=.int .i64 3/\X'.now=X.now/\X'.mine=X.mine) \/
  (
   bC old≠none/\bC name≠none/\(((bB (aY S) old).2.2.2≠0/\v=.int .i64 (bB (aY S) old).2.2.2/\X'.now=X.now/\X'.mine=X.mine) \/
   ∃ d nm nd,ny S old d nm nd/\((nd=0/\v=.int .i64 4/\X'.now=X.now/\X'.mine=X.mine)\/(nd≠0 /\
    (
     ((bB (aY S) name).2.2.2≠0/\v=.int .i64 (bB (aY S) name).2.2.2/\X'.now=X.now/\X'.mine=X.mine) \/
     ∃ f nm2 nd2,ny S name f nm2 nd2/\((nd2=nd/\v=.int .i64 0/\X'.now=X.now/\X'.mine=X.mine) \/
      (nd2≠nd/\mh S f nd/\v=.int .i64 1/\X'.now=X.now/\X'.mine=X.mine) \/
      (nd2≠nd/\¬ mh S f nd/\nd2≠0/\v=.int .i64 5/\X'.now=X.now/\X'.mine=X.mine) \/
      (nd2=0/\¬ mh S f nd/\v=.int .i64 9) \/
      (nd2=0/\¬ mh S f nd/\v=.int .i64 0/\(∀ x∈X.mine,x∈X'.mine)/\∃ c1 c2,c1.kind=2/\c1.links=1/\c2.kind=2/\c2.links=1 /\
       bK X'.now ((S.put d c1 ((S.nm d).eraseIdx (aP (S.nm d) nm)) (S.aQ d)).put f c2 (bD ((S.put d c1 ((S.nm d).eraseIdx (aP (S.nm d) nm)) (S.aQ d)).nm f) ⟨nm2,nd⟩) (S.aQ f))))))))))
theorem G8 {h:Heap}{V:VL}{M:aS}{X:VS}(A:At h V M X){S:FS}(I:bK X.now S)(C:gD S){rk:Int->Nat}(hr:xq S rk)(old name:List UInt8)(ho:old.length<=140737488351232)(hp:name.length<=140737488351232) :
 aC Tryz.prog 21 [.pointer (some ⟨V.v,0,none⟩),.string (ba old),.string (ba name)] h (λv h'=>Keeps [V.ob,V.sb,V.mb] h h'/\∃ X',At h' V M X'/\uY X S old name v X'):=by
 have bl:=A.blt;have q1:=bl V.ob (by simp [VL.blocks]);have q2:=bl V.sb (by simp [VL.blocks]);have q3:=bl V.mb (by simp [VL.blocks]);refine aG aH Tryz.func21 rfl ok21 (by simp [Tryz.f21]) ?_;(conv=>whnf);refine aj.f rfl ?_;(conv=>whnf);refine aL.i λb1 h1 e1 s1 o1 k1=>?_;have z1:=k1.size;have S1:Sl h1 (some ⟨b1,0,none⟩) 2 2 (bq [old,name]):=Sl.mJ (α:=ByteArray) (n:=2) o1 (λx hx=>by
  have:x=ba old\/x=ba name:=by simpa [bq] using hx
  rcases this with rfl|rfl
  ·show lK (ba old);unfold lK;rw [dP];exact ho
  ·show lK (ba name);unfold lK;rw [dP];exact hp) rfl (by show 2<=281474976710656;decide)
 (conv=>whnf);refine bP.on [0,1,2,20,21,22] [] (λi:Nat=>[(0,.v (.pointer (some ⟨V.v,0,none⟩))),(1,.v (.string (ba old))),(2,.v (.string (ba name))),(20,.v (.slice (some ⟨b1,0,none⟩) 2 2)),(21,.v (.int .i64 2)),(22,.v (.int .i64 (i:Int)))]) (λ_=>[])
  (λi h'=>i<=2/\Keeps [] h h'/\Sl h' (some ⟨b1,0,none⟩) 2 2 (bq [old,name])/\(1<=i->bC old≠none)/\(2<=i->bC name≠none)) (λi=>2-i) 0 ?_ ?_
 ·(conv=>whnf);exact ⟨0,rfl,rfl,rfl,by decide,k1,S1,λh=>by omega,λh=>by omega⟩
 ·rintro i h2 ⟨hi,k2,S2,p1,p2⟩;have A2:=A.on k2;(conv=>whnf);refine aj.i (λhd=>?_) (λhd=>?_)
  ·have hi1:i<2:=by simp at hd;omega
   have hib:i<(bq [old,name]).length:=hi1;obtain ⟨b3,o3,hb3,_,⟨rfl,_⟩,hc3⟩:=S2.at_ i hib;obtain ⟨pt,hpt,hpl,hpn⟩:∃ pt:List UInt8,(bq [old,name])[i]=ba pt/\pt.length<=140737488351232/\(bC pt=none->bC old=none\/bC name=none)/\(bC pt≠none->(1<=i+1->bC old≠none)/\(2<=i+1->bC name≠none)):=by
    have:i=0\/i=1:=by omega
    rcases this with rfl|rfl
    ·exact ⟨old,rfl,ho,.inl,λh=>⟨λ_=>h,λh2=>by omega⟩⟩
    ·exact ⟨name,rfl,hp,.inr,λh=>⟨λ_=>p1 (by decide),λ_=>h⟩⟩
   rw [hpt] at hc3;(conv=>whnf);refine aX.i i rfl hi1 hb3 ?_;(conv=>whnf);refine ax.i (hc3 0 (by show 0<1;decide)) ?_;(conv=>whnf);refine ak.i (uS pt hpl h2) λv h4 k4 hv=>?_;cases hpp:bC pt with
   | none=>
    rw [hpp] at hv;have hv:v=.tuple #[.slice none 0 0,.int .i64 3]:=hv;subst hv;(conv=>whnf);refine aj.t rfl ?_;(conv=>whnf);exact ⟨(k2.trans k4).mono (by simp),X,A2.on k4,rfl,rfl,.inl ⟨hpn.1 hpp,rfl,rfl,rfl⟩⟩
   | some l=>
    rw [hpp] at hv;obtain ⟨a,c,rfl,_,_⟩:=hv;obtain ⟨g1,g2⟩:=hpn.2 (by rw [hpp];simp);(conv=>whnf);refine aj.f rfl ?_;(conv=>whnf);refine ⟨2-(i+1),by omega,?_⟩;(conv=>whnf);exact ⟨i+1,rfl,by rw [wrapN (x:=(i:Int)+1) (n:=i+1) (by simp) (by omega)],rfl,hi1,k2.trans k4,S2.keep k4,g1,g2⟩
  ·have hi1:i=2:=by simp at hd;omega
   subst hi1;have po:=p1 (by decide);have pn:=p2 (by decide);have z2:=k2.size;(conv=>whnf);refine ak.m (zi A2 I C old ho) (by simp [au]) λv h3 k3 hv=>?_;obtain ⟨rfl,s3,A3⟩:=hv;have z3:=k3.size;have kk3:Keeps [V.ob,V.sb,V.mb] h h3:=(k2.mono (by simp)).trans (k3.mono (by simp));unfold uY;by_cases he:(bB (aY S) old).2.2.2=0
   ·obtain ⟨d,nm,nd,P⟩:=wS I C he;rw [P.is];have hsp:mZ S (d,nm,nd,0)=tu d (S.C d) nm nd:=by unfold mZ;rw [if_pos rfl];rfl
    rw [hsp];generalize hX1:({ X with seen:=s3 }:VS)=X1 at A3;have w1:X1.now=X.now:=by rw [<-hX1]
    have w2:X1.away=X.away:=by rw [<-hX1]
    have w3:X1.bG=X.bG:=by rw [<-hX1]
    have w4:X1.mine=X.mine:=by rw [<-hX1]
    have I1:bK X1.now S:=by rw [w1];exact I
    (conv=>whnf);refine aL.i λb4 h4 e4 s4 o4 k4=>?_;(conv=>whnf);refine aK.i λh5 s5 k5=>?_;have k35:Keeps [] h3 h5:=k4.new1 k5 (by omega);have z4:=k4.size;have z5:=k5.size;have A5:=A3.on k35;(conv=>whnf);refine aj.f rfl ?_;by_cases hnd:nd=0
    ·subst hnd;(conv=>whnf);refine aj.t rfl ?_;(conv=>whnf);exact ⟨kk3.bS k35,X1,A5,w2,w3,.inr ⟨po,pn,.inr ⟨d,nm,0,P,.inl ⟨rfl,rfl,w1,w4⟩⟩⟩⟩
    ·obtain ⟨en,hfe,hen,hmem,n0,n24,hkn⟩:=P.there I C hnd;(conv=>whnf);refine aj.f (by simp [hnd]) ?_;(conv=>whnf);refine ak.m (zi A5 I1 C name hp) (λy hy hx=>by
      simp [au,aZ] at hy hx;omega) λv h6 k6 hv=>?_
     obtain ⟨rfl,s6,A6⟩:=hv;have z6:=k6.size;have kk6:Keeps [V.ob,V.sb,V.mb] h h6:=(kk3.bS k35).trans (k6.mono (by simp));by_cases he2:(bB (aY S) name).2.2.2=0
     ·obtain ⟨f,nm2,nd2,Q⟩:=wS I C he2;rw [Q.is];have hsp2:mZ S (f,nm2,nd2,0)=tu f (S.C f) nm2 nd2:=by unfold mZ;rw [if_pos rfl];rfl
      rw [hsp2];generalize hX2:({ X1 with seen:=s6 }:VS)=X2 at A6;have v1:X2.now=X.now:=by rw [<-hX2];exact w1
      have v2:X2.away=X.away:=by rw [<-hX2];exact w2
      have v3:X2.bG=X.bG:=by rw [<-hX2];exact w3
      have v4:X2.mine=X.mine:=by rw [<-hX2];exact w4
      have I2:bK X2.now S:=by rw [v1];exact I
      (conv=>whnf);refine aL.i λb7 h7 e7 s7 o7 k7=>?_;(conv=>whnf);refine aK.i λh8 s8 k8=>?_;have k68:Keeps [] h6 h8:=k7.new1 k8 (by omega);have z7:=k7.size;have z8:=k8.size;have A8:=A6.on k68;have kk8:=kk6.bS k68;(conv=>whnf);refine aj.f rfl ?_;by_cases hsame:nd2=nd
      ·(conv=>whnf);refine aj.t (by simp [hsame]) ?_;(conv=>whnf);exact ⟨kk8,X2,A8,v2,v3,.inr ⟨po,pn,.inr ⟨d,nm,nd,P,.inr ⟨hnd,.inr ⟨f,nm2,nd2,Q,.inl ⟨hsame,rfl,v1,v4⟩⟩⟩⟩⟩⟩
      ·(conv=>whnf);refine aj.f (by simp [hsame]) ?_;(conv=>whnf);refine ak.m (Ob C hr I.zero f (rk nd+1) nd h8 X2 (Nat.lt_succ_self _) ⟨n0,n24,hkn⟩ A8 I2) (λy hy hx=>by
        simp [au,aZ] at hy hx;omega) λv h9 k9 hv=>?_
       obtain ⟨⟨s9,A9⟩,b,rfl,hb⟩:=hv;have z9:=k9.size;have kk9:Keeps [V.ob,V.sb,V.mb] h h9:=kk8.trans (k9.mono (by simp));(conv=>whnf);refine aj.f rfl ?_;cases b with
       | true=>
        (conv=>whnf);refine aj.t rfl ?_;(conv=>whnf);exact ⟨kk9,_,A9,v2,v3,.inr ⟨po,pn,.inr ⟨d,nm,nd,P,.inr ⟨hnd,.inr ⟨f,nm2,nd2,Q,.inr (.inl ⟨hsame,hb.1 rfl,rfl,v1,v4⟩)⟩⟩⟩⟩⟩
       | false=>
        have hnb:¬ mh S f nd:=λhx=>by have:=hb.2 hx;cases this
        (conv=>whnf);refine aj.f rfl ?_;by_cases hn2:nd2=0
        ·subst hn2;have hfe2:=Q.new I C;have I9:bK ({ X2 with seen:=s9 }:VS).now S:=I2;(conv=>whnf);refine aj.f rfl ?_;(conv=>whnf);refine ak.m (Gu A9 I9 P.bH P.kind P.len hfe nd) (λy hy hx=>by
          simp [au,aZ] at hy hx;omega) λv h10 k10 hv=>?_
         obtain ⟨rfl,X3,A10,a1,a2,a3,c1,I10,hc1,hc2⟩:=hv;have z10:=k10.size;(conv=>whnf);refine aj.f rfl ?_;have kF:((S.put d c1 ((S.nm d).eraseIdx (aP (S.nm d) nm)) (S.aQ d)).C f).kind=2:=by
          show (if f=d then c1 else S.C f).kind=2;by_cases e:f=d
          ·rw [if_pos e];exact hc1
          ·rw [if_neg e];exact Q.kind
         have CY:bR ((S.put d c1 ((S.nm d).eraseIdx (aP (S.nm d) nm)) (S.aQ d)).nm f) nm2=none:=by
          show bR (if f=d then (S.nm d).eraseIdx (aP (S.nm d) nm) else S.nm f) nm2=none;by_cases e:f=d
          ·rw [if_pos e];refine XM ?_ _;rw [<-e];exact hfe2
          ·rw [if_neg e];exact hfe2
         have hbf:(S.put d c1 ((S.nm d).eraseIdx (aP (S.nm d) nm)) (S.aQ d)).aQ f=S.aQ f:=by
          show (if f=d then S.aQ d else S.aQ f)=_;by_cases e:f=d
          ·rw [if_pos e,e]
          ·rw [if_neg e]
         (conv=>whnf);refine ak.m (Cx A10 I10 Q.bH kF Q.name Q.len CY (S.C f) 0 nd ⟨by omega,n24⟩) (λy hy hx=>by
          simp [au,aZ] at hy hx;omega) λv h11 k11 hv=>?_
         obtain ⟨X4,A11,x1,x2,H⟩:=hv;rw [hbf] at H;(conv=>whnf);refine ⟨(kk9.trans k10).trans k11,X4,A11,x1.trans (a1.trans v2),x2.trans (a2.trans v3),.inr ⟨po,pn,.inr ⟨d,nm,nd,P,.inr ⟨hnd,.inr ⟨f,nm2,0,Q,.inr (.inr (.inr ?_))⟩⟩⟩⟩⟩;rcases H with ⟨rfl,_⟩|⟨rfl,g1,g2,c2,g3,g4,g5⟩
         ·exact .inl ⟨rfl,hnb,rfl⟩
         ·refine .inr ⟨rfl,hnb,rfl,λx hx=>g2 x (a3 x ?_),c1,c2,hc1,hc2,g4,g5,g3⟩;show x∈X2.mine;rw [v4];exact hx
        ·(conv=>whnf);refine aj.t (by simp [hn2]) ?_;(conv=>whnf);exact ⟨kk9,_,A9,v2,v3,.inr ⟨po,pn,.inr ⟨d,nm,nd,P,.inr ⟨hnd,.inr ⟨f,nm2,nd2,Q,.inr (.inr (.inl ⟨hsame,hnb,hn2,rfl,v1,v4⟩))⟩⟩⟩⟩⟩
     ·generalize bB (aY S) name=r at he2;obtain ⟨d',c',gK,nd',GR,_⟩:=zH S r;rw [GR];(conv=>whnf);refine aL.i λb7 h7 e7 s7 o7 k7=>?_;(conv=>whnf);refine aK.i λh8 s8 k8=>?_;have k68:Keeps [] h6 h8:=k7.new1 k8 (by omega);(conv=>whnf);refine aj.t (by simp [he2]) ?_;(conv=>whnf);exact ⟨kk6.bS k68,_,A6.on k68,w2,w3,.inr ⟨po,pn,.inr ⟨d,nm,nd,P,.inr ⟨hnd,.inl ⟨he2,rfl,w1,w4⟩⟩⟩⟩⟩
   ·generalize bB (aY S) old=r at he;obtain ⟨d',c',gK,nd',GR,_⟩:=zH S r;rw [GR];(conv=>whnf);refine aL.i λb4 h4 e4 s4 o4 k4=>?_;(conv=>whnf);refine aK.i λh5 s5 k5=>?_;have k35:Keeps [] h3 h5:=k4.new1 k5 (by omega);(conv=>whnf);refine aj.t (by simp [he]) ?_;(conv=>whnf);exact ⟨kk3.bS k35,_,A3.on k35,rfl,rfl,.inr ⟨po,pn,.inl ⟨he,rfl,rfl,rfl⟩⟩⟩
def oq (S:FS)(c:cK):dz:=if gB S c.path=0 then ⟨(jd (S.aQ (cO S c.path).1) c.at_ c.n).2,(jd (S.aQ (cO S c.path).1) c.at_ c.n).1,0,0,0,[]⟩ else bI (gB S c.path)
def kW (S:FS)(c:cK):dz:=if (aR (aY S) c.path false).2=0 then ⟨0,[],(S.C (aR (aY S) c.path false).1).kind,(S.C (aR (aY S) c.path false).1).links,(S.C (aR (aY S) c.path false).1).size,[]⟩ else bI (aR (aY S) c.path false).2
def ou (S:FS)(c:cK):dz:=if (aR (aY S) c.path false).2=0 then (if (S.C (aR (aY S) c.path false).1).kind=3 then ⟨(jd (S.aQ (aR (aY S) c.path false).1) 0 120).2,(jd (S.aQ (aR (aY S) c.path false).1) 0 120).1,0,0,0,[]⟩ else bI 1) else bI (aR (aY S) c.path false).2
def zB (S:FS)(c:cK):dz:=⟨vE S c.path,[],0,0,0,vN S c.path⟩
def fO (B:Int->UInt64)(X:VS)(S:FS)(c:cK)(r:dz)(X':VS):Prop:=
 if c.kind=4 then ∃ e,r=bI e/\lJ B X S c.path 1 [] (.int .i64 e) X' else
 if c.kind=5 then ∃ e,r=bI e/\lJ B X S c.path 2 [] (.int .i64 e) X' else
 if c.kind=6 then ∃ e,r=bI e/\u6 B X S c.path c.path2 (.int .i64 e) X' else
 if c.kind=7 then ∃ e,r=bI e/\((bC c.path2=none/\e=3/\X'=X)\/(bC c.path2≠none/\lJ B X S c.path 3 c.path2 (.int .i64 e) X')) else
 if c.kind=8 then ∃ e,r=bI e/\oh X S c.path qz (.int .i64 e) X' else
 if c.kind=9 then ∃ e,r=bI e/\oh X S c.path qA (.int .i64 e) X' else
 if c.kind=10 then ∃ e,r=bI e/\uY X S c.path c.path2 (.int .i64 e) X' else
 if c.kind=11 then ∃ e,r=bI e/\sW B X S c.path c.at_ c.data (.int .i64 e) X' else
 if c.kind=13 then ∃ e,r=bI e/\uX X S c.path c.at_ (.int .i64 e) X' else
 if c.kind=12 then (∃ s,X'={ X with seen:=s })/\r=oq S c else
 if c.kind=14 then (∃ s,X'={ X with seen:=s })/\r=kW S c else
 if c.kind=16 then (∃ s,X'={ X with seen:=s })/\r=ou S c else
 if c.kind=15 then (∃ s,X'={ X with seen:=s })/\r=zB S c else
 X'=X/\r=bI 1
theorem vc4 {B:Int->UInt64}{X:VS}{S:FS}{c:cK}{r:dz}{X':VS}(h:c.kind=4):fO B X S c r X'↔∃ e,r=bI e/\lJ B X S c.path 1 [] (.int .i64 e) X':=by simp [fO,h]
theorem vc5 {B:Int->UInt64}{X:VS}{S:FS}{c:cK}{r:dz}{X':VS}(h:c.kind=5):fO B X S c r X'↔∃ e,r=bI e/\lJ B X S c.path 2 [] (.int .i64 e) X':=by simp [fO,h]
theorem vc6 {B:Int->UInt64}{X:VS}{S:FS}{c:cK}{r:dz}{X':VS}(h:c.kind=6):fO B X S c r X'↔∃ e,r=bI e/\u6 B X S c.path c.path2 (.int .i64 e) X':=by simp [fO,h]
theorem vc7 {B:Int->UInt64}{X:VS}{S:FS}{c:cK}{r:dz}{X':VS}(h:c.kind=7):fO B X S c r X'↔∃ e,r=bI e/\((bC c.path2=none/\e=3/\X'=X)\/(bC c.path2≠none/\lJ B X S c.path 3 c.path2 (.int .i64 e) X')):=by simp [fO,h]
theorem vc8 {B:Int->UInt64}{X:VS}{S:FS}{c:cK}{r:dz}{X':VS}(h:c.kind=8):fO B X S c r X'↔∃ e,r=bI e/\oh X S c.path qz (.int .i64 e) X':=by simp [fO,h]
theorem vc9 {B:Int->UInt64}{X:VS}{S:FS}{c:cK}{r:dz}{X':VS}(h:c.kind=9):fO B X S c r X'↔∃ e,r=bI e/\oh X S c.path qA (.int .i64 e) X':=by simp [fO,h]
theorem vc10 {B:Int->UInt64}{X:VS}{S:FS}{c:cK}{r:dz}{X':VS}(h:c.kind=10):fO B X S c r X'↔∃ e,r=bI e/\uY X S c.path c.path2 (.int .i64 e) X':=by simp [fO,h]
theorem vc11 {B:Int->UInt64}{X:VS}{S:FS}{c:cK}{r:dz}{X':VS}(h:c.kind=11):fO B X S c r X'↔∃ e,r=bI e/\sW B X S c.path c.at_ c.data (.int .i64 e) X':=by simp [fO,h]
theorem vc13 {B:Int->UInt64}{X:VS}{S:FS}{c:cK}{r:dz}{X':VS}(h:c.kind=13):fO B X S c r X'↔∃ e,r=bI e/\uX X S c.path c.at_ (.int .i64 e) X':=by simp [fO,h]
theorem vc12 {B:Int->UInt64}{X:VS}{S:FS}{c:cK}{r:dz}{X':VS}(h:c.kind=12):fO B X S c r X'↔(∃ s,X'={ X with seen:=s })/\r=oq S c:=by simp [fO,h]
theorem vc14 {B:Int->UInt64}{X:VS}{S:FS}{c:cK}{r:dz}{X':VS}(h:c.kind=14):fO B X S c r X'↔(∃ s,X'={ X with seen:=s })/\r=kW S c:=by simp [fO,h]
theorem vc16 {B:Int->UInt64}{X:VS}{S:FS}{c:cK}{r:dz}{X':VS}(h:c.kind=16):fO B X S c r X'↔(∃ s,X'={ X with seen:=s })/\r=ou S c:=by simp [fO,h]
theorem vc15 {B:Int->UInt64}{X:VS}{S:FS}{c:cK}{r:dz}{X':VS}(h:c.kind=15):fO B X S c r X'↔(∃ s,X'={ X with seen:=s })/\r=zB S c:=by simp [fO,h]
theorem vc0 {B:Int->UInt64}{X:VS}{S:FS}{c:cK}{r:dz}{X':VS}(h:c.kind<4\/16<c.kind):fO B X S c r X'↔(X'=X/\r=bI 1):=by
 unfold fO;rw [if_neg (show ¬ c.kind=4 by omega)];rw [if_neg (show ¬ c.kind=5 by omega)];rw [if_neg (show ¬ c.kind=6 by omega)];rw [if_neg (show ¬ c.kind=7 by omega)];rw [if_neg (show ¬ c.kind=8 by omega)];rw [if_neg (show ¬ c.kind=9 by omega)];rw [if_neg (show ¬ c.kind=10 by omega)];rw [if_neg (show ¬ c.kind=11 by omega)];rw [if_neg (show ¬ c.kind=13 by omega)];rw [if_neg (show ¬ c.kind=12 by omega)];rw [if_neg (show ¬ c.kind=14 by omega)];rw [if_neg (show ¬ c.kind=16 by omega)];rw [if_neg (show ¬ c.kind=15 by omega)]
theorem lJ.int {B:Int->UInt64}{X X':VS}{S:FS}{path data:List UInt8}{kind:Int}{v:Value}(R:lJ B X S path kind data v X'):∃ e,v=.int .i64 e:=by
 obtain ⟨_,_,⟨_,h,_⟩|⟨_,_,_,_,⟨_,h,_⟩|⟨_,h,_⟩|⟨_,h,_⟩⟩⟩:=R <;> exact ⟨_,h⟩
theorem u6.int {B:Int->UInt64}{X X':VS}{S:FS}{old name:List UInt8}{v:Value}(R:u6 B X S old name v X'):∃ e,v=.int .i64 e:=by
 obtain ⟨_,_,⟨_,h,_⟩|⟨_,_,h,_⟩|⟨_,_,⟨_,h,_⟩|⟨_,_,_,_,⟨_,h,_⟩|⟨_,_,h,_⟩|⟨_,_,h,_⟩|⟨_,_,h,_⟩⟩⟩⟩:=R <;> exact ⟨_,h⟩
theorem oh.int {X X':VS}{S:FS}{path:List UInt8}{may:aA->Int}{v:Value}(R:oh X S path may v X'):∃ e,v=.int .i64 e:=by
 obtain ⟨_,_,⟨_,h,_⟩|⟨_,_,_,_,⟨_,h,_⟩|⟨_,_,h,_⟩|⟨_,_,h,_⟩⟩⟩:=R <;> exact ⟨_,h⟩
theorem sW.int {B:Int->UInt64}{X X':VS}{S:FS}{path data:List UInt8}{at_:Int}{v:Value}(R:sW B X S path at_ data v X'):∃ e,v=.int .i64 e:=by
 obtain ⟨_,_,⟨_,h,_⟩|⟨_,_,h,_⟩|⟨_,_,h,_⟩|⟨_,_,h,_⟩⟩:=R <;> exact ⟨_,h⟩
theorem uX.int {X X':VS}{S:FS}{path:List UInt8}{size:Int}{v:Value}(R:uX X S path size v X'):∃ e,v=.int .i64 e:=by
 obtain ⟨_,_,⟨_,h,_⟩|⟨_,_,h,_⟩|⟨_,_,h,_⟩⟩:=R <;> exact ⟨_,h⟩
theorem uY.int {X X':VS}{S:FS}{old name:List UInt8}{v:Value}(R:uY X S old name v X'):∃ e,v=.int .i64 e:=by
 obtain ⟨_,_,⟨_,h,_⟩|⟨_,_,⟨_,h,_⟩|⟨_,_,_,_,⟨_,h,_⟩|⟨_,⟨_,h,_⟩|⟨_,_,_,_,⟨_,h,_⟩|⟨_,_,h,_⟩|⟨_,_,_,h,_⟩|⟨_,_,h⟩|⟨_,_,h,_⟩⟩⟩⟩⟩⟩:=R <;> exact ⟨_,h⟩
theorem Ii {h:Heap}{V:VL}{M:aS}{X:VS}(A:At h V M X){S:FS}(I:bK X.now S)(C:gD S)(Q:wP S){rk:Int->Nat}(hr:xq S rk)(aw:X.bG=[])(c:cK)(hc:c.ok) :
 aC Tryz.prog 15 [.pointer (some ⟨V.v,0,none⟩),.agg ⟨c.cells⟩] h (λv h'=>Keeps [V.ob,V.sb,V.mb] h h'/\∃ r,eF h h' r v/\gq r/\∃ X',At h' V M X'/\fO M.read X S c r X'):=by
 have bl:=A.blt;have q1:=bl V.ob (by simp [VL.blocks]);have q2:=bl V.sb (by simp [VL.blocks]);have q3:=bl V.mb (by simp [VL.blocks]);have m0:∀ x∈([]:List Nat),x∈[V.ob,V.sb,V.mb]:=by simp
 have m1:∀ x∈[V.sb],x∈[V.ob,V.sb,V.mb]:=by simp
 refine aG aH Tryz.func15 rfl ok15 (by simp [Tryz.f15]) ?_;(conv=>whnf);refine aL.i λb1 h1 e1 s1 o1 k1=>?_;(conv=>whnf);refine aL.i λb2 h2 e2 s2 o2 k2=>?_;have z1:=k1.size;have z2:=k2.size;have k12:=k1.trans k2;have kk2:Keeps [V.ob,V.sb,V.mb] h h2:=k12.mono m0;have A2:=A.on k12;have kQ:∀ {F:List Nat},(∀ x∈F,x∈[V.ob,V.sb,V.mb])->∀ y,y=b1\/y=b2->y∉F:=λhF y hy hx=>by
  have:=hF y hx;simp at this;omega
 have hb2:∀ b∈V.blocks,b∉[b2]:=λb hb hx=>by have:=bl b hb;simp at hx;omega
 (conv=>whnf);(try refine aV.pass ?_;conv=>whnf);refine aj.i (λhd=>?_) (λhd4=>?_)
 ·have hk:c.kind=4:=by simpa using hd
  (conv=>whnf);refine ak.m (Gq A2 I C aw c.path hc.2.1 (.inl rfl)) (λy hy=>kQ (λx hx=>hx) y (by simpa [au,aZ] using hy)) λv h3 k3 hv=>?_;obtain ⟨X',A3,R⟩:=hv;have kR:=R.int;obtain ⟨e,rfl⟩:=kR;have z3:=k3.size;(conv=>whnf);refine aK.i λh4 s4 k4=>?_;(conv=>whnf);exact ⟨(kk2.trans k3).m1 k4 (by omega),bI e,eF.err _ _ e,gq.nil rfl,X',A3.keep k4 hb2,(vc4 hk).2 ⟨e,rfl,R⟩⟩
 ·skip;(conv=>whnf);(try refine aV.pass ?_;conv=>whnf);refine aj.i (λhd=>?_) (λhd5=>?_)
  ·have hk:c.kind=5:=by simpa using hd
   (conv=>whnf);refine ak.m (Gq A2 I C aw c.path hc.2.1 (.inr rfl)) (λy hy=>kQ (λx hx=>hx) y (by simpa [au,aZ] using hy)) λv h3 k3 hv=>?_;obtain ⟨X',A3,R⟩:=hv;have kR:=R.int;obtain ⟨e,rfl⟩:=kR;have z3:=k3.size;(conv=>whnf);refine aK.i λh4 s4 k4=>?_;(conv=>whnf);exact ⟨(kk2.trans k3).m1 k4 (by omega),bI e,eF.err _ _ e,gq.nil rfl,X',A3.keep k4 hb2,(vc5 hk).2 ⟨e,rfl,R⟩⟩
  ·skip;(conv=>whnf);(try refine aV.pass ?_;conv=>whnf);refine aj.i (λhd=>?_) (λhd6=>?_)
   ·have hk:c.kind=6:=by simpa using hd
    (conv=>whnf);refine ak.m (V3 A2 I C c.path c.path2 hc.2.1 hc.2.2.1) (λy hy=>kQ (λx hx=>hx) y (by simpa [au,aZ] using hy)) λv h3 k3 hv=>?_;obtain ⟨X',A3,R⟩:=hv;have kR:=R.int;obtain ⟨e,rfl⟩:=kR;have z3:=k3.size;(conv=>whnf);refine aK.i λh4 s4 k4=>?_;(conv=>whnf);exact ⟨(kk2.trans k3).m1 k4 (by omega),bI e,eF.err _ _ e,gq.nil rfl,X',A3.keep k4 hb2,(vc6 hk).2 ⟨e,rfl,R⟩⟩
   ·skip;(conv=>whnf);(try refine aV.pass ?_;conv=>whnf);refine aj.i (λhd=>?_) (λhd7=>?_)
    ·have hk:c.kind=7:=by simpa using hd
     (conv=>whnf);refine ak.m (Na A2 I C aw c.path c.path2 hc.2.1 hc.2.2.1) (λy hy=>kQ (λx hx=>hx) y (by simpa [au,aZ] using hy)) λv h3 k3 hv=>?_;obtain ⟨X',A3,R⟩:=hv;have kR:∃ e,v=.int .i64 e:=by rcases R with ⟨_,h,_⟩|⟨_,R⟩;exact ⟨_,h⟩;exact R.int
     obtain ⟨e,rfl⟩:=kR;have R':(bC c.path2=none/\e=3/\X'=X)\/(bC c.path2≠none/\lJ M.read X S c.path 3 c.path2 (.int .i64 e) X'):=by
      rcases R with ⟨r1,r2,r3⟩|R
      ·cases r2;exact .inl ⟨r1,rfl,r3⟩
      ·exact .inr R
     have z3:=k3.size;(conv=>whnf);refine aK.i λh4 s4 k4=>?_;(conv=>whnf);exact ⟨(kk2.trans k3).m1 k4 (by omega),bI e,eF.err _ _ e,gq.nil rfl,X',A3.keep k4 hb2,(vc7 hk).2 ⟨e,rfl,R'⟩⟩
    ·skip;(conv=>whnf);(try refine aV.pass ?_;conv=>whnf);refine aj.i (λhd=>?_) (λhd8=>?_)
     ·have hk:c.kind=8:=by simpa using hd
      (conv=>whnf);refine ak.m (Nb A2 I C Q c.path hc.2.1) (λy hy=>kQ (λx hx=>hx) y (by simpa [au,aZ] using hy)) λv h3 k3 hv=>?_;obtain ⟨X',A3,R⟩:=hv;have kR:=R.int;obtain ⟨e,rfl⟩:=kR;have z3:=k3.size;(conv=>whnf);refine aK.i λh4 s4 k4=>?_;(conv=>whnf);exact ⟨(kk2.trans k3).m1 k4 (by omega),bI e,eF.err _ _ e,gq.nil rfl,X',A3.keep k4 hb2,(vc8 hk).2 ⟨e,rfl,R⟩⟩
     ·skip;(conv=>whnf);(try refine aV.pass ?_;conv=>whnf);refine aj.i (λhd=>?_) (λhd9=>?_)
      ·have hk:c.kind=9:=by simpa using hd
       (conv=>whnf);refine ak.m (V5 A2 I C Q c.path hc.2.1) (λy hy=>kQ (λx hx=>hx) y (by simpa [au,aZ] using hy)) λv h3 k3 hv=>?_;obtain ⟨X',A3,R⟩:=hv;have kR:=R.int;obtain ⟨e,rfl⟩:=kR;have z3:=k3.size;(conv=>whnf);refine aK.i λh4 s4 k4=>?_;(conv=>whnf);exact ⟨(kk2.trans k3).m1 k4 (by omega),bI e,eF.err _ _ e,gq.nil rfl,X',A3.keep k4 hb2,(vc9 hk).2 ⟨e,rfl,R⟩⟩
      ·skip;(conv=>whnf);(try refine aV.pass ?_;conv=>whnf);refine aj.i (λhd=>?_) (λhd10=>?_)
       ·have hk:c.kind=10:=by simpa using hd
        (conv=>whnf);refine ak.m (G8 A2 I C hr c.path c.path2 hc.2.1 hc.2.2.1) (λy hy=>kQ (λx hx=>hx) y (by simpa [au,aZ] using hy)) λv h3 k3 hv=>?_;obtain ⟨X',A3,R⟩:=hv;have kR:=R.int;obtain ⟨e,rfl⟩:=kR;have z3:=k3.size;(conv=>whnf);refine aK.i λh4 s4 k4=>?_;(conv=>whnf);exact ⟨(kk2.trans k3).m1 k4 (by omega),bI e,eF.err _ _ e,gq.nil rfl,X',A3.keep k4 hb2,(vc10 hk).2 ⟨e,rfl,R⟩⟩
       ·skip;(conv=>whnf);(try refine aV.pass ?_;conv=>whnf);refine aj.i (λhd=>?_) (λhd11=>?_)
        ·have hk:c.kind=11:=by simpa using hd
         (conv=>whnf);refine ak.m (Nc A2 I C c.path hc.2.1 c.at_ c.data) (λy hy=>kQ (λx hx=>hx) y (by simpa [au,aZ] using hy)) λv h3 k3 hv=>?_;obtain ⟨X',A3,R⟩:=hv;have kR:=R.int;obtain ⟨e,rfl⟩:=kR;have z3:=k3.size;(conv=>whnf);refine aK.i λh4 s4 k4=>?_;(conv=>whnf);exact ⟨(kk2.trans k3).m1 k4 (by omega),bI e,eF.err _ _ e,gq.nil rfl,X',A3.keep k4 hb2,(vc11 hk).2 ⟨e,rfl,R⟩⟩
        ·skip;(conv=>whnf);(try refine aV.pass ?_;conv=>whnf);refine aj.i (λhd=>?_) (λhd13=>?_)
         ·have hk:c.kind=13:=by simpa using hd
          (conv=>whnf);refine ak.m (V7 A2 I C c.path hc.2.1 c.at_) (λy hy=>kQ (λx hx=>hx) y (by simpa [au,aZ] using hy)) λv h3 k3 hv=>?_;obtain ⟨X',A3,R⟩:=hv;have kR:=R.int;obtain ⟨e,rfl⟩:=kR;have z3:=k3.size;(conv=>whnf);refine aK.i λh4 s4 k4=>?_;(conv=>whnf);exact ⟨(kk2.trans k3).m1 k4 (by omega),bI e,eF.err _ _ e,gq.nil rfl,X',A3.keep k4 hb2,(vc13 hk).2 ⟨e,rfl,R⟩⟩
         ·skip;(conv=>whnf);(try refine aV.pass ?_;conv=>whnf);refine aj.i (λhd=>?_) (λhd12=>?_)
          ·have hk:c.kind=12:=by simpa using hd
           (conv=>whnf);refine ak.m (C8 A2 I C c.path hc.2.1 c.at_ c.n) (λy hy=>kQ m1 y (by simpa [au,aZ] using hy)) λv h3 k3 hv=>?_;have z3:=k3.size;have o3:=k3.obj o2 (kQ m1 b2 (.inr rfl));obtain ⟨⟨s,A3⟩,hv⟩:=hv;have kk3:Keeps [V.ob,V.sb,V.mb] h h3:=kk2.trans (k3.mono m1);have hv:v=.tuple #[.string (ba (oq S c).data),.int .i64 (oq S c).err]/\oq S c=⟨(oq S c).err,(oq S c).data,0,0,0,[]⟩:=by
            unfold oq;split at hv
            ·rename_i h0;rw [if_pos h0];exact ⟨hv,rfl⟩
            ·rename_i h0;rw [if_neg h0];exact ⟨hv,rfl⟩
           obtain ⟨rfl,hq⟩:=hv;generalize hQ:oq S c=q at hq;(conv=>whnf);refine aK.i λh4 s4 k4=>?_;(conv=>whnf);refine ⟨kk3.m1 k4 (by omega),q,?_,gq.nil (by rw [hq]),_,A3.keep k4 hb2,(vc12 hk).2 ⟨⟨s,rfl⟩,hQ.symm⟩⟩;rw [hq];exact eF.flat _ _ _ _ 0 0 0
          ·skip;(conv=>whnf);(try refine aV.pass ?_;conv=>whnf);refine aj.i (λhd=>?_) (λhd14=>?_)
           ·have hk:c.kind=14:=by simpa using hd
            (conv=>whnf);refine ak.m (C9 A2 I C c.path hc.2.1) (λy hy=>kQ m1 y (by simpa [au,aZ] using hy)) λv h3 k3 hv=>?_;have z3:=k3.size;have o3:=k3.obj o2 (kQ m1 b2 (.inr rfl));obtain ⟨⟨s,A3⟩,hv⟩:=hv;have kk3:Keeps [V.ob,V.sb,V.mb] h h3:=kk2.trans (k3.mono m1);have hv:v=.tuple #[.agg #[.int .i64 0,.int .i64 (kW S c).k,.int .i64 (kW S c).l,.int .i64 (kW S c).s],.int .i64 (kW S c).err]/\kW S c=⟨(kW S c).err,[],(kW S c).k,(kW S c).l,(kW S c).s,[]⟩:=by
             unfold kW;split at hv
             ·rename_i h0;rw [if_pos h0];exact ⟨hv,rfl⟩
             ·rename_i h0;rw [if_neg h0];exact ⟨hv,rfl⟩
            obtain ⟨rfl,hq⟩:=hv;generalize hQ:kW S c=q at hq;(conv=>whnf);refine aL.i λb5 h5 e5 s5 o5 k5=>?_;(conv=>whnf);refine aK.i λh6 s6 k6=>?_;have k36:Keeps [] h3 h6:=k5.new1 k6 (by omega);have z36:=k36.size;(conv=>whnf);refine aK.i λh7 s7 k7=>?_;(conv=>whnf);refine ⟨(kk3.trans (k36.mono m0)).m1 k7 (by omega),q,?_,gq.nil (by rw [hq]),_,(A3.on k36).keep k7 hb2,(vc14 hk).2 ⟨⟨s,rfl⟩,hQ.symm⟩⟩;rw [hq];exact eF.flat _ _ _ _ _ _ _
           ·skip;(conv=>whnf);(try refine aV.pass ?_;conv=>whnf);refine aj.i (λhd=>?_) (λhd16=>?_)
            ·have hk:c.kind=16:=by simpa using hd
             (conv=>whnf);refine ak.m (Ia A2 I C c.path hc.2.1) (λy hy=>kQ m1 y (by simpa [au,aZ] using hy)) λv h3 k3 hv=>?_;have z3:=k3.size;have o3:=k3.obj o2 (kQ m1 b2 (.inr rfl));obtain ⟨⟨s,A3⟩,hv⟩:=hv;have kk3:Keeps [V.ob,V.sb,V.mb] h h3:=kk2.trans (k3.mono m1);have hv:v=.tuple #[.string (ba (ou S c).data),.int .i64 (ou S c).err]/\ou S c=⟨(ou S c).err,(ou S c).data,0,0,0,[]⟩:=by
              unfold ou;split at hv
              ·rename_i h0;rw [if_pos h0];split at hv
               ·rename_i h1;rw [if_pos h1];exact ⟨hv,rfl⟩
               ·rename_i h1;rw [if_neg h1];exact ⟨hv,rfl⟩
              ·rename_i h0;rw [if_neg h0];exact ⟨hv,rfl⟩
             obtain ⟨rfl,hq⟩:=hv;generalize hQ:ou S c=q at hq;(conv=>whnf);refine aK.i λh4 s4 k4=>?_;(conv=>whnf);refine ⟨kk3.m1 k4 (by omega),q,?_,gq.nil (by rw [hq]),_,A3.keep k4 hb2,(vc16 hk).2 ⟨⟨s,rfl⟩,hQ.symm⟩⟩;rw [hq];exact eF.flat _ _ _ _ 0 0 0
            ·skip;(conv=>whnf);(try refine aV.pass ?_;conv=>whnf);refine aj.i (λhd=>?_) (λhd15=>?_)
             ·have hk:c.kind=15:=by simpa using hd
              (conv=>whnf);refine ak.m (Ic A2 I C c.path hc.2.1) (λy hy=>kQ m1 y (by simpa [au,aZ] using hy)) λv h3 k3 hv=>?_;have z3:=k3.size;have o3:=k3.obj o2 (kQ m1 b2 (.inr rfl));obtain ⟨⟨s,A3⟩,hv⟩:=hv;have kk3:Keeps [V.ob,V.sb,V.mb] h h3:=kk2.trans (k3.mono m1);obtain ⟨hv,hnl,hl105⟩:=hv;have hL:zB S c=⟨vE S c.path,[],0,0,0,vN S c.path⟩:=rfl;generalize vE S c.path=e at hL hv;generalize vN S c.path=l at hL hv hnl hl105;obtain ⟨a3,c3,rfl,O3,n3⟩:=hv;have S3:=Cu O3 (by omega) hnl;(conv=>whnf);refine aL.i λb5 h5 e5 s5 o5 k5=>?_;(conv=>whnf);refine aK.i λh6 s6 k6=>?_;have k36:Keeps [] h3 h6:=k5.new1 k6 (by omega);have z36:=k36.size;have o6:=k36.obj o3 (by simp);(conv=>whnf);refine bP.on [4,11,13,14] [4,13] (λq:Nat×Option Addr×Nat=>[(4,.lp 4 0),(11,.v (.slice a3 l.length c3)),(13,.lp 13 0),(14,.v (.int .i64 (q.1:Int)))]) (λq=>[(4,b2,[.int .i64 0,.int .i64 0,.string ⟨#[]⟩,.int .i64 0,.int .i64 0,.int .i64 0,.int .i64 0,.slice none 0 0]),(13,b5,[.int .i64 e,.int .i64 0,.string ⟨#[]⟩,.int .i64 0,.int .i64 0,.int .i64 0,.int .i64 0,.slice q.2.1 q.1 q.2.2])]) (λq h7=>q.1<=l.length/\Keeps [] h3 h7/\h6.size<=h7.size/\Own h7 93 2 q.2.1 q.1 q.2.2 (bV (kU (l.take q.1)))/\∀ b∈ay q.2.1,h6.size<=b) (λq=>l.length-q.1) (0,none,0) ?_ ?_
              ·(conv=>whnf);exact ⟨(0,none,0),rfl,rfl,rfl,Nat.zero_le _,k36,Nat.le_refl _,.inl ⟨rfl,rfl,rfl,rfl⟩,λb hb=>(by cases hb)⟩
              ·rintro ⟨i,a7,c7⟩ h7 ⟨hi,k7,z7,O7,n7⟩;simp only at hi O7 n7;(conv=>whnf);refine aj.i (λhi1=>?_) (λhi1=>?_)
               ·have hi1:i<l.length:=by simpa using hi1
                obtain ⟨b8,o8,hb8,_,hc8⟩:=(S3.keep k7).at1 i (by rw [fE];exact hi1);have e8:(bq l)[i]'(by rw [fE];exact hi1)=ba (l[i]'hi1):=by simp [bq]
                rw [e8] at hc8;(conv=>whnf);refine aX.i i rfl hi1 hb8 ?_;(conv=>whnf);refine ax.i hc8 ?_;(conv=>whnf);refine aL.i λb9 h9 e9 s9 o9 k9=>?_;(conv=>whnf);refine Nf (s:=l[i]'hi1) (l:=l.take i) (O7.keep k9 (by simp)) (by rw [List.length_take];omega) (by omega) (λj hj=>?_) (λy hy hx=>?_) ?_
                ·simp only [Heap.cell?,o9];have:j=0\/j=1:=by omega
                 rcases this with rfl|rfl <;> rfl
                ·have:=n7 y hy;simp [au,aZ] at hx;omega
                ·intro a10 c10 h10 O10 k10 n10;have z9:=k9.size;have ew:IntKind.i64.wrap ((i:Int)+1)=((i+1:Nat):Int):=wrapN (by simp) (by omega);have ht:l.take (i+1)=l.take i++[l[i]'hi1]:=List.take_succ_eq_append_getElem hi1;have z10:=k10.size;(conv=>whnf);refine aK.i λh11 s11 k11=>?_;(conv=>whnf);refine ⟨l.length-(i+1),by omega,?_⟩;(conv=>whnf);rw [ew];have z11:=k11.size;have zG:∀ b∈ay a10,h6.size<=b:=λb hb=>by
                  rcases n10 b hb with h|h
                  ·exact n7 b h
                  ·omega
                 refine ⟨(i+1,a10,c10),rfl,rfl,rfl,hi1,(((k7.trans k9).cZ k10 (λb hb=>by have:=n7 b hb;omega)).new1 k11 (by omega)),by omega,?_,zG⟩;simp only;rw [ht];exact O10.keep k11 (λb hb hx=>by have:=zG b hb;simp at hx;omega)
               ·have hi1:i=l.length:=by simp at hi1;omega
                rw [hi1,List.take_length] at O7;subst hi1;(conv=>whnf);refine aK.i λh8 s8 k8=>?_;(conv=>whnf);exact ⟨(kk3.trans (k7.mono m0)).m1 k8 (by omega),_,⟨a7,c7,rfl,O7.keep k8 (λb hb hx=>by have:=n7 b hb;simp at hx;omega),λb hb=>by have:=n7 b hb;omega⟩,⟨hnl,hl105⟩,_,(A3.on k7).keep k8 hb2,(vc15 hk).2 ⟨⟨s,rfl⟩,hL.symm⟩⟩
             ·skip;(conv=>whnf);(try refine aV.pass ?_;conv=>whnf);refine aK.i λh4 s4 k4=>?_;(conv=>whnf);have hn4:c.kind≠4:=by simpa using hd4
              have hn5:c.kind≠5:=by simpa using hd5
              have hn6:c.kind≠6:=by simpa using hd6
              have hn7:c.kind≠7:=by simpa using hd7
              have hn8:c.kind≠8:=by simpa using hd8
              have hn9:c.kind≠9:=by simpa using hd9
              have hn10:c.kind≠10:=by simpa using hd10
              have hn11:c.kind≠11:=by simpa using hd11
              have hn13:c.kind≠13:=by simpa using hd13
              have hn12:c.kind≠12:=by simpa using hd12
              have hn14:c.kind≠14:=by simpa using hd14
              have hn16:c.kind≠16:=by simpa using hd16
              have hn15:c.kind≠15:=by simpa using hd15
              exact ⟨(kk2).m1 k4 (by omega),bI 1,eF.err _ _ 1,gq.nil rfl,X,A2.keep k4 hb2,(vc0 (by omega)).2 ⟨rfl,rfl⟩⟩
theorem bX.uZ {S:FS}{T:List aD}{num:List Int}(W:bX S T num)(path:List UInt8):(bB (aY S) path).2.2.2=(bB (aO T) path).2.2.2:=(W.place path).1
theorem bX.tE {S:FS}{T:List aD}{num:List Int}(W:bX S T num)(path:List UInt8):gB S path=tE T path/\(tE T path=0->(cO S path).1=nu num (tX T path)/\live T (tX T path)/\(tn T (tX T path)).kind≠2):=by
 obtain ⟨w1,w2⟩:=W.path path true;unfold gB Proofs.YtoociceebodfeaaGreatDoor.tE cO tX;by_cases h0:(aR (aO T) path true).2=0
 ·obtain ⟨a1,a2⟩:=w2 h0;have hk:=(W.kind _ a2).1;rw [<-a1] at hk;rw [w1,h0,hk];refine ⟨rfl,λh=>⟨a1,a2,λhk2=>?_⟩⟩;rw [if_pos ⟨rfl,hk2⟩] at h;cases h
 ·rw [if_neg (λh=>h0 (w1 ▸ h.1)),if_neg (λh=>h0 h.1),w1];exact ⟨rfl,λh=>absurd h h0⟩
structure Both (S:FS)(T:List aD)(num:List Int)(d':Int)(gK:List UInt8)(nd' d:Int)(nm:List UInt8)(nd:Int):Prop where
 ld:live T d
 kd:(tn T d).kind=2
 ed:d'=nu num d
 en:gK=nm
 ex:(nd=0/\nd'=0/\bR (tn T d).names nm=none)\/(nd≠0/\nd'≠0/\live T nd/\nd'=nu num nd/\∃ e,bR (tn T d).names nm=some e/\e.node=nd)
theorem bX.both {S:FS}{T:List aD}{num:List Int}(W:bX S T num){path:List UInt8}{d':Int}{gK:List UInt8}{nd' d:Int}{nm:List UInt8}{nd:Int}(P:ny S path d' gK nd')(Q:nA T path d nm nd):Both S T num d' gK nd' d nm nd:=by
 obtain ⟨w1,w2⟩:=W.place path;rw [P.is,Q.is] at w2;obtain ⟨a1,a2,a3,a4,a5⟩:=w2 rfl;simp only at a1 a2 a3 a4 a5;refine ⟨a1,a2,a3,a4,?_⟩;rcases a5 with ⟨b1,b2,b3⟩|⟨e,b1,b2,b3,b4⟩
 ·exact .inl ⟨b2,b3,b1⟩
 ·have h1:=b3.1.1;have h2:=W.bH _ b3;rw [<-b2] at b3 b4 h1 h2;exact .inr ⟨by omega,by omega,b3,b4,e,b1,b2.symm⟩
theorem bX.zC {S:FS}{T:List aD}{num:List Int}(W:bX S T num){path:List UInt8}{d:Int}{nm:List UInt8}{nd:Int}(Q:nA T path d nm nd)(h:(bB (aY S) path).2.2.2≠0):False:=by
 rw [W.uZ,Q.is] at h;exact h rfl
theorem bX.zD {S:FS}{T:List aD}{num:List Int}(W:bX S T num){path:List UInt8}{d:Int}{nm:List UInt8}{nd:Int}(P:ny S path d nm nd)(h:(bB (aO T) path).2.2.2≠0):False:=by
 rw [<-W.uZ,P.is] at h;exact h rfl
theorem bX.lk {now:Int->UInt64}{S:FS}{T:List aD}{num:List Int}(W:bX S T num)(I:bK now S){i:Int}(hi:live T i):0<=(tn T i).links/\(tn T i).links<=255/\((tn T i).kind=2->(tn T i).links=1):=by
 have hr:=W.bH i hi;have hk:=W.kind i hi;have N:=I.node (nu num i) (by omega) hr.2;rw [<-W.links i hi];by_cases h2:(tn T i).kind=2
 ·obtain ⟨m,D⟩:=N.dir (by rw [hk.1];exact h2);have:=D.kind.2;rw [this];exact ⟨by decide,by decide,λ_=>rfl⟩
 ·obtain ⟨m,F⟩:=N.file (by rw [hk.1];omega);exact ⟨F.kind.2.1,F.kind.2.2,λh=>absurd h h2⟩
theorem bX.zF {now:Int->UInt64}{S:FS}{T:List aD}{num:List Int}(W:bX S T num)(I:bK now S){i:Int}(hi:live T i)(h2:(tn T i).kind=2):(S.C (nu num i)).links=1:=by
 rw [W.links i hi];exact (W.lk I hi).2.2 h2
theorem M9 {x:Int}(h : -1000<=x/\x<=1000):IntKind.i64.wrap x=x:=dR (by omega) (by omega)
def Out (X X':VS)(S:FS)(num:List Int)(T':List aD)(r r':dz):Prop:=X'.away=X.away/\X'.bG=X.bG /\
 ((r=bI 9/\r'.err=0)\/(r=r'/\r.err≠0/\X'.now=X.now)\/(r=r'/\r.err=0/\∃ S' num',bK X'.now S'/\bX S' T' num'))
theorem Gn {B:Int->UInt64}{X X':VS}{S:FS}{T T':List aD}{num:List Int}(W:bX S T num)(I:bK X.now S){path data:List UInt8}{kind e e':Int}(hk:1<=kind/\kind<=3)(hd:kind=2->data=[])(R:lJ B X S path kind data (.int .i64 e) X')(D:mE T path kind data e' T'):Out X X' S num T' (bI e) (bI e'):=by
 obtain ⟨ra,rb,R⟩:=R;refine ⟨ra,rb,?_⟩;rcases R with ⟨r1,r2,r3,_⟩|⟨d',gK,nd',P,R⟩
 ·cases r2;rcases D with ⟨_,d2⟩|⟨d,nm,nd,Q,_⟩
  ·exact .inr (.inl ⟨by rw [d2,W.uZ],r1,r3⟩)
  ·exact absurd r1 (λh=>W.zC Q h)
 ·rcases D with ⟨d1,_⟩|⟨d,nm,nd,Q,D⟩
  ·exact absurd d1 (λh=>W.zD P h)
  ·obtain ⟨ld,kd,e1,e2,e3⟩:=W.both P Q;subst e1 e2;rcases R with ⟨r1,r2,r3,_⟩|⟨r1,r2,_⟩|⟨r1,r2,_,_,n,M⟩
   ·cases r2;rcases D with ⟨_,rfl⟩|⟨d1,_⟩
    ·exact .inr (.inl ⟨rfl,by decide,r3⟩)
    ·rcases e3 with ⟨_,q,_⟩|⟨q,_⟩
     ·exact absurd q r1
     ·exact absurd d1 q
   ·cases r2;rcases D with ⟨d1,_⟩|⟨_,rfl,_⟩
    ·rcases e3 with ⟨q,_⟩|⟨_,q,_⟩
     ·exact absurd q d1
     ·exact absurd r1 q
    ·exact .inl ⟨rfl,rfl⟩
   ·cases r2;rcases D with ⟨d1,_⟩|⟨d1,rfl,hT⟩
    ·rcases e3 with ⟨q,_⟩|⟨_,q,_⟩
     ·exact absurd q d1
     ·exact absurd r1 q
    ·subst d1;refine .inr (.inr ⟨rfl,rfl,?_⟩);obtain ⟨c2,c1,x1,x2,x3,x4,IF⟩:=M.fs;have hdk:(S.C (nu num d)).kind=2:=by rw [(W.kind d ld).1];exact kd
     have hdn:nu num d≠n:=λh=>by rw [h,M.was] at hdk;cases hdk
     have hdl:=W.zF I ld kd;refine ⟨_,num++[n],IF,?_⟩;rw [hT];refine W.made ld kd M.was ⟨by have:=M.bH;omega,M.bH.2⟩ (Q.wQ W.tree) hk hd (λx=>?_) (λx _ _ hx=>?_) (λx=>?_) (λx=>?_)
     ·show (if x=nu num d then c1 else if x=n then c2 else S.C x).kind=_;by_cases hxn:x=n
      ·rw [if_pos hxn,if_neg (by omega),if_pos hxn,x1]
      ·rw [if_neg hxn,if_neg hxn];by_cases hxd:x=nu num d
       ·rw [if_pos hxd,x3,hxd,hdk]
       ·rw [if_neg hxd]
     ·show (if x=nu num d then c1 else if x=n then c2 else S.C x).links=_;by_cases hxn:x=n
      ·rw [if_pos hxn,if_neg (by omega),if_pos hxn,x2]
      ·rw [if_neg hxn,if_neg hxn];by_cases hxd:x=nu num d
       ·rw [if_pos hxd,x4,hxd,hdl]
       ·rw [if_neg hxd]
     ·show (if x=nu num d then bD (S.nm (nu num d)) ⟨gK,n⟩ else if x=n then [] else S.nm x)=_;rfl
     ·show (if x=nu num d then S.aQ (nu num d) else if x=n then data else S.aQ x)=_;by_cases hxn:x=n
      ·rw [if_pos hxn,if_neg (by omega)]
      ·rw [if_neg hxn];by_cases hxd:x=nu num d
       ·rw [if_pos hxd,hxd]
       ·rw [if_neg hxd]
theorem VX {B:Int->UInt64}{X X':VS}{S:FS}{T T':List aD}{num:List Int}(W:bX S T num)(I:bK X.now S){old name:List UInt8}{e e':Int}(R:u6 B X S old name (.int .i64 e) X')(D:vB T old name e' T'):Out X X' S num T' (bI e) (bI e'):=by
 obtain ⟨ra,rb,R⟩:=R;refine ⟨ra,rb,?_⟩;obtain ⟨w1,w2⟩:=W.path old false;rw [w1] at R;rcases R with ⟨r1,r2,r3,_⟩|⟨r1,r2,r3,r4,_⟩|⟨r1,r2,R⟩
 ·cases r2;rcases D with ⟨_,rfl⟩|⟨d1,_⟩|⟨d1,_⟩
  ·exact .inr (.inl ⟨rfl,r1,r3⟩)
  ·exact absurd d1 r1
  ·exact absurd d1 r1
 ·cases r3;obtain ⟨a1,a2⟩:=w2 r1;rw [a1,(W.kind _ a2).1] at r2;rcases D with ⟨d1,_⟩|⟨_,_,rfl⟩|⟨_,d2,_⟩
  ·exact absurd r1 d1
  ·exact .inr (.inl ⟨rfl,by decide,r4⟩)
  ·exact absurd r2 d2
 ·obtain ⟨a1,a2⟩:=w2 r1;have hkk:=(W.kind _ a2).1;have hlk:=W.lk I a2;have hll:=W.links _ a2;rw [a1] at r2 R;rw [hkk] at r2;rcases D with ⟨d1,_⟩|⟨_,d2,_⟩|⟨_,d2,D⟩
  ·exact absurd r1 d1
  ·exact absurd d2 r2
  ·generalize (aR (aO T) old false).1=x at *;rcases R with ⟨r5,r6,r7,_⟩|⟨d',gK,nd',P,R⟩
   ·cases r6;rcases D with ⟨_,rfl⟩|⟨d,nm,nd,Q,_⟩
    ·exact .inr (.inl ⟨by rw [W.uZ],r5,r7⟩)
    ·exact absurd r5 (λh=>W.zC Q h)
   ·rcases D with ⟨d1,_⟩|⟨d,nm,nd,Q,D⟩
    ·exact absurd d1 (λh=>W.zD P h)
    ·obtain ⟨ld,kd,e1,e2,e3⟩:=W.both P Q;subst e1 e2;have hz:nd'=0↔nd=0:=by
      rcases e3 with ⟨q1,q2,_⟩|⟨q1,q2,_⟩
      ·exact ⟨λ_=>q1,λ_=>q2⟩
      ·exact ⟨λh=>absurd h q2,λh=>absurd h q1⟩
     rw [hll] at R;rcases R with ⟨r3,r4,r5,_⟩|⟨r3,r4,r5,r6,_⟩|⟨r3,r4,r5,_⟩|⟨r3,r4,r5,_,_,c2,c1,x1,x2,x3,x4,IF⟩
     ·cases r4;rcases D with ⟨_,rfl⟩|⟨d1,_⟩|⟨d1,_⟩
      ·exact .inr (.inl ⟨rfl,by decide,r5⟩)
      ·exact absurd (hz.2 d1) r3
      ·exact absurd (hz.2 d1) r3
     ·cases r5;rcases D with ⟨d1,_⟩|⟨_,_,rfl⟩|⟨_,d2,_⟩
      ·exact absurd (hz.1 r3) d1
      ·exact .inr (.inl ⟨rfl,by decide,r6⟩)
      ·omega
     ·cases r5;rcases D with ⟨d1,_⟩|⟨_,d2,_⟩|⟨_,_,rfl,_⟩
      ·exact absurd (hz.1 r3) d1
      ·omega
      ·exact .inl ⟨rfl,rfl⟩
     ·cases r5;rcases D with ⟨d1,_⟩|⟨_,d3,_⟩|⟨d1,_,rfl,hT⟩
      ·exact absurd (hz.1 r3) d1
      ·omega
      ·subst d1;refine .inr (.inr ⟨rfl,rfl,_,num,IF,?_⟩);have hdk:(S.C (nu num d)).kind=2:=by rw [(W.kind d ld).1];exact kd
       have hdl:=W.zF I ld kd;have hxd:nu num x≠nu num d:=λh=>r2 (by rw [<-hkk,h];exact hdk);rw [hT,M9 (by omega)];refine W.linked ld kd a2 d2 (Q.wQ W.tree) (λy=>?_) (λy _ _ hy=>?_) (λy=>?_) (λy=>?_)
       ·show (if y=nu num d then c1 else if y=nu num x then c2 else S.C y).kind=_;by_cases h1:y=nu num d
        ·rw [if_pos h1,x3,h1,hdk]
        ·rw [if_neg h1];by_cases h2:y=nu num x
         ·rw [if_pos h2,x1,h2]
         ·rw [if_neg h2]
       ·show (if y=nu num d then c1 else if y=nu num x then c2 else S.C y).links=_;by_cases h1:y=nu num d
        ·rw [if_pos h1,x4,h1,if_neg (λh=>hxd h.symm),hdl]
        ·rw [if_neg h1];by_cases h2:y=nu num x
         ·rw [if_pos h2,if_pos h2,x2,h2,hll]
         ·rw [if_neg h2,if_neg h2]
       ·show (if y=nu num d then bD (S.nm (nu num d)) ⟨gK,nu num x⟩ else if y=nu num x then S.nm (nu num x) else S.nm y)=_;by_cases h1:y=nu num d
        ·rw [if_pos h1,if_pos h1]
        ·rw [if_neg h1,if_neg h1];by_cases h2:y=nu num x
         ·rw [if_pos h2,h2]
         ·rw [if_neg h2]
       ·show (if y=nu num d then S.aQ (nu num d) else if y=nu num x then S.aQ (nu num x) else S.aQ y)=_;by_cases h1:y=nu num d
        ·rw [if_pos h1,h1]
        ·rw [if_neg h1];by_cases h2:y=nu num x
         ·rw [if_pos h2,h2]
         ·rw [if_neg h2]
theorem M0 (num:List Int)(e:aF):(rn num e).name=e.name:=rfl
theorem MZ {X X':VS}{S:FS}{T T':List aD}{num:List Int}(W:bX S T num)(I:bK X.now S){path:List UInt8}{isDir:Bool}{may:aA->Int}{e e':Int}
 (hm:∀ i,live T i->(may (S.C (nu num i))=(if isDir=false/\(tn T i).kind=2 then 7 else if isDir=true/\(tn T i).kind≠2 then 6 else if isDir=true/\(tn T i).names≠[] then 8 else 0)))
 (R:oh X S path may (.int .i64 e) X') (D:qC T path isDir e' T'):Out X X' S num T' (bI e) (bI e'):=by
 obtain ⟨ra,rb,R⟩:=R;refine ⟨ra,rb,?_⟩;rcases R with ⟨r1,r2,r3,_⟩|⟨d',gK,nd',P,R⟩
 ·cases r2;rcases D with ⟨_,rfl⟩|⟨d,nm,nd,Q,_⟩
  ·exact .inr (.inl ⟨by rw [W.uZ],r1,r3⟩)
  ·exact absurd r1 (λh=>W.zC Q h)
 ·rcases D with ⟨d1,_⟩|⟨d,nm,nd,Q,D⟩
  ·exact absurd d1 (λh=>W.zD P h)
  ·obtain ⟨ld,kd,e1,e2,e3⟩:=W.both P Q;subst e1 e2;rcases e3 with ⟨q1,q2,_⟩|⟨q1,q2,q3,q4,en,q5,q6⟩
   ·rcases R with ⟨_,r2,r3,_⟩|⟨r1,_⟩|⟨r1,_⟩
    ·cases r2;rcases D with ⟨_,rfl⟩|⟨d1,_⟩|⟨d1,_⟩|⟨d1,_⟩|⟨d1,_⟩
     ·exact .inr (.inl ⟨rfl,by decide,r3⟩)
     all_goals exact absurd q1 d1
    all_goals exact absurd q2 r1
   ·have hmd:=hm nd q3;rw [<-q4] at hmd;rcases R with ⟨r1,_⟩|⟨_,r2,r3,r4,_⟩|⟨_,r2,r3,_,c1,x1,x2,hL⟩
    ·exact absurd r1 q2
    ·cases r3;rw [hmd] at r2 ⊢;rcases D with ⟨d1,_⟩|⟨_,d2,d3,rfl⟩|⟨_,d2,d3,rfl⟩|⟨_,d2,d3,d4,rfl⟩|⟨_,d2,d3,_⟩
     ·exact absurd d1 q1
     ·rw [if_pos ⟨d2,d3⟩];exact .inr (.inl ⟨rfl,by decide,r4⟩)
     ·rw [if_neg (λh=>d3 h.2),if_pos ⟨d2,d3⟩];exact .inr (.inl ⟨rfl,by decide,r4⟩)
     ·rw [if_neg (λh=>by rw [d2] at h;cases h.1),if_neg (λh=>h.2 d3),if_pos ⟨d2,d4⟩];exact .inr (.inl ⟨rfl,by decide,r4⟩)
     ·exfalso;apply r2;rw [if_neg (λh=>by have:=d2.2 h.2;rw [h.1] at this;cases this),if_neg (λh=>h.2 (d2.1 h.1)),if_neg (λh=>h.2 (d3 h.1))]
    ·cases r3;rw [hmd] at r2;rcases D with ⟨d1,_⟩|⟨_,d2,d3,_⟩|⟨_,d2,d3,_⟩|⟨_,d2,d3,d4,_⟩|⟨_,d2,d3,rfl,hT⟩
     ·exact absurd d1 q1
     ·rw [if_pos ⟨d2,d3⟩] at r2;cases r2
     ·rw [if_neg (λh=>d3 h.2),if_pos ⟨d2,d3⟩] at r2;cases r2
     ·rw [if_neg (λh=>by rw [d2] at h;cases h.1),if_neg (λh=>h.2 d3),if_pos ⟨d2,d4⟩] at r2;cases r2
     ·have hem:en∈(tn T d).names:=List.mem_of_find?_eq_some q5;obtain ⟨hpt,hkl,hkn,_⟩:=vz (W.dir d ld kd).2.2.1 q5;have hnd:((tn T d).names[aP (tn T d).names gK]'hkl).node=nd:=by rw [hkn];exact q6
      obtain ⟨hne,hn1⟩:=W.ne_of ld kd hem;rw [q6] at hne hn1;have hlk:=W.lk I q3;have hcnt:=W.cnt nd q3 hn1;have hpos:=zU ld.1 hem;rw [q6] at hpos;have hll:=W.links nd q3;have hdl:=W.zF I ld kd;have hdk:(S.C (nu num d)).kind=2:=by rw [(W.kind d ld).1];exact kd
      have hxd:nu num nd≠nu num d:=λh=>hne (W.inj nd d q3 ld h);have hpk:aP (S.nm (nu num d)) gK=aP (tn T d).names gK:=by rw [(W.dir d ld kd).1,zY _ (M0 num)]
      have hT':T'=bJ (bJ T d { tn T d with names:=(tn T d).names.eraseIdx (aP (tn T d).names gK) }) nd (if (tn T nd).links-1=0 then ⟨0,0,0,[],[]⟩ else { tn T nd with links:=(tn T nd).links-1 }):=by
       rw [hT,lQ ld.1 _ (dW q3),if_neg hne];unfold tK;rw [M9 (by omega)]
      have hne0:(tn T nd).links=1->(tn T nd).names=[]:=λ_=>by
       by_cases h2:(tn T nd).kind=2
       ·exact d3 (d2.2 h2)
       ·exact (W.data nd q3 h2).2
      rw [q4,hpk] at hL;rw [hll] at hL;rcases hL with ⟨g1,vv,IF⟩|⟨g1,vv,IF⟩
      ·refine .inr (.inr ⟨rfl,rfl,_,num,IF,?_⟩);rw [hT'];have no:∀ y,¬ (y=nu num nd/\(tn T nd).links=1):=λy h=>by omega
       refine W.lost ld kd hkl hnd hne0 (λy=>?_) (λy _ _ _ _=>?_) (λy _=>?_) (λy _=>?_)
       ·rw [if_neg (no y)];show (if y=nu num nd then ni (sZ (S.C (nu num nd))) vv else if y=nu num d then c1 else S.C y).kind=_;by_cases h1:y=nu num nd
        ·rw [if_pos h1,h1];rfl
        ·rw [if_neg h1];by_cases h2:y=nu num d
         ·rw [if_pos h2,x1,h2,hdk]
         ·rw [if_neg h2]
       ·show (if y=nu num nd then ni (sZ (S.C (nu num nd))) vv else if y=nu num d then c1 else S.C y).links=_;by_cases h1:y=nu num nd
        ·rw [if_pos h1,if_pos h1,h1];rfl
        ·rw [if_neg h1,if_neg h1];by_cases h2:y=nu num d
         ·rw [if_pos h2,x2,h2,hdl]
         ·rw [if_neg h2]
       ·show (if y=nu num nd then S.nm (nu num nd) else if y=nu num d then _ else S.nm y)=_;by_cases h1:y=nu num nd
        ·rw [if_pos h1,h1,if_neg hxd]
        ·rw [if_neg h1]
       ·show (if y=nu num nd then S.aQ (nu num nd) else if y=nu num d then S.aQ (nu num d) else S.aQ y)=_;by_cases h1:y=nu num nd
        ·rw [if_pos h1,h1]
        ·rw [if_neg h1];by_cases h2:y=nu num d
         ·rw [if_pos h2,h2]
         ·rw [if_neg h2]
      ·have hl1:(tn T nd).links=1:=by omega
       refine .inr (.inr ⟨rfl,rfl,_,num,IF,?_⟩);rw [hT'];refine W.lost ld kd hkl hnd hne0 (λy=>?_) (λy _ _ _ hy=>?_) (λy hy=>?_) (λy hy=>?_)
       ·show (if y=nu num nd then gu vv else if y=nu num d then c1 else S.C y).kind=_;by_cases h1:y=nu num nd
        ·rw [if_pos h1,if_pos ⟨h1,hl1⟩];rfl
        ·rw [if_neg h1,if_neg (show ¬ (y=nu num nd/\(tn T nd).links=1) from λh=>h1 h.1)];by_cases h2:y=nu num d
         ·rw [if_pos h2,x1,h2,hdk]
         ·rw [if_neg h2]
       ·have h1:y≠nu num nd:=λh=>hy ⟨h,hl1⟩;show (if y=nu num nd then gu vv else if y=nu num d then c1 else S.C y).links=_;rw [if_neg h1,if_neg h1];by_cases h2:y=nu num d
        ·rw [if_pos h2,x2,h2,hdl]
        ·rw [if_neg h2]
       ·have h1:y≠nu num nd:=λh=>hy ⟨h,hl1⟩;show (if y=nu num nd then [] else if y=nu num d then _ else S.nm y)=_;rw [if_neg h1]
       ·have h1:y≠nu num nd:=λh=>hy ⟨h,hl1⟩;show (if y=nu num nd then [] else if y=nu num d then S.aQ (nu num d) else S.aQ y)=_;rw [if_neg h1];by_cases h2:y=nu num d
        ·rw [if_pos h2,h2]
        ·rw [if_neg h2]
theorem fF.snoc {T:List aD}{d x:Int}{e:aF}(h:fF T d x)(hk:(tn T d).kind=2)(he:e∈(tn T d).names):fF T e.node x:=by
 induction h with
 | refl=>exact .head hk he .refl
 | head h1 h2 _ ih=>exact .head h1 h2 ih
theorem lS.Gp {T:List aD}{x y:Int}(h:lS T x y):fF T y x:=by
 induction h with
 | refl=>exact .refl
 | step _ _ h2 h3 ih=>exact ih.snoc h2 h3
theorem bX.VZ {S:FS}{T:List aD}{num:List Int}(W:bX S T num){f x:Int}(h:fF T f x)(hx:live T x):mh S (nu num f) (nu num x):=by
 induction h with
 | refl=>exact .refl
 | @head x e h1 h2 h3 ih=>
  obtain ⟨a1,a2,_,_⟩:=W.dir x hx h1;have h2':rn num e∈S.nm (nu num x):=by rw [a1];exact List.mem_map_of_mem h2
  exact .head (by rw [(W.kind x hx).1];exact h1) h2' (ih (a2 e h2))
theorem bX.Gp {S:FS}{T:List aD}{num:List Int}(W:bX S T num){f:Int}(hf:live T f){x':Int}(h:mh S (nu num f) x'):∀ x,live T x->x'=nu num x->fF T f x:=by
 induction h with
 | refl=>
  intro x hx e;rw [W.inj f x hf hx e];exact .refl
 | @head y e h1 h2 h3 ih=>
  intro x hx ey;subst ey;have hk:(tn T x).kind=2:=by rw [<-(W.kind x hx).1];exact h1
  obtain ⟨a1,a2,_,_⟩:=W.dir x hx hk;rw [a1] at h2;obtain ⟨e0,h0,rfl⟩:=List.mem_map.1 h2;exact .head hk h0 (ih e0.node (a2 e0 h0) rfl)
theorem VY {X X':VS}{S:FS}{T T':List aD}{num:List Int}(W:bX S T num)(I:bK X.now S){old name:List UInt8}{e e':Int}(R:uY X S old name (.int .i64 e) X')(D:lM T old name e' T'):Out X X' S num T' (bI e) (bI e'):=by
 obtain ⟨ra,rb,R⟩:=R;refine ⟨ra,rb,?_⟩;rcases R with ⟨r1,r2,r3,_⟩|⟨r1,r2,R⟩
 ·cases r2;rcases D with ⟨_,rfl⟩|⟨d1,d2,_⟩
  ·exact .inr (.inl ⟨rfl,by decide,r3⟩)
  ·rcases r1 with r1|r1
   ·exact absurd r1 d1
   ·exact absurd r1 d2
 ·rcases D with ⟨d1,_⟩|⟨_,_,D⟩
  ·rcases d1 with d1|d1
   ·exact absurd d1 r1
   ·exact absurd d1 r2
  ·rcases R with ⟨r3,r4,r5,_⟩|⟨d',gK,nd',P,R⟩
   ·cases r4;rcases D with ⟨_,rfl⟩|⟨d,nm,nd,Q,_⟩
    ·exact .inr (.inl ⟨by rw [W.uZ],r3,r5⟩)
    ·exact absurd r3 (λh=>W.zC Q h)
   ·rcases D with ⟨d1,_⟩|⟨d,nm,nd,Q,D⟩
    ·exact absurd d1 (λh=>W.zD P h)
    ·obtain ⟨ld,kd,e1,e2,e3⟩:=W.both P Q;subst e1 e2;rcases e3 with ⟨q1,q2,_⟩|⟨q1,q2,q3,q4,en,q5,q6⟩
     ·rcases R with ⟨_,r4,r5,_⟩|⟨r3,_⟩
      ·cases r4;rcases D with ⟨_,rfl⟩|⟨d1,_⟩
       ·exact .inr (.inl ⟨rfl,by decide,r5⟩)
       ·exact absurd q1 d1
      ·exact absurd q2 r3
     ·rcases R with ⟨r3,_⟩|⟨_,R⟩
      ·exact absurd r3 q2
      ·rcases D with ⟨d1,_⟩|⟨_,D⟩
       ·exact absurd d1 q1
       ·rcases R with ⟨r3,r4,r5,_⟩|⟨f',Hz,zQ,P2,R⟩
        ·cases r4;rcases D with ⟨_,rfl⟩|⟨_,_,_,Q2,_⟩
         ·exact .inr (.inl ⟨by rw [W.uZ],r3,r5⟩)
         ·exact absurd r3 (λh=>W.zC Q2 h)
        ·rcases D with ⟨d1,_⟩|⟨f,nm2,nd2,Q2,D⟩
         ·exact absurd d1 (λh=>W.zD P2 h)
         ·obtain ⟨lf,kf,f1,f2,f3⟩:=W.both P2 Q2;subst f1 f2;have hz:zQ=0↔nd2=0:=by
           rcases f3 with ⟨g1,g2,_⟩|⟨g1,g2,_⟩
           ·exact ⟨λ_=>g1,λ_=>g2⟩
           ·exact ⟨λh=>absurd h g2,λh=>absurd h g1⟩
          have hs:zQ=nd'↔nd2=nd:=by
           rcases f3 with ⟨g1,g2,_⟩|⟨g1,g2,g3,g4,_⟩
           ·exact ⟨λh=>absurd (h.symm.trans g2) q2,λh=>absurd (h.symm.trans g1) q1⟩
           ·exact ⟨λh=>W.inj nd2 nd g3 q3 (by rw [<-g4,<-q4];exact h),λh=>by rw [g4,q4,h]⟩
          have hB:mh S (nu num f) nd'↔((tn T nd).kind=2/\fF T f nd):=by
           rw [q4];exact ⟨λh=>by
            have hb:=W.Gp lf h nd q3 rfl;exact ⟨hb.dir kf,hb⟩,λh=>W.VZ h.2 q3⟩
          rcases R with ⟨r3,r4,r5,_⟩|⟨r3,r4,r5,r6,_⟩|⟨r3,r4,r5,r6,r7,_⟩|⟨r3,r4,r5⟩|⟨r3,r4,r5,_,c1,c2,x1,x2,x3,x4,IF⟩
          ·cases r4;rcases D with ⟨_,rfl,rfl⟩|⟨d1,_⟩|⟨d1,_⟩|⟨d1,_⟩
           ·exact .inr (.inr ⟨rfl,rfl,S,num,by rw [r5];exact I,W⟩)
           ·exact absurd (hs.1 r3) d1
           ·exact absurd (hs.1 r3) d1
           ·exact absurd (hs.1 r3) (λh=>q1 (h.symm.trans d1))
          ·cases r5;rcases D with ⟨d1,_⟩|⟨_,_,rfl⟩|⟨_,d2,_⟩|⟨_,d2,_⟩
           ·exact absurd (hs.2 d1) r3
           ·exact .inr (.inl ⟨rfl,by decide,r6⟩)
           ·exact absurd (hB.1 r4) d2
           ·exact absurd (hB.1 r4) d2
          ·cases r6;rcases D with ⟨d1,_⟩|⟨_,d2,_⟩|⟨_,d2,d3,rfl⟩|⟨d1,_⟩
           ·exact absurd (hs.2 d1) r3
           ·exact absurd (hB.2 d2) r4
           ·exact .inr (.inl ⟨rfl,by decide,r7⟩)
           ·exact absurd (hz.2 d1) r5
          ·cases r5;rcases D with ⟨d1,_⟩|⟨_,d2,_⟩|⟨_,_,d3,_⟩|⟨_,_,rfl,_⟩
           ·exact absurd (hs.2 d1) (λh=>q2 (h.symm.trans r3))
           ·exact absurd (hB.2 d2) r4
           ·exact absurd (hz.1 r3) d3
           ·exact .inl ⟨rfl,rfl⟩
          ·cases r5;rcases D with ⟨d1,_⟩|⟨_,d2,_⟩|⟨_,_,d3,_⟩|⟨d1,d2,rfl,hT⟩
           ·exact absurd (hs.2 d1) (λh=>q2 (h.symm.trans r3))
           ·exact absurd (hB.2 d2) r4
           ·exact absurd (hz.1 r3) d3
           ·refine .inr (.inr ⟨rfl,rfl,_,num,IF,?_⟩);rw [hT];obtain ⟨hpt,hkl,hkn,_⟩:=vz (W.dir d ld kd).2.2.1 q5;have hnd:((tn T d).names[aP (tn T d).names gK]'hkl).node=nd:=by rw [hkn];exact q6
            have hpk:aP (S.nm (nu num d)) gK=aP (tn T d).names gK:=by rw [(W.dir d ld kd).1,zY _ (M0 num)]
            have hdk:(S.C (nu num d)).kind=2:=by rw [(W.kind d ld).1];exact kd
            have jw:(S.C (nu num f)).kind=2:=by rw [(W.kind f lf).1];exact kf
            have hdl:=W.zF I ld kd;have hfl:=W.zF I lf kf;have hdf:nu num f=nu num d↔f=d:=⟨λh=>W.inj f d lf ld h,λh=>by rw [h]⟩;subst d1;refine W.moved ld kd hkl hnd lf kf ?_ (λhb=>d2 ?_) (λy=>?_) (λy _ _ _=>?_) (λy=>?_) (λy=>?_)
            ·by_cases pQ:f=d
             ·rw [if_pos pQ];subst pQ;exact xu (tN (W.dir _ lf kf).2.2.1 _) (M8 (Q2.new W.tree) _)
             ·rw [if_neg pQ];exact Q2.wQ W.tree
            ·have hb2:=hb.Gp;exact ⟨hb2.dir kf,hb2⟩
            ·show (if y=nu num f then c2 else if y=nu num d then c1 else S.C y).kind=_;by_cases h1:y=nu num f
             ·rw [if_pos h1,x3,h1,jw]
             ·rw [if_neg h1];by_cases h2:y=nu num d
              ·rw [if_pos h2,x1,h2,hdk]
              ·rw [if_neg h2]
            ·show (if y=nu num f then c2 else if y=nu num d then c1 else S.C y).links=_;by_cases h1:y=nu num f
             ·rw [if_pos h1,x4,h1,hfl]
             ·rw [if_neg h1];by_cases h2:y=nu num d
              ·rw [if_pos h2,x2,h2,hdl]
              ·rw [if_neg h2]
            ·show (if y=nu num f then bD (if nu num f=nu num d then (S.nm (nu num d)).eraseIdx (aP (S.nm (nu num d)) gK) else S.nm (nu num f)) ⟨Hz,nd'⟩ else if y=nu num d then (S.nm (nu num d)).eraseIdx (aP (S.nm (nu num d)) gK) else S.nm y)=_;rw [hpk,q4];by_cases pQ:f=d
             ·rw [if_pos pQ,if_pos (hdf.2 pQ)]
             ·rw [if_neg pQ,if_neg (λh=>pQ (hdf.1 h))]
            ·show (if y=nu num f then S.aQ (nu num f) else if y=nu num d then S.aQ (nu num d) else S.aQ y)=_;by_cases h1:y=nu num f
             ·rw [if_pos h1,h1]
             ·rw [if_neg h1];by_cases h2:y=nu num d
              ·rw [if_pos h2,h2]
              ·rw [if_neg h2]
theorem MX {X X':VS}{S:FS}{T T':List aD}{num:List Int}(W:bX S T num)(I:bK X.now S){path:List UInt8}{r:List UInt8->List UInt8×Int}{e e':Int}
 (R:X'.away=X.away/\X'.bG=X.bG/\((gB S path≠0/\e=gB S path/\X'.now=X.now)\/(gB S path=0/\(r (S.aQ (cO S path).1)).2≠0/\e=(r (S.aQ (cO S path).1)).2/\X'.now=X.now)\/(gB S path=0/\(r (S.aQ (cO S path).1)).2=0/\e=9) \/
  (gB S path=0/\(r (S.aQ (cO S path).1)).2=0/\e=0/\∃ c',c'.kind=(S.C (cO S path).1).kind/\c'.links=(S.C (cO S path).1).links/\bK X'.now (S.put (cO S path).1 c' (S.nm (cO S path).1) (r (S.aQ (cO S path).1)).1))))
 (D:mD T path r e' T'):Out X X' S num T' (bI e) (bI e'):=by
 obtain ⟨ra,rb,R⟩:=R;refine ⟨ra,rb,?_⟩;obtain ⟨w1,w2⟩:=W.tE path;rw [w1] at R;by_cases h0:tE T path=0
 ·obtain ⟨a1,a2,a3⟩:=w2 h0;have hd:=(W.data _ a2 a3).1;rw [a1,<-hd] at R;rcases R with ⟨r1,_⟩|⟨_,r2,r3,r4⟩|⟨_,r2,r3⟩|⟨_,r2,r3,c',x1,x2,IF⟩
  ·exact absurd h0 r1
  ·rcases D with ⟨d1,_⟩|⟨_,d2,d3⟩|⟨_,d2,_⟩
   ·exact absurd h0 d1
   ·exact .inr (.inl ⟨by rw [r3,d3],by rw [r3];exact r2,r4⟩)
   ·exact absurd d2 r2
  ·subst r3;rcases D with ⟨d1,_⟩|⟨_,d2,d3⟩|⟨_,d2,d3,_⟩
   ·exact absurd h0 d1
   ·exact absurd r2 d2
   ·exact .inl ⟨rfl,d3⟩
  ·subst r3;rcases D with ⟨d1,_⟩|⟨_,d2,d3⟩|⟨_,d2,d3,hT⟩
   ·exact absurd h0 d1
   ·exact absurd r2 d2
   ·subst d3;refine .inr (.inr ⟨rfl,rfl,_,num,IF,?_⟩);rw [hT];refine W.wrote a2 a3 (λy=>?_) (λy _ _ _=>?_) (λy=>?_) (λy=>rfl)
    ·show (if y=nu num (tX T path) then c' else S.C y).kind=_;by_cases h1:y=nu num (tX T path)
     ·rw [if_pos h1,x1,h1]
     ·rw [if_neg h1]
    ·show (if y=nu num (tX T path) then c' else S.C y).links=_;by_cases h1:y=nu num (tX T path)
     ·rw [if_pos h1,x2,h1]
     ·rw [if_neg h1]
    ·show (if y=nu num (tX T path) then S.nm (nu num (tX T path)) else S.nm y)=_;by_cases h1:y=nu num (tX T path)
     ·rw [if_pos h1,h1]
     ·rw [if_neg h1]
 ·rcases R with ⟨r1,r2,r3⟩|⟨r1,_⟩|⟨r1,_⟩|⟨r1,_⟩
  ·rcases D with ⟨_,d2⟩|⟨d1,_⟩|⟨d1,_⟩
   ·exact .inr (.inl ⟨by rw [r2,d2],by rw [r2];exact h0,r3⟩)
   ·exact absurd d1 h0
   ·exact absurd d1 h0
  all_goals exact absurd r1 h0
theorem VQ {B:Int->UInt64}{X X':VS}{S:FS}{T T':List aD}{num:List Int}(W:bX S T num)(I:bK X.now S){path data:List UInt8}{at_ e e':Int}(R:sW B X S path at_ data (.int .i64 e) X')(D:mD T path (λs=>fu s at_ data) e' T'):Out X X' S num T' (bI e) (bI e'):=by
 refine MX W I ?_ D;obtain ⟨ra,rb,R⟩:=R;refine ⟨ra,rb,?_⟩;rcases R with ⟨r1,r2,r3,_⟩|⟨r1,r2,r3,r4,_⟩|⟨r1,r2,r3,_⟩|⟨r1,r2,r3,_,r4⟩
 ·cases r2;exact .inl ⟨r1,rfl,r3⟩
 ·cases r3;exact .inr (.inl ⟨r1,r2,rfl,r4⟩)
 ·cases r3;exact .inr (.inr (.inl ⟨r1,r2,rfl⟩))
 ·cases r3;exact .inr (.inr (.inr ⟨r1,r2,rfl,r4⟩))
theorem VR {X X':VS}{S:FS}{T T':List aD}{num:List Int}(W:bX S T num)(I:bK X.now S){path:List UInt8}{size e e':Int}(R:uX X S path size (.int .i64 e) X')(D:mD T path (λs=>ic s size) e' T'):Out X X' S num T' (bI e) (bI e'):=by
 refine MX W I ?_ D;obtain ⟨ra,rb,R⟩:=R;refine ⟨ra,rb,?_⟩;rcases R with ⟨r1,r2,r3,_⟩|⟨r1,r2,r3,r4,_⟩|⟨r1,r2,r3,_,r4⟩
 ·cases r2;exact .inl ⟨r1,rfl,r3⟩
 ·cases r3;exact .inr (.inl ⟨r1,r2,rfl,r4⟩)
 ·cases r3;exact .inr (.inr (.inr ⟨r1,r2,rfl,r4⟩))
def Gm (T:List aD):Prop:=∀ i,(tn T i).kind=3->(tn T i).data.length<=120
theorem VT {s:List UInt8}(h:s.length<=120):jd s 0 120=(s,0):=by
 unfold jd;rw [if_neg (by omega)];by_cases h0:(s.length:Int)<=0
 ·rw [if_pos h0];have:s=[]:=List.eq_nil_of_length_eq_zero (by omega);rw [this]
 ·rw [if_neg h0];have:(min (s.length:Int) (0+120)).toNat=s.length:=by omega
  rw [this,List.take_length];rfl
theorem H8 {S:FS}{T:List aD}{num:List Int}(W:bX S T num)(c:cK):oq S c=nC T c:=by
 obtain ⟨w1,w2⟩:=W.tE c.path;unfold oq nC;rw [w1];by_cases h0:tE T c.path=0
 ·obtain ⟨a1,a2,a3⟩:=w2 h0;rw [if_pos h0,if_pos h0,a1,<-(W.data _ a2 a3).1]
 ·rw [if_neg h0,if_neg h0]
theorem H9 {now:Int->UInt64}{S:FS}{T:List aD}{num:List Int}(W:bX S T num)(I:bK now S)(c:cK):kW S c=iU T c:=by
 obtain ⟨w1,w2⟩:=W.path c.path false;unfold kW iU;rw [w1];by_cases h0:(aR (aO T) c.path false).2=0
 ·obtain ⟨a1,a2⟩:=w2 h0;rw [if_pos h0,if_pos h0,a1];generalize (aR (aO T) c.path false).1=x at a2 ⊢;have hk:=W.kind x a2;have hr:=W.bH x a2;have N:=I.node (nu num x) (by omega) hr.2;have hs:(S.C (nu num x)).size=(((tn T x).data.length+(tn T x).names.length:Nat):Int):=by
   by_cases h2:(tn T x).kind=2
   ·obtain ⟨m,D⟩:=N.dir (by rw [hk.1];exact h2);obtain ⟨q1,_,_,q4⟩:=W.dir x a2 h2;rw [D.size,q1,q4,List.length_map];simp
   ·obtain ⟨m,F⟩:=N.file (by rw [hk.1];omega);obtain ⟨q1,q2⟩:=W.data x a2 h2;rw [F.size,q1,q2];simp
  rw [hk.1,W.links x a2,hs]
 ·rw [if_neg h0,if_neg h0]
theorem Ib {S:FS}{T:List aD}{num:List Int}(W:bX S T num)(hs:Gm T)(c:cK):ou S c=nD T c:=by
 obtain ⟨w1,w2⟩:=W.path c.path false;unfold ou nD;rw [w1];by_cases h0:(aR (aO T) c.path false).2=0
 ·obtain ⟨a1,a2⟩:=w2 h0;rw [if_pos h0,if_pos h0,a1];generalize (aR (aO T) c.path false).1=x at a2 ⊢;rw [(W.kind x a2).1];by_cases h3:(tn T x).kind=3
  ·rw [if_pos h3,if_pos h3,<-(W.data x a2 (by omega)).1,VT (hs x h3)]
  ·rw [if_neg h3,if_neg h3]
 ·rw [if_neg h0,if_neg h0]
theorem Ie {S:FS}{T:List aD}{num:List Int}(W:bX S T num)(c:cK):zB S c=pX T c:=by
 obtain ⟨w1,w2⟩:=W.path c.path true;have hE:vE S c.path=lE T c.path:=by
  unfold vE lE;rw [w1];by_cases h0:(aR (aO T) c.path true).2=0
  ·obtain ⟨a1,a2⟩:=w2 h0;rw [a1,(W.kind _ a2).1]
  ·rw [if_neg (λh=>h0 h.1),if_neg (λh=>h0 h.1)]
 unfold zB pX vN;rw [hE]
 congr 1
 by_cases hl:lE T c.path=0
 ·rw [if_pos hl,if_pos hl];have h0:(aR (aO T) c.path true).2=0/\(tn T (aR (aO T) c.path true).1).kind=2:=by
   unfold lE at hl;split at hl
   ·cases hl
   ·rename_i hn;exact ⟨hl,Classical.byContradiction λh=>hn ⟨hl,h⟩⟩
  obtain ⟨a1,a2⟩:=w2 h0.1;rw [a1,(W.dir _ a2 h0.2).1];unfold fH tX;rw [List.map_map];rfl
 ·rw [if_neg hl,if_neg hl]
theorem VU {now:Int->UInt64}{S:FS}{T:List aD}{num:List Int}(W:bX S T num)(I:bK now S):∀ i,live T i->(qz (S.C (nu num i))=(if false=false/\(tn T i).kind=2 then 7 else if false=true/\(tn T i).kind≠2 then 6 else if false=true/\(tn T i).names≠[] then 8 else 0)):=by
 intro i hi;unfold qz;rw [(W.kind i hi).1];by_cases h2:(tn T i).kind=2
 ·rw [if_pos h2,if_pos ⟨rfl,h2⟩]
 ·rw [if_neg h2,if_neg (λh=>h2 h.2),if_neg (λh=>by cases h.1),if_neg (λh=>by cases h.1)]
theorem VW {now:Int->UInt64}{S:FS}{T:List aD}{num:List Int}(W:bX S T num)(I:bK now S):∀ i,live T i->(qA (S.C (nu num i))=(if true=false/\(tn T i).kind=2 then 7 else if true=true/\(tn T i).kind≠2 then 6 else if true=true/\(tn T i).names≠[] then 8 else 0)):=by
 intro i hi;unfold qA;have hr:=W.bH i hi;have hk:=W.kind i hi;rw [if_neg (show ¬ (true=false/\(tn T i).kind=2) from λh=>by cases h.1),hk.1];by_cases h2:(tn T i).kind=2
 ·obtain ⟨m,D⟩:=(I.node (nu num i) (by omega) hr.2).dir (by rw [hk.1];exact h2);have hs:(S.C (nu num i)).size=((tn T i).names.length:Int):=by rw [D.size,(W.dir i hi h2).1,List.length_map]
  rw [if_neg (λh=>h h2),if_neg (show ¬ (true=true/\(tn T i).kind≠2) from λh=>h.2 h2),hs];by_cases hn:(tn T i).names=[]
  ·rw [if_neg (by rw [hn];simp),if_neg (λh=>h.2 hn)]
  ·have:=List.length_pos_iff.2 hn;rw [if_pos (by omega),if_pos ⟨rfl,hn⟩]
 ·rw [if_pos h2,if_pos ⟨rfl,h2⟩]
theorem Ig {B:Int->UInt64}{X X':VS}{S:FS}{T T':List aD}{num:List Int}(W:bX S T num)(I:bK X.now S)(hs:Gm T){c:cK}{r r':dz}(RR:fO B X S c r X')(DD:fw T c r' T'):Out X X' S num T' r r':=by
 have tell:∀ {q q':dz},q=q'->(∃ s,X'={ X with seen:=s })/\r=q->T'=T/\r'=q'->Out X X' S num T' r r':=by
  rintro q q' rfl ⟨⟨s,rfl⟩,rfl⟩ ⟨rfl,rfl⟩;refine ⟨rfl,rfl,.inr ?_⟩;by_cases h:r'.err=0
  ·exact .inr ⟨rfl,h,S,num,I,W⟩
  ·exact .inl ⟨rfl,h,rfl⟩
 by_cases k4:c.kind=4
 ·obtain ⟨e,rfl,R⟩:=(vc4 k4).1 RR;obtain ⟨e',rfl,D⟩:=(rc4 k4).1 DD;exact Gn W I (by decide) (λ_=>rfl) R D
 by_cases k5:c.kind=5
 ·obtain ⟨e,rfl,R⟩:=(vc5 k5).1 RR;obtain ⟨e',rfl,D⟩:=(rc5 k5).1 DD;exact Gn W I (by decide) (λ_=>rfl) R D
 by_cases k6:c.kind=6
 ·obtain ⟨e,rfl,R⟩:=(vc6 k6).1 RR;obtain ⟨e',rfl,D⟩:=(rc6 k6).1 DD;exact VX W I R D
 by_cases k7:c.kind=7
 ·obtain ⟨e,rfl,R⟩:=(vc7 k7).1 RR;obtain ⟨e',rfl,D⟩:=(rc7 k7).1 DD;rcases R with ⟨r1,rfl,rfl⟩|⟨r1,R⟩
  ·rcases D with ⟨_,rfl⟩|⟨d1,_⟩
   ·exact ⟨rfl,rfl,.inr (.inl ⟨rfl,by decide,rfl⟩)⟩
   ·exact absurd r1 d1
  ·rcases D with ⟨d1,_⟩|⟨_,D⟩
   ·exact absurd d1 r1
   ·exact Gn W I (by decide) (λh=>by cases h) R D
 by_cases k8:c.kind=8
 ·obtain ⟨e,rfl,R⟩:=(vc8 k8).1 RR;obtain ⟨e',rfl,D⟩:=(rc8 k8).1 DD;exact MZ W I (VU W I) R D
 by_cases k9:c.kind=9
 ·obtain ⟨e,rfl,R⟩:=(vc9 k9).1 RR;obtain ⟨e',rfl,D⟩:=(rc9 k9).1 DD;exact MZ W I (VW W I) R D
 by_cases k10:c.kind=10
 ·obtain ⟨e,rfl,R⟩:=(vc10 k10).1 RR;obtain ⟨e',rfl,D⟩:=(rc10 k10).1 DD;exact VY W I R D
 by_cases k11:c.kind=11
 ·obtain ⟨e,rfl,R⟩:=(vc11 k11).1 RR;obtain ⟨e',rfl,D⟩:=(rc11 k11).1 DD;exact VQ W I R D
 by_cases k13:c.kind=13
 ·obtain ⟨e,rfl,R⟩:=(vc13 k13).1 RR;obtain ⟨e',rfl,D⟩:=(rc13 k13).1 DD;exact VR W I R D
 by_cases k12:c.kind=12
 ·exact tell (H8 W c) ((vc12 k12).1 RR) ((rc12 k12).1 DD)
 by_cases k14:c.kind=14
 ·exact tell (H9 W I c) ((vc14 k14).1 RR) ((rc14 k14).1 DD)
 by_cases k16:c.kind=16
 ·exact tell (Ib W hs c) ((vc16 k16).1 RR) ((rc16 k16).1 DD)
 by_cases k15:c.kind=15
 ·exact tell (Ie W c) ((vc15 k15).1 RR) ((rc15 k15).1 DD)
 obtain ⟨rfl,rfl⟩:=(vc0 (by omega)).1 RR;obtain ⟨rfl,rfl⟩:=(rc0 (by omega)).1 DD;exact ⟨rfl,rfl,.inr (.inl ⟨rfl,by decide,rfl⟩)⟩
theorem Gl {F:Fs}(h1:F.kind 1≠3):∀ (f:Nat) (at_:Int) (links:Nat) (l:List (List UInt8)),F.kind at_≠3->(dn F 1 true f at_ links l).2=0->F.kind (dn F 1 true f at_ links l).1≠3
 | 0,_,_,_,_,h=>by cases h
 | f+1,at_,links,[],ha,_=>ha
 | f+1,at_,links,name::rest,ha,h=>by
  rw [tL] at h ⊢;split at h
  ·cases h
  ·rename_i hk;rw [if_neg hk];cases hf:F.find at_ name with
   | none=>rw [hf] at h;cases h
   | some next=>
    rw [hf] at h;simp only at h ⊢;split at h
    ·rename_i hc;rw [if_pos hc];refine Gl h1 f next links rest ?_ h;rcases hc with hc|hc
     ·exact hc
     ·cases hc.2
    ·rename_i hc;rw [if_neg hc];split at h
     ·cases h
     ·rename_i h8;rw [if_neg h8];cases hp:bC (F.data next) with
      | none=>rw [hp] at h;cases h
      | some head=>
       rw [hp] at h;exact Gl h1 f 1 (links+1) (head++rest) h1 h
theorem VP {T:List aD}(h1:(tn T 1).kind≠3){path:List UInt8}(h:(aR (aO T) path true).2=0):(tn T (tX T path)).kind≠3:=by
 unfold tX;unfold aR at h ⊢;cases hp:bC path with
 | none=>rw [hp] at h;cases h
 | some l=>
  rw [hp] at h;exact Gl (F:=aO T) h1 600 1 0 l h1 h
def qy (N:Nat)(x:aD):Prop:=x.names.length<=N/\(x.kind=3->x.data.length<=120)
structure iV (T:List aD)(N:Nat):Prop where
 len:T.length<=N+2
 all:∀ x∈T,qy N x
theorem qy.up {N:Nat}{x:aD}(h:qy N x):qy (N+1) x:=⟨by have:=h.1;omega,h.2⟩
theorem iV.up {T:List aD}{N:Nat}(h:iV T N):iV T (N+1):=⟨by have:=h.len;omega,λx hx=>(h.all x hx).up⟩
theorem iV.tn {T:List aD}{N:Nat}(h:iV T N)(i:Int):qy N (tn T i):=by
 unfold Proofs.YtoociceebodfeaaGreatDoor.tn;cases hx:T[i.toNat]? with
 | none=>exact ⟨Nat.zero_le _,λh=>by cases h⟩
 | some x=>exact h.all x (List.mem_of_getElem? hx)
theorem iV.short {T:List aD}{N:Nat}(h:iV T N):Gm T:=λi hi=>(h.tn i).2 hi
theorem iV.bJ {T:List aD}{N:Nat}(h:iV T N)(d:Int){x:aD}(hx:qy N x):iV (bJ T d x) N:=
 ⟨by rw [oL];exact h.len,λy hy=>by
  rcases List.mem_or_eq_of_mem_set hy with hy|rfl
  ·exact h.all y hy
  ·exact hx⟩
theorem mE.jV {T T':List aD}{N:Nat}{path data:List UInt8}{kind:Int}(hd:kind=3->data.length<=120)(S:iV T N)(D:mE T path kind data 0 T'):iV T' (N+1):=by
 rcases D with ⟨d1,d2⟩|⟨d,nm,nd,Q,⟨_,d2⟩|⟨_,_,rfl⟩⟩
 ·exact absurd d2.symm d1
 ·cases d2
 ·have h1:=S.up.bJ d (x:={ tn T d with names:=bD (tn T d).names ⟨nm,(T.length:Int)⟩ }) ⟨by
   show (bD (tn T d).names ⟨nm,(T.length:Int)⟩).length<=N+1;rw [zA];have:=(S.tn d).1;omega,(S.tn d).2⟩
  refine ⟨?_,λy hy=>?_⟩
  ·rw [List.length_append,oL];have:=S.len;simp only [List.length_cons,List.length_nil];omega
  ·rcases List.mem_append.1 hy with hy|hy
   ·exact h1.all y hy
   ·obtain rfl:=List.mem_singleton.1 hy;exact ⟨Nat.zero_le _,hd⟩
theorem fw.jV {T T':List aD}{N:Nat}{c:cK}{r:dz}(h1:(tn T 1).kind≠3)(S:iV T N)(h0:r.err=0)(DD:fw T c r T'):iV T' (N+1):=by
 have MW:∀ (T:List aD) (d:Int) (k:Nat),iV T N->qy N { tn T d with names:=(tn T d).names.eraseIdx k }:=λT d k S=>⟨by
  show ((tn T d).names.eraseIdx k).length<=N;have:=(List.eraseIdx_sublist (tn T d).names k).length_le;have:=(S.tn d).1;omega,(S.tn d).2⟩
 have dat:∀ {path:List UInt8} {f:List UInt8->List UInt8×Int},mD T path f 0 T'->iV T' (N+1):=by
  intro path f D;rcases D with ⟨d1,d2⟩|⟨_,d1,d2⟩|⟨d1,_,_,rfl⟩
  ·exact absurd d2.symm d1
  ·exact absurd d2.symm d1
  ·have hx:qy N { tn T (tX T path) with data:=(f (tn T (tX T path)).data).1 }:=⟨(S.tn (tX T path)).1,λhk=>absurd hk (VP h1 (Ct d1).1)⟩;exact (S.bJ _ hx).up
 have rem:∀ {path:List UInt8} {b:Bool},qC T path b 0 T'->iV T' (N+1):=by
  intro path b D;rcases D with ⟨d1,d2⟩|⟨d,nm,nd,Q,⟨_,d2⟩|⟨_,_,_,d2⟩|⟨_,_,_,d2⟩|⟨_,_,_,_,d2⟩|⟨_,_,_,_,rfl⟩⟩
  ·exact absurd d2.symm d1
  ·cases d2
  ·cases d2
  ·cases d2
  ·cases d2
  ·have S1:=S.bJ d (MW T d (aP (tn T d).names nm) S);refine (S1.bJ nd ?_).up;unfold tK;split
   ·exact ⟨Nat.zero_le _,λh=>by cases h⟩
   ·exact ⟨(S1.tn nd).1,(S1.tn nd).2⟩
 have jW:∀ {e:Int},r=bI e->e=0:=λh=>by rw [h] at h0;exact h0
 by_cases k4:c.kind=4
 ·obtain ⟨e,he,D⟩:=(rc4 k4).1 DD;rw [jW he] at D;exact D.jV (λh=>by cases h) S
 by_cases k5:c.kind=5
 ·obtain ⟨e,he,D⟩:=(rc5 k5).1 DD;rw [jW he] at D;exact D.jV (λh=>by cases h) S
 by_cases k6:c.kind=6
 ·obtain ⟨e,he,D⟩:=(rc6 k6).1 DD;rw [jW he] at D;rcases D with ⟨d1,d2⟩|⟨_,_,d2⟩|⟨_,_,⟨d1,d2⟩|⟨d,nm,nd,Q,⟨_,d2⟩|⟨_,_,d2⟩|⟨_,_,_,rfl⟩⟩⟩
  ·exact absurd d2.symm d1
  ·cases d2
  ·exact absurd d2.symm d1
  ·cases d2
  ·cases d2
  ·have hx1:qy N { tn T (aR (aO T) c.path false).1 with links:=IntKind.i64.wrap ((tn T (aR (aO T) c.path false).1).links+1) }:=⟨(S.tn (aR (aO T) c.path false).1).1,(S.tn (aR (aO T) c.path false).1).2⟩;have hx2:qy (N+1) { tn T d with names:=bD (tn T d).names ⟨nm,(aR (aO T) c.path false).1⟩ }:=⟨by
    show (bD (tn T d).names _).length<=N+1;rw [zA];have:=(S.tn d).1;omega,(S.tn d).2⟩
   exact ((S.bJ _ hx1).up).bJ d hx2
 by_cases k7:c.kind=7
 ·obtain ⟨e,he,D⟩:=(rc7 k7).1 DD;rw [jW he] at D;rcases D with ⟨_,d2⟩|⟨d1,D⟩
  ·cases d2
  ·refine D.jV (λ_=>?_) S;cases hp:bC c.path2 with
   | none=>exact absurd hp d1
   | some l=>exact (jX hp).2.2.1
 by_cases k8:c.kind=8
 ·obtain ⟨e,he,D⟩:=(rc8 k8).1 DD;rw [jW he] at D;exact rem D
 by_cases k9:c.kind=9
 ·obtain ⟨e,he,D⟩:=(rc9 k9).1 DD;rw [jW he] at D;exact rem D
 by_cases k10:c.kind=10
 ·obtain ⟨e,he,D⟩:=(rc10 k10).1 DD;rw [jW he] at D;rcases D with ⟨_,d2⟩|⟨_,_,⟨d1,d2⟩|⟨d,nm,nd,Q,⟨_,d2⟩|⟨_,⟨d1,d2⟩|⟨f,nm2,nd2,Q2,⟨_,_,rfl⟩|⟨_,_,d2⟩|⟨_,_,_,d2⟩|⟨_,_,_,rfl⟩⟩⟩⟩⟩
  ·cases d2
  ·exact absurd d2.symm d1
  ·cases d2
  ·exact absurd d2.symm d1
  ·exact S.up
  ·cases d2
  ·cases d2
  ·have S1:=S.bJ d (MW T d (aP (tn T d).names nm) S);refine S1.up.bJ f ⟨?_,(S1.tn f).2⟩;show (bD _ _).length<=N+1;rw [zA];have:=(S1.tn f).1;omega
 by_cases k11:c.kind=11
 ·obtain ⟨e,he,D⟩:=(rc11 k11).1 DD;rw [jW he] at D;exact dat D
 by_cases k13:c.kind=13
 ·obtain ⟨e,he,D⟩:=(rc13 k13).1 DD;rw [jW he] at D;exact dat D
 by_cases k12:c.kind=12
 ·rw [((rc12 k12).1 DD).1];exact S.up
 by_cases k14:c.kind=14
 ·rw [((rc14 k14).1 DD).1];exact S.up
 by_cases k16:c.kind=16
 ·rw [((rc16 k16).1 DD).1];exact S.up
 by_cases k15:c.kind=15
 ·rw [((rc15 k15).1 DD).1];exact S.up
 rw [((rc0 (by omega)).1 DD).1];exact S.up
theorem bX.MS {now:Int->UInt64}{S:FS}{L:List bY}{num:List Int}{N:Nat}(W:bX S (aB L) num)(I:bK now S)(M:iV (aB L) N)(hN:N<105):mg L:=by
 refine ⟨W.tree,λi _ hk=>by have:=M.short i hk;omega,?_,λx hx=>?_,λpath fl h0=>?_⟩
 ·have:=M.len;rw [nZ] at this;omega
 ·have:=(M.all x.nd (List.mem_map_of_mem hx)).1;omega
 ·obtain ⟨_,w2⟩:=W.path path fl;obtain ⟨_,a2⟩:=w2 h0;have hr:=W.bH _ a2;have hk:=W.kind _ a2;by_cases h2:(tn (aB L) (aR (aO (aB L)) path fl).1).kind=2
  ·rw [(W.dir _ a2 h2).2.2.2];exact Nat.zero_le _
  ·obtain ⟨m,F⟩:=(I.node _ (by omega) hr.2).file (by rw [hk.1];omega);rw [(W.data _ a2 h2).1];exact F.fits
theorem bX.VG {S:FS}{T:List aD}{num:List Int}(W:bX S T num):∃ rk,zw T rk:=by
 obtain ⟨rk,h⟩:=W.rank;exact ⟨rk,λx hx hk=>h x ⟨hx,by rw [hk];decide⟩ hk⟩
theorem bX.Ij {S:FS}{T:List aD}{num:List Int}(W:bX S T num):wP S:=by
 intro d d0 d24 hk e he h;obtain ⟨i,hi,rfl⟩:=W.all d (by omega) d24 (by rw [hk];decide);have hki:(tn T i).kind=2:=by rw [<-(W.kind i hi).1];exact hk
 obtain ⟨q1,q2,_⟩:=W.dir i hi hki;rw [q1] at he;obtain ⟨e0,h0,rfl⟩:=List.mem_map.1 he;exact (W.ne_of hi hki h0).1 (W.inj _ _ (q2 e0 h0) hi h)
theorem bX.Ih {S:FS}{T:List aD}{num:List Int}(W:bX S T num):∃ rk,xq S rk:=by
 obtain ⟨rk,h⟩:=W.rank;have key:∀ x,∃ n:Nat,∀ i,live T i->nu num i=x->n=rk i:=by
  intro x;by_cases hx:∃ i,live T i/\nu num i=x
  ·obtain ⟨i,hi,rfl⟩:=hx;exact ⟨rk i,λj hj hji=>by rw [W.inj j i hj hi hji]⟩
  ·exact ⟨0,λi hi hix=>absurd ⟨i,hi,hix⟩ hx⟩
 refine ⟨λx=>Classical.choose (key x),λd d0 d24 hk e he=>?_⟩;obtain ⟨i,hi,rfl⟩:=W.all d (by omega) d24 (by rw [hk];decide);have hki:(tn T i).kind=2:=by rw [<-(W.kind i hi).1];exact hk
 obtain ⟨q1,q2,_⟩:=W.dir i hi hki;rw [q1] at he;obtain ⟨e0,h0,rfl⟩:=List.mem_map.1 he;have r1:=Classical.choose_spec (key (nu num i)) i hi rfl;have r2:=Classical.choose_spec (key (nu num e0.node)) e0.node (q2 e0 h0) rfl;show Classical.choose (key (nu num e0.node))<Classical.choose (key (nu num i));rw [r1,r2];exact h i hi hki e0 h0
def wC (V:VL)(t:Nat):List Value:=[.pointer (some ⟨V.mem.m,0,none⟩),.pointer (some ⟨V.v,0,none⟩),.pointer (some ⟨t,0,none⟩)]
theorem VN {h:Heap}{V:VL}{M:aS}{X:VS}(A:At h V M X)(hab:V.ab=none)(jI:V.jY=none)(hu:M.gy = -1)(hs:M.sure.length=2824){w t:Nat}
 (hf:h[w]?=some (.cells ⟨wC V t⟩ 31 (0,0))) (hd:w∉V.blocks) :
 aC Tryz.prog 57 [.pointer (some ⟨w,0,none⟩)] h (λv h'=>Keeps [V.v,V.mem.m,V.mem.lb] h h'/\v=.tuple #[] /\
  ∃ ob sb mb M',h.size<=ob/\h.size<=sb/\h.size<=mb/\M'.gy = -1/\M'.sure.length=2824/\M'.read=X.now/\At h' { V with ob:=ob,sb:=sb,mb:=mb } M' { X with now:=M'.read,seen:=[],mine:=[] }):=by
 have hfl:=eU hf;have MV:∀ b∈V.blocks,b≠w:=λb hb e=>hd (e ▸ hb);refine aG aH Tryz.func57 rfl ok57 (by simp [Tryz.f57]) ?_;(conv=>whnf);refine ax.o hf rfl ?_;(conv=>whnf);refine ak.i (Ut Un A) λv h2 k2 hv=>?_;obtain ⟨a,ca,rfl,n2,O2⟩:=hv;have A2:=A.on k2;have z2:=k2.size;have hin:∀ p∈iE X.now M.read,inI64 p.1:=λp hp=>by have:=(LP hp).1;unfold inI64;omega
 have hcl:(iE X.now M.read).length<=2824:=by
  unfold iE;rw [List.length_map];exact Nat.le_trans (List.length_filter_le _ _) (by simp)
 have S2:Sl h2 a (iE X.now M.read).length ca ((iE X.now M.read).map λp=>(⟨p.1,p.2⟩:AO)):=O2.sl (LQ h2 _ hin) rfl (by decide) (by rw [List.length_map];omega);obtain ⟨N1,N2,N3⟩:=Ui A hu hs;generalize hL:iE X.now M.read=L at *;(conv=>whnf);refine bP.on [0,2,3] [] (λi:Nat=>[(0,.v (.pointer (some ⟨w,0,none⟩))),(2,.v (.slice a L.length ca)),(3,.v (.int .i64 (i:Int)))]) (λ_=>[])
  (λi h'=>i<=L.length/\Keeps [V.mem.m,V.mem.lb] h2 h'/\∃ now,At h' V (nU M (L.take i)) { X with now:=now }) (λi=>L.length-i) 0 ?_ ?_
 ·(conv=>whnf);exact ⟨0,rfl,rfl,rfl,Nat.zero_le _,Keeps.refl _ _,X.now,A2⟩
 ·rintro i h3 ⟨hi,k3,nw,A3⟩;have hml:V.mem.m<h.size/\V.mem.lb<h.size:=⟨A.blt _ (by simp [VL.blocks,ML.blocks]),A.blt _ (by simp [VL.blocks,ML.blocks])⟩;have hf3:=k3.obj (k2.obj hf (by simp)) (by simp;exact ⟨λe=>MV _ (by simp [VL.blocks,ML.blocks]) e.symm,λe=>MV _ (by simp [VL.blocks,ML.blocks]) e.symm⟩);(conv=>whnf);refine aj.i (λhd=>?_) (λhd=>?_)
  ·have hi1:i<L.length:=by simp at hd;omega
   have S3:=S2.je k3 (λb hb hx=>by have:=n2 b hb;simp at hx;omega);obtain ⟨b4,o4,hb4,cs,⟨rfl,_⟩,hc4⟩:=S3.at_ i (by simpa using hi1);simp only [List.getElem_map] at hc4;(conv=>whnf);refine ax.o hf3 rfl ?_;(conv=>whnf);refine aX.i i rfl (by omega) hb4 ?_;(conv=>whnf);refine ax.i (hc4 0 (by simp)) ?_;(conv=>whnf);refine aX.i i rfl (by omega) hb4 ?_;(conv=>whnf);refine ax.i (hc4 1 (by simp)) ?_;(conv=>whnf);refine ak.m (KE A3.mem L[i].1 L[i].2) (by simp [au]) λv h4 k4 hv=>?_;obtain ⟨rfl,R4⟩:=hv;(conv=>whnf);refine ⟨L.length-(i+1),by omega,?_⟩;(conv=>whnf);obtain ⟨VO,A4⟩:=A3.store hab jI k4 R4;refine ⟨i+1,rfl,by rw [wrapN (n:=i+1) (by simp) (by omega)],rfl,by omega,k3.trans k4,VO,?_⟩;rw [Uj M L i hi1];exact A4
  ·have hi1:i=L.length:=by simp at hd;omega
   subst hi1;rw [List.take_length] at A3;have z3:=k3.size;(conv=>whnf);refine ax.o hf3 rfl ?_;(conv=>whnf);refine ak.m (Bj A3) (by simp [au]) λv h6 k6 hv=>?_;obtain ⟨ob,sb,mb,z7,z8,z9,A6⟩:=hv;(conv=>whnf);refine ⟨((k2.mono (by simp)).trans (k3.mono (by simp))).trans (k6.mono (by simp)),rfl,ob,sb,mb,nU M L,by omega,by omega,by omega,N1,N2,N3,?_⟩;exact A6
theorem eF.keep {F:List Nat}{h h1 h2:Heap}{r:dz}{v:Value}(A:eF h h1 r v)(k:Keeps F h1 h2)(hF:∀ x∈F,∀ cs T fz,h1[x]?=some (.cells cs T fz)->T≠93):eF h h2 r v:=by
 obtain ⟨a,c,e,O,n⟩:=A;exact ⟨a,c,e,O.keep k (λb hb hx=>by
  obtain ⟨cs,oc⟩:=oJ O b hb;exact hF _ hx _ _ _ oc rfl),n⟩
structure lN (h:Heap)(b0 w:Nat)(V:VL)(M:aS)(X:VS)(S:FS)(z t:Nat)(aT:Option Addr)(cT:Nat)(L:List bY)(num:List Int)(N:Nat):Prop where
 obj:h[w]?=some (.cells ⟨wC V t⟩ 31 (0,0))
 at_:At h V M X
 fs:bK X.now S
 rel:bX S (aB L) num
 jV:iV (aB L) N
 tree:dh h z t aT cT L
 ab:V.ab=none/\V.jY=none
 calm:M.gy = -1/\M.sure.length=2824
 new:b0<=w/\∀ b∈V.blocks,b0<=b
 apart:w∉V.blocks
theorem At.aw0 {h:Heap}{V:VL}{M:aS}{X:VS}(A:At h V M X)(jI:V.jY=none):X.bG=[]:=by
 have:=A.bG;rw [jI] at this;exact this
theorem Cm {h:Heap}{b:Nat}{m:List (Int×Value)}(M:dF h b m){cs:Array Value}{T:TypeId}{fz:Nat×Nat}(o:h[b]?=some (.cells cs T fz)):False:=by
 obtain ⟨es,cl,h1,_⟩:=M;rw [o] at h1;cases h1
theorem eF.val {h h1:Heap}{r:dz}{v:Value}(A:eF h h1 r v):∃ a c,v=zu r.err r.data r.k r.l r.s a r.names.length c:=by
 obtain ⟨a,c,e,_⟩:=A;exact ⟨a,c,e⟩
def TB (z:Nat)(h:Heap)(BS:List Nat):Prop:=∀ b∈BS,z<=b/\∃ cs fz,h[b]?=some (.cells cs 40 fz)
theorem TB.nil (z:Nat)(h:Heap):TB z h []:=λb hb=>by cases hb
theorem TB.add {z b:Nat}{h h':Heap}{BS:List Nat}(A:TB z h BS)(hz:z<=h.size)(e:b=h.size)(k:Keeps [] h h'){cs:Array Value}{fz:Nat×Nat}(o:h'[b]?=some (.cells cs 40 fz)):TB z h' (b::BS):=by
 intro x hx;rcases List.mem_cons.1 hx with rfl|hx
 ·exact ⟨by omega,cs,fz,o⟩
 ·obtain ⟨h1,cs,fz,h2⟩:=A x hx;exact ⟨h1,cs,fz,k.obj h2 (by simp)⟩
theorem TB.keep {z:Nat}{F:List Nat}{h h':Heap}{BS:List Nat}(A:TB z h BS)(k:Keeps F h h')(hF:∀ x∈F,x<z\/∀ cs fz,h[x]?≠some (.cells cs 40 fz)):TB z h' BS:=by
 intro x hx;obtain ⟨h1,cs,fz,h2⟩:=A x hx;refine ⟨h1,cs,fz,k.obj h2 (λVA=>?_)⟩;rcases hF x VA with h|h
 ·omega
 ·exact h _ _ h2
theorem TB.Cn {z b:Nat}{h h' hA:Heap}{BS:List Nat}{r:dz}{v:Value}(A:TB z h BS)(hb:b∈BS)(k:Keeps [b] h h')(R:eF hA h r v):eF hA h' r v:=by
 obtain ⟨_,cs,fz,h2⟩:=A b hb;refine R.keep k (λx hx cs' T wI o=>?_);obtain rfl:=List.mem_singleton.1 hx;rw [h2] at o;cases o;decide
theorem TB.tree {z b:Nat}{h h':Heap}{BS:List Nat}(A:TB z h BS)(hb:b∈BS)(k:Keeps [b] h h'){z' t:Nat}{aT:Option Addr}{cT:Nat}{L:List bY}(H:dh h z' t aT cT L):dh h' z' t aT cT L:=by
 obtain ⟨_,cs,fz,h2⟩:=A b hb;exact H.jm k h2 (by decide)
theorem TB.at_ {z b:Nat}{h h':Heap}{BS:List Nat}(A:TB z h BS)(hb:b∈BS)(k:Keeps [b] h h'){V:VL}{M:aS}{X:VS}(B:At h V M X)(bl:∀ x∈V.blocks,x<z):At h' V M X:=
 B.keep k (λx hx hx2=>by have:=bl x hx;have:=(A b hb).1;simp at hx2;omega)
theorem TB.keeps {z b:Nat}{h0 h h':Heap}{BS:List Nat}(A:TB z h BS)(hb:b∈BS)(k:Keeps [b] h h')(hz:h0.size<=z){F:List Nat}(K:Keeps F h0 h):Keeps F h0 h':=
 K.gQ k (λx hx=>.inr (by obtain rfl:=List.mem_singleton.1 hx;have:=(A x hb).1;omega))
theorem TB.next {z b b':Nat}{h h6 h7:Heap}{BS:List Nat}(A:TB z h BS)(k6:Keeps [b] h h6)(Y3:Keeps [b'] h6 h7)(hb':b'∈BS)(hne:b'≠b):TB z h6 [b']:=by
 intro x hx;obtain rfl:=List.mem_singleton.1 hx;obtain ⟨h1,cs,fz,h2⟩:=A x hb';exact ⟨h1,cs,fz,k6.obj h2 (by simpa using hne)⟩
theorem VL.Co {V:VL}{ob sb mb x:Nat}(h:x∈({ V with ob:=ob,sb:=sb,mb:=mb }:VL).blocks):x∈V.blocks\/x=ob\/x=sb\/x=mb:=by
 simp only [VL.blocks,List.mem_cons,List.mem_append] at h ⊢;rcases h with h|h|h|h|h
 ·exact .inl (.inl h)
 ·exact .inr (.inl h)
 ·exact .inr (.inr (.inl h))
 ·exact .inr (.inr (.inr h))
 ·exact .inl (.inr (.inr (.inr (.inr h))))
theorem At.noT {h:Heap}{V:VL}{M:aS}{X:VS}(A:At h V M X):∀ x∈[V.ob,V.sb,V.mb,V.v,V.mem.m,V.mem.lb],∀ cs T fz,h[x]?=some (.cells cs T fz)->T=121\/T=91:=by
 intro x hx cs T fz o;simp only [List.mem_cons,List.not_mem_nil,or_false] at hx;obtain ⟨own,O,_⟩:=A.own;rcases hx with rfl|rfl|rfl|rfl|rfl|rfl
 ·exact (Cm O o).elim
 ·exact (Cm A.seen o).elim
 ·exact (Cm A.mine o).elim
 ·have:=A.obj;rw [o] at this;cases this;exact .inl rfl
 ·have:=A.mem.obj;rw [o] at this;cases this;exact .inr rfl
 ·exact (Cm A.mem.loose o).elim
theorem lN.fail {h h':Heap}{b0 w:Nat}{V:VL}{M:aS}{X X':VS}{S:FS}{z t:Nat}{aT:Option Addr}{cT:Nat}{L:List bY}{num:List Int}{N:Nat}(P:lN h b0 w V M X S z t aT cT L num N)(hb0:b0<=h.size)(Cq:X.now=M.read)(k:Keeps [w,V.ob,V.sb,V.mb,V.v,V.mem.m,V.mem.lb] h h')(hw:h'[w]?=some (.cells ⟨wC V t⟩ 31 (0,0)))
 {ob sb mb:Nat} (g1:h.size<=ob) (g2:h.size<=sb) (g3:h.size<=mb) (A:At h' { V with ob:=ob,sb:=sb,mb:=mb } M { X' with now:=M.read,seen:=[],mine:=[] }) :
 lN h' b0 w { V with ob:=ob,sb:=sb,mb:=mb } M { X' with now:=M.read,seen:=[],mine:=[] } S z t aT cT L num (N+1):=by
 have hwl:=eU P.obj;refine ⟨hw,A,by rw [<-Cq];exact P.fs,P.rel,P.jV.up,P.tree.Cr k (λx hx cs T fz o=>?_),P.ab,P.calm,⟨P.new.1,λb hb=>?_⟩,λhb=>?_⟩
 ·rcases List.mem_cons.1 hx with rfl|hx
  ·have:=P.obj;rw [o] at this;cases this;decide
  ·rcases P.at_.noT x hx cs T fz o with rfl|rfl <;> decide
 ·rcases VL.Co hb with h|rfl|rfl|rfl
  ·exact P.new.2 b h
  all_goals omega
 ·rcases VL.Co hb with h|rfl|rfl|rfl
  ·exact P.apart h
  all_goals omega
theorem dh.VB {h:Heap}{z t:Nat}{aT:Option Addr}{cT:Nat}{L:List bY}(H:dh h z t aT cT L):∀ x∈t::ay aT,∀ cs T fz,h[x]?=some (.cells cs T fz)->T=80\/T=77:=by
 intro x hx cs T fz o;rcases List.mem_cons.1 hx with rfl|hx
 ·have:=H.tr;rw [o] at this;cases this;exact .inl rfl
 ·obtain ⟨cs2,o2⟩:=oJ H.own x hx;rw [o] at o2;cases o2;exact .inr rfl
theorem OY {h:Heap}{b0 w:Nat}{V:VL}{M:aS}{X:VS}{S:FS}{z t:Nat}{aT:Option Addr}{cT:Nat}{L:List bY}{num:List Int}{N:Nat}(P:lN h b0 w V M X S z t aT cT L num N)(hb0:b0<=h.size)(Cq:X.now=M.read)(hN:N<100)(c:cK)(hc:c.ok)(hp:c.path.length<=1048576)(hp2:c.path2.length<=1048576) :
 aC Tryz.prog 18 [.pointer (some ⟨w,0,none⟩),.agg ⟨c.cells⟩] h (λv h'=>Keeps [w,V.ob,V.sb,V.mb,V.v,V.mem.m,V.mem.lb] h h'/\v=.bool true/\∃ V' M' X' S' z' t' dY d9 L' num',lN h' b0 w V' M' X' S' z' t' dY d9 L' num' (N+1)/\X'.now=M'.read/\∃ r X1,fO M.read X S c r X1/\((r.err≠0/\aB L'=aB L)\/(r.err=0/\fw (aB L) c r (aB L')))):=by
 obtain ⟨wO,A,I,W,Sm,H,⟨hab,jI⟩,⟨hu,hs⟩,⟨nw1,nw2⟩,hap⟩:=P;have bl:=A.blt;have hwl:=eU wO;have aw:=A.aw0 jI;obtain ⟨Y4,VD⟩:=W.Ih;obtain ⟨VE,VF⟩:=W.VG;have tok:=W.MS I Sm (by omega);have xw:=W.two;rw [nZ] at xw;refine aG aH Tryz.func18 rfl ok18 (by simp [Tryz.f18]) ?_;(conv=>whnf);refine aL.i λb1 h1 e1 s1 o1 k1=>?_;have z1:=k1.size;have Pobj1:=k1.obj wO (by simp);(conv=>whnf);refine ax.o Pobj1 rfl ?_;(conv=>whnf);refine ak.i (VH (H.keep k1 (by simp)) xw tok.len) λv h2 k2 hv=>?_;obtain ⟨t2,aT2,cT2,L2,rfl,H2,hL2⟩:=hv;have k02:=k1.trans k2;have z2:=k2.size;have A2:=A.on k02;have Pobj2:=k02.obj wO (by simp);(conv=>whnf);refine ax.o Pobj2 rfl ?_;have MU:∀ x∈V.blocks,x<h.size:=bl;have hV3:∀ x∈[V.ob,V.sb,V.mb],x<h.size:=λx hx=>by
  refine bl x ?_;simp only [List.mem_cons,List.not_mem_nil,or_false] at hx;rcases hx with rfl|rfl|rfl <;> simp [VL.blocks]
 have hN2:∀ x∈t2::ay aT2,h1.size<=x/\x<h2.size:=λx hx=>by
  rcases List.mem_cons.1 hx with rfl|hx
  ·exact ⟨H2.zt.1,eU H2.tr⟩
  ·exact ⟨H2.zt.2 x hx,H2.own.lt x hx⟩
 have W2:bX S (aB L2) num:=by rw [hL2];exact W
 have Sm2:iV (aB L2) N:=by rw [hL2];exact Sm
 have hrT2:zw (aB L2) VE:=by rw [hL2];exact VF
 have tok2:=W2.MS I Sm2 (by omega);have tb:TB h.size h2 []:=TB.nil _ _;have kc:=k02;have HN:=H2;have hbb:h.size<=b1:=by omega
 repeat' first
  | ((conv=>whnf);refine gI.i ?_ ?_)
  | ((conv=>whnf);refine aL.i λb hh e s o k=>?_;have tb:=tb.add kc.size e k o;have HN:=HN.keep k (by simp);have kc:=kc.trans k)
 all_goals
  (conv=>whnf)
  refine ak.m (Ii (A.on kc) I W.fc W.Ij VD aw c hc) (λy hy hx=>?_) λv h3 k3 hv=>?_
  ·have:=hV3 y hx;have:=kc.size;simp [au,aZ] at hy;omega
 all_goals
  obtain ⟨r,RA,nr,X',A3,RV⟩:=hv;have kd:=(kc.mono (by simp)).trans k3;have tb:=tb.keep k3 (λx hx=>.inl (hV3 x hx));have HN:=HN.keep k3 (λx hx=>by have:=hV3 x hx;omega);have z3:=k3.size
 repeat' first
  | ((conv=>whnf);refine gI.i ?_ ?_)
  | ((conv=>whnf);refine aL.i λb hh e s o k=>?_;have tb:=tb.add kd.size e k o;have HN:=HN.keep k (by simp);have kd:=kd.bS k;have A3:=A3.on k;have RA:=RA.keep k (by simp))
 all_goals
  (conv=>whnf)
  refine ak.m (VJ HN (Nat.le_trans HN.zt.1 (Nat.le_of_lt (eU HN.tr))) tok2 hrT2 c hc hp hp2) (λy hy hx=>?_) λv5 h5 k5 hv5=>?_
  ·have:=hN2 y hx;simp [au,aZ] at hy;omega
 all_goals
  have hT5:=HN.VB;obtain ⟨r',RB,Cs,aT3,cT3,L3,HN,RD⟩:=hv5;have ke:=kd.gQ k5 (λx hx=>.inr (by have:=hN2 x hx;omega));have A3:=A3.keep k5 (λb hb hx=>by have:=bl b hb;have:=hN2 b hx;omega);have RA:=RA.keep k5 (λx hx cs T fz o=>by rcases hT5 x hx cs T fz o with rfl|rfl <;> decide);have tb:=tb.keep k5 (λx hx=>.inr (λcs fz o=>by rcases hT5 x hx _ _ _ o with h|h <;> cases h));have z5:=k5.size
 repeat' first
  | ((conv=>whnf);refine gI.i ?_ ?_)
  | ((conv=>whnf);refine aL.i λb hh e s o k=>?_;have tb:=tb.add ke.size e k o;have HN:=HN.keep k (by simp);have ke:=ke.bS k;have A3:=A3.on k;have RA:=RA.keep k (by simp);have RB:=RB.keep k (by simp))
 all_goals
  obtain ⟨xa,xc,rfl⟩:=RA.val;obtain ⟨xb,xd,rfl⟩:=RB.val
  (conv=>whnf)
  refine aK.i λh6 s6 k6=>?_;have ke:=tb.keeps (by simp) k6 (Nat.le_refl _) ke;have A3:=tb.at_ (by simp) k6 A3 MU;have RA:=tb.Cn (by simp) k6 RA;have RB:=tb.Cn (by simp) k6 RB;have HN:=tb.tree (by simp) k6 HN;have z6:=k6.size
  (conv=>whnf)
  refine aK.i λh7 s7 k7=>?_;have tb7:=tb.next k6 k7 (by simp) (by omega);have ke:=tb7.keeps (by simp) k7 (Nat.le_refl _) ke;have A3:=tb7.at_ (by simp) k7 A3 MU;have RA:=tb7.Cn (by simp) k7 RA;have RB:=tb7.Cn (by simp) k7 RB;have HN:=tb7.tree (by simp) k7 HN;have z7:=ke.size;clear k6 k7 tb tb7
 all_goals
  have hO:=Ig W2 I Sm2.short RV RD;have VK:w∉[V.ob,V.sb,V.mb]:=λhx=>hap (by
   simp only [List.mem_cons,List.not_mem_nil,or_false] at hx;rcases hx with rfl|rfl|rfl <;> simp [VL.blocks])
  have obj7:=ke.obj wO VK;have mV:V.v∈V.blocks:=by simp [VL.blocks]
  have Y5:=bl V.v mV;have hwv:w≠V.v:=λe=>hap (e ▸ mV);obtain ⟨oa,on,hO⟩:=hO;rcases hO with ⟨hr9,h0⟩|⟨hrr,hne,hnw⟩|⟨hrr,h0,S',num',IF,W'⟩
  ·subst hr9
   (conv=>whnf)
   refine aj.t (by rw [h0];rfl) ?_
   (conv=>whnf)
   refine ax.o obj7 rfl ?_
   (conv=>whnf)
   refine ak.m (Bj A3) (λy hy hx=>?_) λv8 h8 k8 hv8=>?_
   ·simp [au,aZ] at hy;simp at hx;omega
   obtain ⟨ob,sb,mb,g1,g2,g3,A8⟩:=hv8;have RA8:=RA.keep k8 (λx hx cs T fz o=>by
    obtain rfl:=List.mem_singleton.1 hx;have:=A3.obj;rw [o] at this;cases this;decide)
   (conv=>whnf)
   refine ak.i (Gj RA8 (eF.err h8 h8 9) (by simp [bI]) (by simp [bI]) nr.1 (gq.nil rfl).1) λv9 h9 k9 hv9=>?_;obtain ⟨b9,rfl,hb9⟩:=hv9
   (conv=>whnf)
   have kk:Keeps [w,V.ob,V.sb,V.mb,V.v,V.mem.m,V.mem.lb] h h9:=((ke.mono (by intro x hx;simp at hx ⊢;omega)).trans (k8.mono (by intro x hx;simp at hx ⊢;omega))).bS k9;have P0:lN h b0 w V M X S z t aT cT L num N:=⟨wO,A,I,W,Sm,H,⟨hab,jI⟩,⟨hu,hs⟩,⟨nw1,nw2⟩,hap⟩;have PF:=P0.fail hb0 Cq kk ((k8.bS k9).obj obj7 (by simpa using hwv)) (by omega) (by omega) (by omega) (A8.on k9);exact ⟨kk,by rw [hb9.2 rfl],_,M,_,S,z,t,aT,cT,L,num,PF,rfl,_,_,RV,.inl ⟨by decide,rfl⟩⟩
  ·(conv=>whnf)
   refine aj.f (by rw [<-hrr];simp [hne]) ?_
   (conv=>whnf)
   refine ak.i (Gj RA RB (by have:=nr.2;omega) (by have:=Cs.2;omega) nr.1 Cs.1) λv8 h8 k8 hv8=>?_;obtain ⟨b8,rfl,hb8⟩:=hv8;rw [hb8.2 hrr]
   (conv=>whnf)
   refine aj.f rfl ?_;have A8:=A3.on k8;have obj8:=k8.obj obj7 (by simp);have z8:=k8.size
   (conv=>whnf)
   refine aV.pass ?_
   (conv=>whnf)
   refine aj.f (by simp [hne]) ?_
   (conv=>whnf)
   refine ax.o obj8 rfl ?_
   (conv=>whnf)
   refine ak.m (Bj A8) (λy hy hx=>?_) λv9 h9 k9 hv9=>?_
   ·simp [au,aZ] at hy;simp at hx;omega
   obtain ⟨ob,sb,mb,g1,g2,g3,A9⟩:=hv9
   (conv=>whnf)
   have kk:Keeps [w,V.ob,V.sb,V.mb,V.v,V.mem.m,V.mem.lb] h h9:=((ke.bS k8).mono (by intro x hx;simp at hx ⊢;omega)).trans (k9.mono (by intro x hx;simp at hx ⊢;omega));have P0:lN h b0 w V M X S z t aT cT L num N:=⟨wO,A,I,W,Sm,H,⟨hab,jI⟩,⟨hu,hs⟩,⟨nw1,nw2⟩,hap⟩;have PF:=P0.fail hb0 Cq kk (k9.obj obj8 (by simpa using hwv)) (by omega) (by omega) (by omega) A9;exact ⟨kk,rfl,_,M,_,S,z,t,aT,cT,L,num,PF,rfl,_,_,RV,.inl ⟨hne,rfl⟩⟩
  ·(conv=>whnf)
   refine aj.f (by rw [<-hrr,h0];rfl) ?_
   (conv=>whnf)
   refine ak.i (Gj RA RB (by have:=nr.2;omega) (by have:=Cs.2;omega) nr.1 Cs.1) λv8 h8 k8 hv8=>?_;obtain ⟨b8,rfl,hb8⟩:=hv8;rw [hb8.2 hrr]
   (conv=>whnf)
   refine aj.f rfl ?_;have A8:=A3.on k8;have obj8:=k8.obj obj7 (by simp);have HN8:=HN.keep k8 (by simp);have z8:=k8.size
   (conv=>whnf)
   refine aV.pass ?_
   (conv=>whnf)
   refine aj.t (by simp [h0]) ?_
   (conv=>whnf)
   refine dN.i obj8 (Nat.le_of_ble_eq_true rfl) (by simp [au,aZ];omega) λh9 s9 o9 k9=>?_;have vO:h9[w]?=some (.cells ⟨wC V t2⟩ 31 (0,0)):=o9;have A9:=A8.keep k9 (λb hb hx=>hap (by obtain rfl:=List.mem_singleton.1 hx;exact hb));have HN9:=HN8.jm k9 obj8 (by decide);have z9:=k9.size
   (conv=>whnf)
   refine ak.m (VN A9 hab jI hu hs vO hap) (λy hy hx=>?_) λv10 h10 k10 hv10=>?_
   ·have h1:=bl V.mem.m (by simp [VL.blocks,ML.blocks]);have h2:=bl V.mem.lb (by simp [VL.blocks,ML.blocks]);simp [au,aZ] at hy;simp at hx;omega
   obtain ⟨rfl,ob,sb,mb,M',g1,g2,g3,hu',hs',hM',A10⟩:=hv10;have z10:=k10.size;have hw3:w∉[V.v,V.mem.m,V.mem.lb]:=λhx=>hap (by
    simp only [List.mem_cons,List.not_mem_nil,or_false] at hx;rcases hx with rfl|rfl|rfl <;> simp [VL.blocks,ML.blocks])
   have obj10:=k10.obj vO hw3;have HN10:=HN9.Cr k10 (λx hx cs T fz o=>by
    rcases A9.noT x (by simp at hx ⊢;omega) cs T fz o with rfl|rfl <;> decide)
   (conv=>whnf)
   refine ax.o obj10 rfl ?_
   (conv=>whnf)
   refine ak.m (Bj (V:={ V with ob:=ob,sb:=sb,mb:=mb }) A10) (λy hy hx=>?_) λv11 h11 k11 hv11=>?_
   ·simp [au,aZ] at hy;simp at hx;omega
   obtain ⟨ob2,sb2,mb2,g4,g5,g6,A11⟩:=hv11;have HN11:=HN10.Cr k11 (λx hx cs T fz o=>by
    rcases A10.noT x (by simp at hx ⊢;omega) cs T fz o with rfl|rfl <;> decide)
   (conv=>whnf)
   have kk:Keeps [w,V.ob,V.sb,V.mb,V.v,V.mem.m,V.mem.lb] h h11:=((((ke.bS k8).mono (by intro x hx;simp at hx ⊢;omega)).trans (k9.mono (by intro x hx;simp at hx ⊢;omega))).trans (k10.mono (by intro x hx;simp at hx ⊢;omega))).trans (k11.mono (by intro x hx;simp at hx ⊢;omega));have Sm3:iV (aB L3) (N+1):=RD.jV (by rw [W2.root.2];decide) Sm2 (by rw [<-hrr];exact h0);have PF:lN h11 b0 w { V with ob:=ob2,sb:=sb2,mb:=mb2 } M' { X' with now:=M'.read,seen:=[],mine:=[] } S' h1.size t2 aT3 cT3 L3 num' (N+1):=by
    refine ⟨k11.obj obj10 (by simpa using hwv),A11,by rw [hM'];exact IF,W',Sm3,HN11,⟨hab,jI⟩,⟨hu',hs'⟩,⟨nw1,λb hb=>?_⟩,λhb=>?_⟩
    ·rcases VL.Co hb with h|rfl|rfl|rfl
     ·exact nw2 b h
     all_goals omega
    ·rcases VL.Co hb with h|rfl|rfl|rfl
     ·exact hap h
     all_goals omega
   exact ⟨kk,rfl,_,M',_,S',h1.size,t2,aT3,cT3,L3,num',PF,rfl,_,_,RV,.inr ⟨h0,by rw [<-hL2,hrr];exact RD⟩⟩
theorem tO {l:List aF}(hs:strict l){x:List UInt8}{e:aF}:bR l x=some e↔e∈l/\e.name=x:=by
 unfold bR
 constructor
 ·intro h;exact ⟨List.mem_of_find?_eq_some h,by simpa using List.find?_some h⟩
 ·rintro ⟨h1,h2⟩;cases hf:l.find? λe=>decide (e.name=x) with
  | none=>have:=List.find?_eq_none.1 hf e h1;simp [h2] at this
  | some y=>
   have h3:y.name=x:=by simpa using List.find?_some hf
   rw [Da hs (List.mem_of_find?_eq_some hf) h1 (h3.trans h2.symm)]
theorem Pm {l:List aF}(hs:strict l){nm:List UInt8}(h:bR l nm=none)(n:Int)(x:List UInt8):bR (bD l ⟨nm,n⟩) x=if x=nm then some ⟨nm,n⟩ else bR l x:=by
 have hs':strict (bD l ⟨nm,n⟩):=vC hs (xu hs h);apply Option.ext;intro e;rw [tO hs',(mF l _).mem_iff,List.mem_cons];by_cases hx:x=nm
 ·rw [if_pos hx]
  constructor
  ·rintro ⟨rfl|h1,h2⟩
   ·rfl
   ·have:=(tO hs).2 ⟨h1,h2.trans hx⟩;rw [h] at this;cases this
  ·intro h;cases h;exact ⟨.inl rfl,hx.symm⟩
 ·rw [if_neg hx,tO hs]
  constructor
  ·rintro ⟨rfl|h1,h2⟩
   ·exact absurd h2.symm hx
   ·exact ⟨h1,h2⟩
  ·rintro ⟨h1,h2⟩;exact ⟨.inr h1,h2⟩
theorem Hq {l:List aF}(hs:strict l){nm:List UInt8}(ht:dA l nm=true)(x:List UInt8):bR (l.eraseIdx (aP l nm)) x=if x=nm then none else bR l x:=by
 obtain ⟨hk,hn⟩:=tQ ht;have hp:=eraseP hk;have hs':=tN hs (aP l nm);have hnd:=Ik hs;have key:∀ e,e∈l.eraseIdx (aP l nm)↔e∈l/\e.name≠nm:=by
  intro e;have hnd2:(((l[aP l nm]'hk)::l.eraseIdx (aP l nm)).map (·.name)).Nodup:=(hp.map _).nodup_iff.2 hnd;rw [List.map_cons,List.nodup_cons] at hnd2
  constructor
  ·intro he;refine ⟨hp.mem_iff.1 (List.mem_cons_of_mem _ he),λh=>hnd2.1 ?_⟩;have hm:e.name∈(l.eraseIdx (aP l nm)).map (·.name):=List.mem_map_of_mem (f:=(·.name)) he;rw [h] at hm;rw [hn];exact hm
  ·rintro ⟨he,hne⟩;rcases List.mem_cons.1 (hp.mem_iff.2 he) with rfl|h
   ·exact absurd hn hne
   ·exact h
 apply Option.ext;intro e;by_cases hx:x=nm
 ·rw [if_pos hx,tO hs',key]
  constructor
  ·rintro ⟨⟨_,h⟩,h2⟩;exact absurd (h2.trans hx) h
  ·intro h;cases h
 ·rw [if_neg hx,tO hs',tO hs,key]
  constructor
  ·rintro ⟨⟨h,_⟩,h2⟩;exact ⟨h,h2⟩
  ·rintro ⟨h,h2⟩;exact ⟨⟨h,by rw [h2];exact hx⟩,h2⟩
theorem CV {F:Fs}{path nm:List UInt8}{d nd:Int}(h:bB F path=(d,nm,nd,0)):∃ l,bC path=some l/\l≠[]/\dn F 1 true 600 1 0 l.dropLast=(d,0)/\F.kind d=2/\nm=l.getLast?.getD []/\nd=(F.find d nm).getD 0:=by
 unfold bB at h;cases hp:bC path with
 | none=>rw [hp] at h;cases h
 | some l=>
  rw [hp] at h;simp only at h;by_cases hl:l=[]
  ·rw [if_pos hl] at h;cases h
  ·rw [if_neg hl] at h;by_cases h1:(dn F 1 true 600 1 0 l.dropLast).2=0
   ·rw [if_neg (λh=>h h1)] at h;by_cases h2:F.kind (dn F 1 true 600 1 0 l.dropLast).1=2
    ·rw [if_neg (λh=>h h2)] at h;obtain ⟨e1,h⟩:=Prod.mk.inj h;obtain ⟨e2,h⟩:=Prod.mk.inj h;obtain ⟨e3,_⟩:=Prod.mk.inj h;subst e1 e2;exact ⟨l,rfl,hl,Prod.ext rfl h1,h2,rfl,e3.symm⟩
    ·rw [if_pos h2] at h;have:=congrArg (λx=>x.2.2.2) h;cases this
   ·rw [if_pos h1] at h;have:=congrArg (λx=>x.2.2.2) h;exact absurd this h1
theorem Hy {F:Fs}{path:List UInt8}{l:List (List UInt8)}{d:Int}(hp:bC path=some l)(hl:l≠[])(hw:dn F 1 true 600 1 0 l.dropLast=(d,0))(hk:F.kind d=2):bB F path=(d,l.getLast?.getD [],(F.find d (l.getLast?.getD [])).getD 0,0):=by
 unfold bB;rw [hp];simp only;rw [if_neg hl,hw,if_neg (λh=>h rfl),if_neg (λh=>h hk)]
theorem vw {T:List aD}{x:Int}{n:List UInt8}{y:Int}:(aO T).find x n=some y↔∃ e,bR (tn T x).names n=some e/\e.node=y:=by
 show (bR (tn T x).names n).map (·.node)=some y↔_;rw [Option.map_eq_some_iff]
theorem Pk {T:List aD}{x:Int}{n:List UInt8}(h:bR (tn T x).names n=none):(aO T).find x n=none:=by
 show (bR (tn T x).names n).map (·.node)=none;rw [h];rfl
theorem CZ {T:List aD}(W:jq T)(path:List UInt8)(kind:Int)(data:List UInt8):∃ e T',mE T path kind data e T':=by
 by_cases h:(bB (aO T) path).2.2.2=0
 ·obtain ⟨d,nm,nd,Q⟩:=pY W h;by_cases h0:nd=0
  ·exact ⟨_,_,.inr ⟨d,nm,nd,Q,.inr ⟨h0,rfl,rfl⟩⟩⟩
  ·exact ⟨_,T,.inr ⟨d,nm,nd,Q,.inl ⟨h0,rfl⟩⟩⟩
 ·exact ⟨_,T,.inl ⟨h,rfl⟩⟩
theorem Pv {T:List aD}(W:jq T)(old name:List UInt8):∃ e T',vB T old name e T':=by
 by_cases h:(aR (aO T) old false).2=0
 ·by_cases h2:(tn T (aR (aO T) old false).1).kind=2
  ·exact ⟨_,T,.inr (.inl ⟨h,h2,rfl⟩)⟩
  ·by_cases h3:(bB (aO T) name).2.2.2=0
   ·obtain ⟨d,nm,nd,Q⟩:=pY W h3;by_cases h0:nd=0
    ·by_cases h4:255<=(tn T (aR (aO T) old false).1).links
     ·exact ⟨_,T,.inr (.inr ⟨h,h2,.inr ⟨d,nm,nd,Q,.inr (.inl ⟨h0,h4,rfl⟩)⟩⟩)⟩
     ·exact ⟨_,_,.inr (.inr ⟨h,h2,.inr ⟨d,nm,nd,Q,.inr (.inr ⟨h0,by omega,rfl,rfl⟩)⟩⟩)⟩
    ·exact ⟨_,T,.inr (.inr ⟨h,h2,.inr ⟨d,nm,nd,Q,.inl ⟨h0,rfl⟩⟩⟩)⟩
   ·exact ⟨_,T,.inr (.inr ⟨h,h2,.inl ⟨h3,rfl⟩⟩)⟩
 ·exact ⟨_,T,.inl ⟨h,rfl⟩⟩
theorem HY {T:List aD}(W:jq T)(path:List UInt8)(b:Bool):∃ e T',qC T path b e T':=by
 by_cases h:(bB (aO T) path).2.2.2=0
 ·obtain ⟨d,nm,nd,Q⟩:=pY W h;by_cases h0:nd=0
  ·exact ⟨_,T,.inr ⟨d,nm,nd,Q,.inl ⟨h0,rfl⟩⟩⟩
  ·by_cases h2:(tn T nd).kind=2
   ·cases b with
    | false=>exact ⟨_,T,.inr ⟨d,nm,nd,Q,.inr (.inl ⟨h0,rfl,h2,rfl⟩)⟩⟩
    | true=>
     by_cases h3:(tn T nd).names=[]
     ·exact ⟨_,_,.inr ⟨d,nm,nd,Q,.inr (.inr (.inr (.inr ⟨h0,⟨λ_=>h2,λ_=>rfl⟩,λ_=>h3,rfl,rfl⟩)))⟩⟩
     ·exact ⟨_,T,.inr ⟨d,nm,nd,Q,.inr (.inr (.inr (.inl ⟨h0,rfl,h2,h3,rfl⟩)))⟩⟩
   ·cases b with
    | false=>exact ⟨_,_,.inr ⟨d,nm,nd,Q,.inr (.inr (.inr (.inr ⟨h0,⟨λh=>(by cases h),λh=>absurd h h2⟩,λh=>(by cases h),rfl,rfl⟩)))⟩⟩
    | true=>exact ⟨_,T,.inr ⟨d,nm,nd,Q,.inr (.inr (.inl ⟨h0,rfl,h2,rfl⟩))⟩⟩
 ·exact ⟨_,T,.inl ⟨h,rfl⟩⟩
theorem Pw {T:List aD}(W:jq T)(old name:List UInt8):∃ e T',lM T old name e T':=by
 by_cases p:bC old=none\/bC name=none
 ·exact ⟨_,T,.inl ⟨p,rfl⟩⟩
 ·by_cases h:(bB (aO T) old).2.2.2=0
  ·obtain ⟨d,nm,nd,Q⟩:=pY W h;have fin:∀ {e T'},((nd=0/\e=4)\/(nd≠0/\_))->lM T old name e T':=λ{e T'} H=>.inr ⟨λh=>p (.inl h),λh=>p (.inr h),.inr ⟨d,nm,nd,Q,H⟩⟩;by_cases h0:nd=0
   ·exact ⟨_,T,fin (.inl ⟨h0,rfl⟩)⟩
   ·by_cases h3:(bB (aO T) name).2.2.2=0
    ·obtain ⟨f,nm2,nd2,Q2⟩:=pY W h3;by_cases h4:nd2=nd
     ·exact ⟨_,T,fin (.inr ⟨h0,.inr ⟨f,nm2,nd2,Q2,.inl ⟨h4,rfl,rfl⟩⟩⟩)⟩
     ·by_cases h5:(tn T nd).kind=2/\fF T f nd
      ·exact ⟨_,T,fin (.inr ⟨h0,.inr ⟨f,nm2,nd2,Q2,.inr (.inl ⟨h4,h5,rfl⟩)⟩⟩)⟩
      ·by_cases h6:nd2=0
       ·exact ⟨_,_,fin (.inr ⟨h0,.inr ⟨f,nm2,nd2,Q2,.inr (.inr (.inr ⟨h6,h5,rfl,rfl⟩))⟩⟩)⟩
       ·exact ⟨_,T,fin (.inr ⟨h0,.inr ⟨f,nm2,nd2,Q2,.inr (.inr (.inl ⟨h4,h5,h6,rfl⟩))⟩⟩)⟩
    ·exact ⟨_,T,fin (.inr ⟨h0,.inl ⟨h3,rfl⟩⟩)⟩
  ·exact ⟨_,T,.inr ⟨λh=>p (.inl h),λh=>p (.inr h),.inl ⟨h,rfl⟩⟩⟩
theorem HZ (T:List aD)(path:List UInt8)(f:List UInt8->List UInt8×Int):∃ e T',mD T path f e T':=by
 by_cases h:tE T path=0
 ·by_cases h2:(f (tn T (tX T path)).data).2=0
  ·exact ⟨_,_,.inr (.inr ⟨h,h2,rfl,rfl⟩)⟩
  ·exact ⟨_,T,.inr (.inl ⟨h,h2,rfl⟩)⟩
 ·exact ⟨_,T,.inl ⟨h,rfl⟩⟩
theorem Px {T:List aD}(W:jq T)(c:cK):∃ r T',fw T c r T':=by
 by_cases k:c.kind=4
 ·obtain ⟨e,T',h⟩:=CZ W c.path 1 [];exact ⟨_,T',(rc4 k).2 ⟨e,rfl,h⟩⟩
 by_cases k:c.kind=5
 ·obtain ⟨e,T',h⟩:=CZ W c.path 2 [];exact ⟨_,T',(rc5 k).2 ⟨e,rfl,h⟩⟩
 by_cases k:c.kind=6
 ·obtain ⟨e,T',h⟩:=Pv W c.path c.path2;exact ⟨_,T',(rc6 k).2 ⟨e,rfl,h⟩⟩
 by_cases k:c.kind=7
 ·by_cases hp:bC c.path2=none
  ·exact ⟨_,T,(rc7 k).2 ⟨_,rfl,.inl ⟨hp,rfl⟩⟩⟩
  ·obtain ⟨e,T',h⟩:=CZ W c.path 3 c.path2;exact ⟨_,T',(rc7 k).2 ⟨e,rfl,.inr ⟨hp,h⟩⟩⟩
 by_cases k:c.kind=8
 ·obtain ⟨e,T',h⟩:=HY W c.path false;exact ⟨_,T',(rc8 k).2 ⟨e,rfl,h⟩⟩
 by_cases k:c.kind=9
 ·obtain ⟨e,T',h⟩:=HY W c.path true;exact ⟨_,T',(rc9 k).2 ⟨e,rfl,h⟩⟩
 by_cases k:c.kind=10
 ·obtain ⟨e,T',h⟩:=Pw W c.path c.path2;exact ⟨_,T',(rc10 k).2 ⟨e,rfl,h⟩⟩
 by_cases k:c.kind=11
 ·obtain ⟨e,T',h⟩:=HZ T c.path (λs=>fu s c.at_ c.data);exact ⟨_,T',(rc11 k).2 ⟨e,rfl,h⟩⟩
 by_cases k:c.kind=13
 ·obtain ⟨e,T',h⟩:=HZ T c.path (λs=>ic s c.at_);exact ⟨_,T',(rc13 k).2 ⟨e,rfl,h⟩⟩
 by_cases k:c.kind=12
 ·exact ⟨_,T,(rc12 k).2 ⟨rfl,rfl⟩⟩
 by_cases k:c.kind=14
 ·exact ⟨_,T,(rc14 k).2 ⟨rfl,rfl⟩⟩
 by_cases k:c.kind=16
 ·exact ⟨_,T,(rc16 k).2 ⟨rfl,rfl⟩⟩
 by_cases k:c.kind=15
 ·exact ⟨_,T,(rc15 k).2 ⟨rfl,rfl⟩⟩
 exact ⟨_,T,(rc0 (by omega)).2 ⟨rfl,rfl⟩⟩
structure fM (h:Heap)(V:VL)(M:aS)(X:VS)(S:FS)(T:List aD)(num:List Int)(N:Nat):Prop where
 at_:At h V M X
 fs:bK X.now S
 rel:bX S T num
 jV:iV T N
 ab:V.ab=none/\V.jY=none
theorem fM.keep {F:List Nat}{h h':Heap}{V:VL}{M:aS}{X:VS}{S:FS}{T:List aD}{num:List Int}{N:Nat}(P:fM h V M X S T num N)(k:Keeps F h h')(hF:∀ b∈V.blocks,b∉F):fM h' V M X S T num N:=⟨P.at_.keep k hF,P.fs,P.rel,P.jV,P.ab⟩
theorem fM.on {h h':Heap}{V:VL}{M:aS}{X:VS}{S:FS}{T:List aD}{num:List Int}{N:Nat}(P:fM h V M X S T num N)(k:Keeps [] h h'):fM h' V M X S T num N:=P.keep k (by simp)
theorem fM.see {h h':Heap}{V:VL}{M:aS}{X:VS}{S:FS}{T:List aD}{num:List Int}{N:Nat}(P:fM h V M X S T num N){s:List Int}(A:At h' V M { X with seen:=s }):fM h' V M { X with seen:=s } S T num N:=⟨A,P.fs,P.rel,P.jV,P.ab⟩
section
variable {h:Heap} {V:VL} {M:aS} {X:VS} {S:FS} {T:List aD} {num:List Int} {N:Nat}
theorem fM.read (P:fM h V M X S T num N)(path:List UInt8)(hp:path.length<=140737488351232)(at_ n:Int) :
 aC Tryz.prog 24 [.pointer (some ⟨V.v,0,none⟩),.string (ba path),.int .i64 at_,.int .i64 n] h (λv h'=>Keeps [V.sb] h h'/\(∃ s,fM h' V M { X with seen:=s } S T num N) /\
  v=.tuple #[.string (ba (nC T ⟨12,path,[],[],at_,n⟩).data),.int .i64 (nC T ⟨12,path,[],[],at_,n⟩).err]):=
 (C8 P.at_ P.fs P.rel.fc path hp at_ n).mono λv h' ⟨k,⟨s,A⟩,hv⟩=>⟨k,⟨s,P.see A⟩,by
  rw [hv,<-H8 P.rel];unfold oq;simp only;split <;> rfl⟩
theorem fM.stat (P:fM h V M X S T num N)(path:List UInt8)(hp:path.length<=140737488351232) :
 aC Tryz.prog 19 [.pointer (some ⟨V.v,0,none⟩),.string (ba path)] h (λv h'=>Keeps [V.sb] h h'/\(∃ s,fM h' V M { X with seen:=s } S T num N) /\
  v=.tuple #[.agg #[.int .i64 0,.int .i64 (iU T ⟨14,path,[],[],0,0⟩).k,.int .i64 (iU T ⟨14,path,[],[],0,0⟩).l,.int .i64 (iU T ⟨14,path,[],[],0,0⟩).s],.int .i64 (iU T ⟨14,path,[],[],0,0⟩).err]):=
 (C9 P.at_ P.fs P.rel.fc path hp).mono λv h' ⟨k,⟨s,A⟩,hv⟩=>⟨k,⟨s,P.see A⟩,by
  rw [hv,<-H9 P.rel P.fs];unfold kW;simp only;split <;> rfl⟩
theorem fM.follow (P:fM h V M X S T num N)(path:List UInt8)(hp:path.length<=140737488351232) :
 aC Tryz.prog 23 [.pointer (some ⟨V.v,0,none⟩),.string (ba path)] h (λv h'=>Keeps [V.sb] h h'/\(∃ s,fM h' V M { X with seen:=s } S T num N) /\
  v=.tuple #[.string (ba (nD T ⟨16,path,[],[],0,0⟩).data),.int .i64 (nD T ⟨16,path,[],[],0,0⟩).err]):=
 (Ia P.at_ P.fs P.rel.fc path hp).mono λv h' ⟨k,⟨s,A⟩,hv⟩=>⟨k,⟨s,P.see A⟩,by
  rw [hv,<-Ib P.rel P.jV.short];unfold ou;simp only;split
  ·split <;> rfl
  ·rfl⟩
theorem fM.list (P:fM h V M X S T num N)(path:List UInt8)(hp:path.length<=140737488351232) :
 aC Tryz.prog 20 [.pointer (some ⟨V.v,0,none⟩),.string (ba path)] h (λv h'=>Keeps [V.sb] h h'/\(∃ s,fM h' V M { X with seen:=s } S T num N) /\
  ∃ a c,v=.tuple #[.slice a (pX T ⟨15,path,[],[],0,0⟩).names.length c,.int .i64 (pX T ⟨15,path,[],[],0,0⟩).err]):=
 (Ic P.at_ P.fs P.rel.fc path hp).mono λv h' ⟨k,⟨s,A⟩,hv,_⟩=>⟨k,⟨s,P.see A⟩,by
  obtain ⟨a,c,he,_⟩:=hv;rw [<-Ie P.rel];exact ⟨a,c,he⟩⟩
theorem fM.call {h':Heap}{X':VS}{c:cK}{r:dz}(P:fM h V M X S T num N)(A':At h' V M X')(R:fO M.read X S c r X') :
 ∃ r' T',fw T c r' T'/\((r=bI 9/\r'.err=0)\/(r=r'/\r.err≠0/\X'.now=X.now/\fM h' V M X' S T num N)\/(r=r'/\r.err=0/\∃ S' num',fM h' V M X' S' T' num' (N+1))):=by
 obtain ⟨r',T',D⟩:=Px P.rel.tree c;obtain ⟨_,_,O⟩:=Ig P.rel P.fs P.jV.short R D;refine ⟨r',T',D,?_⟩;rcases O with h|⟨h1,h2,h3⟩|⟨h1,h2,S',num',I',W'⟩
 ·exact .inl h
 ·exact .inr (.inl ⟨h1,h2,h3,A',by rw [h3];exact P.fs,P.rel,P.jV,P.ab⟩)
 ·exact .inr (.inr ⟨h1,h2,S',num',A',I',W',D.jV (by rw [P.rel.root.2];decide) P.jV (by rw [<-h1];exact h2),P.ab⟩)
theorem fM.rank (P:fM h V M X S T num N):∃ rk,xq S rk:=P.rel.Ih
theorem fM.told (P:fM h V M X S T num N)(c:cK)(hc:c.ok) :
 aC Tryz.prog 15 [.pointer (some ⟨V.v,0,none⟩),.agg ⟨c.cells⟩] h (λv h'=>Keeps [V.ob,V.sb,V.mb] h h'/\∃ r,eF h h' r v/\gq r/\∃ X',At h' V M X'/\fO M.read X S c r X'):=by
 obtain ⟨rk,hr⟩:=P.rank;exact Ii P.at_ P.fs P.rel.fc P.rel.Ij hr (P.at_.aw0 P.ab.2) c hc
end
theorem lN.view {h:Heap}{b0 w:Nat}{V:VL}{M:aS}{X:VS}{S:FS}{z t:Nat}{aT:Option Addr}{cT:Nat}{L:List bY}{num:List Int}{N:Nat}(P:lN h b0 w V M X S z t aT cT L num N):fM h V M X S (aB L) num N:=⟨P.at_,P.fs,P.rel,P.jV,P.ab⟩
theorem bX.named {S:FS}{T:List aD}{num:List Int}(W:bX S T num){i:Int}(h:(tn T i).names≠[]):live T i/\(tn T i).kind=2:=by
 by_cases h1:1<=i
 ·by_cases h2:i<T.length
  ·have hin:inT T i:=⟨h1,h2⟩;by_cases h0:(tn T i).kind=0
   ·exact absurd (W.dead i hin h0) h
   ·by_cases hk:(tn T i).kind=2
    ·exact ⟨⟨hin,h0⟩,hk⟩
    ·exact absurd (W.data i ⟨hin,h0⟩ hk).2 h
  ·exfalso;apply h;unfold tn;rw [List.getElem?_eq_none (by omega)];rfl
 ·exfalso;apply h;have:i.toNat=(0:Int).toNat:=by omega
  unfold tn;rw [this];exact W.zero
def Ch (T:List aD):Int->List (List UInt8)->Int->Prop
 | a,[],x=>a=x
 | a,n::l,x=>∃ e r,(tn T a).names=e::r/\e.name=n/\Ch T e.node l x
theorem Ch.snoc {T:List aD}{x:Int}{e:aF}{r:List aF}(he:(tn T x).names=e::r):∀ {l:List (List UInt8)} {a:Int},Ch T a l x->Ch T a (l++[e.name]) e.node
 | [],a,h=>by
  have h:a=x:=h;subst h;exact ⟨e,r,he,rfl,rfl⟩
 | n::l,a,⟨e1,r1,h1,h2,h3⟩=>⟨e1,r1,h1,h2,Ch.snoc he h3⟩
theorem Ch.walk {T:List aD}{x:Int}(hk:∀ i,(tn T i).names≠[]->(tn T i).kind=2/\strict (tn T i).names):∀ {l:List (List UInt8)} {a:Int} (f k:Nat) (fl:Bool),Ch T a l x->l.length<f->((tn T x).kind≠3\/fl=false)->dn (aO T) 1 fl f a k l=(x,0)
 | [],a,f+1,k,fl,h,_,_=>by
  have h:a=x:=h;subst h;rfl
 | n::l,a,f+1,k,fl,⟨e,r,h1,h2,h3⟩,hf,hx=>by
  obtain ⟨k2,hs⟩:=hk a (by rw [h1];simp);have hfe:(aO T).find a n=some e.node:=vw.2 ⟨e,(tO hs).2 ⟨by rw [h1];simp,h2⟩,rfl⟩;rw [tL,if_neg (λh=>h k2),hfe];simp only;have hc:(aO T).kind e.node≠3\/(l=[]/\fl=false):=by
   cases l with
   | nil=>
    have h:e.node=x:=h3;rw [h];rcases hx with hx|hx
    ·exact .inl hx
    ·exact .inr ⟨rfl,hx⟩
   | cons m l=>
    obtain ⟨e1,r1,g1,_⟩:=h3
    left
    show (tn T e.node).kind≠3;rw [(hk e.node (by rw [g1];simp)).1]
    decide
  rw [if_pos hc];exact Ch.walk hk f k fl h3 (by simp only [List.length_cons] at hf;omega) hx
def tot (T:List aD):Nat:=(T.map λx=>x.names.length).sum
theorem Pq (T:List aD)(x:aD):tot (T++[x])=tot T+x.names.length:=by simp [tot]
theorem HV:∀ (T:List aD) (k:Nat) (hk:k<T.length) (x:aD),tot (T.set k x)+(T[k]'hk).names.length=tot T+x.names.length
 | y::T,0,_,x=>by simp only [tot,List.set_cons_zero,List.map_cons,List.sum_cons,List.getElem_cons_zero];omega
 | y::T,k+1,hk,x=>by
  have:=HV T k (by simpa using hk) x;simp only [tot,List.set_cons_succ,List.map_cons,List.sum_cons,List.getElem_cons_succ] at this ⊢;omega
structure qD (T:List aD)(N:Nat):Prop where
 few:tot T<=N
 lk:∀ x∈T,x.kind≠0->1<=x.links/\x.links<=255
theorem qD.up {T:List aD}{N:Nat}(h:qD T N):qD T (N+1):=⟨Nat.le_succ_of_le h.few,h.lk⟩
theorem Ps {T:List aD}{d:Int}{x:aD}(h:∀ x∈T,x.kind≠0->1<=x.links/\x.links<=255)(hx:x.kind≠0->1<=x.links/\x.links<=255):∀ y∈bJ T d x,y.kind≠0->1<=y.links/\y.links<=255:=λy hy=>by
 rcases List.mem_or_eq_of_mem_set hy with hy|rfl
 ·exact h y hy
 ·exact hx
theorem Pt (T:List aD)(d:Int)(x:aD)(hd:(tn T d).names.length<=x.names.length):tot (bJ T d x)+(tn T d).names.length<=tot T+x.names.length:=by
 unfold bJ tn at *;by_cases h:d.toNat<T.length
 ·have:=HV T d.toNat h x;rw [List.getElem?_eq_getElem h];exact Nat.le_of_eq this
 ·rw [List.set_eq_of_length_le (by omega)];omega
theorem qD.app {T:List aD}{N:Nat}(S:qD T N){x:aD}(hx:x.names=[])(hl:1<=x.links/\x.links<=255):qD (T++[x]) N:=
 ⟨by rw [Pq,hx];exact S.few,λy hy=>by
  rcases List.mem_append.1 hy with hy|hy
  ·exact S.lk y hy
  ·obtain rfl:=List.mem_singleton.1 hy;exact λ_=>hl⟩
theorem qD.same {T:List aD}{N:Nat}(S:qD T N)(d:Int){y:aD}(hy:y.names.length=(tn T d).names.length)(hl:y.kind≠0->1<=y.links/\y.links<=255):qD (bJ T d y) N:=
 ⟨by have:=Pt T d y (by omega);have:=S.few;omega,Ps S.lk hl⟩
end Go.Proofs.YtoociceebodfeaaGreatDoor
