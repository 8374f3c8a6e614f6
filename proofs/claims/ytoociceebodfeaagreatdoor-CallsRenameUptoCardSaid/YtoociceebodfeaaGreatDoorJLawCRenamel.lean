/-
  Joined texts: CalA, CalB, CalC, CalD, CalE, CalF, CalG, CalN, CalQ, CalL, FomG, CalM, CalO.
-/
import Derived.Test.YtoociceebodfeaaGreatDoorJLawCRenamek
import Derived.Test.YtoociceebodfeaaGreatDoorJLawCRenamei
import Derived.Test.YtoociceebodfeaaGreatDoorJLawCRenamej
import Derived.Test.YtoociceebodfeaaGreatDoorJLawCRenameg
import Derived.Test.YtoociceebodfeaaGreatDoorJLawCRenameh
import Derived.Test.YtoociceebodfeaaGreatDoorJLawCRenamef
set_option linter.all false
set_option maxRecDepth 100000
set_option maxHeartbeats 4000000
namespace Go.Proofs.YtoociceebodfeaaGreatDoor
open Go Go.aN
theorem Wm {h:Heap}{a:Option Addr}{n c:Nat}{l:List Int}(S:Sl h a n c l)(x:Int):aC Tryz.prog 205 [.slice a n c,.int .i64 x] h (λv h'=>Keeps [] h h'/\∃ k:Int,v=.int .i64 k/\(0<=k↔x∈l)):=by
 have hl:=S.hlen;have hb:=S.hbig;refine aG aH Tryz.func205 rfl ok205 (by simp [Tryz.f205]) ?_;(conv=>whnf);refine bP.on [0,1,7,8] [] (λi:Nat=>[(0,.v (.slice a n c)),(1,.v (.int .i64 x)),(7,.v (.int .i64 (n:Int))),(8,.v (.int .i64 (i:Int)))]) (λ_=>[]) (λi h'=>i<=n/\Keeps [] h h'/\x∉l.take i) (λi=>n-i) 0 ?_ ?_
 ·(conv=>whnf);exact ⟨0,rfl,rfl,rfl,Nat.zero_le _,Keeps.refl _ _,by simp⟩
 ·rintro i h1 ⟨hi,k1,hx⟩;(conv=>whnf);refine aj.i (λhc=>?_) (λhc=>?_)
  ·have hi1:i<l.length:=by simp at hc;omega
   obtain ⟨b2,o2,hb2,_,⟨rfl,_⟩,hc2⟩:=(S.keep k1).at_ i hi1;(conv=>whnf);refine aX.i i rfl (by omega) hb2 ?_;(conv=>whnf);refine ax.i (hc2 0 (by simp)) ?_;(conv=>whnf);refine aj.i (λhd=>?_) (λhd=>?_)
   ·(conv=>whnf);have e:x=l[i]:=by simpa using hd
    have:x∈l:=e ▸ List.getElem_mem hi1;exact ⟨k1,_,rfl,λ_=>this,λ_=>by omega⟩
   ·(conv=>whnf);refine ⟨n-(i+1),by omega,?_⟩;(conv=>whnf);refine ⟨i+1,rfl,by rw [wrapN (x:=(i:Int)+1) (n:=i+1) (by simp) (by omega)],rfl,by omega,k1,?_⟩;rw [List.take_succ_eq_append_getElem hi1,List.mem_append];rintro (h|h)
    ·exact hx h
    ·have e:¬ x=l[i]:=by simpa using hd
     exact e (by simpa using h)
  ·(conv=>whnf);have hi1:l.take i=l:=List.take_of_length_le (by simp at hc;omega);rw [hi1] at hx;exact ⟨k1,_,rfl,λh=>absurd h (by decide),λh=>absurd h hx⟩
theorem Wn {h:Heap}{a:Option Addr}{n c:Nat}{l:List Int}(S:Sl h a n c l)(x:Int):aC Tryz.prog 137 [.slice a n c,.int .i64 x] h (λv h'=>Keeps [] h h'/\v=.bool (decide (x∈l))):=by
 refine aG aH Tryz.func137 rfl ok137 (by simp [Tryz.f137]) ?_;(conv=>whnf);refine ak.i (Wm S x) λv h1 k1 hv=>?_;obtain ⟨k,rfl,hk⟩:=hv;(conv=>whnf);refine ⟨k1,?_⟩;by_cases hx:x∈l
 ·rw [decide_eq_true hx,decide_eq_true (hk.2 hx)]
 ·rw [decide_eq_false hx,decide_eq_false (λe=>hx (hk.1 e))]
def ni (c:aA)(v:UInt64):aA:={ c with dU:=v }
def iM (X:VS)(n:Int)(c:aA):aA:=if n∈X.mine then c else ni c (c.dU+1)
theorem rF (X:VS)(n:Int)(c:aA):∃ v,iM X n c=ni c v:=by
 unfold iM;split
 ·exact ⟨c.dU,rfl⟩
 ·exact ⟨_,rfl⟩
theorem Wo {c:aA}(h:c.ok)(v:UInt64):(ni c v).ok:=h
theorem Wp {c:aA}(h:fV c=true)(v:UInt64):fV (ni c v)=true:=by
 unfold fV at h ⊢;show (if c.kind=0 then decide (ni c v=gu v) else _)=true;by_cases h0:c.kind=0
 ·rw [if_pos h0] at h ⊢;have e:c=gu c.dU:=of_decide_eq_true h;apply decide_eq_true;unfold ni;rw [e];rfl
 ·rw [if_neg h0] at h ⊢;exact h
theorem gW.dU {now:Int->UInt64}{n:Int}{c:aA}{l:List aF}{s:List UInt8}(N:gW now n c l s)(v:UInt64):gW now n (ni c v) l s:=by
 refine ⟨N.kind,λh=>⟨?_,(N.free h).2⟩,λh=>?_,λh=>?_⟩
 ·have e:=(N.free h).1;unfold ni;rw [e];rfl
 ·obtain ⟨m,D⟩:=N.dir h;exact ⟨m,D.map,D.wk,D.kind,D.size,D.ok,D.lU,D.str,D.kY⟩
 ·obtain ⟨m,F⟩:=N.file h;exact ⟨m,F.map,F.wk,F.kind,F.size,F.fits,F.aQ,F.hol,F.kY⟩
theorem rE {h:Heap}{V:VL}{M:aS}{X:VS}(A:At h V M X)(n:Int)(hn:0<=n/\n<24)(c:aA)(hc:c.ok)(hr:fV c=true):aC Tryz.prog 79 [.pointer (some ⟨V.v,0,none⟩),.int .i64 n,.agg ⟨c.cells⟩,.int .i64 0] h (λv h'=>Keeps [V.ob,V.sb,V.mb] h h'/\v=.int .i64 0/\At h' V M (dZ X n (iM X n c))):=by
 have bl:=A.blt;refine aG aH Tryz.func79 rfl ok79 (by simp [Tryz.f79]) ?_;(conv=>whnf);refine aL.i λb1 h1 e1 s1 o1 k1=>?_;(conv=>whnf);refine aj.f rfl ?_;(conv=>whnf);(try refine aV.pass ?_;conv=>whnf);refine ak.i (Wq (A.on k1)) λv h2 k2 hv=>?_;obtain ⟨a2,c2,l2,rfl,S2,p2⟩:=hv;(conv=>whnf);refine ak.i (Wn S2 n) λv h3 k3 hv=>?_;subst hv;have hmem:(n∈l2)↔(n∈X.mine):=p2.mem_iff;have z1:=k1.size;have z2:=k2.size;have z3:=k3.size;have A3:=(A.on k1).on (k2.trans k3);have q1:=bl V.ob (by simp [VL.blocks]);have q2:=bl V.sb (by simp [VL.blocks]);have q3:=bl V.mb (by simp [VL.blocks]);have k03:=k1.trans (k2.trans k3);by_cases hm:n∈X.mine
 ·have eb:iM X n c=c:=if_pos hm;rw [decide_eq_true (hmem.2 hm),eb];(conv=>whnf);refine aj.f rfl ?_;(conv=>whnf);refine ak.m (Ci A3 n hn c hc hr) (λy hy hx=>by
   have hy2:y=b1:=by simpa [au,aZ] using hy
   simp at hx;omega) λv h4 k4 hv=>?_
  obtain ⟨rfl,A4⟩:=hv;(conv=>whnf);exact ⟨(k03.mono (by simp)).trans k4,rfl,A4⟩
 ·have eb:iM X n c=ni c (c.dU+1):=if_neg hm;rw [decide_eq_false (λe=>hm (hmem.1 e)),eb];(conv=>whnf);refine aj.t rfl ?_;(conv=>whnf);refine aK.i λh4 s4 k4=>?_;have A4:=A3.keep k4 (λb hb=>by have:=bl b hb;simp;omega);have VS:=Ci A4 n hn (ni c (c.dU+1)) (Wo hc _) (Wp hr _);have hcells:(ni c (c.dU+1)).cells=[.int .i64 c.kind,.int .i64 c.links,.int .i64 c.size,.int .u64 (IntKind.u64.wrap ((c.dU.toNat:Int)+1)),.int .i64 c.d0,.int .i64 c.d1,.int .i64 c.d2,.int .i64 c.d3,.int .i64 c.d4,.int .i64 c.more]:=by
   rw [Gd];rfl
  rw [hcells] at VS;(conv=>whnf);refine ak.m VS (λy hy hx=>by
   have hy2:y=b1:=by simpa [au,aZ] using hy
   simp at hx;omega) λv h5 k5 hv=>?_
  obtain ⟨rfl,A5⟩:=hv;(conv=>whnf);exact ⟨((k03.new1 k4 (by omega)).mono (by simp)).trans k5,rfl,A5⟩
theorem Cw {h:Heap}(p:Value)(n:Int)(c:aA)(e:Int)(he:e≠0):aC Tryz.prog 79 [p,.int .i64 n,.agg ⟨c.cells⟩,.int .i64 e] h (λv h'=>Keeps [] h h'/\v=.int .i64 e):=by
 refine aG aH Tryz.func79 rfl ok79 (by simp [Tryz.f79]) ?_;(conv=>whnf);refine aL.i λb1 h1 e1 s1 o1 k1=>?_;(conv=>whnf);refine aj.t (by simp [he]) ?_;(conv=>whnf);exact ⟨k1,rfl⟩
theorem FS.Gv (S:FS)(n:Int)(c c':aA)(l l':List aF)(s s':List UInt8):(S.put n c l s).put n c' l' s'=S.put n c' l' s':=by
 unfold FS.put
 congr 1
 ·funext x;show (if x=n then c' else if x=n then c else S.C x)=_
  split
  ·rfl
  ·rfl
 ·funext x;show (if x=n then l' else if x=n then l else S.nm x)=_
  split
  ·rfl
  ·rfl
 ·funext x;show (if x=n then s' else if x=n then s else S.aQ x)=_
  split
  ·rfl
  ·rfl
def tu (d:Int)(c:aA)(nm:List UInt8)(nd:Int):List Value:=[.int .i64 d]++c.cells++[.string (ba nm),.int .i64 nd]
theorem zH (S:FS)(r:Int×List UInt8×Int×Int):∃ d c nm nd,mZ S r=tu d c nm nd/\(r.2.2.2=0->d=r.1/\c=S.C r.1/\nm=r.2.1/\nd=r.2.2.1):=by
 unfold mZ;by_cases h:r.2.2.2=0
 ·rw [if_pos h];exact ⟨_,_,_,_,rfl,λ_=>⟨rfl,rfl,rfl,rfl⟩⟩
 ·rw [if_neg h];exact ⟨0,aA.zero,[],0,rfl,λe=>absurd e h⟩
structure ny (S:FS)(path:List UInt8)(d:Int)(nm:List UInt8)(nd:Int):Prop where
 is:bB (aY S) path=(d,nm,nd,0)
 bH:0<d/\d<24
 kind:(S.C d).kind=2
 name:dI nm=true
 len:nm.length<=200
 node:nd=((bR (S.nm d) nm).map (·.node)).getD 0
theorem wS {X:VS}{S:FS}(I:bK X.now S)(C:gD S){path:List UInt8}(h0:(bB (aY S) path).2.2.2=0):∃ d nm nd,ny S path d nm nd:=by
 have hpl:bB (aY S) path=bB (aY S) path:=rfl
 conv at hpl=>rhs;unfold bB
 cases hpp:bC path with
 | none=>rw [hpp] at hpl;rw [hpl] at h0;cases h0
 | some l=>
  rw [hpp] at hpl;simp only at hpl;by_cases hl:l=[]
  ·rw [if_pos hl] at hpl;rw [hpl] at h0;cases h0
  ·rw [if_neg hl] at hpl;by_cases he:(dn (aY S) 1 true 600 1 0 l.dropLast).2=0
   ·rw [if_neg (by simpa using he)] at hpl;by_cases hk:(aY S).kind (dn (aY S) 1 true 600 1 0 l.dropLast).1=2
    ·rw [if_neg (by simpa using hk)] at hpl;have hin:=FZ (X:=X) C (follow:=true) 600 1 0 l.dropLast ⟨by decide,by decide,by rw [C.root];decide⟩ he;obtain ⟨x0,x1,_⟩:=hin;obtain ⟨_,p2,_,_⟩:=jX hpp;have hm:l.getLast?.getD []∈l:=by
      rw [List.getLast?_eq_some_getLast hl];exact List.getLast_mem hl
     refine ⟨_,_,_,hpl,⟨?_,x1⟩,hk,List.all_eq_true.1 p2 _ hm,sU hpp _ hm,rfl⟩;have hne:(dn (aY S) 1 true 600 1 0 l.dropLast).1≠0:=by
      intro e;rw [e] at hk;have hk:(S.C 0).kind=2:=hk;rw [I.zero] at hk;cases hk
     omega
    ·rw [if_pos (by simpa using hk)] at hpl;rw [hpl] at h0;cases h0
   ·rw [if_pos (by simpa using he)] at hpl;rw [hpl] at h0;exact absurd h0 he
theorem Nk {h:Heap}{V:VL}{M:aS}{X:VS}(A:At h V M X){S:FS}(I:bK X.now S)(C:gD S)(path:List UInt8)(hp:path.length<=140737488351232) :
 aC Tryz.prog 89 [.pointer (some ⟨V.v,0,none⟩),.string (ba path)] h (λv h'=>Keeps [V.sb] h h'/\(∃ s,At h' V M { X with seen:=s })/\∃ d c nm nd,v=.tuple #[.agg ⟨tu d c nm nd⟩,.int .i64 (if (bB (aY S) path).2.2.2≠0 then (bB (aY S) path).2.2.2 else if (bB (aY S) path).2.2.1≠0 then 5 else 0)] /\
  ((bB (aY S) path).2.2.2=0->d=(bB (aY S) path).1/\c=S.C (bB (aY S) path).1/\nm=(bB (aY S) path).2.1/\nd=(bB (aY S) path).2.2.1)):=by
 have bl:=A.blt;have msb:V.sb∈V.blocks:=by simp [VL.blocks]
 refine aG aH Tryz.func89 rfl ok89 (by simp [Tryz.f89]) ?_;(conv=>whnf);refine aL.i λb1 h1 e1 s1 o1 k1=>?_;have nb1:∀ b∈V.blocks,b≠b1:=λb hb=>by have:=bl b hb;omega
 (conv=>whnf);refine ak.m (zi (A.on k1) I C path hp) (by simp [au,aZ];exact λe=>nb1 V.sb msb e.symm) λv h2 k2 hv=>?_;obtain ⟨rfl,s,A2⟩:=hv;obtain ⟨d,c,nm,nd,hsp,hq⟩:=zH S (bB (aY S) path);rw [hsp];generalize bB (aY S) path=r at hq;have z1:=k1.size;have z2:=k2.size;(conv=>whnf);refine aL.i λb3 h3 e3 s3 o3 k3=>?_;(conv=>whnf);refine aK.i λh4 s4 k4=>?_;have k14:Keeps [] h2 h4:=k3.new1 k4 (by omega);by_cases he:r.2.2.2=0
 ·obtain ⟨q1,q2,q3,q4⟩:=hq he;subst q4;rw [he];(conv=>whnf);(try refine aV.pass ?_;conv=>whnf);refine aj.i (λhd=>?_) (λhd=>?_)
  ·have hd1:r.2.2.1≠0:=by simpa using hd
   (conv=>whnf);(try refine aV.pass ?_;conv=>whnf);refine aK.i λh5 s5 k5=>?_;(conv=>whnf);refine ⟨((k1.mono (by simp)).trans (k2.bS k14)).m1 k5 (by omega),⟨s,(A2.on k14).keep k5 (λb hb=>by simp;exact nb1 b hb)⟩,d,c,nm,r.2.2.1,?_,λ_=>hq he⟩;rw [if_neg (by simp),if_pos hd1];rfl
  ·have hd1:r.2.2.1=0:=by simpa using hd
   (conv=>whnf);(try refine aV.pass ?_;conv=>whnf);refine aK.i λh5 s5 k5=>?_;(conv=>whnf);refine ⟨((k1.mono (by simp)).trans (k2.bS k14)).m1 k5 (by omega),⟨s,(A2.on k14).keep k5 (λb hb=>by simp;exact nb1 b hb)⟩,d,c,nm,r.2.2.1,?_,λ_=>hq he⟩;rw [if_neg (by simp),if_neg (by simpa using hd1)];rfl
 ·(conv=>whnf);(try refine aV.pass ?_;conv=>whnf);refine aj.f (by simp [he]) ?_;(conv=>whnf);(try refine aV.pass ?_;conv=>whnf);refine aK.i λh5 s5 k5=>?_;(conv=>whnf);refine ⟨((k1.mono (by simp)).trans (k2.bS k14)).m1 k5 (by omega),⟨s,(A2.on k14).keep k5 (λb hb=>by simp;exact nb1 b hb)⟩,d,c,nm,nd,?_,hq⟩;rw [if_pos he];rfl
theorem Cx {h:Heap}{V:VL}{M:aS}{X:VS}(A:At h V M X){S:FS}(I:bK X.now S){d:Int}(hd:0<d/\d<24)(hk:(S.C d).kind=2){nm:List UInt8}(hnm:dI nm=true)(hnl:nm.length<=200)(hf:bR (S.nm d) nm=none)(c:aA)(nd:Int)(n:Int)(hn:1<=n/\n<24) :
 aC Tryz.prog 64 [.pointer (some ⟨V.v,0,none⟩),.agg ⟨tu d c nm nd⟩,.int .i64 n] h (λv h'=>Keeps [V.ob,V.sb,V.mb] h h'/\∃ X',At h' V M X'/\X'.away=X.away/\X'.bG=X.bG /\
  (
   (v=.int .i64 9/\(bE M.read X 96<2\/ow (bU nm)<=qb (S.nm d) nm)) \/
   (v=.int .i64 0/\bE M.read X 96<=bE M.read X' 96+2/\(∀ x∈X.mine,x∈X'.mine)/\∃ c',bK X'.now (S.put d c' (bD (S.nm d) ⟨nm,n⟩) (S.aQ d))/\c'.kind=2/\c'.links=1))):=by
 have bl:=A.blt;have hd0:0<=d/\d<24:=⟨by omega,hd.2⟩;have N:=I.node d hd0.1 hd0.2;obtain ⟨m,D⟩:=N.dir hk;have hcr:gU (bW X.now (8+d*8) 8)=some (S.C d):=by rw [I.card d hd0.1 hd0.2];exact sP N.right
 have hpt:dA (S.nm d) nm=false:=xu D.str hf;have Gw:lT (S.nm d) nm n=(bD (S.nm d) ⟨nm,n⟩,0):=by
  unfold lT;rw [if_neg (by omega),if_neg (by rw [hnm];simp),if_neg (by rw [hpt];simp)]
 have D':eG (eY X d).now d (S.C d) m (S.nm d):=D;have AP:=PW (B:=M.read) (X:=eY X d) hd0 D' nm n;have AC:=PN (B:=M.read) (X:=eY X d) hd0 D' nm n;rw [Gw] at AP;refine aG aH Tryz.func64 rfl ok64 (by simp [Tryz.f64]) ?_;(conv=>whnf);refine aL.i λb1 h1 e1 s1 o1 k1=>?_;have nb1:∀ b∈V.blocks,b≠b1:=λb hb=>by have:=bl b hb;omega
 (conv=>whnf);refine ak.m (sV (A.on k1) d) (by simp [au,aZ];exact λe=>nb1 V.sb (by simp [VL.blocks]) e.symm) λv h2 k2 hv=>?_;rw [if_pos hd0,hcr] at hv;obtain ⟨rfl,A2⟩:=hv;unfold pM;have z1:=k1.size;have z2:=k2.size;(conv=>whnf);refine aL.i λb3 h3 e3 s3 o3 k3=>?_;(conv=>whnf);refine aK.i λh4 s4 k4=>?_;have k24:Keeps [] h2 h4:=k3.new1 k4 (by omega);have A4:=A2.on k24;have q1:=bl V.ob (by simp [VL.blocks]);have q2:=bl V.sb (by simp [VL.blocks]);have q3:=bl V.mb (by simp [VL.blocks]);(conv=>whnf);refine aj.f rfl ?_;(conv=>whnf);refine ak.m (Qx A4 d (S.C d) N.ok nm (by omega) n) (λy hy hx=>by
  simp [au,aZ] at hy hx;omega) λv h5 k5 hv=>?_
 obtain ⟨rfl,A5⟩:=hv;have z4:=k4.size;have z5:=k5.size;generalize iW M.read (eY X d) d (S.C d) nm n=r at AP AC A5;obtain ⟨ac1,ac2⟩:=AC;(conv=>whnf);refine aL.i λb6 h6 e6 s6 o6 k6=>?_;(conv=>whnf);refine aK.i λh7 s7 k7=>?_;have k57:Keeps [] h5 h7:=k6.new1 k7 (by omega);have A7:=A5.on k57;have kk:Keeps [V.ob,V.sb,V.mb] h h7:=(((k1.mono (by simp)).trans (k2.mono (by simp))).bS k24).trans ((k5.mono (by simp)).bS k57);rcases AP with ⟨_,a2,_⟩|⟨_,a2,a3⟩|⟨_,a2,a3,m',D2,F2⟩
 ·exact absurd rfl a2
 ·rw [a2];(conv=>whnf);refine ak.i (Cw _ d r.1 9 (by decide)) λv h8 k8 hv=>?_;subst hv;(conv=>whnf);refine ⟨kk.bS k8,r.2.2,A7.on k8,by rw [ac2];rfl,by rw [ac2];rfl,.inl ⟨rfl,?_⟩⟩;rcases a3 with a3|a3
  ·exact .inr a3
  ·exact .inl a3
 ·rw [a2];(conv=>whnf);refine ak.m (rE A7 d hd0 r.1 D2.right.2 D2.right.1) (λy hy hx=>by
   simp [au,aZ] at hy hx;omega) λv h8 k8 hv=>?_
  obtain ⟨rfl,A8⟩:=hv;(conv=>whnf);obtain ⟨vv,ev⟩:=rF r.2.2 d r.1;have N2:gW r.2.2.now d r.1 (bD (S.nm d) ⟨nm,n⟩) (S.aQ d):=⟨by rw [D2.kind.1];decide,λh=>(by rw [D2.kind.1] at h;cases h),λ_=>⟨m',D2⟩,λh=>(by rw [D2.kind.1] at h;omega)⟩;have N3:=N2.dU vv;rw [<-ev] at N3;have I2:=I.set hd F2 N3;refine ⟨kk.trans k8,_,A8,by show r.2.2.away=_;rw [ac2];rfl,by show r.2.2.bG=_;rw [ac2];rfl,.inr ⟨rfl,?_,λx hx=>nR.2 (.inl ?_),_,I2,?_,?_⟩⟩
  ·rw [Cy hd.2];exact ac1
  ·rw [ac2];exact hx
  ·rw [ev];exact D2.kind.1
  ·rw [ev];exact D2.kind.2
theorem rG {s:List Int}{k x:Int}(h:x∈s):x∈lX s k:=nR.2 (.inl h)
theorem Gu {h:Heap}{V:VL}{M:aS}{X:VS}(A:At h V M X){S:FS}(I:bK X.now S){d:Int}(hd:0<d/\d<24)(hk:(S.C d).kind=2){nm:List UInt8}(hnl:nm.length<=200){en:aF}(hf:bR (S.nm d) nm=some en)(nd:Int) :
 aC Tryz.prog 63 [.pointer (some ⟨V.v,0,none⟩),.agg ⟨tu d (S.C d) nm nd⟩] h (λv h'=>Keeps [V.ob,V.sb,V.mb] h h'/\v=.int .i64 0/\∃ X',At h' V M X'/\X'.away=X.away/\X'.bG=X.bG/\(∀ x∈X.mine,x∈X'.mine) /\
  ∃ c',bK X'.now (S.put d c' ((S.nm d).eraseIdx (aP (S.nm d) nm)) (S.aQ d))/\c'.kind=2/\c'.links=1):=by
 have bl:=A.blt;have hd0:0<=d/\d<24:=⟨by omega,hd.2⟩;have N:=I.node d hd0.1 hd0.2;obtain ⟨m,D⟩:=N.dir hk;obtain ⟨ht,_⟩:=vz D.str hf;have er:kE (S.nm d) nm=((S.nm d).eraseIdx (aP (S.nm d) nm),((S.nm d)[aP (S.nm d) nm]?.getD ⟨[],0⟩).node,0):=by unfold kE;rw [if_pos ht]
 refine aG aH Tryz.func63 rfl ok63 (by simp [Tryz.f63]) ?_;(conv=>whnf);refine aL.i λb1 h1 e1 s1 o1 k1=>?_;have nb1:∀ b∈V.blocks,b≠b1:=λb hb=>by have:=bl b hb;omega
 have tq:V.ob∈V.blocks:=by simp [VL.blocks]
 have msb:V.sb∈V.blocks:=by simp [VL.blocks]
 have pO:V.mb∈V.blocks:=by simp [VL.blocks]
 (conv=>whnf);refine ak.m (UH (A.on k1) hd0 D nm (by omega)) (by simp [au,aZ];exact λe=>nb1 V.ob tq e.symm) λv h2 k2 hv=>?_;obtain ⟨c',X2,rfl,A2,a1,a2,a3,a4,a5⟩:=hv;rw [er] at a3 a5 ⊢;obtain ⟨D2,F2⟩:=a3 rfl;have z1:=k1.size;have z2:=k2.size;(conv=>whnf);refine aL.i λb3 h3 e3 s3 o3 k3=>?_;(conv=>whnf);refine aK.i λh4 s4 k4=>?_;have k24:Keeps [] h2 h4:=k3.new1 k4 (by omega);have A4:=A2.on k24;have z3:=k3.size;have z4:=k4.size;have q1:=bl V.ob tq;have q2:=bl V.sb msb;have q3:=bl V.mb pO;(conv=>whnf);refine ak.m (rE A4 d hd0 c' D2.right.2 D2.right.1) (λy hy hx=>by
  simp [au,aZ] at hy hx;omega) λv h5 k5 hv=>?_
 obtain ⟨rfl,A5⟩:=hv;(conv=>whnf);obtain ⟨vv,ev⟩:=rF X2 d c';have N2:gW X2.now d c' ((S.nm d).eraseIdx (aP (S.nm d) nm)) (S.aQ d):=⟨by rw [D2.kind.1];decide,λh=>(by rw [D2.kind.1] at h;cases h),λ_=>⟨m,D2⟩,λh=>(by rw [D2.kind.1] at h;omega)⟩;have N3:=N2.dU vv;rw [<-ev] at N3;have I2:=I.set hd F2 N3;refine ⟨((k1.mono (by simp)).trans ((k2.mono (by simp)).bS k24)).trans k5,rfl,_,A5,a1,a2,λx hx=>rG (by rw [a4];exact hx),_,I2,?_,?_⟩
 ·rw [ev];exact D2.kind.1
 ·rw [ev];exact D2.kind.2
theorem gF.bare {now:Int->UInt64}{n:Int}{c:aA}{m:List Int}(F:gF now n c m []):∀ x,0<=x->x<96->now (200+x)≠w64 (n+1):=by
 have hm:m=m0:=by
  apply List.ext_getElem (by rw [F.wk.len];rfl);intro j h1 h2;have hj:j<21:=by rw [<-F.wk.len];exact h1
  have:=F.hol j hj (by simp);rw [List.getElem?_eq_getElem h1] at this;have h3:m[j] = -1:=this;rw [h3];exact (List.eq_of_mem_replicate (List.getElem_mem (l:=m0) h2)).symm
 subst hm;have hmore:c.more = -1:=F.kY.2 (by decide);intro x x0 x1 e;have:=(F.wk.own x x0 x1).2 e;rw [hmore] at this;have hu:iq (-1) m0=[]:=by decide
 rw [hu] at this;cases this
theorem Wl {h:Heap}{V:VL}{M:aS}{X:VS}(A:At h V M X){S:FS}(I:bK X.now S){n:Int}(hn:0<n/\n<24)(hk:(S.C n).kind=1\/(S.C n).kind=3) :
 aC Tryz.prog 139 [.pointer (some ⟨V.v,0,none⟩),.int .i64 n,.agg ⟨(S.C n).cells⟩] h (λv h'=>Keeps [V.ob,V.sb,V.mb] h h'/\v=.int .i64 0/\∃ X',At h' V M X'/\X'.away=X.away/\X'.bG=X.bG/\(∀ x∈X.mine,x∈X'.mine) /\
  ∃ vv,bK X'.now (S.put n (gu vv) [] [])):=by
 have bl:=A.blt;have hn0:0<=n/\n<24:=⟨by omega,hn.2⟩;have N:=I.node n hn0.1 hn0.2;obtain ⟨m,F⟩:=N.file hk;have tq:V.ob∈V.blocks:=by simp [VL.blocks]
 have msb:V.sb∈V.blocks:=by simp [VL.blocks]
 have pO:V.mb∈V.blocks:=by simp [VL.blocks]
 have q1:=bl V.ob tq;have q2:=bl V.sb msb;have q3:=bl V.mb pO;have hcut:ic (S.aQ n) 0=([],0):=by
  unfold ic;rw [if_neg (by decide),if_neg (by decide),if_pos (by omega)];rfl
 obtain ⟨p1,p2⟩:=Ml (B:=M.read) hn0 F 0;rw [hcut] at p1 p2;obtain ⟨m',F2,R2,x2,_⟩:=p2 rfl;refine aG aH Tryz.func139 rfl ok139 (by simp [Tryz.f139]) ?_;(conv=>whnf);refine aL.i λb1 h1 e1 s1 o1 k1=>?_;have z1:=k1.size;have hk2:¬ (S.C n).kind=2:=by omega
 (conv=>whnf);(try refine aV.pass ?_;conv=>whnf);refine aj.f (by simp [hk2]) ?_;(conv=>whnf);refine ak.m (J8 (A.on k1) n (S.C n) N.ok F.mO 0) (λy hy hx=>by
  simp [au,aZ] at hy hx;omega) λv h2 k2 hv=>?_
 obtain ⟨rfl,A2⟩:=hv;generalize ja M.read X n (S.C n) 0=r at p1 F2 R2 x2 A2;have p1:r.2.1=0:=p1;have F2:gF r.2.2.now n r.1 m' []:=F2;rw [p1];have z2:=k2.size;(conv=>whnf);refine aL.i λb3 h3 e3 s3 o3 k3=>?_;(conv=>whnf);refine aK.i λh4 s4 k4=>?_;have k24:Keeps [] h2 h4:=k3.new1 k4 (by omega);have A4:=A2.on k24;have z3:=k3.size;have z4:=k4.size;(conv=>whnf);refine ak.m (rE A4 n hn0 r.1 F2.ok F2.right) (λy hy hx=>by
  simp [au,aZ] at hy hx;omega) λv h5 k5 hv=>?_
 obtain ⟨rfl,A5⟩:=hv;(conv=>whnf);refine aj.f rfl ?_;have z5:=k5.size;(conv=>whnf);refine ak.m (MK A5 n) (λy hy hx=>by
  simp [au,aZ] at hy hx;omega) λv h6 k6 hv=>?_
 obtain ⟨rfl,A6⟩:=hv;(conv=>whnf);obtain ⟨vv,ev⟩:=rF r.2.2 n r.1;have hk3:r.1.kind=1\/r.1.kind=3:=F2.kind.1;have N2:gW r.2.2.now n r.1 [] []:=⟨by omega,λh=>(by omega),λh=>(by omega),λ_=>⟨m',F2⟩⟩;have N3:=N2.dU vv;rw [<-ev] at N3;have I2:=I.set hn R2 N3;have hcr:gU (bW (dZ r.2.2 n (iM r.2.2 n r.1)).now (8+n*8) 8)=some (iM r.2.2 n r.1):=by
  show gU (bW (setW r.2.2.now n _) (8+n*8) 8)=_;rw [Ac];exact sP N3.right
 have hrel:uV (dZ r.2.2 n (iM r.2.2 n r.1)) n=(0,dZ (eY (dZ r.2.2 n (iM r.2.2 n r.1)) n) n (gu ((iM r.2.2 n r.1).dU+1))):=by
  unfold uV;rw [if_pos hn0,hcr];simp only;rw [if_neg (by rw [ev];show ¬ r.1.kind=0;omega)]
 rw [hrel] at A6 ⊢;have I3:=I2.set hn (Fr.refl n _) (Ad ((iM r.2.2 n r.1).dU+1) (λx x0 x1=>by
  rw [vD hn.2 (by omega)];exact F2.bare x x0 x1))
 rw [FS.Gv] at I3;refine ⟨((k1.mono (by simp)).trans ((k2.mono (by simp)).bS k24)).trans (k5.trans k6),rfl,_,A6,?_,?_,λx hx=>?_,_,I3⟩
 ·show r.2.2.away=_;rw [x2]
 ·show r.2.2.bG=_;rw [x2]
 ·refine rG (rG ?_);rw [x2];exact hx
theorem ny.there {X:VS}{S:FS}(I:bK X.now S)(C:gD S){path:List UInt8}{d:Int}{nm:List UInt8}{nd:Int}(P:ny S path d nm nd)(h0:nd≠0) :
 ∃ en,bR (S.nm d) nm=some en/\en.node=nd/\en∈S.nm d/\0<nd/\nd<24/\(S.C nd).kind≠0:=by
 have hn:=P.node;cases hf:bR (S.nm d) nm with
 | none=>rw [hf] at hn;exact absurd hn h0
 | some en=>
  rw [hf] at hn;have he:nd=en.node:=hn;have hm:en∈S.nm d:=List.mem_of_find?_eq_some hf;obtain ⟨c1,c2,c3⟩:=C.names d (by have:=P.bH;omega) P.bH.2 P.kind en hm;rw [<-he] at c1 c2 c3;exact ⟨en,rfl,he.symm,hm,by omega,c2,c3⟩
def wP (S:FS):Prop:=∀ d,0<d->d<24->(S.C d).kind=2->∀ e∈S.nm d,e.node≠d
def sZ (c:aA):aA:={ c with links:=c.links-1 }
def Nj (now:Int->UInt64)(S:FS)(d nd:Int)(nm:List UInt8):Prop:=∃ c1,c1.kind=2/\c1.links=1 /\
 (
  (1<(S.C nd).links/\∃ vv,bK now ((S.put d c1 ((S.nm d).eraseIdx (aP (S.nm d) nm)) (S.aQ d)).put nd (ni (sZ (S.C nd)) vv) (S.nm nd) (S.aQ nd))) \/
  ((S.C nd).links<=1/\∃ vv,bK now ((S.put d c1 ((S.nm d).eraseIdx (aP (S.nm d) nm)) (S.aQ d)).put nd (gu vv) [] [])))
theorem Wi {h:Heap}{V:VL}{M:aS}{X:VS}(A:At h V M X){S:FS}(I:bK X.now S)(C:gD S)(Q:wP S)(path:List UInt8)(hp:path.length<=140737488351232){f:Nat}(hb:BH Tryz.prog f=true){may:aA->Int}
 (hf:∀ (c:aA) (h:Heap),aC Tryz.prog f [.agg ⟨c.cells⟩] h (λv h'=>Keeps [] h h'/\v=.int .i64 (may c))) (hmay:∀ c,may c=0->c.kind≠2) :
 aC Tryz.prog 80 [.pointer (some ⟨V.v,0,none⟩),.string (ba path),.func (.func f) #[] #[]] h (λv h'=>Keeps [V.ob,V.sb,V.mb] h h'/\∃ X',At h' V M X'/\X'.away=X.away/\X'.bG=X.bG /\
  (
   ((bB (aY S) path).2.2.2≠0/\v=.int .i64 (bB (aY S) path).2.2.2/\X'.now=X.now/\X'.mine=X.mine) \/
   ∃ d nm nd,ny S path d nm nd/\((nd=0/\v=.int .i64 4/\X'.now=X.now/\X'.mine=X.mine)\/(nd≠0/\may (S.C nd)≠0/\v=.int .i64 (may (S.C nd))/\X'.now=X.now/\X'.mine=X.mine) \/
    (nd≠0/\may (S.C nd)=0/\v=.int .i64 0/\(∀ x∈X.mine,x∈X'.mine)/\Nj X'.now S d nd nm)))):=by
 have bl:=A.blt;have tq:V.ob∈V.blocks:=by simp [VL.blocks]
 have msb:V.sb∈V.blocks:=by simp [VL.blocks]
 have pO:V.mb∈V.blocks:=by simp [VL.blocks]
 have q1:=bl V.ob tq;have q2:=bl V.sb msb;have q3:=bl V.mb pO;refine aG aH Tryz.func80 rfl ok80 (by simp [Tryz.f80]) ?_;(conv=>whnf);refine ak.m (zi A I C path hp) (by simp [au]) λv h1 k1 hv=>?_;obtain ⟨rfl,s,A1⟩:=hv;have z1:=k1.size;by_cases he:(bB (aY S) path).2.2.2=0
 ·obtain ⟨d,nm,nd,P⟩:=wS I C he;rw [P.is];have hsp:mZ S (d,nm,nd,0)=tu d (S.C d) nm nd:=by unfold mZ;rw [if_pos rfl];rfl
  rw [hsp];generalize hX1:({ X with seen:=s }:VS)=X1 at A1;have w1:X1.now=X.now:=by rw [<-hX1]
  have w2:X1.away=X.away:=by rw [<-hX1]
  have w3:X1.bG=X.bG:=by rw [<-hX1]
  have w4:X1.mine=X.mine:=by rw [<-hX1]
  have I1:bK X1.now S:=by rw [w1];exact I
  (conv=>whnf);refine aL.i λb2 h2 e2 s2 o2 k2=>?_;(conv=>whnf);refine aK.i λh3 s3 k3=>?_;have k13:Keeps [] h1 h3:=k2.new1 k3 (by omega);have z2:=k2.size;have z3:=k3.size;have A3:=A1.on k13;(conv=>whnf);refine aj.f rfl ?_;by_cases hnd:nd=0
  ·subst hnd;(conv=>whnf);refine aj.t rfl ?_;(conv=>whnf);exact ⟨(k1.mono (by simp)).bS k13,X1,A3,w2,w3,.inr ⟨d,nm,0,P,.inl ⟨rfl,rfl,w1,w4⟩⟩⟩
  ·obtain ⟨en,hfe,hen,hmem,n0,n24,hkn⟩:=P.there I C hnd;have hne:nd≠d:=by rw [<-hen];exact Q d P.bH.1 P.bH.2 P.kind en hmem
   have N:=I1.node nd (by omega) n24;have hcr:gU (bW X1.now (8+nd*8) 8)=some (S.C nd):=by rw [I1.card nd (by omega) n24];exact sP N.right
   (conv=>whnf);refine aj.f (by simp [hnd]) ?_;(conv=>whnf);refine ak.m (sV A3 nd) (λy hy hx=>by
    simp [au,aZ] at hy hx;omega) λv h4 k4 hv=>?_
   rw [if_pos ⟨by omega,n24⟩,hcr] at hv;obtain ⟨rfl,A4⟩:=hv;have z4:=k4.size;unfold pM;(conv=>whnf);refine aL.i λb5 h5 e5 s5 o5 k5=>?_;(conv=>whnf);refine aK.i λh6 s6 k6=>?_;have k46:Keeps [] h4 h6:=k5.new1 k6 (by omega);have z5:=k5.size;have z6:=k6.size;(conv=>whnf);refine aj.f (by simp [hkn]) ?_;(conv=>whnf);rw [hb];(conv=>whnf);refine ak.i (hf (S.C nd) h6) λv h7 k7 hv=>?_;subst hv;have z7:=k7.size;have A7:=A4.on (k46.trans k7);have I7:bK (eY X1 nd).now S:=I1;have kk7:Keeps [V.ob,V.sb,V.mb] h h7:=((k1.mono (by simp)).bS k13).trans ((k4.mono (by simp)).bS (k46.trans k7));by_cases hm:may (S.C nd)=0
   ·rw [hm];have kF:(S.C nd).kind=1\/(S.C nd).kind=3:=by have:=hmay _ hm;have:=N.kind;omega
    (conv=>whnf);refine aj.f rfl ?_;(conv=>whnf);refine ak.m (Gu A7 I7 P.bH P.kind P.len hfe nd) (λy hy hx=>by
     simp [au,aZ] at hy hx;omega) λv h8 k8 hv=>?_
    obtain ⟨rfl,X2,A8,a1,a2,a3,c1,I8,hc1,hc2⟩:=hv;have z8:=k8.size;have eC:(S.put d c1 ((S.nm d).eraseIdx (aP (S.nm d) nm)) (S.aQ d)).C nd=S.C nd:=if_neg hne;have eN:(S.put d c1 ((S.nm d).eraseIdx (aP (S.nm d) nm)) (S.aQ d)).nm nd=S.nm nd:=if_neg hne;have eB:(S.put d c1 ((S.nm d).eraseIdx (aP (S.nm d) nm)) (S.aQ d)).aQ nd=S.aQ nd:=if_neg hne;have N8:=I8.node nd (by omega) n24;rw [eC,eN,eB] at N8;obtain ⟨mf,F8⟩:=N8.file kF;have hlk:=F8.kind.2;(conv=>whnf);refine aj.f rfl ?_;by_cases hl:1<(S.C nd).links
    ·(conv=>whnf);refine aj.t (by simp [hl]) ?_;(conv=>whnf);refine aK.i λh9 s9 k9=>?_;have A9:=A8.keep k9 (λb hb=>by have:=bl b hb;simp;omega);have F9:gF X2.now nd (sZ (S.C nd)) mf (S.aQ nd):=⟨F8.map,F8.wk,⟨F8.kind.1,by show 0<=(S.C nd).links-1;omega,by show (S.C nd).links-1<=255;omega⟩,F8.size,F8.fits,F8.aQ,F8.hol,F8.kY⟩;have CS:=rE A9 nd ⟨by omega,n24⟩ (sZ (S.C nd)) F9.ok F9.right;have hcells:(sZ (S.C nd)).cells=[.int .i64 (S.C nd).kind,.int .i64 (IntKind.i64.wrap ((S.C nd).links-1)),.int .i64 (S.C nd).size,wv (S.C nd).dU,.int .i64 (S.C nd).d0,.int .i64 (S.C nd).d1,.int .i64 (S.C nd).d2,.int .i64 (S.C nd).d3,.int .i64 (S.C nd).d4,.int .i64 (S.C nd).more]:=by
      rw [dR (by omega) (by omega)];rfl
     rw [hcells] at CS;(conv=>whnf);refine ak.m CS (λy hy hx=>by
      simp [au,aZ] at hy hx;omega) λv h10 k10 hv=>?_
     obtain ⟨rfl,A10⟩:=hv;(conv=>whnf);obtain ⟨vv,ev⟩:=rF X2 nd (sZ (S.C nd));have N9:gW X2.now nd (sZ (S.C nd)) (S.nm nd) (S.aQ nd):=⟨N8.kind,λh=>absurd h hkn,λh=>(by have h:(S.C nd).kind=2:=h;omega),λ_=>⟨mf,F9⟩⟩;have N10:=N9.dU vv;have I10:=I8.set (n:=nd) ⟨by omega,n24⟩ (Fr.refl _ _) N10;rw [<-ev] at I10;refine ⟨((kk7.trans k8).m1 k9 (by omega)).trans k10,_,A10,?_,?_,.inr ⟨d,nm,nd,P,.inr (.inr ⟨hnd,hm,rfl,λx hx=>rG (a3 x ?_),c1,hc1,hc2,.inl ⟨hl,vv,?_⟩⟩)⟩⟩
     ·show X2.away=_;rw [a1];exact w2
     ·show X2.bG=_;rw [a2];exact w3
     ·show x∈X1.mine;rw [w4];exact hx
     ·rw [<-ev];exact I10
    ·(conv=>whnf);refine aj.f (by simp;omega) ?_;have CG:=Wl A8 I8 (n:=nd) ⟨n0,n24⟩ (by rw [eC];exact kF);rw [eC] at CG;(conv=>whnf);refine ak.m CG (λy hy hx=>by
      simp [au,aZ] at hy hx;omega) λv h9 k9 hv=>?_
     obtain ⟨rfl,X3,A9,b1,b2,b3,vv,I9⟩:=hv;(conv=>whnf);refine ⟨(kk7.trans k8).trans k9,X3,A9,?_,?_,.inr ⟨d,nm,nd,P,.inr (.inr ⟨hnd,hm,rfl,λx hx=>b3 x (a3 x ?_),c1,hc1,hc2,.inr ⟨by omega,vv,I9⟩⟩)⟩⟩
     ·rw [b1,a1];exact w2
     ·rw [b2,a2];exact w3
     ·show x∈X1.mine;rw [w4];exact hx
   ·(conv=>whnf);refine aj.t (by simp [hm]) ?_;(conv=>whnf);exact ⟨kk7,_,A7,w2,w3,.inr ⟨d,nm,nd,P,.inr (.inl ⟨hnd,hm,rfl,w1,w4⟩)⟩⟩
 ·generalize bB (aY S) path=r at he;obtain ⟨d',c',gK,nd',hsp,_⟩:=zH S r;rw [hsp];(conv=>whnf);refine aL.i λb2 h2 e2 s2 o2 k2=>?_;(conv=>whnf);refine aK.i λh3 s3 k3=>?_;have k13:Keeps [] h1 h3:=k2.new1 k3 (by omega);(conv=>whnf);refine aj.t (by simp [he]) ?_;(conv=>whnf);exact ⟨(k1.mono (by simp)).bS k13,_,A1.on k13,rfl,rfl,.inl ⟨he,rfl,rfl,rfl⟩⟩
theorem Wj (c:aA)(h:Heap):aC Tryz.prog 81 [.agg ⟨c.cells⟩] h (λv h'=>Keeps [] h h'/\v=.int .i64 (if c.kind=2 then 7 else 0)):=by
 refine aG aH Tryz.func81 rfl ok81 (by simp [Tryz.f81]) ?_;(conv=>whnf);refine aL.i λb1 h1 e1 s1 o1 k1=>?_;(conv=>whnf);refine aj.i (λhc=>?_) (λhc=>?_)
 ·(conv=>whnf);have:c.kind=2:=by simpa using hc
  exact ⟨k1,by rw [if_pos this]⟩
 ·(conv=>whnf);have:¬ c.kind=2:=by simpa using hc
  exact ⟨k1,by rw [if_neg this]⟩
theorem WL (B:Int->UInt64)(node:Int)(a:Nat)(data:List UInt8)(i:Nat)(X:VS)(m:List Int):sQ X (iP B node a data i X m).2.1:=by
 have ht:=Mg B X node;unfold iP;by_cases hm:m[i]?.getD 0 = -1
 ·simp only [if_pos hm];split <;> exact ht
 ·simp only [if_neg hm,if_true];exact ⟨rfl,rfl⟩
theorem Ns (B:Int->UInt64)(node:Int)(a:Nat)(data:List UInt8):∀ (f i:Nat) (X:VS) (m:List Int),sQ X (gX B node a data f i X m).2.1
 | 0,i,X,m=>⟨rfl,rfl⟩
 | f+1,i,X,m=>by
  have h1:=WL B node a data i X m;unfold gX;split
  ·have h2:=Ns B node a data f (i+1) (iP B node a data i X m).2.1 (iP B node a data i X m).2.2;exact ⟨h2.1.trans h1.1,h2.2.trans h1.2⟩
  ·exact h1
theorem Nh (B:Int->UInt64)(X:VS)(node:Int)(c:aA)(at_:Int)(data:List UInt8):sQ X (fZ B X node c at_ data).2.2:=by
 unfold fZ;split
 ·exact ⟨rfl,rfl⟩
 ·split
  ·split <;> exact ⟨rfl,rfl⟩
  ·split
   ·exact ⟨rfl,rfl⟩
   ·split
    ·exact ⟨rfl,rfl⟩
    ·rename_i m _;have h1:=Ns B node at_.toNat data ((at_.toNat+data.length+127)/128-at_.toNat/128) (at_.toNat/128) X m;simp only;split
     ·have h2:=Mh B (gX B node at_.toNat data ((at_.toNat+data.length+127)/128-at_.toNat/128) (at_.toNat/128) X m).2.1 node { c with size:=max c.size (at_+data.length) } (gX B node at_.toNat data ((at_.toNat+data.length+127)/128-at_.toNat/128) (at_.toNat/128) X m).2.2;exact ⟨h2.1.trans h1.1,h2.2.trans h1.2⟩
     ·exact h1
theorem WM {X:VS}{S:FS}(I:bK X.now S)(aw:X.bG=[]){kind:Int}(hk:1<=kind/\kind<=3) :
 (uU X kind=(0,9,X)/\∀ k,2<=k->k<24->(S.C k).kind≠0)\/∃ n v,uU X kind=(n,0,dZ X n (cB kind v))/\2<=n/\n<24/\(S.C n).kind=0/\∀ k,2<=k->k<n->(S.C k).kind≠0:=by
 unfold uU;rw [if_pos hk];cases hf:lI X 22 2 with
 | some n=>
  right
  obtain ⟨f1,f2,f3⟩:=MI hf;refine ⟨(n:Int),_,rfl,by omega,by omega,(Gy I aw (by omega)).1 f1,λk k2 kn hk0=>?_⟩;have:=Nq hf k.toNat (by omega) (by omega);rw [Int.toNat_of_nonneg (by omega)] at this;rw [(Gy I aw (by omega)).2 hk0] at this;cases this
 | none=>
  left
  refine ⟨rfl,λk k2 k24 hk0=>?_⟩;have h1:=Nr hf k.toNat (by omega) (by omega);rw [Int.toNat_of_nonneg (by omega)] at h1;rw [(Gy I aw (by omega)).2 hk0] at h1;cases h1
theorem ny.new {X:VS}{S:FS}(I:bK X.now S)(C:gD S){path:List UInt8}{d:Int}{nm:List UInt8}(P:ny S path d nm 0):bR (S.nm d) nm=none:=by
 have hn:=P.node;cases hf:bR (S.nm d) nm with
 | none=>rfl
 | some en=>
  rw [hf] at hn;have he:(0:Int)=en.node:=hn;obtain ⟨c1,c2,c3⟩:=C.names d (by have:=P.bH;omega) P.bH.2 P.kind en (List.mem_of_find?_eq_some hf);rw [<-he] at c3;exact absurd I.zero c3
structure Made (now:Int->UInt64)(S:FS)(d:Int)(nm:List UInt8)(n kind:Int)(data:List UInt8):Prop where
 bH:2<=n/\n<24
 was:(S.C n).kind=0
 least:∀ k,2<=k->k<n->(S.C k).kind≠0
 fs:∃ c2 c1,c2.kind=kind/\c2.links=1/\c1.kind=2/\c1.links=1/\bK now ((S.put n c2 [] data).put d c1 (bD (S.nm d) ⟨nm,n⟩) (S.aQ d))
def lJ (B:Int->UInt64)(X:VS)(S:FS)(path:List UInt8)(kind:Int)(data:List UInt8)(v:Value)(X':VS):Prop:=X'.away=X.away/\X'.bG=X.bG /\
 (
  ((bB (aY S) path).2.2.2≠0/\v=.int .i64 (bB (aY S) path).2.2.2/\X'.now=X.now/\X'.mine=X.mine) \/
  ∃ d nm nd,ny S path d nm nd/\((nd≠0/\v=.int .i64 5/\X'.now=X.now/\X'.mine=X.mine) \/
   (nd=0/\v=.int .i64 9/\(bE B X 96<8\/10<=(S.nm d).length\/∀ k,2<=k->k<24->(S.C k).kind≠0)) \/
   (nd=0/\v=.int .i64 0/\(∀ x∈X.mine,x∈X'.mine)/\bE B X 96<=bE B X' 96+8/\∃ n,Made X'.now S d nm n kind data)))
theorem Nt {B:Int->UInt64}{X Xb X':VS}{S:FS}{path nm data:List UInt8}{d n kind:Int}{v:Value}{c2:aA}(P:ny S path d nm 0)(hn:2<=n/\n<24)(hw:(S.C n).kind=0)(hl:∀ k,2<=k->k<n->(S.C k).kind≠0)
 (hk2:c2.kind=kind/\c2.links=1) (hf:bE B X 96<=bE B Xb 96+3) (hm:∀ x∈X.mine,x∈Xb.mine) (e1:X'.away=X.away) (e2:X'.bG=X.bG)
 (H:((v=.int .i64 9/\(bE B Xb 96<2\/ow (bU nm)<=qb ((S.put n c2 [] data).nm d) nm)) \/
  (v=.int .i64 0/\bE B Xb 96<=bE B X' 96+2/\(∀ x∈Xb.mine,x∈X'.mine)/\∃ c',bK X'.now ((S.put n c2 [] data).put d c' (bD ((S.put n c2 [] data).nm d) ⟨nm,n⟩) ((S.put n c2 [] data).aQ d))/\c'.kind=2/\c'.links=1))) :
 lJ B X S path kind data v X':=by
 have hne:d≠n:=by
  intro e;have:=P.kind;rw [e,hw] at this;cases this
 have eN:(S.put n c2 [] data).nm d=S.nm d:=if_neg hne;have eB:(S.put n c2 [] data).aQ d=S.aQ d:=if_neg hne;rw [eN,eB] at H;refine ⟨e1,e2,.inr ⟨d,nm,0,P,.inr ?_⟩⟩;rcases H with ⟨rfl,H⟩|⟨rfl,h1,h2,c',h3,h4,h5⟩
 ·refine .inl ⟨rfl,rfl,?_⟩;rcases H with H|H
  ·left;omega
  ·right;left
   have h6:qb (S.nm d) nm<=(S.nm d).length:=List.length_filter_le _ _;have h7:10<=ow (bU nm):=by unfold ow;split <;> omega
   omega
 ·exact .inr ⟨rfl,rfl,λx hx=>h2 x (hm x hx),by omega,n,hn,hw,hl,c2,c',hk2.1,hk2.2,h4,h5,h3⟩
theorem Ni {h:Heap}{V:VL}{M:aS}{X:VS}(A:At h V M X){S:FS}(I:bK X.now S)(C:gD S)(aw:X.bG=[])(path:List UInt8)(hp:path.length<=140737488351232){kind:Int}(hk:1<=kind/\kind<=3){data:List UInt8}(hd:data.length<=120)(hd2:kind=2->data=[]) :
 aC Tryz.prog 65 [.pointer (some ⟨V.v,0,none⟩),.string (ba path),.int .i64 kind,.string (ba data)] h (λv h'=>Keeps [V.ob,V.sb,V.mb] h h'/\∃ X',At h' V M X'/\lJ M.read X S path kind data v X'):=by
 have bl:=A.blt;have tq:V.ob∈V.blocks:=by simp [VL.blocks]
 have msb:V.sb∈V.blocks:=by simp [VL.blocks]
 have pO:V.mb∈V.blocks:=by simp [VL.blocks]
 have q1:=bl V.ob tq;have q2:=bl V.sb msb;have q3:=bl V.mb pO;refine aG aH Tryz.func65 rfl ok65 (by simp [Tryz.f65]) ?_;(conv=>whnf);refine ak.m (Nk A I C path hp) (by simp [au]) λv h1 k1 hv=>?_;obtain ⟨⟨s,A1⟩,d',c',gK,nd',rfl,hq⟩:=hv;have z1:=k1.size;(conv=>whnf);refine aL.i λb2 h2 e2 s2 o2 k2=>?_;(conv=>whnf);refine aK.i λh3 s3 k3=>?_;have k13:Keeps [] h1 h3:=k2.new1 k3 (by omega);have z2:=k2.size;have z3:=k3.size;have A3:=A1.on k13;have kk3:Keeps [V.ob,V.sb,V.mb] h h3:=(k1.mono (by simp)).bS k13;by_cases he:(bB (aY S) path).2.2.2=0
 ·obtain ⟨d,nm,nd,P⟩:=wS I C he;rw [P.is] at hq ⊢;obtain ⟨t1,t2,t3,t4⟩:=hq rfl;have t1:d=d':=t1.symm;have t3:nm=gK:=t3.symm;have t4:nd=nd':=t4.symm;subst t1 t3 t4;have t2:c'=S.C d:=t2;subst t2;simp only;generalize hX1:({ X with seen:=s }:VS)=X1 at A3;have w1:X1.now=X.now:=by rw [<-hX1]
  have w2:X1.away=X.away:=by rw [<-hX1]
  have w3:X1.bG=X.bG:=by rw [<-hX1]
  have w4:X1.mine=X.mine:=by rw [<-hX1]
  have w5:bE M.read X1 96=bE M.read X 96:=by rw [<-hX1];rfl
  have I1:bK X1.now S:=by rw [w1];exact I
  by_cases hnd:nd=0
  ·subst hnd;have hfe:=P.new I C;(conv=>whnf);refine aj.f rfl ?_;(conv=>whnf);refine ak.m (Vi A3 kind) (λy hy hx=>by
    simp [au,aZ] at hy hx;omega) λv h4 k4 hv=>?_
   obtain ⟨rfl,A4⟩:=hv;have z4:=k4.size;rcases WM I1 (w3.trans aw) hk with ⟨hno,hfull⟩|⟨n,vn,hno,hn2,hn24,hn0,Nu⟩
   ·rw [hno] at A4 ⊢;(conv=>whnf);refine aj.t rfl ?_;(conv=>whnf);exact ⟨kk3.trans k4,X1,A4,w2,w3,.inr ⟨d,nm,0,P,.inr (.inl ⟨rfl,rfl,.inr (.inr hfull)⟩)⟩⟩
   ·rw [hno] at A4 ⊢;have hno2:∀ x,0<=x->x<96->X1.now (200+x)≠w64 (n+1):=((I1.node n (by omega) hn24).free hn0).2;have N4:gW X1.now n (cB kind vn) [] []:=Iz hk vn hno2;have I4:bK (dZ X1 n (cB kind vn)).now (S.put n (cB kind vn) [] []):=I1.set (by omega) (Fr.refl n X1.now) N4;have hf4:bE M.read (dZ X1 n (cB kind vn)) 96=bE M.read X 96:=by rw [Cy hn24,w5]
    have hdn:d≠n:=by
     intro e;have:=P.kind;rw [e,hn0] at this;cases this
    (conv=>whnf);refine aj.f rfl ?_;by_cases hdata:data=[]
    ·subst hdata;have hs0:(!(ba []).toList==(ByteArray.mk #[]).toList)=false:=by
      have h1:((ba []).toList==(ba []).toList)=true:=beq_self_eq_true _;have h2:((ba []).toList==(ByteArray.mk #[]).toList)=true:=h1;rw [h2];rfl
     (conv=>whnf);(try refine aV.pass ?_;conv=>whnf);refine aj.f hs0 ?_;(conv=>whnf);refine ak.m (Cx A4 I4 P.bH (by show (if d=n then _ else S.C d).kind=2;rw [if_neg hdn];exact P.kind) P.name P.len (by show bR (if d=n then _ else S.nm d) nm=none;rw [if_neg hdn];exact hfe) (S.C d) 0 n ⟨by omega,hn24⟩) (λy hy hx=>by
      simp [au,aZ] at hy hx;omega) λv h5 k5 hv=>?_
     obtain ⟨X5,A5,x1,x2,H⟩:=hv;(conv=>whnf);refine ⟨(kk3.trans k4).trans k5,X5,A5,Nt (Xb:=dZ X1 n (cB kind vn)) P ⟨hn2,hn24⟩ hn0 Nu ⟨rfl,rfl⟩ (by rw [hf4];omega) (λx hx=>nR.2 (.inl (by rw [w4];exact hx))) (x1.trans w2) (x2.trans w3) H⟩
    ·have kF:kind=1\/kind=3:=by
      by_cases e:kind=2
      ·exact absurd (hd2 e) hdata
      ·omega
     have hcr:gU (bW (dZ X1 n (cB kind vn)).now (8+n*8) 8)=some (cB kind vn):=by
      show gU (bW (setW X1.now n _) (8+n*8) 8)=_;rw [Ac];exact sP (Cj hk vn).2
     have hX5:∀ a,200<=a->(eY (dZ X1 n (cB kind vn)) n).now a=X1.now a:=λa ha=>vD hn24 ha;have FF:gF (eY (dZ X1 n (cB kind vn)) n).now n (cB kind vn) m0 []:=Iw kF vn (λx x0 x1=>by rw [hX5 _ (by omega)];exact hno2 x x0 x1);have hf5:bE M.read (eY (dZ X1 n (cB kind vn)) n) 96=bE M.read X 96:=by rw [WH];exact hf4
     have hrw:fu [] 0 data=(data,0):=WG data (by omega);have WP:=Dr (B:=M.read) (X:=eY (dZ X1 n (cB kind vn)) n) ⟨by omega,hn24⟩ FF 0 data;have WR:=λhr=>II (B:=M.read) (X:=eY (dZ X1 n (cB kind vn)) n) ⟨by omega,hn24⟩ FF 0 data hr;rw [show ((0:Nat):Int)=0 from rfl] at WR;rw [hrw] at WP WR;have WS:=IE (B:=M.read) (X:=eY (dZ X1 n (cB kind vn)) n) (node:=n) (c:=cB kind vn) (at_:=0) (data:=data);rw [hf5] at WR;have WA:sQ (eY (dZ X1 n (cB kind vn)) n) (fZ M.read (eY (dZ X1 n (cB kind vn)) n) n (cB kind vn) 0 data).2.2:=Nh M.read _ n (cB kind vn) 0 data;have hs0:(!(ba data).toList==(ByteArray.mk #[]).toList)=true:=by
      have h2:((ba data).toList==(ByteArray.mk #[]).toList)=false:=by
       have:=iZ data [];rw [decide_eq_false hdata] at this;exact this
      rw [h2];rfl
     have hroom:(0+data.length+127)/128-0/128+1<=2:=by omega
     (conv=>whnf);(try refine aV.pass ?_;conv=>whnf);refine aj.t hs0 ?_;(conv=>whnf);refine ak.m (sV A4 n) (λy hy hx=>by
      simp [au,aZ] at hy hx;omega) λv h5 k5 hv=>?_
     rw [if_pos ⟨by omega,hn24⟩,hcr] at hv;obtain ⟨rfl,A5⟩:=hv;have z5:=k5.size;unfold pM;(conv=>whnf);refine aL.i λb6 h6 e6 s6 o6 k6=>?_;(conv=>whnf);refine aK.i λh7 s7 k7=>?_;have k57:Keeps [] h5 h7:=k6.new1 k7 (by omega);have z6:=k6.size;have z7:=k7.size;(conv=>whnf);refine aj.f rfl ?_;(conv=>whnf);refine ak.m (Ka (A5.on k57) n (cB kind vn) (Cj hk vn).1 FF.mO 0 data) (λy hy hx=>by
      simp [au,aZ] at hy hx;omega) λv h8 k8 hv=>?_
     obtain ⟨rfl,A8⟩:=hv;generalize fZ M.read (eY (dZ X1 n (cB kind vn)) n) n (cB kind vn) 0 data=q at WP WR WS WA A8;have z8:=k8.size;(conv=>whnf);refine aK.i λh9 s9 k9=>?_;have A9:=A8.keep k9 (λb hb=>by have:=bl b hb;simp;omega);have z9:=k9.size;have kk9:Keeps [V.ob,V.sb,V.mb] h h9:=(((kk3.trans k4).trans ((k5.mono (by simp)).bS k57)).trans (k8.mono (by simp))).m1 k9 (by omega);by_cases hq0:q.2.1=0
     ·obtain ⟨g1,g2,g3⟩:=WS hq0;obtain ⟨m',W⟩:∃ m',Wrote n (eY (dZ X1 n (cB kind vn)) n) m0 0 data data q m':=by
       rcases WP with ⟨h9,_⟩|⟨_,hw⟩
       ·rw [hq0] at h9;cases h9
       ·exact hw rfl
      have N8:gW q.2.2.now n q.1 [] data:=⟨by rw [g1];show 0<=kind/\kind<=3;omega,λh=>(by rw [g1] at h;have h:kind=0:=h;omega),λh=>(by rw [g1] at h;have h:kind=2:=h;omega),λ_=>⟨m',W.file⟩⟩;rw [hq0];(conv=>whnf);refine ak.m (rE A9 n ⟨by omega,hn24⟩ q.1 N8.ok N8.right) (λy hy hx=>by
       simp [au,aZ] at hy hx;omega) λv h10 k10 hv=>?_
      obtain ⟨rfl,A10⟩:=hv;have z10:=k10.size;obtain ⟨vv,ev⟩:=rF q.2.2 n q.1;have N9:=N8.dU vv;rw [<-ev] at N9;have I9:=I4.set (n:=n) (by omega) W.fr N9;rw [FS.Gv] at I9;(conv=>whnf);refine aj.f rfl ?_;have hf9:bE M.read X 96<=bE M.read (dZ q.2.2 n (iM q.2.2 n q.1)) 96+3:=by
       rw [Cy hn24];by_cases h2:2<=bE M.read X 96
       ·have:=((WR (by omega)).2 rfl).1;omega
       ·omega
      (conv=>whnf);refine ak.m (Cx A10 I9 P.bH (by show (if d=n then _ else S.C d).kind=2;rw [if_neg hdn];exact P.kind) P.name P.len (by show bR (if d=n then _ else S.nm d) nm=none;rw [if_neg hdn];exact hfe) (S.C d) 0 n ⟨by omega,hn24⟩) (λy hy hx=>by
       simp [au,aZ] at hy hx;omega) λv h11 k11 hv=>?_
      obtain ⟨X11,A11,x1,x2,H⟩:=hv;(conv=>whnf);have wx:=W.x;refine ⟨(kk9.trans k10).trans k11,X11,A11,Nt (Xb:=dZ q.2.2 n (iM q.2.2 n q.1)) P ⟨hn2,hn24⟩ hn0 Nu ?_ hf9 (λx hx=>nR.2 (.inl ?_)) ?_ ?_ H⟩
      ·rw [ev];exact ⟨g1,g2⟩
      ·rw [wx];exact nR.2 (.inl (by rw [w4];exact hx))
      ·rw [x1];show q.2.2.away=_;rw [wx];exact w2
      ·rw [x2];show q.2.2.bG=_;rw [wx];exact w3
     ·have hq9:q.2.1=9:=by
       rcases WP with ⟨h9,_⟩|⟨h9,_⟩
       ·exact h9
       ·exact absurd h9 hq0
      rw [hq9];(conv=>whnf);refine ak.i (Cw _ n q.1 9 (by decide)) λv h10 k10 hv=>?_;subst hv;(conv=>whnf);refine aj.t rfl ?_;(conv=>whnf);have hX8:q.2.2.away=X.away/\q.2.2.bG=X.bG:=⟨WA.1.trans w2,WA.2.trans w3⟩;refine ⟨kk9.bS k10,q.2.2,A9.on k10,hX8.1,hX8.2,.inr ⟨d,nm,0,P,.inr (.inl ⟨rfl,rfl,.inl ?_⟩)⟩⟩;by_cases h2:2<=bE M.read X 96
      ·exact absurd (WR (by omega)).1 hq0
      ·omega
  ·(conv=>whnf);refine aj.t (by simp [hnd]) ?_;(conv=>whnf);refine ⟨kk3,X1,A3,w2,w3,.inr ⟨d,nm,nd,P,.inl ⟨hnd,?_,w1,w4⟩⟩⟩;rw [if_neg (by simp),if_pos hnd]
 ·(conv=>whnf);refine aj.t (by simp [he]) ?_;(conv=>whnf);refine ⟨kk3,_,A3,rfl,rfl,.inl ⟨he,?_,rfl,rfl⟩⟩;rw [if_pos he]
def cO (S:FS)(path:List UInt8):Int×Int:=aR (aY S) path true
def gB (S:FS)(path:List UInt8):Int:=if (cO S path).2=0/\(S.C (cO S path).1).kind=2 then 7 else (cO S path).2
def wR (S:FS)(path:List UInt8):aA:=if (cO S path).2=0 then S.C (cO S path).1 else aA.zero
theorem Cv {X:VS}{S:FS}(I:bK X.now S)(C:gD S){path:List UInt8}{follow:Bool}(h0:(aR (aY S) path follow).2=0) :
 0<(aR (aY S) path follow).1/\(aR (aY S) path follow).1<24/\(S.C (aR (aY S) path follow).1).kind≠0:=by
 have key:0<=(aR (aY S) path follow).1/\(aR (aY S) path follow).1<24/\(S.C (aR (aY S) path follow).1).kind≠0:=by
  unfold aR at h0 ⊢;cases hp:bC path with
  | none=>rw [hp] at h0;cases h0
  | some l=>
   rw [hp] at h0;exact FZ (X:=X) C 600 1 0 l ⟨by decide,by decide,by rw [C.root];decide⟩ h0
 obtain ⟨a,b,c⟩:=key;refine ⟨?_,b,c⟩;have:(aR (aY S) path follow).1≠0:=λe=>by rw [e] at c;exact c I.zero
 omega
theorem Gs {h:Heap}{V:VL}{M:aS}{X:VS}(A:At h V M X){S:FS}(I:bK X.now S)(C:gD S)(path:List UInt8)(hp:path.length<=140737488351232) :
 aC Tryz.prog 67 [.pointer (some ⟨V.v,0,none⟩),.string (ba path)] h (λv h'=>Keeps [V.sb] h h'/\(∃ s,At h' V M { X with seen:=s })/\v=.tuple #[.int .i64 (cO S path).1,.agg ⟨(wR S path).cells⟩,.int .i64 (gB S path)]):=by
 have bl:=A.blt;have msb:V.sb∈V.blocks:=by simp [VL.blocks]
 have q2:=bl V.sb msb;refine aG aH Tryz.func67 rfl ok67 (by simp [Tryz.f67]) ?_;(conv=>whnf);refine aL.i λb1 h1 e1 s1 o1 k1=>?_;have z1:=k1.size;(conv=>whnf);refine ak.m (wM (A.on k1) I C path hp true) (λy hy hx=>by
  simp [au,aZ] at hy hx;omega) λv h2 k2 hv=>?_
 obtain ⟨rfl,s,A2⟩:=hv;have z2:=k2.size;have hw:mY S (aR (aY S) path true)=.tuple #[.int .i64 (cO S path).1,.agg ⟨(wR S path).cells⟩,.int .i64 (cO S path).2]:=rfl;rw [hw];have hfe:gB S path=if (cO S path).2=0/\(wR S path).kind=2 then 7 else (cO S path).2:=by
  unfold gB wR;by_cases h0:(cO S path).2=0
  ·rw [if_pos h0]
  ·rw [if_neg (λe=>h0 e.1),if_neg (λe=>h0 e.1)]
 rw [hfe];generalize wR S path=c;generalize cO S path=r;clear hw hfe;(conv=>whnf);refine aL.i λb3 h3 e3 s3 o3 k3=>?_;(conv=>whnf);refine aK.i λh4 s4 k4=>?_;have k24:Keeps [] h2 h4:=k3.new1 k4 (by omega);have z3:=k3.size;have z4:=k4.size;have A4:=A2.on k24;have kk4:Keeps [V.sb] h h4:=(k1.mono (by simp)).trans (k2.bS k24);(conv=>whnf);(try refine aV.pass ?_;conv=>whnf);refine aj.i (λhd=>?_) (λhd=>?_)
 ·have hd1:r.2=0/\c.kind=2:=by
   rw [dJ] at hd;simpa using hd
  rw [if_pos hd1];(conv=>whnf);refine aK.i λh5 s5 k5=>?_;(conv=>whnf);exact ⟨kk4.m1 k5 (by omega),⟨s,A4.keep k5 (λb hb=>by have:=bl b hb;simp;omega)⟩,rfl⟩
 ·have hd1:¬ (r.2=0/\c.kind=2):=by
   rw [dJ] at hd;simpa using hd
  rw [if_neg hd1];(conv=>whnf);refine aK.i λh5 s5 k5=>?_;(conv=>whnf);exact ⟨kk4.m1 k5 (by omega),⟨s,A4.keep k5 (λb hb=>by have:=bl b hb;simp;omega)⟩,rfl⟩
theorem Gt {X:VS}{S:FS}(I:bK X.now S)(C:gD S){path:List UInt8}(h0:gB S path=0):(cO S path).2=0/\0<(cO S path).1/\(cO S path).1<24/\((S.C (cO S path).1).kind=1\/(S.C (cO S path).1).kind=3)/\wR S path=S.C (cO S path).1:=by
 unfold gB at h0;by_cases h:(cO S path).2=0/\(S.C (cO S path).1).kind=2
 ·rw [if_pos h] at h0;cases h0
 ·rw [if_neg h] at h0;obtain ⟨a,b,c⟩:=Cv I C (path:=path) (follow:=true) h0;have a:0<(cO S path).1:=a;have b:(cO S path).1<24:=b;have c:(S.C (cO S path).1).kind≠0:=c;have N:=(I.node (cO S path).1 (by omega) b).kind;have hk:(S.C (cO S path).1).kind≠2:=λe=>h ⟨h0,e⟩;exact ⟨h0,a,b,by omega,if_pos h0⟩
theorem C8 {h:Heap}{V:VL}{M:aS}{X:VS}(A:At h V M X){S:FS}(I:bK X.now S)(C:gD S)(path:List UInt8)(hp:path.length<=140737488351232)(at_ n:Int) :
 aC Tryz.prog 24 [.pointer (some ⟨V.v,0,none⟩),.string (ba path),.int .i64 at_,.int .i64 n] h (λv h'=>Keeps [V.sb] h h'/\(∃ s,At h' V M { X with seen:=s }) /\
  v=(if gB S path=0 then .tuple #[.string (ba (jd (S.aQ (cO S path).1) at_ n).1),.int .i64 (jd (S.aQ (cO S path).1) at_ n).2] else .tuple #[.string (ba []),.int .i64 (gB S path)])):=by
 have bl:=A.blt;have msb:V.sb∈V.blocks:=by simp [VL.blocks]
 have q2:=bl V.sb msb;refine aG aH Tryz.func24 rfl ok24 (by simp [Tryz.f24]) ?_;(conv=>whnf);refine ak.m (Gs A I C path hp) (by simp [au]) λv h2 k2 hv=>?_;obtain ⟨⟨s,A2⟩,rfl⟩:=hv;have z2:=k2.size;(conv=>whnf);refine aL.i λb3 h3 e3 s3 o3 k3=>?_;(conv=>whnf);refine aK.i λh4 s4 k4=>?_;have k24:Keeps [] h2 h4:=k3.new1 k4 (by omega);have A4:=A2.on k24;have kk4:Keeps [V.sb] h h4:=k2.bS k24;by_cases h0:gB S path=0
 ·obtain ⟨p0,p1,p2,p3,p4⟩:=Gt I C h0;obtain ⟨m,F⟩:=(I.node (cO S path).1 (by omega) p2).file p3;have F':gF ({ X with seen:=s }:VS).now (cO S path).1 (S.C (cO S path).1) m (S.aQ (cO S path).1):=F;rw [h0,p4,if_pos rfl];(conv=>whnf);refine aj.f rfl ?_;(conv=>whnf);refine ak.i (Ba A4 (S.C (cO S path).1) F.ok F.szr F'.mO at_ n) λv h5 k5 hv=>?_;subst hv;rw [FY F'];(conv=>whnf);exact ⟨kk4.bS k5,⟨s,A4.on k5⟩,rfl⟩
 ·rw [if_neg h0];(conv=>whnf);refine aj.t (by simp [h0]) ?_;(conv=>whnf);exact ⟨kk4,⟨s,A4⟩,rfl⟩
theorem C9 {h:Heap}{V:VL}{M:aS}{X:VS}(A:At h V M X){S:FS}(I:bK X.now S)(C:gD S)(path:List UInt8)(hp:path.length<=140737488351232) :
 aC Tryz.prog 19 [.pointer (some ⟨V.v,0,none⟩),.string (ba path)] h (λv h'=>Keeps [V.sb] h h'/\(∃ s,At h' V M { X with seen:=s }) /\
  v=(if (aR (aY S) path false).2=0 then .tuple #[.agg #[.int .i64 0,.int .i64 (S.C (aR (aY S) path false).1).kind,.int .i64 (S.C (aR (aY S) path false).1).links,.int .i64 (S.C (aR (aY S) path false).1).size],.int .i64 0] else .tuple #[.agg #[.int .i64 0,.int .i64 0,.int .i64 0,.int .i64 0],.int .i64 (aR (aY S) path false).2])):=by
 have bl:=A.blt;have msb:V.sb∈V.blocks:=by simp [VL.blocks]
 have q2:=bl V.sb msb;refine aG aH Tryz.func19 rfl ok19 (by simp [Tryz.f19]) ?_;(conv=>whnf);refine aL.i λb1 h1 e1 s1 o1 k1=>?_;have z1:=k1.size;(conv=>whnf);refine ak.m (wM (A.on k1) I C path hp false) (λy hy hx=>by
  simp [au,aZ] at hy hx;omega) λv h2 k2 hv=>?_
 obtain ⟨rfl,s,A2⟩:=hv;have z2:=k2.size;generalize aR (aY S) path false=r;unfold mY;(conv=>whnf);refine aL.i λb3 h3 e3 s3 o3 k3=>?_;(conv=>whnf);refine aK.i λh4 s4 k4=>?_;have k24:Keeps [] h2 h4:=k3.new1 k4 (by omega);have z3:=k3.size;have z4:=k4.size;have A4:=A2.on k24;have kk4:Keeps [V.sb] h h4:=(k1.mono (by simp)).trans (k2.bS k24);by_cases h0:r.2=0
 ·rw [h0,if_pos rfl,if_pos rfl];(conv=>whnf);refine aj.f rfl ?_;(conv=>whnf);refine aK.i λh5 s5 k5=>?_;(conv=>whnf);exact ⟨kk4.m1 k5 (by omega),⟨s,A4.keep k5 (λb hb=>by have:=bl b hb;simp;omega)⟩,rfl⟩
 ·rw [if_neg h0,if_neg h0];(conv=>whnf);refine aj.t (by simp [h0]) ?_;(conv=>whnf);refine aK.i λh5 s5 k5=>?_;(conv=>whnf);exact ⟨kk4.m1 k5 (by omega),⟨s,A4.keep k5 (λb hb=>by have:=bl b hb;simp;omega)⟩,rfl⟩
theorem Wh {B:Int->UInt64}{X:VS}{n:Int}(hn:0<=n/\n<24){c:aA}{m:List Int}{s:List UInt8}(F:gF X.now n c m s){at_:Int}{data:List UInt8}(h:(fu s at_ data).2≠0) :
 (fZ B X n c at_ data).2.2=X:=by
 unfold fu at h;unfold fZ;by_cases h1:at_<0\/400<data.length
 ·rw [if_pos (.inr h1)]
 ·rw [if_neg h1] at h;rw [if_neg (by rintro (x|x);exact x hn;exact h1 x)];by_cases h2:data=[]
  ·rw [if_pos h2] at h;exact absurd rfl h
  ·rw [if_neg h2] at h ⊢;by_cases h3:2688-(data.length:Int)<at_
   ·rw [if_pos h3]
   ·rw [if_neg h3] at h;exact absurd rfl h
def sW (B:Int->UInt64)(X:VS)(S:FS)(path:List UInt8)(at_:Int)(data:List UInt8)(v:Value)(X':VS):Prop:=X'.away=X.away/\X'.bG=X.bG /\
 (
  (gB S path≠0/\v=.int .i64 (gB S path)/\X'.now=X.now/\X'.mine=X.mine) \/
  (gB S path=0/\(fu (S.aQ (cO S path).1) at_ data).2≠0/\v=.int .i64 (fu (S.aQ (cO S path).1) at_ data).2/\X'.now=X.now/\X'.mine=X.mine) \/
  (gB S path=0/\(fu (S.aQ (cO S path).1) at_ data).2=0/\v=.int .i64 9/\bE B X 96<(at_.toNat+data.length+127)/128-at_.toNat/128+1) \/
  (gB S path=0/\(fu (S.aQ (cO S path).1) at_ data).2=0/\v=.int .i64 0/\(∀ x∈X.mine,x∈X'.mine) /\
   ∃ c',c'.kind=(S.C (cO S path).1).kind/\c'.links=(S.C (cO S path).1).links/\bK X'.now (S.put (cO S path).1 c' (S.nm (cO S path).1) (fu (S.aQ (cO S path).1) at_ data).1)))
theorem Nc {h:Heap}{V:VL}{M:aS}{X:VS}(A:At h V M X){S:FS}(I:bK X.now S)(C:gD S)(path:List UInt8)(hp:path.length<=140737488351232)(at_:Int)(data:List UInt8) :
 aC Tryz.prog 35 [.pointer (some ⟨V.v,0,none⟩),.string (ba path),.int .i64 at_,.string (ba data)] h (λv h'=>Keeps [V.ob,V.sb,V.mb] h h'/\∃ X',At h' V M X'/\sW M.read X S path at_ data v X'):=by
 have bl:=A.blt;have q1:=bl V.ob (by simp [VL.blocks]);have q2:=bl V.sb (by simp [VL.blocks]);have q3:=bl V.mb (by simp [VL.blocks]);refine aG aH Tryz.func35 rfl ok35 (by simp [Tryz.f35]) ?_;(conv=>whnf);refine ak.m (Gs A I C path hp) (by simp [au]) λv h2 k2 hv=>?_;obtain ⟨⟨s,A2⟩,rfl⟩:=hv;have z2:=k2.size;(conv=>whnf);refine aL.i λb3 h3 e3 s3 o3 k3=>?_;(conv=>whnf);refine aK.i λh4 s4 k4=>?_;have k24:Keeps [] h2 h4:=k3.new1 k4 (by omega);have z3:=k3.size;have z4:=k4.size;have A4:=A2.on k24;have kk4:Keeps [V.ob,V.sb,V.mb] h h4:=(k2.mono (by simp)).bS k24;by_cases h0:gB S path=0
 ·obtain ⟨p0,p1,p2,p3,p4⟩:=Gt I C h0;unfold sW;rw [h0,p4];generalize (cO S path).1=n at p1 p2 p3;generalize hX1:({ X with seen:=s }:VS)=X1 at A4;have w1:X1.now=X.now:=by rw [<-hX1]
  have w2:X1.away=X.away:=by rw [<-hX1]
  have w3:X1.bG=X.bG:=by rw [<-hX1]
  have w4:X1.mine=X.mine:=by rw [<-hX1]
  have w5:bE M.read X1 96=bE M.read X 96:=by rw [<-hX1];rfl
  have I1:bK X1.now S:=by rw [w1];exact I
  have hn0:0<=n/\n<24:=⟨by omega,p2⟩;have N:=I1.node n hn0.1 p2;obtain ⟨m,F⟩:=N.file p3;have WP:=Dr (B:=M.read) hn0 F at_ data;have WR:=λhr=>II (B:=M.read) hn0 F at_.toNat data hr;have WS:=IE (B:=M.read) (X:=X1) (node:=n) (c:=S.C n) (at_:=at_) (data:=data);have WA:sQ X1 (fZ M.read X1 n (S.C n) at_ data).2.2:=Nh M.read _ n (S.C n) at_ data;have WN:=Wh (B:=M.read) (X:=X1) hn0 F (at_:=at_) (data:=data);have hat:(fu (S.aQ n) at_ data).2=0->at_<0->False:=λe hlt=>by
   unfold fu at e;rw [if_pos (.inl hlt)] at e;cases e
  (conv=>whnf);refine aj.f rfl ?_;(conv=>whnf);refine ak.m (Ka A4 n (S.C n) F.ok F.mO at_ data) (λy hy hx=>by
   simp [au,aZ] at hy hx;omega) λv h5 k5 hv=>?_
  obtain ⟨rfl,A5⟩:=hv;generalize hq:fZ M.read X1 n (S.C n) at_ data=q at WP WS WA WN A5;have z5:=k5.size;(conv=>whnf);refine aK.i λh6 s6 k6=>?_;have A6:=A5.keep k6 (λb hb=>by have:=bl b hb;simp;omega);have kk6:Keeps [V.ob,V.sb,V.mb] h h6:=(kk4.trans (k5.mono (by simp))).m1 k6 (by omega);by_cases hq0:q.2.1=0
  ·have hr0:(fu (S.aQ n) at_ data).2=0:=by
    rcases WP with ⟨_,e,_⟩|⟨e,_⟩
    ·exact e
    ·rw [<-e];exact hq0
   obtain ⟨m',W⟩:∃ m',Wrote n X1 m at_ data (fu (S.aQ n) at_ data).1 q m':=by
    rcases WP with ⟨e,_⟩|⟨_,hw⟩
    ·rw [hq0] at e;cases e
    ·exact hw hr0
   obtain ⟨g1,g2,g3⟩:=WS hq0;have N5:gW q.2.2.now n q.1 (S.nm n) (fu (S.aQ n) at_ data).1:=⟨by rw [g1];exact N.kind,λh=>(by rw [g1] at h;omega),λh=>(by rw [g1] at h;omega),λ_=>⟨m',W.file⟩⟩;rw [hq0];(conv=>whnf);refine ak.m (rE A6 n hn0 q.1 N5.ok N5.right) (λy hy hx=>by
    simp [au,aZ] at hy hx;omega) λv h7 k7 hv=>?_
   obtain ⟨rfl,A7⟩:=hv;(conv=>whnf);obtain ⟨vv,ev⟩:=rF q.2.2 n q.1;have N6:=N5.dU vv;rw [<-ev] at N6;have I6:=I1.set (n:=n) ⟨p1,p2⟩ W.fr N6;refine ⟨kk6.trans k7,_,A7,WA.1.trans w2,WA.2.trans w3,.inr (.inr (.inr ⟨rfl,hr0,rfl,λx hx=>rG ?_,_,?_,?_,I6⟩))⟩
   ·rw [W.x];show x∈X1.mine;rw [w4];exact hx
   ·rw [ev];exact g1
   ·rw [ev];exact g2
  ·(conv=>whnf);refine ak.i (Cw _ n q.1 q.2.1 hq0) λv h7 k7 hv=>?_;subst hv;(conv=>whnf);have A7:=A6.on k7;by_cases hr0:(fu (S.aQ n) at_ data).2=0
   ·have hq9:q.2.1=9:=by
     rcases WP with ⟨e,_⟩|⟨e,_⟩
     ·exact e
     ·rw [hr0] at e;exact absurd e hq0
    refine ⟨kk6.bS k7,_,A7,WA.1.trans w2,WA.2.trans w3,.inr (.inr (.inl ⟨rfl,hr0,by rw [hq9],?_⟩))⟩;have h1:0<=at_:=Int.not_lt.1 (hat hr0);by_cases h2:(at_.toNat+data.length+127)/128-at_.toNat/128+1<=bE M.read X 96
    ·have h3:=(WR (by rw [w5];exact h2)).1;rw [Int.toNat_of_nonneg h1,hq] at h3;rw [h3,hr0] at hq0;exact absurd rfl hq0
    ·omega
   ·have hqe:q.2.1=(fu (S.aQ n) at_ data).2:=by
     rcases WP with ⟨_,e,_⟩|⟨e,_⟩
     ·exact absurd e hr0
     ·exact e
    have hx:=WN hr0;refine ⟨kk6.bS k7,_,A7,WA.1.trans w2,WA.2.trans w3,.inr (.inl ⟨rfl,hr0,by rw [hqe],?_,?_⟩)⟩
    ·rw [hx];exact w1
    ·rw [hx];exact w4
 ·(conv=>whnf);refine aj.t (by simp [h0]) ?_;(conv=>whnf);exact ⟨kk4,_,A4,rfl,rfl,.inl ⟨h0,rfl,rfl,rfl⟩⟩
theorem Gq {h:Heap}{V:VL}{M:aS}{X:VS}(A:At h V M X){S:FS}(I:bK X.now S)(C:gD S)(aw:X.bG=[])(path:List UInt8)(hp:path.length<=140737488351232){kind:Int}(hk:kind=1\/kind=2) :
 aC Tryz.prog 34 [.pointer (some ⟨V.v,0,none⟩),.string (ba path),.int .i64 kind] h (λv h'=>Keeps [V.ob,V.sb,V.mb] h h'/\∃ X',At h' V M X'/\lJ M.read X S path kind [] v X'):=by
 have CF:=Ni A I C aw path hp (kind:=kind) (by omega) (data:=[]) (by simp) (λ_=>rfl);rcases hk with rfl|rfl
 ·refine aG aH Tryz.func34 rfl ok34 (by simp [Tryz.f34]) ?_;(conv=>whnf);refine aj.f rfl ?_;(conv=>whnf);refine ak.m CF (by simp [au]) λv h1 k1 hv=>?_;(conv=>whnf);exact ⟨k1,hv⟩
 ·refine aG aH Tryz.func34 rfl ok34 (by simp [Tryz.f34]) ?_;(conv=>whnf);refine aj.f rfl ?_;(conv=>whnf);refine ak.m CF (by simp [au]) λv h1 k1 hv=>?_;(conv=>whnf);exact ⟨k1,hv⟩
theorem Na {h:Heap}{V:VL}{M:aS}{X:VS}(A:At h V M X){S:FS}(I:bK X.now S)(C:gD S)(aw:X.bG=[])(path target:List UInt8)(hp:path.length<=140737488351232)(ht:target.length<=140737488351232) :
 aC Tryz.prog 22 [.pointer (some ⟨V.v,0,none⟩),.string (ba path),.string (ba target)] h (λv h'=>Keeps [V.ob,V.sb,V.mb] h h'/\∃ X',At h' V M X' /\
  ((bC target=none/\v=.int .i64 3/\X'=X)\/(bC target≠none/\lJ M.read X S path 3 target v X'))):=by
 refine aG aH Tryz.func22 rfl ok22 (by simp [Tryz.f22]) ?_;(conv=>whnf);refine aj.f rfl ?_;(conv=>whnf);refine ak.i (uS target ht h) λv h1 k1 hv=>?_;have A1:=A.on k1;cases hpp:bC target with
 | none=>
  rw [hpp] at hv;have hv:v=.tuple #[.slice none 0 0,.int .i64 3]:=hv;subst hv;(conv=>whnf);refine aj.t rfl ?_;(conv=>whnf);exact ⟨k1.mono (by simp),X,A1,.inl ⟨rfl,rfl,rfl⟩⟩
 | some l=>
  rw [hpp] at hv;obtain ⟨a,c,rfl,_,_⟩:=hv;obtain ⟨_,_,p3,_⟩:=jX hpp;(conv=>whnf);refine aj.f rfl ?_;(conv=>whnf);refine ak.m (Ni A1 I C aw path hp (kind:=3) (by decide) (data:=target) p3 (λe=>by cases e)) (by simp [au]) λv h2 k2 hv=>?_;(conv=>whnf);obtain ⟨X',A2,H⟩:=hv;exact ⟨(k1.mono (by simp)).trans k2,X',A2,.inr ⟨by simp,H⟩⟩
def qz (c:aA):Int:=if c.kind=2 then 7 else 0
def oh (X:VS)(S:FS)(path:List UInt8)(may:aA->Int)(v:Value)(X':VS):Prop:=X'.away=X.away/\X'.bG=X.bG /\
 (
  ((bB (aY S) path).2.2.2≠0/\v=.int .i64 (bB (aY S) path).2.2.2/\X'.now=X.now/\X'.mine=X.mine) \/
  ∃ d nm nd,ny S path d nm nd/\((nd=0/\v=.int .i64 4/\X'.now=X.now/\X'.mine=X.mine)\/(nd≠0/\may (S.C nd)≠0/\v=.int .i64 (may (S.C nd))/\X'.now=X.now/\X'.mine=X.mine) \/
   (nd≠0/\may (S.C nd)=0/\v=.int .i64 0/\(∀ x∈X.mine,x∈X'.mine)/\Nj X'.now S d nd nm)))
theorem Nb {h:Heap}{V:VL}{M:aS}{X:VS}(A:At h V M X){S:FS}(I:bK X.now S)(C:gD S)(Q:wP S)(path:List UInt8)(hp:path.length<=140737488351232) :
 aC Tryz.prog 36 [.pointer (some ⟨V.v,0,none⟩),.string (ba path)] h (λv h'=>Keeps [V.ob,V.sb,V.mb] h h'/\∃ X',At h' V M X'/\oh X S path qz v X'):=by
 refine aG aH Tryz.func36 rfl ok36 (by simp [Tryz.f36]) ?_;(conv=>whnf);refine ak.m (Wi A I C Q path hp (f:=81) (by kernel_rfl) (may:=qz) (λc h=>Wj c h) (λc hc e=>by unfold qz at hc;rw [if_pos e] at hc;cases hc)) (by simp [au]) λv h1 k1 hv=>?_;(conv=>whnf);exact ⟨k1,hv⟩
theorem V9 {B:Int->UInt64}{X:VS}{node:Int}{c:aA}{size:Int}(h:(ja B X node c size).2.1=0):(ja B X node c size).1.kind=c.kind/\(ja B X node c size).1.links=c.links/\(ja B X node c size).1.dU=c.dU:=by
 unfold ja at h ⊢;split at h
 ·simp at h
 rename_i h1;rw [if_neg h1];split at h
 ·simp at h
 rename_i h2;rw [if_neg h2];split at h
 ·simp at h
 ·rename_i m hm;simp only at h ⊢;split at h
  ·rename_i h5;rw [if_pos h5];exact IC (c:={ c with size:=size }) h
  ·rename_i h5;exact absurd h h5
theorem Wd {B:Int->UInt64}{X:VS}{n:Int}(hn:0<=n/\n<24){c:aA}{s:List UInt8}{size:Int}(h:(ic s size).2≠0):(ja B X n c size).2.2=X:=by
 unfold ic at h;unfold ja;by_cases h1:size<0
 ·rw [if_pos (.inr h1)]
 ·rw [if_neg h1] at h;rw [if_neg (by rintro (x|x);exact x hn;exact h1 x)];by_cases h2:2688<size
  ·rw [if_pos h2]
  ·rw [if_neg h2] at h;split at h <;> exact absurd rfl h
def uX (X:VS)(S:FS)(path:List UInt8)(size:Int)(v:Value)(X':VS):Prop:=X'.away=X.away/\X'.bG=X.bG /\
 (
  (gB S path≠0/\v=.int .i64 (gB S path)/\X'.now=X.now/\X'.mine=X.mine) \/
  (gB S path=0/\(ic (S.aQ (cO S path).1) size).2≠0/\v=.int .i64 (ic (S.aQ (cO S path).1) size).2/\X'.now=X.now/\X'.mine=X.mine) \/
  (gB S path=0/\(ic (S.aQ (cO S path).1) size).2=0/\v=.int .i64 0/\(∀ x∈X.mine,x∈X'.mine) /\
   ∃ c',c'.kind=(S.C (cO S path).1).kind/\c'.links=(S.C (cO S path).1).links/\bK X'.now (S.put (cO S path).1 c' (S.nm (cO S path).1) (ic (S.aQ (cO S path).1) size).1)))
theorem V7 {h:Heap}{V:VL}{M:aS}{X:VS}(A:At h V M X){S:FS}(I:bK X.now S)(C:gD S)(path:List UInt8)(hp:path.length<=140737488351232)(size:Int) :
 aC Tryz.prog 44 [.pointer (some ⟨V.v,0,none⟩),.string (ba path),.int .i64 size] h (λv h'=>Keeps [V.ob,V.sb,V.mb] h h'/\∃ X',At h' V M X'/\uX X S path size v X'):=by
 have bl:=A.blt;have q1:=bl V.ob (by simp [VL.blocks]);have q2:=bl V.sb (by simp [VL.blocks]);have q3:=bl V.mb (by simp [VL.blocks]);refine aG aH Tryz.func44 rfl ok44 (by simp [Tryz.f44]) ?_;(conv=>whnf);refine ak.m (Gs A I C path hp) (by simp [au]) λv h2 k2 hv=>?_;obtain ⟨⟨s,A2⟩,rfl⟩:=hv;have z2:=k2.size;(conv=>whnf);refine aL.i λb3 h3 e3 s3 o3 k3=>?_;(conv=>whnf);refine aK.i λh4 s4 k4=>?_;have k24:Keeps [] h2 h4:=k3.new1 k4 (by omega);have z3:=k3.size;have z4:=k4.size;have A4:=A2.on k24;have kk4:Keeps [V.ob,V.sb,V.mb] h h4:=(k2.mono (by simp)).bS k24;by_cases h0:gB S path=0
 ·obtain ⟨p0,p1,p2,p3,p4⟩:=Gt I C h0;unfold uX;rw [h0,p4];generalize (cO S path).1=n at p1 p2 p3;generalize hX1:({ X with seen:=s }:VS)=X1 at A4;have w1:X1.now=X.now:=by rw [<-hX1]
  have w2:X1.away=X.away:=by rw [<-hX1]
  have w3:X1.bG=X.bG:=by rw [<-hX1]
  have w4:X1.mine=X.mine:=by rw [<-hX1]
  have I1:bK X1.now S:=by rw [w1];exact I
  have hn0:0<=n/\n<24:=⟨by omega,p2⟩;have N:=I1.node n hn0.1 p2;obtain ⟨m,F⟩:=N.file p3;obtain ⟨c1,c2⟩:=Ml (B:=M.read) hn0 F size;have CS:=V9 (B:=M.read) (X:=X1) (node:=n) (c:=S.C n) (size:=size);have CN:=Wd (B:=M.read) (X:=X1) hn0 (c:=S.C n) (s:=S.aQ n) (size:=size);(conv=>whnf);refine aj.f rfl ?_;(conv=>whnf);refine ak.m (J8 A4 n (S.C n) F.ok F.mO size) (λy hy hx=>by
   simp [au,aZ] at hy hx;omega) λv h5 k5 hv=>?_
  obtain ⟨rfl,A5⟩:=hv;generalize ja M.read X1 n (S.C n) size=q at c1 c2 CS CN A5;have z5:=k5.size;(conv=>whnf);refine aK.i λh6 s6 k6=>?_;have A6:=A5.keep k6 (λb hb=>by have:=bl b hb;simp;omega);have kk6:Keeps [V.ob,V.sb,V.mb] h h6:=(kk4.trans (k5.mono (by simp))).m1 k6 (by omega);by_cases hr0:(ic (S.aQ n) size).2=0
  ·obtain ⟨m',F2,R2,x2,_⟩:=c2 hr0;have hq0:q.2.1=0:=c1.trans hr0;obtain ⟨g1,g2,g3⟩:=CS hq0;have N5:gW q.2.2.now n q.1 (S.nm n) (ic (S.aQ n) size).1:=⟨by rw [g1];exact N.kind,λh=>(by rw [g1] at h;omega),λh=>(by rw [g1] at h;omega),λ_=>⟨m',F2⟩⟩;rw [hq0];(conv=>whnf);refine ak.m (rE A6 n hn0 q.1 N5.ok N5.right) (λy hy hx=>by
    simp [au,aZ] at hy hx;omega) λv h7 k7 hv=>?_
   obtain ⟨rfl,A7⟩:=hv;(conv=>whnf);obtain ⟨vv,ev⟩:=rF q.2.2 n q.1;have N6:=N5.dU vv;rw [<-ev] at N6;have I6:=I1.set (n:=n) ⟨p1,p2⟩ R2 N6;refine ⟨kk6.trans k7,_,A7,?_,?_,.inr (.inr ⟨rfl,hr0,rfl,λx hx=>rG ?_,_,?_,?_,I6⟩)⟩
   ·show q.2.2.away=_;rw [x2];exact w2
   ·show q.2.2.bG=_;rw [x2];exact w3
   ·rw [x2];show x∈X1.mine;rw [w4];exact hx
   ·rw [ev];exact g1
   ·rw [ev];exact g2
  ·have hq0:q.2.1≠0:=by rw [c1];exact hr0
   (conv=>whnf);refine ak.i (Cw _ n q.1 q.2.1 hq0) λv h7 k7 hv=>?_;subst hv;(conv=>whnf);have hx:=CN hr0;refine ⟨kk6.bS k7,_,A6.on k7,?_,?_,.inr (.inl ⟨rfl,hr0,by rw [c1],?_,?_⟩)⟩
   ·rw [hx];exact w2
   ·rw [hx];exact w3
   ·rw [hx];exact w1
   ·rw [hx];exact w4
 ·(conv=>whnf);refine aj.t (by simp [h0]) ?_;(conv=>whnf);exact ⟨kk4,_,A4,rfl,rfl,.inl ⟨h0,rfl,rfl,rfl⟩⟩
theorem Ia {h:Heap}{V:VL}{M:aS}{X:VS}(A:At h V M X){S:FS}(I:bK X.now S)(C:gD S)(path:List UInt8)(hp:path.length<=140737488351232) :
 aC Tryz.prog 23 [.pointer (some ⟨V.v,0,none⟩),.string (ba path)] h (λv h'=>Keeps [V.sb] h h'/\(∃ s,At h' V M { X with seen:=s }) /\
  v=(if (aR (aY S) path false).2=0 then (if (S.C (aR (aY S) path false).1).kind=3 then .tuple #[.string (ba (jd (S.aQ (aR (aY S) path false).1) 0 120).1),.int .i64 (jd (S.aQ (aR (aY S) path false).1) 0 120).2] else .tuple #[.string (ba []),.int .i64 1]) else .tuple #[.string (ba []),.int .i64 (aR (aY S) path false).2])):=by
 have bl:=A.blt;have q2:=bl V.sb (by simp [VL.blocks]);refine aG aH Tryz.func23 rfl ok23 (by simp [Tryz.f23]) ?_;(conv=>whnf);refine ak.m (wM A I C path hp false) (by simp [au]) λv h2 k2 hv=>?_;obtain ⟨rfl,s,A2⟩:=hv;have z2:=k2.size;have hin:=λh0=>Cv I C (path:=path) (follow:=false) h0;generalize aR (aY S) path false=r at hin;unfold mY;(conv=>whnf);refine aL.i λb3 h3 e3 s3 o3 k3=>?_;(conv=>whnf);refine aK.i λh4 s4 k4=>?_;have k24:Keeps [] h2 h4:=k3.new1 k4 (by omega);have A4:=A2.on k24;have kk4:Keeps [V.sb] h h4:=k2.bS k24;by_cases h0:r.2=0
 ·obtain ⟨n0,n24,hkn⟩:=hin h0;rw [h0,if_pos rfl,if_pos rfl];(conv=>whnf);refine aj.f rfl ?_;by_cases hk:(S.C r.1).kind=3
  ·obtain ⟨m,F⟩:=(I.node r.1 (by omega) n24).file (.inr hk);have F':gF ({ X with seen:=s }:VS).now r.1 (S.C r.1) m (S.aQ r.1):=F;rw [if_pos hk];(conv=>whnf);refine aj.f (by simp [hk]) ?_;(conv=>whnf);refine ak.i (Ba A4 (S.C r.1) F.ok F.szr F'.mO 0 120) λv h5 k5 hv=>?_;subst hv;rw [FY F'];(conv=>whnf);exact ⟨kk4.bS k5,⟨s,A4.on k5⟩,rfl⟩
  ·rw [if_neg hk];(conv=>whnf);refine aj.t (by simp [hk]) ?_;(conv=>whnf);exact ⟨kk4,⟨s,A4⟩,rfl⟩
 ·rw [if_neg h0,if_neg h0];(conv=>whnf);refine aj.t (by simp [h0]) ?_;(conv=>whnf);exact ⟨kk4,⟨s,A4⟩,rfl⟩
def vE (S:FS)(path:List UInt8):Int:=if (aR (aY S) path true).2=0/\(S.C (aR (aY S) path true).1).kind≠2 then 6 else (aR (aY S) path true).2
def vN (S:FS)(path:List UInt8):List (List UInt8):=if vE S path=0 then fH (S.nm (aR (aY S) path true).1) else []
theorem Ic {h:Heap}{V:VL}{M:aS}{X:VS}(A:At h V M X){S:FS}(I:bK X.now S)(C:gD S)(path:List UInt8)(hp:path.length<=140737488351232) :
 aC Tryz.prog 20 [.pointer (some ⟨V.v,0,none⟩),.string (ba path)] h (λv h'=>Keeps [V.sb] h h'/\(∃ s,At h' V M { X with seen:=s })/\Ng h h' (vN S path) v (vE S path)/\(∀ x∈vN S path,x.length<=140737488351232)/\(vN S path).length<=105):=by
 have bl:=A.blt;have msb:V.sb∈V.blocks:=by simp [VL.blocks]
 have q2:=bl V.sb msb;refine aG aH Tryz.func20 rfl ok20 (by simp [Tryz.f20]) ?_;(conv=>whnf);refine ak.m (wM A I C path hp true) (by simp [au]) λv h1 k1 hv=>?_;obtain ⟨rfl,s,A1⟩:=hv;have z1:=k1.size;have I1:bK ({ X with seen:=s }:VS).now S:=I;by_cases h0:(aR (aY S) path true).2=0
 ·obtain ⟨x0,x1,xk⟩:=Cv I C h0;unfold mY;rw [if_pos h0];(conv=>whnf);refine aL.i λb3 h3 e3 s3 o3 k3=>?_;(conv=>whnf);refine aK.i λh4 s4 k4=>?_;have k14:Keeps [] h1 h4:=k3.new1 k4 (by omega);have z3:=k3.size;have z4:=k4.size;have A4:=A1.on k14;have kk4:Keeps [V.sb] h h4:=k1.bS k14;have N:=I.node (aR (aY S) path true).1 (by omega) x1;(conv=>whnf);refine aj.f (by simp [h0]) ?_;(conv=>whnf);refine ak.i (DY A4 (S.C (aR (aY S) path true).1) N.ok) λv h5 k5 hv=>?_;have hv':∃ (a:Option Addr) (cc:Nat) (l:List aF),v=.tuple #[.slice a l.length cc,.int .i64 (vE S path)]/\Own h5 93 2 a l.length cc (bV l)/\(∀ y∈ay a,h4.size<=y)/\(∀ e∈l,e.ok)/\l.length<=105/\fH l=vN S path:=by
   by_cases hk:(S.C (aR (aY S) path true).1).kind=2
   ·have hE:vE S path=0:=by unfold vE;rw [if_neg (λh=>h.2 hk)];exact h0
    have hN:vN S path=fH (S.nm (aR (aY S) path true).1):=by unfold vN;rw [if_pos hE]
    obtain ⟨m,D⟩:=N.dir hk;have D':eG ({ X with seen:=s }:VS).now (aR (aY S) path true).1 (S.C (aR (aY S) path true).1) m (S.nm (aR (aY S) path true).1):=D;rw [D'.open_] at hv;unfold um at hv;rw [if_pos rfl] at hv;obtain ⟨a,cc,rfl,O5,n5,ok5⟩:=hv;rw [hE,hN];exact ⟨a,cc,_,rfl,O5,n5,ok5,D.few,rfl⟩
   ·have hE:vE S path=6:=by unfold vE;rw [if_pos ⟨h0,hk⟩]
    have hN:vN S path=[]:=by unfold vN;rw [hE,if_neg (by decide)]
    have hop:fA ({ X with seen:=s }:VS).now (S.C (aR (aY S) path true).1)=(6,[],[]):=by unfold fA;rw [if_pos hk]
    rw [hop] at hv;unfold um at hv;rw [if_neg (by decide)] at hv;rw [hE,hN];exact ⟨none,0,[],hv,.inl ⟨rfl,rfl,rfl,rfl⟩,λb hb=>(by cases hb),λe he=>(by cases he),Nat.zero_le _,rfl⟩
  clear hv;obtain ⟨a,cc,l,rfl,O5,n5,ok5,l5,V8⟩:=hv';rw [<-V8];generalize vE S path=e at *;have z5:=k5.size;have A5:=A4.on k5;have kk5:=kk4.bS k5;have S5:=kr O5 ok5 (by omega);(conv=>whnf);refine bP.on [8,10,29,30,31] [] (λq:Nat×Option Addr×Nat=>[(8,.v (.int .i64 e)),(10,.v (.slice q.2.1 q.1 q.2.2)),(29,.v (.slice a l.length cc)),(30,.v (.int .i64 (l.length:Int))),(31,.v (.int .i64 (q.1:Int)))]) (λ_=>[])
   (λq h'=>q.1<=l.length/\Keeps [] h5 h'/\Own h' 9 1 q.2.1 q.1 q.2.2 ((bq ((fH l).take q.1)).map λx=>.string x)/\(∀ b∈ay q.2.1,h5.size<=b)) (λq=>l.length-q.1) (0,none,0) ?_ ?_
  ·(conv=>whnf);exact ⟨(0,none,0),rfl,rfl,rfl,Nat.zero_le _,Keeps.refl _ _,.inl ⟨rfl,rfl,rfl,rfl⟩,λb hb=>(by cases hb)⟩
  ·rintro ⟨i,a6,c6⟩ h6 ⟨hi,k6,O6,n6⟩;simp only at hi O6 n6;have z6:=k6.size;(conv=>whnf);refine aj.i (λhd=>?_) (λhd=>?_)
   ·have hi1:i<l.length:=by simpa using hd
    obtain ⟨b7,o7,hb7,_,⟨rfl,hok⟩,hc7⟩:=(S5.keep k6).at_ i hi1;have hnl:i<(fH l).length:=by rw [pR];exact hi1
    have htl:((fH l).take i).length=i:=by rw [List.length_take];omega
    have hnx:(fH l).take (i+1)=(fH l).take i++[(l[i]'hi1).name]:=by
     rw [List.take_succ_eq_append_getElem hnl];simp [fH]
    (conv=>whnf);refine aX.i i rfl hi1 hb7 ?_;(conv=>whnf);refine fq.i (vs:=(l[i]'hi1).cells) rfl (λj hj=>hc7 j hj) ?_;(conv=>whnf);refine aL.i λb8 h8 e8 s8 o8 k8=>?_;(conv=>whnf);refine aK.i λh9 s9 k9=>?_;have z8:=k8.size;have z9:=k9.size;have k69:Keeps [] h6 h9:=k8.new1 k9 (by omega);(conv=>whnf);refine aL.i λb10 h10 e10 s10 o10 k10=>?_;have z10:=k10.size;(conv=>whnf);refine Gr (s:=(l[i]'hi1).name) ((O6.keep k69 (by simp)).keep k10 (by simp)) htl.symm (by omega) (by simp only [Heap.cell?,o10];rfl) (λy hy hx=>?_) ?_
    ·have:=O6.lt y hy;simp [au,aZ] at hx;omega
    intro a11 c11 h11 O11 k11 n11;have ew:IntKind.i64.wrap ((i:Int)+1)=((i+1:Nat):Int):=wrapN (by simp) (by omega);(conv=>whnf);refine ⟨l.length-(i+1),by omega,?_⟩;(conv=>whnf);rw [ew];refine ⟨(i+1,a11,c11),rfl,rfl,rfl,hi1,((k6.trans k69).trans k10).cZ k11 n6,by rw [hnx];exact O11,λb hb=>?_⟩;rcases n11 b hb with h|h
    ·exact n6 b h
    ·omega
   ·have hi1:i=l.length:=by simp at hd;omega
    (conv=>whnf);have ht:(fH l).take i=fH l:=by rw [hi1,<-pR,List.take_length]
    rw [ht] at O6;subst hi1;refine ⟨kk5.bS k6,⟨s,A5.on k6⟩,⟨a6,c6,by rw [pR],by rw [pR];exact O6,λb hb=>by have:=n6 b hb;omega⟩,λx hx=>?_,by rw [pR];exact l5⟩;obtain ⟨y,hy,rfl⟩:=List.mem_map.1 hx;exact (ok5 y hy).1
 ·unfold mY;rw [if_neg h0];(conv=>whnf);refine aL.i λb3 h3 e3 s3 o3 k3=>?_;(conv=>whnf);refine aK.i λh4 s4 k4=>?_;have k14:Keeps [] h1 h4:=k3.new1 k4 (by omega);(conv=>whnf);refine aj.t (by simp [h0]) ?_;(conv=>whnf);have hE:vE S path=(aR (aY S) path true).2:=by unfold vE;rw [if_neg (λh=>h0 h.1)]
  have hN:vN S path=[]:=by unfold vN;rw [if_neg (by rw [hE];exact h0)]
  rw [hN,hE];exact ⟨k1.bS k14,⟨s,A1.on k14⟩,⟨none,0,rfl,.inl ⟨rfl,rfl,rfl,rfl⟩,λb hb=>(by cases hb)⟩,λx hx=>(by cases hx),Nat.zero_le _⟩
def pV (c:aA):aA:={ c with links:=c.links+1 }
def u6 (B:Int->UInt64)(X:VS)(S:FS)(old name:List UInt8)(v:Value)(X':VS):Prop:=X'.away=X.away/\X'.bG=X.bG /\
 (
  ((aR (aY S) old false).2≠0/\v=.int .i64 (aR (aY S) old false).2/\X'.now=X.now/\X'.mine=X.mine) \/
  ((aR (aY S) old false).2=0/\(S.C (aR (aY S) old false).1).kind=2/\v=.int .i64 7/\X'.now=X.now/\X'.mine=X.mine) \/
  (
   (aR (aY S) old false).2=0/\(S.C (aR (aY S) old false).1).kind≠2 /\
   (
    ((bB (aY S) name).2.2.2≠0/\v=.int .i64 (bB (aY S) name).2.2.2/\X'.now=X.now/\X'.mine=X.mine) \/
    ∃ d nm nd,ny S name d nm nd/\((nd≠0/\v=.int .i64 5/\X'.now=X.now/\X'.mine=X.mine) \/
     (nd=0/\255<=(S.C (aR (aY S) old false).1).links/\v=.int .i64 10/\X'.now=X.now/\X'.mine=X.mine) \/
     (nd=0/\(S.C (aR (aY S) old false).1).links<255/\v=.int .i64 9/\(bE B X 96<2\/10<=(S.nm d).length)) \/
     (nd=0/\(S.C (aR (aY S) old false).1).links<255/\v=.int .i64 0/\(∀ x∈X.mine,x∈X'.mine)/\bE B X 96<=bE B X' 96+2/\∃ c2 c1,c2.kind=(S.C (aR (aY S) old false).1).kind/\c2.links=(S.C (aR (aY S) old false).1).links+1/\c1.kind=2/\c1.links=1 /\
      bK X'.now ((S.put (aR (aY S) old false).1 c2 (S.nm (aR (aY S) old false).1) (S.aQ (aR (aY S) old false).1)).put d c1 (bD (S.nm d) ⟨nm,(aR (aY S) old false).1⟩) (S.aQ d)))))))
theorem V3 {h:Heap}{V:VL}{M:aS}{X:VS}(A:At h V M X){S:FS}(I:bK X.now S)(C:gD S)(old name:List UInt8)(ho:old.length<=140737488351232)(hp:name.length<=140737488351232) :
 aC Tryz.prog 42 [.pointer (some ⟨V.v,0,none⟩),.string (ba old),.string (ba name)] h (λv h'=>Keeps [V.ob,V.sb,V.mb] h h'/\∃ X',At h' V M X'/\u6 M.read X S old name v X'):=by
 have bl:=A.blt;have q1:=bl V.ob (by simp [VL.blocks]);have q2:=bl V.sb (by simp [VL.blocks]);have q3:=bl V.mb (by simp [VL.blocks]);refine aG aH Tryz.func42 rfl ok42 (by simp [Tryz.f42]) ?_;(conv=>whnf);refine ak.m (wM A I C old ho false) (by simp [au]) λv h1 k1 hv=>?_;obtain ⟨rfl,s,A1⟩:=hv;have z1:=k1.size;have hin:=λh0=>Cv I C (path:=old) (follow:=false) h0;unfold u6;generalize aR (aY S) old false=r at hin;unfold mY;(conv=>whnf);refine aL.i λb2 h2 e2 s2 o2 k2=>?_;(conv=>whnf);refine aK.i λh3 s3 k3=>?_;have k13:Keeps [] h1 h3:=k2.new1 k3 (by omega);have z2:=k2.size;have z3:=k3.size;have A3:=A1.on k13;have kk3:Keeps [V.ob,V.sb,V.mb] h h3:=(k1.mono (by simp)).bS k13;by_cases h0:r.2=0
 ·obtain ⟨n0,n24,hkn⟩:=hin h0;rw [h0,if_pos rfl];generalize r.1=n at n0 n24 hkn;have hn0:0<=n/\n<24:=⟨by omega,n24⟩;generalize hX1:({ X with seen:=s }:VS)=X1 at A3;have w1:X1.now=X.now:=by rw [<-hX1]
  have w2:X1.away=X.away:=by rw [<-hX1]
  have w3:X1.bG=X.bG:=by rw [<-hX1]
  have w4:X1.mine=X.mine:=by rw [<-hX1]
  have w5:bE M.read X1 96=bE M.read X 96:=by rw [<-hX1];rfl
  have I1:bK X1.now S:=by rw [w1];exact I
  have N:=I1.node n hn0.1 n24;(conv=>whnf);refine aj.f rfl ?_;by_cases hkd:(S.C n).kind=2
  ·(conv=>whnf);refine aj.t (by simp [hkd]) ?_;(conv=>whnf);exact ⟨kk3,X1,A3,w2,w3,.inr (.inl ⟨rfl,hkd,rfl,w1,w4⟩)⟩
  ·have kF:(S.C n).kind=1\/(S.C n).kind=3:=by have:=N.kind;omega
   obtain ⟨m,F⟩:=N.file kF;have hlk:=F.kind.2;(conv=>whnf);refine aj.f (by simp [hkd]) ?_;(conv=>whnf);refine ak.m (Nk A3 I1 C name hp) (λy hy hx=>by
    simp [au,aZ] at hy hx;omega) λv h4 k4 hv=>?_
   obtain ⟨⟨s4,A4⟩,d',c',gK,nd',rfl,hq⟩:=hv;have z4:=k4.size;(conv=>whnf);refine aL.i λb5 h5 e5 s5 o5 k5=>?_;(conv=>whnf);refine aK.i λh6 s6 k6=>?_;have k46:Keeps [] h4 h6:=k5.new1 k6 (by omega);have z5:=k5.size;have z6:=k6.size;have A6:=A4.on k46;have kk6:Keeps [V.ob,V.sb,V.mb] h h6:=kk3.trans ((k4.mono (by simp)).bS k46);by_cases he:(bB (aY S) name).2.2.2=0
   ·obtain ⟨d,nm,nd,P⟩:=wS I C he;rw [P.is] at hq ⊢;obtain ⟨t1,t2,t3,t4⟩:=hq rfl;have t1:d=d':=t1.symm;have t3:nm=gK:=t3.symm;have t4:nd=nd':=t4.symm;subst t1 t3 t4;have t2:c'=S.C d:=t2;subst t2;simp only;by_cases hnd:nd=0
    ·subst hnd;have hfe:=P.new I C;have hdn:n≠d:=λe=>hkd (by rw [e];exact P.kind);(conv=>whnf);refine aj.f rfl ?_;by_cases Oa:255<=(S.C n).links
     ·(conv=>whnf);refine aj.t (by simp [Oa]) ?_;(conv=>whnf);exact ⟨kk6,_,A6,w2,w3,.inr (.inr ⟨trivial,hkd,.inr ⟨d,nm,0,P,.inr (.inl ⟨rfl,Oa,rfl,w1,w4⟩)⟩⟩)⟩
     ·(conv=>whnf);refine aj.f (by simp;omega) ?_;(conv=>whnf);refine aK.i λh7 s7 k7=>?_;have A7:=A6.keep k7 (λb hb=>by have:=bl b hb;simp;omega);have kk7:=kk6.m1 k7 (by omega);have z7:=k7.size;have F7:gF X1.now n (pV (S.C n)) m (S.aQ n):=⟨F.map,F.wk,⟨F.kind.1,by show 0<=(S.C n).links+1;omega,by show (S.C n).links+1<=255;omega⟩,F.size,F.fits,F.aQ,F.hol,F.kY⟩;have CS:=rE A7 n hn0 (pV (S.C n)) F7.ok F7.right;have hcells:(pV (S.C n)).cells=[.int .i64 (S.C n).kind,.int .i64 (IntKind.i64.wrap ((S.C n).links+1)),.int .i64 (S.C n).size,wv (S.C n).dU,.int .i64 (S.C n).d0,.int .i64 (S.C n).d1,.int .i64 (S.C n).d2,.int .i64 (S.C n).d3,.int .i64 (S.C n).d4,.int .i64 (S.C n).more]:=by
       rw [dR (by omega) (by omega)];rfl
      rw [hcells] at CS;(conv=>whnf);refine ak.m CS (λy hy hx=>by
       simp [au,aZ] at hy hx;omega) λv h8 k8 hv=>?_
      obtain ⟨rfl,A8⟩:=hv;have z8:=k8.size;(conv=>whnf);refine aj.f rfl ?_;obtain ⟨vv,ev⟩:=rF ({ X1 with seen:=s4 }:VS) n (pV (S.C n));have N7:gW X1.now n (pV (S.C n)) (S.nm n) (S.aQ n):=⟨N.kind,λh=>absurd h hkn,λh=>(by have h:(S.C n).kind=2:=h;omega),λ_=>⟨m,F7⟩⟩;have N8:=N7.dU vv;have I8:=I1.set (n:=n) ⟨n0,n24⟩ (Fr.refl _ _) N8;rw [<-ev] at I8;have hkd1:(S.put n (iM ({ X1 with seen:=s4 }:VS) n (pV (S.C n))) (S.nm n) (S.aQ n)).C d=S.C d:=if_neg (λe=>hdn e.symm);have hnm1:(S.put n (iM ({ X1 with seen:=s4 }:VS) n (pV (S.C n))) (S.nm n) (S.aQ n)).nm d=S.nm d:=if_neg (λe=>hdn e.symm);have hby1:(S.put n (iM ({ X1 with seen:=s4 }:VS) n (pV (S.C n))) (S.nm n) (S.aQ n)).aQ d=S.aQ d:=if_neg (λe=>hdn e.symm);have XF:bK (dZ ({ X1 with seen:=s4 }:VS) n (iM ({ X1 with seen:=s4 }:VS) n (pV (S.C n)))).now (S.put n (iM ({ X1 with seen:=s4 }:VS) n (pV (S.C n))) (S.nm n) (S.aQ n)):=I8;(conv=>whnf);refine ak.m (Cx A8 XF P.bH (by rw [hkd1];exact P.kind) P.name P.len (by rw [hnm1];exact hfe) (S.C d) 0 n ⟨by omega,n24⟩) (λy hy hx=>by
       simp [au,aZ] at hy hx;omega) λv h9 k9 hv=>?_
      obtain ⟨X9,A9,x1,x2,H⟩:=hv;(conv=>whnf);have hf8:bE M.read (dZ ({ X1 with seen:=s4 }:VS) n (iM ({ X1 with seen:=s4 }:VS) n (pV (S.C n)))) 96=bE M.read X 96:=by
       rw [Cy n24];exact w5
      rw [hnm1,hby1,hf8] at H;refine ⟨(kk7.trans k8).trans k9,X9,A9,x1.trans w2,x2.trans w3,.inr (.inr ⟨trivial,hkd,.inr ⟨d,nm,0,P,.inr (.inr ?_)⟩⟩)⟩;rcases H with ⟨rfl,H⟩|⟨rfl,g1,g2,c1,g3,g4,g5⟩
      ·refine .inl ⟨rfl,by omega,rfl,?_⟩;rcases H with H|H
       ·exact .inl H
       ·right
        have h6:qb (S.nm d) nm<=(S.nm d).length:=List.length_filter_le _ _;have h7:10<=ow (bU nm):=by unfold ow;split <;> omega
        omega
      ·refine .inr ⟨rfl,by omega,rfl,λx hx=>g2 x (rG (by show x∈X1.mine;rw [w4];exact hx)),g1,_,c1,?_,?_,g4,g5,g3⟩
       ·rw [ev];rfl
       ·rw [ev];rfl
    ·(conv=>whnf);refine aj.t (by simp [hnd]) ?_;(conv=>whnf);refine ⟨kk6,_,A6,w2,w3,.inr (.inr ⟨trivial,hkd,.inr ⟨d,nm,nd,P,.inl ⟨hnd,?_,w1,w4⟩⟩⟩)⟩;rw [if_neg (by simp),if_pos hnd]
   ·(conv=>whnf);refine aj.t (by simp [he]) ?_;(conv=>whnf);refine ⟨kk6,_,A6,w2,w3,.inr (.inr ⟨rfl,hkd,.inl ⟨he,?_,w1,w4⟩⟩)⟩;rw [if_pos he]
 ·rw [if_neg h0];(conv=>whnf);refine aj.t (by simp [h0]) ?_;(conv=>whnf);exact ⟨kk3,_,A3,rfl,rfl,.inl ⟨h0,rfl,rfl,rfl⟩⟩
theorem XK {m:List Int}(hl:m.length=21)(h:∀ j,j<21->aU m j = -1):m=iw:=by
 apply List.ext_getElem (by rw [hl];rfl);intro j h1 h2;have:=h j (by omega);unfold aU at this;rw [List.getElem?_eq_getElem h1] at this;have e:=xB j;unfold aU at e;rw [List.getElem?_eq_getElem h2] at e;exact this.trans e.symm
theorem XL {B:Int->UInt64}{node:Int}(hn:0<=node/\node<24){X:VS}{c:aA}(hk:c.kind=2/\c.links=1)(W:Wk X.now node c.more iw) :
 (eH B X node { c with size:=0 } iw).2.1=0/\eG (eH B X node { c with size:=0 } iw).2.2.now node (eH B X node { c with size:=0 } iw).1 iw []/\Fr node X.now (eH B X node { c with size:=0 } iw).2.2.now:=by
 have hu:(iw.drop 5).any eO=false:=by decide
 rcases tY (B:=B) (c:={ c with size:=0 }) hn W with ⟨_,_,_,h⟩|K
 ·rw [hu] at h;cases h
 ·refine ⟨K.e,⟨K.map,K.wk,?_,?_,λi hi hu=>absurd (xB i) hu,?_,List.Pairwise.nil,K.kY⟩,K.fr⟩
  ·rw [K.c_];exact hk
  ·rw [K.c_];rfl
  ·have:dV (eH B X node { c with size:=0 } iw).2.2.now iw=[]:=by
    unfold dV;rw [List.flatMap_eq_nil_iff];intro i _;exact nG (xB i)
   rw [this]
theorem XH {h:Heap}{V:VL}{M:aS}{X:VS}(A:At h V M X){node:Int}(hn:0<=node/\node<24){c:aA}{m:List Int}{l:List aF}(D:eG X.now node c m l) :
 aC Tryz.prog 208 [.pointer (some ⟨V.v,0,none⟩),.int .i64 node,.agg ⟨c.cells⟩] h (λv h'=>Keeps [V.ob] h h'/\∃ c' X',v=.tuple #[.agg ⟨c'.cells⟩,.int .i64 0]/\At h' V M X'/\X'.away=X.away/\X'.bG=X.bG /\
  eG X'.now node c' iw []/\Fr node X.now X'.now/\X'.mine=X.mine):=by
 have hvb:=A.blt;have qM:=hvb V.ob (by simp [VL.blocks]);obtain ⟨_,hc⟩:=D.right;have hop:=D.open_;refine aG aH Tryz.func208 rfl ok208 (by simp [Tryz.f208]) ?_;(conv=>whnf);refine aL.i λb1 h1 e1 s1 o1 k1=>?_;(conv=>whnf);refine aL.i λb2 h2 e2 s2 o2 k2=>?_;(conv=>whnf);refine ak.i (DN node h2) λv h4 k4 hv=>?_;subst hv;rw [if_pos hn];have k04:=(k1.trans k2).trans k4;(conv=>whnf);refine aj.f rfl ?_;(conv=>whnf);refine ak.i (xK (A.on k04) c hc) λv h5 k5 hv=>?_;have k05:=k04.trans k5;unfold rW at hv;rw [hop,if_pos rfl] at hv;obtain ⟨b,L,a,cc,rfl,B5,nB,O5,nO,ok⟩:=hv;have z1:=k1.size;have z2:=k2.size;have z4:=k4.size;have z5:=k5.size;have xL:∀ x∈BL.blocks b L,x∉V.blocks:=λx hx hx2=>by have:=nB x hx;have:=hvb x hx2;omega
 simp only at B5 ⊢;have hnd:=B5.jv;simp only [BL.blocks,List.nodup_cons,List.mem_cons,not_or] at hnd;have Zf:h4.size<=L.pb:=nB L.pb (by simp [BL.blocks]);have Zg:L.pb<h5.size:=B5.lt L.pb (by simp [BL.blocks]);have hbn:h4.size<=b:=nB b (by simp [BL.blocks]);(conv=>whnf);refine aj.f rfl ?_;(conv=>whnf);refine ax.o B5.obj rfl ?_;(conv=>whnf);refine bP.on [0,1,5,6,9,36,37,38] [5,6] (λi:Nat=>[(0,.v (.pointer (some ⟨V.v,0,none⟩))),(1,.v (.int .i64 node)),(5,.lp 5 0),(6,.lp 6 0),(9,.v (.pointer (some ⟨b,0,none⟩))),(36,.v (.slice (some ⟨L.pb,0,none⟩) 21 L.iG)),(37,.v (.int .i64 21)),(38,.v (.int .i64 (i:Int)))]) (λ_=>[(5,b1,c.cells),(6,b2,aA.zero.cells)])
  (λi h'=>i<=21/\Keeps [V.ob,L.pb] h5 h'/\∃ X' m',At h' V M X'/\X'.away=X.away/\X'.bG=X.bG/\X'.mine=X.mine/\Fr node X.now X'.now/\Wk X'.now node c.more m'/\fD h' L.pb m' L.sp/\∀ j,j<i->aU m' j = -1) (λi=>21-i) 0 ?_ ?_
 ·(conv=>whnf);exact ⟨0,rfl,rfl,rfl,Nat.zero_le _,Keeps.refl _ _,X,m,A.on k05,rfl,rfl,rfl,Fr.refl _ _,D.wk,B5.pl,λj hj=>by omega⟩
 ·rintro i h6 ⟨hi,k6,X6,m6,A6,aw6,an6,am6,F6,W6,P6,H6⟩;have hml:=W6.len;have z6:=k6.size;have ob6:=k6.obj B5.obj (by simp;exact ⟨by omega,hnd.1.1⟩);have in6:∀ x∈m6,inI64 x:=W6.rQ.in64;have S6:=P6.sl in6 (n:=21) (cap:=L.iG) hml.symm B5.cap (by rw [hml];decide);(conv=>whnf);refine aj.i (λhd=>?_) (λhd=>?_)
  ·have hi1:i<m6.length:=by simp at hd;omega
   have hi2:i<21:=by omega
   have hpi:aU m6 i=m6[i]:=by unfold aU;rw [List.getElem?_eq_getElem hi1];rfl
   obtain ⟨b7,o7,hb7,_,hc7⟩:=S6.at1 i hi1;(conv=>whnf);(try refine aV.pass ?_;conv=>whnf);refine aX.i i rfl (by omega) hb7 ?_;(conv=>whnf);refine ax.i hc7 ?_;(conv=>whnf);refine aj.i (λhe=>?_) (λhe=>?_)
   ·have hx:m6[i] = -1:=by simpa [One.val] using he
    (conv=>whnf);refine ⟨21-(i+1),by omega,?_⟩;(conv=>whnf);refine ⟨i+1,rfl,by rw [wrapN (n:=i+1) (by simp) (by omega)],rfl,by omega,k6,X6,m6,A6,aw6,an6,am6,F6,W6,P6,λj hj=>?_⟩;by_cases e:j=i
    ·subst e;rw [hpi];exact hx
    ·exact H6 j (by omega)
   ·have hx:m6[i] ≠ -1:=by simpa [One.val] using he
    obtain ⟨hk,hw,W8,F8,_,_⟩:=W6.drop_at hn hi2 (k:=m6[i]) (by rw [<-hpi];rfl) hx;have hdp:fQ X6 m6[i]=(0,{ X6 with now:=upd X6.now (200+m6[i]) 0 }):=by
     unfold fQ;rw [if_pos hk,if_neg (by rw [hw];exact ig hn)]
    have DS:=En A6 m6[i];rw [hdp] at DS;(conv=>whnf);refine ak.m DS ?_ λv h8 k8 hv=>?_
    ·intro y hy hx;have hy2:y=b1\/y=b2:=by simpa [au,aZ,or_comm] using hy
     simp at hx;omega
    obtain ⟨rfl,A8⟩:=hv;have ob8:=k8.obj ob6 (by simp;omega);have P8:fD h8 L.pb m6 L.sp:=k8.obj P6 (by simp;omega);have S8:=P8.sl in6 (n:=21) (cap:=L.iG) hml.symm B5.cap (by rw [hml];decide);(conv=>whnf);refine aj.f rfl ?_;(conv=>whnf);refine ax.o ob8 rfl ?_;(conv=>whnf);refine aX.i i rfl (by omega) rfl ?_;have hpl8:0+i*1+1<=(m6.map (λx=>Value.int .i64 x)++L.sp).length:=by rw [List.length_append,List.length_map];omega
    (conv=>whnf);refine dN.i P8 hpl8 ?_ λh9 s9 o9 k9=>?_
    ·intro hx;have hy2:L.pb=b1\/L.pb=b2:=by simpa [au,aZ,or_comm] using hx
     omega
    have vO:fD h9 L.pb (m6.set i (-1)) L.sp:=by
     have e:=ints_set (m:=m6) (sp:=L.sp) (i:=i) (x := -1) hi1;unfold fD;rw [<-e];exact o9
    (conv=>whnf);refine ⟨21-(i+1),by omega,?_⟩;(conv=>whnf);refine ⟨i+1,rfl,by rw [wrapN (n:=i+1) (by simp) (by omega)],rfl,by omega,k6.trans ((k8.mono (by simp)).trans (k9.mono (by simp))),_,m6.set i (-1),A8.keep k9 (λy hy=>by have:=hvb y hy;simp;omega),aw6,an6,am6,F6.trans F8 (ig hn),W8,vO,λj hj=>?_⟩;rw [xC hi1];by_cases e:j=i
    ·rw [if_pos e]
    ·rw [if_neg e];exact H6 j (by omega)
  ·have hi1:i=21:=by simp at hd;omega
   subst hi1;obtain rfl:=XK hml H6;obtain ⟨r1,r2,r3⟩:=XL (B:=M.read) (X:=X6) hn D.kind W6;have aw:=Mh M.read X6 node { c with size:=0 } iw;have am:(eH M.read X6 node { c with size:=0 } iw).2.2.mine=X6.mine:=by
    rcases tY (B:=M.read) (c:={ c with size:=0 }) hn W6 with ⟨_,_,_,h⟩|K
    ·have hu:(iw.drop 5).any eO=false:=by decide
     rw [hu] at h;cases h
    ·rw [K.x]
   have xN:({ c with size:=0 }:aA).cells=bF (0+2) (cellsOf (.int .i64 0)) c.cells:=rfl;(conv=>whnf);refine aK.i λh7 s7 k7=>?_;have ob7:=k7.obj ob6 (by simp;omega);have P7:fD h7 L.pb iw L.sp:=k7.obj P6 (by simp;omega);have S7:=P7.sl in6 (n:=21) (cap:=L.iG) hml.symm B5.cap (by rw [hml];decide);have A7:=A6.keep k7 (λy hy=>by have:=hvb y hy;simp;omega);have KS:=Au A7 node { c with size:=0 } S7 (λ_=>by simp [ay];omega);rw [xN] at KS;(conv=>whnf);refine ax.o ob7 rfl ?_;(conv=>whnf);refine ak.m KS ?_ λv h8 k8 hv=>?_
   ·intro y hy hx;have hy2:y=b1\/y=b2:=by simpa [au,aZ,or_comm] using hy
    simp at hx;omega
   obtain ⟨rfl,A8⟩:=hv;(conv=>whnf);refine aK.i λh9 s9 k9=>?_;(conv=>whnf);rw [r1];have kk:Keeps [V.ob] h h9:=(((k05.mono (by simp)).gQ k6 (λy hy=>by simp at hy;rcases hy with rfl|rfl;exact .inl (by simp);right;omega)).gQ k7 (λy hy=>by simp at hy;right;omega)).trans k8 |>.gQ k9 (λy hy=>by simp at hy;right;omega);exact ⟨kk,_,_,rfl,A8.keep k9 (λy hy=>by have:=hvb y hy;simp;omega),aw.1.trans aw6,aw.2.trans an6,r2,F6.trans r3 (ig hn),am.trans am6⟩
theorem eG.bare {now:Int->UInt64}{n:Int}{c:aA}(D:eG now n c iw []):∀ x,0<=x->x<96->now (200+x)≠w64 (n+1):=by
 have hmore:c.more = -1:=D.kY.2 (by decide);intro x x0 x1 e;have:=(D.wk.own x x0 x1).2 e;rw [hmore] at this;have hu:iq (-1) iw=[]:=by decide
 rw [hu] at this;cases this
theorem XG {h:Heap}{V:VL}{M:aS}{X:VS}(A:At h V M X){n:Int}(hn:0<=n/\n<24){c:aA}{m:List Int}{l:List aF}(D:eG X.now n c m l) :
 aC Tryz.prog 207 [.pointer (some ⟨V.v,0,none⟩),.int .i64 n,.agg ⟨c.cells⟩,.int .i64 0] h (λv h'=>Keeps [V.ob] h h'/\∃ c' X',v=.tuple #[.agg ⟨c'.cells⟩,.int .i64 0]/\At h' V M X'/\X'.away=X.away/\X'.bG=X.bG /\
  eG X'.now n c' iw []/\Fr n X.now X'.now/\X'.mine=X.mine):=by
 have bl:=A.blt;have q1:=bl V.ob (by simp [VL.blocks]);refine aG aH Tryz.func207 rfl ok207 (by simp [Tryz.f207]) ?_;(conv=>whnf);refine aL.i λb1 h1 e1 s1 o1 k1=>?_;(conv=>whnf);refine aL.i λb2 h2 e2 s2 o2 k2=>?_;have z1:=k1.size;have z2:=k2.size;(conv=>whnf);refine ak.m (XH (A.on (k1.trans k2)) hn D) (λy hy hx=>by
  simp [au,aZ] at hy hx;omega) λv h3 k3 hv=>?_
 obtain ⟨c',X',rfl,A3,a1,a2,a3,a4,a5⟩:=hv;have z3:=k3.size;(conv=>whnf);refine aK.i λh4 s4 k4=>?_;(conv=>whnf);exact ⟨(((k1.trans k2).mono (by simp)).trans k3).m1 k4 (by omega),c',X',rfl,A3.keep k4 (λb hb=>by have:=bl b hb;simp;omega),a1,a2,a3,a4,a5⟩
theorem XI {h:Heap}{V:VL}{M:aS}{X:VS}(A:At h V M X){S:FS}(I:bK X.now S){n:Int}(hn:0<n/\n<24)(hk:(S.C n).kind=2) :
 aC Tryz.prog 139 [.pointer (some ⟨V.v,0,none⟩),.int .i64 n,.agg ⟨(S.C n).cells⟩] h (λv h'=>Keeps [V.ob,V.sb,V.mb] h h'/\v=.int .i64 0/\∃ X',At h' V M X'/\X'.away=X.away/\X'.bG=X.bG/\(∀ x∈X.mine,x∈X'.mine) /\
  ∃ vv,bK X'.now (S.put n (gu vv) [] [])):=by
 have bl:=A.blt;have hn0:0<=n/\n<24:=⟨by omega,hn.2⟩;have N:=I.node n hn0.1 hn0.2;obtain ⟨m,D⟩:=N.dir hk;have q1:=bl V.ob (by simp [VL.blocks]);have q2:=bl V.sb (by simp [VL.blocks]);have q3:=bl V.mb (by simp [VL.blocks]);refine aG aH Tryz.func139 rfl ok139 (by simp [Tryz.f139]) ?_;(conv=>whnf);refine aL.i λb1 h1 e1 s1 o1 k1=>?_;have z1:=k1.size;(conv=>whnf);(try refine aV.pass ?_;conv=>whnf);refine aj.t (by simp [hk]) ?_;(conv=>whnf);refine ak.m (XG (A.on k1) hn0 D) (λy hy hx=>by
  simp [au,aZ] at hy hx;omega) λv h2 k2 hv=>?_
 obtain ⟨c',X2,rfl,A2,a1,a2,D2,R2,a5⟩:=hv;have z2:=k2.size;(conv=>whnf);refine aL.i λb3 h3 e3 s3 o3 k3=>?_;(conv=>whnf);refine aK.i λh4 s4 k4=>?_;have k24:Keeps [] h2 h4:=k3.new1 k4 (by omega);have A4:=A2.on k24;have z3:=k3.size;have z4:=k4.size;(conv=>whnf);refine ak.m (rE A4 n hn0 c' D2.right.2 D2.right.1) (λy hy hx=>by
  simp [au,aZ] at hy hx;omega) λv h5 k5 hv=>?_
 obtain ⟨rfl,A5⟩:=hv;(conv=>whnf);refine aj.f rfl ?_;have z5:=k5.size;(conv=>whnf);refine ak.m (MK A5 n) (λy hy hx=>by
  simp [au,aZ] at hy hx;omega) λv h6 k6 hv=>?_
 obtain ⟨rfl,A6⟩:=hv;(conv=>whnf);obtain ⟨vv,ev⟩:=rF X2 n c';have N2:gW X2.now n c' [] []:=⟨by rw [D2.kind.1];decide,λh=>(by rw [D2.kind.1] at h;cases h),λ_=>⟨iw,D2⟩,λh=>(by rw [D2.kind.1] at h;omega)⟩;have N3:=N2.dU vv;rw [<-ev] at N3;have I2:=I.set hn R2 N3;have hcr:gU (bW (dZ X2 n (iM X2 n c')).now (8+n*8) 8)=some (iM X2 n c'):=by
  show gU (bW (setW X2.now n _) (8+n*8) 8)=_;rw [Ac];exact sP N3.right
 have hrel:uV (dZ X2 n (iM X2 n c')) n=(0,dZ (eY (dZ X2 n (iM X2 n c')) n) n (gu ((iM X2 n c').dU+1))):=by
  unfold uV;rw [if_pos hn0,hcr];simp only;rw [if_neg (by rw [ev];show ¬ c'.kind=0;rw [D2.kind.1];decide)]
 rw [hrel] at A6 ⊢;have I3:=I2.set hn (Fr.refl n _) (Ad ((iM X2 n c').dU+1) (λx x0 x1=>by
  rw [vD hn.2 (by omega)];exact D2.bare x x0 x1))
 rw [FS.Gv] at I3;refine ⟨((k1.mono (by simp)).trans ((k2.mono (by simp)).bS k24)).trans (k5.trans k6),rfl,_,A6,a1,a2,λx hx=>?_,_,I3⟩;refine rG (rG ?_);rw [a5];exact hx
def qA (c:aA):Int:=if c.kind≠2 then 6 else if 0<c.size then 8 else 0
theorem XJ (c:aA)(h:Heap):aC Tryz.prog 90 [.agg ⟨c.cells⟩] h (λv h'=>Keeps [] h h'/\v=.int .i64 (qA c)):=by
 refine aG aH Tryz.func90 rfl ok90 (by simp [Tryz.f90]) ?_;(conv=>whnf);refine aL.i λb1 h1 e1 s1 o1 k1=>?_;unfold qA;by_cases hk:c.kind=2
 ·rw [if_neg (by simp [hk])];(conv=>whnf);(try refine aV.pass ?_;conv=>whnf);refine aj.f (by simp [hk]) ?_;by_cases hs:0<c.size
  ·rw [if_pos hs];(conv=>whnf);(try refine aV.pass ?_;conv=>whnf);refine aj.t (by simp [hs]) ?_;(conv=>whnf);exact ⟨k1,rfl⟩
  ·rw [if_neg hs];(conv=>whnf);(try refine aV.pass ?_;conv=>whnf);refine aj.f (by simp;omega) ?_;(conv=>whnf);exact ⟨k1,rfl⟩
 ·rw [if_pos hk];(conv=>whnf);(try refine aV.pass ?_;conv=>whnf);refine aj.t (by simp [hk]) ?_;(conv=>whnf);exact ⟨k1,rfl⟩
theorem V5 {h:Heap}{V:VL}{M:aS}{X:VS}(A:At h V M X){S:FS}(I:bK X.now S)(C:gD S)(Q:wP S)(path:List UInt8)(hp:path.length<=140737488351232) :
 aC Tryz.prog 43 [.pointer (some ⟨V.v,0,none⟩),.string (ba path)] h (λv h'=>Keeps [V.ob,V.sb,V.mb] h h'/\∃ X',At h' V M X'/\oh X S path qA v X'):=by
 have bl:=A.blt;have q1:=bl V.ob (by simp [VL.blocks]);have q2:=bl V.sb (by simp [VL.blocks]);have q3:=bl V.mb (by simp [VL.blocks]);refine aG aH Tryz.func43 rfl ok43 (by simp [Tryz.f43]) ?_;(conv=>whnf);refine ak.m (?_:aC Tryz.prog 80 [.pointer (some ⟨V.v,0,none⟩),.string (ba path),.func (.func 90) #[] #[]] h (λv h'=>Keeps [V.ob,V.sb,V.mb] h h'/\∃ X',At h' V M X'/\oh X S path qA v X')) (by simp [au]) λv h1 k1 hv=>?_
 ·refine aG aH Tryz.func80 rfl ok80 (by simp [Tryz.f80]) ?_;(conv=>whnf);refine ak.m (zi A I C path hp) (by simp [au]) λv h1 k1 hv=>?_;obtain ⟨rfl,s,A1⟩:=hv;have z1:=k1.size;by_cases he:(bB (aY S) path).2.2.2=0
  ·obtain ⟨d,nm,nd,P⟩:=wS I C he;unfold oh;rw [P.is];have hsp:mZ S (d,nm,nd,0)=tu d (S.C d) nm nd:=by unfold mZ;rw [if_pos rfl];rfl
   rw [hsp];generalize hX1:({ X with seen:=s }:VS)=X1 at A1;have w1:X1.now=X.now:=by rw [<-hX1]
   have w2:X1.away=X.away:=by rw [<-hX1]
   have w3:X1.bG=X.bG:=by rw [<-hX1]
   have w4:X1.mine=X.mine:=by rw [<-hX1]
   have I1:bK X1.now S:=by rw [w1];exact I
   (conv=>whnf);refine aL.i λb2 h2 e2 s2 o2 k2=>?_;(conv=>whnf);refine aK.i λh3 s3 k3=>?_;have k13:Keeps [] h1 h3:=k2.new1 k3 (by omega);have z2:=k2.size;have z3:=k3.size;have A3:=A1.on k13;(conv=>whnf);refine aj.f rfl ?_;by_cases hnd:nd=0
   ·subst hnd;(conv=>whnf);refine aj.t rfl ?_;(conv=>whnf);exact ⟨(k1.mono (by simp)).bS k13,X1,A3,w2,w3,.inr ⟨d,nm,0,P,.inl ⟨rfl,rfl,w1,w4⟩⟩⟩
   ·obtain ⟨en,hfe,hen,hmem,n0,n24,hkn⟩:=P.there I C hnd;have hne:nd≠d:=by rw [<-hen];exact Q d P.bH.1 P.bH.2 P.kind en hmem
    have N:=I1.node nd (by omega) n24;have hcr:gU (bW X1.now (8+nd*8) 8)=some (S.C nd):=by rw [I1.card nd (by omega) n24];exact sP N.right
    (conv=>whnf);refine aj.f (by simp [hnd]) ?_;(conv=>whnf);refine ak.m (sV A3 nd) (λy hy hx=>by
     simp [au,aZ] at hy hx;omega) λv h4 k4 hv=>?_
    rw [if_pos ⟨by omega,n24⟩,hcr] at hv;obtain ⟨rfl,A4⟩:=hv;have z4:=k4.size;unfold pM;(conv=>whnf);refine aL.i λb5 h5 e5 s5 o5 k5=>?_;(conv=>whnf);refine aK.i λh6 s6 k6=>?_;have k46:Keeps [] h4 h6:=k5.new1 k6 (by omega);have z5:=k5.size;have z6:=k6.size;(conv=>whnf);refine aj.f (by simp [hkn]) ?_;(conv=>whnf);refine ak.i (XJ (S.C nd) h6) λv h7 k7 hv=>?_;subst hv;have z7:=k7.size;have A7:=A4.on (k46.trans k7);have I7:bK (eY X1 nd).now S:=I1;have kk7:Keeps [V.ob,V.sb,V.mb] h h7:=((k1.mono (by simp)).bS k13).trans ((k4.mono (by simp)).bS (k46.trans k7));by_cases hm:qA (S.C nd)=0
    ·rw [hm];have hkd:(S.C nd).kind=2:=by
      apply Classical.byContradiction;intro hk;unfold qA at hm;rw [if_pos hk] at hm;cases hm
     (conv=>whnf);refine aj.f rfl ?_;(conv=>whnf);refine ak.m (Gu A7 I7 P.bH P.kind P.len hfe nd) (λy hy hx=>by
      simp [au,aZ] at hy hx;omega) λv h8 k8 hv=>?_
     obtain ⟨rfl,X2,A8,a1,a2,a3,c1,I8,hc1,hc2⟩:=hv;have z8:=k8.size;have eC:(S.put d c1 ((S.nm d).eraseIdx (aP (S.nm d) nm)) (S.aQ d)).C nd=S.C nd:=if_neg hne;obtain ⟨mf,D8⟩:=N.dir hkd;have hlk:(S.C nd).links=1:=D8.kind.2;(conv=>whnf);refine aj.f rfl ?_;(conv=>whnf);refine aj.f (by rw [hlk];rfl) ?_;have CG:=XI A8 I8 (n:=nd) ⟨n0,n24⟩ (by rw [eC];exact hkd);rw [eC] at CG;(conv=>whnf);refine ak.m CG (λy hy hx=>by
      simp [au,aZ] at hy hx;omega) λv h9 k9 hv=>?_
     obtain ⟨rfl,X3,A9,b1,b2,b3,vv,I9⟩:=hv;(conv=>whnf);refine ⟨(kk7.trans k8).trans k9,X3,A9,?_,?_,.inr ⟨d,nm,nd,P,.inr (.inr ⟨hnd,hm,rfl,λx hx=>b3 x (a3 x ?_),c1,hc1,hc2,.inr ⟨by omega,vv,I9⟩⟩)⟩⟩
     ·rw [b1,a1];exact w2
     ·rw [b2,a2];exact w3
     ·show x∈X1.mine;rw [w4];exact hx
    ·(conv=>whnf);refine aj.t (by simp [hm]) ?_;(conv=>whnf);exact ⟨kk7,_,A7,w2,w3,.inr ⟨d,nm,nd,P,.inr (.inl ⟨hnd,hm,rfl,w1,w4⟩)⟩⟩
  ·unfold oh;generalize bB (aY S) path=r at he;obtain ⟨d',c',gK,nd',hsp,_⟩:=zH S r;rw [hsp];(conv=>whnf);refine aL.i λb2 h2 e2 s2 o2 k2=>?_;(conv=>whnf);refine aK.i λh3 s3 k3=>?_;have k13:Keeps [] h1 h3:=k2.new1 k3 (by omega);(conv=>whnf);refine aj.t (by simp [he]) ?_;(conv=>whnf);exact ⟨(k1.mono (by simp)).bS k13,_,A1.on k13,rfl,rfl,.inl ⟨he,rfl,rfl,rfl⟩⟩
 ·(conv=>whnf);exact ⟨k1,hv⟩
inductive mh (S:FS) (y:Int):Int->Prop
 | refl:mh S y y
 | head {x:Int} {e:aF}:(S.C x).kind=2->e∈S.nm x->mh S y e.node->mh S y x
theorem Oc {S:FS}{y x:Int}(hne:y≠x):mh S y x↔(S.C x).kind=2/\∃ e∈S.nm x,mh S y e.node:=by
 constructor
 ·intro h;cases h with
  | refl=>exact absurd rfl hne
  | head h1 h2 h3=>exact ⟨h1,_,h2,h3⟩
 ·rintro ⟨h1,e,h2,h3⟩;exact .head h1 h2 h3
def xq (S:FS)(rk:Int->Nat):Prop:=∀ x,0<x->x<24->(S.C x).kind=2->∀ e∈S.nm x,rk e.node<rk x
theorem Ob {M:aS}{V:VL}{S:FS}(C:gD S){rk:Int->Nat}(hr:xq S rk)(hz:(S.C 0).kind=0)(dir:Int):∀ (n:Nat) (of:Int) (h:Heap) (X:VS),rk of<n->0<of/\of<24/\(S.C of).kind≠0->At h V M X->bK X.now S ->
 aC Tryz.prog 62 [.pointer (some ⟨V.v,0,none⟩),.int .i64 dir,.int .i64 of] h (λv h'=>Keeps [V.sb] h h'/\(∃ s,At h' V M { X with seen:=s })/\∃ b:Bool,v=.tuple #[.bool b,.int .i64 0]/\(b=true↔mh S dir of))
 | 0,_,_,_,hn,_,_,_=>by omega
 | n+1,of,h,X,hn,ho,A,I=>by
  have bl:=A.blt;have q2:=bl V.sb (by simp [VL.blocks]);obtain ⟨o0,o24,ok⟩:=ho;have hcr:gU (bW X.now (8+of*8) 8)=some (S.C of):=by rw [I.card of (by omega) o24];exact sP (I.node of (by omega) o24).right
  refine aG aH Tryz.func62 rfl ok62 (by simp [Tryz.f62]) ?_;(conv=>whnf);by_cases hdo:dir=of
  ·subst hdo;refine aj.t (by simp) ?_;(conv=>whnf);exact ⟨Keeps.refl _ _,⟨X.seen,A⟩,true,rfl,λ_=>.refl,λ_=>rfl⟩
  ·refine aj.f (by simp [hdo]) ?_;(conv=>whnf);refine ak.m (sV A of) (by simp [au]) λv h1 k1 hv=>?_;rw [if_pos ⟨by omega,o24⟩,hcr] at hv;obtain ⟨rfl,A1⟩:=hv;have z1:=k1.size;unfold pM;(conv=>whnf);refine aL.i λb2 h2 e2 s2 o2 k2=>?_;(conv=>whnf);refine aK.i λh3 s3 k3=>?_;have k13:Keeps [] h1 h3:=k2.new1 k3 (by omega);have z2:=k2.size;have z3:=k3.size;have A3:=A1.on k13;have kk3:Keeps [V.sb] h h3:=k1.bS k13;by_cases hk:(S.C of).kind=2
   ·have N:=I.node of (by omega) o24;obtain ⟨m,D⟩:=N.dir hk;have D':eG (eY X of).now of (S.C of) m (S.nm of):=D;(conv=>whnf);refine aj.f (by simp [hk]) ?_;(conv=>whnf);refine ak.i (DY A3 (S.C of) N.ok) λv h4 k4 hv=>?_;rw [D'.open_] at hv;unfold um at hv;rw [if_pos rfl] at hv;obtain ⟨a,cc,rfl,O4,nO,DI⟩:=hv;simp only at O4 DI ⊢;have hlf:=D.few;have z4:=k4.size;have A4:=A3.on k4;have SE:=kr O4 DI (by omega);(conv=>whnf);refine aj.f rfl ?_;(conv=>whnf);refine bP.on [0,1,41,42,43] [] (λq:Nat×VS=>[(0,.v (.pointer (some ⟨V.v,0,none⟩))),(1,.v (.int .i64 dir)),(41,.v (.slice a (S.nm of).length cc)),(42,.v (.int .i64 ((S.nm of).length:Int))),(43,.v (.int .i64 (q.1:Int)))]) (λ_=>[])
     (λq h'=>q.1<=(S.nm of).length/\Keeps [V.sb] h h'/\h3.size<=h'.size/\Sl h' a (S.nm of).length cc (S.nm of)/\(∃ s,q.2={ X with seen:=s })/\At h' V M q.2/\∀ e∈(S.nm of).take q.1,¬ mh S dir e.node) (λq=>(S.nm of).length-q.1) (0,eY X of) ?_ ?_
    ·(conv=>whnf);exact ⟨(0,eY X of),rfl,rfl,rfl,Nat.zero_le _,kk3.bS k4,by omega,SE,⟨_,rfl⟩,A4,by simp⟩
    ·rintro ⟨i,X5⟩ h5 ⟨hi,k5,z5,S5,⟨s5,hs5⟩,A5,n5⟩;simp only at hi hs5 A5 n5;(conv=>whnf);refine aj.i (λhd=>?_) (λhd=>?_)
     ·have hi1:i<(S.nm of).length:=by simp at hd;omega
      obtain ⟨b6,o6,hb6,_,⟨rfl,hok⟩,hc6⟩:=S5.at_ i hi1;have hem:=List.getElem_mem hi1;obtain ⟨c1,c2,c3⟩:=C.names of (by omega) o24 hk _ hem;have hne0:(S.nm of)[i].node≠0:=λe=>c3 (by rw [e];exact hz);have zP:=hr of o0 o24 hk _ hem;have I5:bK X5.now S:=by rw [hs5];exact I
      have IH:=λ(hh:Heap) (A':At hh V M X5)=>Ob C hr hz dir n (S.nm of)[i].node hh X5 (by omega) ⟨by omega,c2,c3⟩ A' I5;(conv=>whnf);refine aX.i i rfl hi1 hb6 ?_;(conv=>whnf);refine fq.i (vs:=(S.nm of)[i].cells) rfl (λj hj=>hc6 j hj) ?_;(conv=>whnf);refine aL.i λb7 h7 e7 s7 o7 k7=>?_;have z7:=k7.size;(conv=>whnf);refine aK.i λh8 s8 k8=>?_;have k58:Keeps [] h5 h8:=k7.new1 k8 (by omega);(conv=>whnf);refine ak.m (IH h8 (A5.on k58)) (λy hy hx=>by
       simp [au,aZ] at hy hx;omega) λv h9 k9 hv=>?_
      obtain ⟨⟨s9,A9⟩,b,rfl,hb⟩:=hv;have z9:=k9.size;have k09:Keeps [V.sb] h h9:=(k5.bS k58).trans k9;have hs9:({ X5 with seen:=s9 }:VS)={ X with seen:=s9 }:=by rw [hs5]
      rw [hs9] at A9;cases b with
      | true=>
       (conv=>whnf);refine aj.t rfl ?_;(conv=>whnf);exact ⟨k09,⟨s9,A9⟩,true,rfl,λ_=>.head hk hem (hb.1 rfl),λ_=>rfl⟩
      | false=>
       (conv=>whnf);refine aj.f rfl ?_;(conv=>whnf);refine ⟨(S.nm of).length-(i+1),by omega,?_⟩;(conv=>whnf);have nE:∀ y∈ay a,y∉[V.sb]:=λy hy hx=>by have:=nO y hy;simp at hx;omega
       refine ⟨(i+1,{ X with seen:=s9 }),rfl,by rw [wrapN (x:=(i:Int)+1) (n:=i+1) (by simp) (by omega)],rfl,hi1,k09,by omega,(S5.keep k58).je k9 nE,⟨s9,rfl⟩,A9,λe he=>?_⟩;rw [List.take_succ_eq_append_getElem hi1,List.mem_append] at he;rcases he with he|he
       ·exact n5 e he
       ·obtain rfl:=List.mem_singleton.1 he;exact λhbe=>by have:=hb.2 hbe;cases this
     ·have hi1:i=(S.nm of).length:=by simp at hd;omega
      (conv=>whnf);rw [hs5] at A5;refine ⟨k5,⟨s5,A5⟩,false,rfl,λh=>(by cases h),λh=>?_⟩;obtain ⟨_,e,he,hbe⟩:=(Oc hdo).1 h;exact absurd hbe (n5 e (by rw [hi1,List.take_length];exact he))
   ·(conv=>whnf);refine aj.t (by simp [hk]) ?_;(conv=>whnf);refine ⟨kk3,⟨_,A3⟩,false,rfl,λh=>(by cases h),λh=>?_⟩;exact absurd ((Oc hdo).1 h).1 hk
end Go.Proofs.YtoociceebodfeaaGreatDoor
