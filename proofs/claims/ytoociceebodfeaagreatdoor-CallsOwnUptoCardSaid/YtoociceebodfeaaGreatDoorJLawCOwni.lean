/-
  Joined texts: NamA, NamB, NamC, NamD, WalC, PthA, FndA, RelA, RelB, RelC.
-/
import Derived.Test.YtoociceebodfeaaGreatDoorJLawCOwne
import Derived.Test.YtoociceebodfeaaGreatDoorJLawCOwnh
import Derived.Test.YtoociceebodfeaaGreatDoorJLawCOwng
set_option linter.all false
set_option maxRecDepth 100000
set_option maxHeartbeats 1000000
namespace Go.Proofs.YtoociceebodfeaaGreatDoor
open Go Go.aK
def ba (l:List UInt8):ByteArray:=⟨l.toArray⟩
def bq (l:List (List UInt8)):List ByteArray:=l.map ba
theorem Lg (l:List UInt8):(ba l).data.toList=l:=by simp [ba]
theorem Uw (l:List UInt8)(hl:l.length<=140737488351232)(h:Heap):aD Tryz.prog 106 [.string (ba l)] h (λv h'=>Keeps [] h h'/\v=.bool (!dG l)):=by
 refine aH aI Tryz.func106 rfl ok106 (by simp [Tryz.f106]) ?_;(conv=>whnf);refine au.i (ET l hl h) λv h1 k1 hv=>?_;subst hv;(conv=>whnf);exact ⟨k1,rfl⟩
def uz:List (List UInt8)->Nat->Int
 | [],_ => -1
 | x::l,i=>if dG x=false then (i:Int) else uz l (i+1)
theorem Lj:∀ (l:List (List UInt8)) (i:Nat),decide (0<=uz l i)=!(l.all dG)
 | [],i=>rfl
 | x::l,i=>by
  simp only [uz,List.all_cons];split
  ·rename_i hp;rw [hp];simp
  ·rename_i hp;rw [Lj l (i+1)];simp [hp]
theorem Ux {h:Heap}{a:Option Addr}{n c:Nat}{xs:List (List UInt8)}(S:Sl h a n c (bq xs))(hn:n<=1000000000)(hx:∀ x∈xs,x.length<=140737488351232) :
 aD Tryz.prog 164 [.slice a n c,.func (.func 106) #[] #[]] h (λv h'=>Keeps [] h h'/\v=.int .i64 (uz xs 0)):=by
 have hl:=S.hlen;have hb:(bq xs).length=xs.length:=by simp [bq]
 refine aH aI Tryz.func164 rfl ok164 (by simp [Tryz.f164]) ?_;(conv=>whnf);refine bP.on [0,1,7,8] [] (λi:Nat=>[(0,.v (.slice a n c)),(1,.v (.func (.func 106) #[] #[])),(7,.v (.int .i64 (n:Int))),(8,.v (.int .i64 (i:Int)))]) (λ_=>[])
  (λi h'=>i<=n/\Keeps [] h h'/\uz xs 0=uz (xs.drop i) i) (λi=>n-i) 0 ?_ ?_
 ·(conv=>whnf);exact ⟨0,rfl,rfl,rfl,Nat.zero_le _,Keeps.refl _ _,rfl⟩
 ·rintro i h2 ⟨hi,k2,hI⟩;(conv=>whnf);refine ak.i (λhc=>?_) (λhc=>?_)
  ·have hi1:i<xs.length:=by simp at hc;omega
   obtain ⟨b,off,hb',_,hcell⟩:=(S.keep k2).at1 i (by omega);have e:(bq xs)[i]'(by omega)=ba xs[i]:=by simp [bq]
   rw [e] at hcell;rw [List.drop_eq_getElem_cons hi1] at hI;simp only [uz] at hI;(conv=>whnf);refine aQ.i i rfl (by omega) hb' ?_;(conv=>whnf);refine ax.i hcell ?_;(conv=>whnf);refine au.i (Uw xs[i] (hx _ (List.getElem_mem _)) h2) λv h3 k3 hv=>?_;subst hv;(conv=>whnf);refine ak.i (λhd=>?_) (λhd=>?_)
   ·(conv=>whnf);rw [if_pos (by simpa using hd)] at hI;exact ⟨k2.trans k3,by rw [hI]⟩
   ·rw [if_neg (by simpa using hd)] at hI;(conv=>whnf);refine ⟨n-(i+1),by omega,?_⟩;(conv=>whnf);exact ⟨i+1,rfl,by rw [wrapN (n:=i+1) (by simp) (by omega)],rfl,by omega,k2.trans k3,hI⟩
  ·have hi1:i=xs.length:=by simp at hc;omega
   (conv=>whnf);refine ⟨k2,?_⟩;rw [hI,hi1,List.drop_length];rfl
theorem Lf {h:Heap}{a:Option Addr}{n c:Nat}{xs:List (List UInt8)}(S:Sl h a n c (bq xs))(hn:n<=1000000000)(hx:∀ x∈xs,x.length<=140737488351232) :
 aD Tryz.prog 105 [.slice a n c,.func (.func 106) #[] #[]] h (λv h'=>Keeps [] h h'/\v=.bool (!(xs.all dG))):=by
 refine aH aI Tryz.func105 rfl ok105 (by simp [Tryz.f105]) ?_;(conv=>whnf);refine au.i (Ux S hn hx) λv h1 k1 hv=>?_;subst hv;(conv=>whnf);refine ⟨k1,?_⟩;rw [<-Lj xs 0]
theorem Uy (l:List UInt8)(hl:l.length<=140737488351232)(h:Heap):aD Tryz.prog 219 [.string (ba l),.string ⟨#[47]⟩] h (λv h'=>Keeps [] h h'/\v=.bool (decide (l.head?=some 47))):=by
 have hs:(ba l).size=l.length:=dN l;refine aH aI Tryz.func219 rfl ok219 (by simp [Tryz.f219]) ?_;(conv=>whnf);refine dm.u 0 1 (λhg=>?_) ?_
 ·have hz:(ByteArray.mk #[47]).size=1:=rfl;rw [hz] at hg;simp at hg;exact ⟨rfl,rfl,by omega,by omega⟩
 (conv=>whnf);refine ⟨Keeps.refl _ _,?_⟩;have e0:(ByteArray.mk #[47])=⟨([47]:List UInt8).toArray⟩:=rfl;have e1:(ba l).extract 0 1=⟨((l.take 1).drop 0).toArray⟩:=qL l 0 1;rw [e1,e0,iV,hs,dN]
 congr 1
 cases l with
 | nil=>simp
 | cons c r=>
  simp [dB];intro _;omega
theorem Uu (l:List UInt8)(hl:l.length<=140737488351232)(h:Heap):aD Tryz.prog 103 [.string (ba l),.string ⟨#[47]⟩] h (λv h'=>Keeps [] h h'/\v=if l.head?=some 47 then .tuple #[.string (ba (l.drop 1)),.bool true] else .tuple #[.string (ba l),.bool false]):=by
 have hs:(ba l).size=l.length:=dN l;refine aH aI Tryz.func103 rfl ok103 (by simp [Tryz.f103]) ?_;(conv=>whnf);refine au.i (?_:aD Tryz.prog 162 [.string (ba l),.string ⟨#[47]⟩] h (λv h'=>Keeps [] h h'/\v=if l.head?=some 47 then .tuple #[.string (ba (l.drop 1)),.bool true] else .tuple #[.string (ba l),.bool false])) λv h1 k1 hv=>?_
 ·refine aH aI Tryz.func162 rfl ok162 (by simp [Tryz.f162]) ?_;(conv=>whnf);refine au.i (Uy l hl h) λv h1 k1 hv=>?_;subst hv;(conv=>whnf);refine ak.i (λhc=>?_) (λhc=>?_)
  ·(conv=>whnf);have:¬ l.head?=some 47:=by simpa using hc
   rw [if_neg this];exact ⟨k1,rfl⟩
  ·have hh:l.head?=some 47:=by simpa using hc
   have hpos:1<=l.length:=by
    cases l with
    | nil=>simp at hh
    | cons c r=>simp
   (conv=>whnf);refine dm.i 1 l.length rfl (by rw [hs]) (by omega) (by omega) ?_;(conv=>whnf);rw [if_pos hh];refine ⟨k1,?_⟩;have e1:(ba l).extract 1 l.length=⟨((l.take l.length).drop 1).toArray⟩:=qL l 1 l.length;rw [e1,List.take_length];rfl
 ·subst hv;by_cases hh:l.head?=some 47
  ·rw [if_pos hh];(conv=>whnf);exact ⟨k1,rfl⟩
  ·rw [if_neg hh];(conv=>whnf);exact ⟨k1,rfl⟩
theorem Uz (l:List UInt8)(h:Heap):aD Tryz.prog 266 [.string ⟨l.toArray⟩,.string ⟨#[47]⟩] h (λv h'=>Keeps [] h h'/\v=.int .i64 (Lib.indexByte l 47)):=by
 refine aH aI Tryz.func266 rfl ok266 (by simp [Tryz.f266]) ?_;(conv=>whnf);have e0:(ByteArray.mk #[47])=⟨([47]:List UInt8).toArray⟩:=rfl;refine ak.i (λh1=>?_) (λh1=>?_)
 ·(conv=>whnf);refine ⟨Keeps.refl _ _,?_⟩;have:l=[47]:=by
   have h1:((ByteArray.mk #[47]).toList==(ByteArray.mk l.toArray).toList)=true:=h1;rw [e0,iV] at h1;simpa [eq_comm] using h1
  subst this;rfl
 ·(conv=>whnf);refine ak.t rfl ?_;(conv=>whnf);refine fC.i 0 rfl (by decide) ?_;(conv=>whnf);refine au.i (Fa l 47 h) λv h1 k1 hv=>?_;subst hv;(conv=>whnf);exact ⟨k1,rfl⟩
theorem UA (l:List UInt8)(h:Heap):aD Tryz.prog 222 [.string ⟨l.toArray⟩,.string ⟨#[47]⟩] h (λv h'=>Keeps [] h h'/\v=.int .i64 (Lib.indexByte l 47)):=by
 refine aH aI Tryz.func222 rfl ok222 (by simp [Tryz.f222]) ?_;(conv=>whnf);refine au.i (Uz l h) λv h1 k1 hv=>?_;subst hv;(conv=>whnf);exact ⟨k1,rfl⟩
theorem UB (l:List UInt8)(h:Heap):aD Tryz.prog 221 [.string ⟨l.toArray⟩,.string ⟨#[47]⟩] h (λv h'=>Keeps [] h h'/\v=.int .i64 (l.count 47:Nat)):=by
 refine aH aI Tryz.func221 rfl ok221 (by simp [Tryz.f221]) ?_;(conv=>whnf);refine ak.f rfl ?_;(conv=>whnf);refine ak.t rfl ?_;(conv=>whnf);refine fC.i 0 rfl (by decide) ?_;(conv=>whnf);refine aP.ext rfl (by kernel_rfl) (by kernel_rfl) (by kernel_rfl) (e:=Extern.BytealgCount.count) (by kernel_rfl) (aP.pure (λw _=>Lib.run_countString (P:=Tryz.prog) _ _ w) ?_);(conv=>whnf);refine ⟨Keeps.refl _ _,?_⟩;have e1:(iY (ByteArray.mk #[47]) 0).toNat.toUInt8=47:=by decide
 rw [e1];simp [Lib.countByte]
theorem Fy:∀ s:List UInt8,(Lib.indexByte s 47 = -1/\dA s=[s]/\s.count 47=0)\/(∃ i:Nat,i<s.length/\Lib.indexByte s 47=(i:Int)/\dA s=s.take i::dA (s.drop (i+1))/\s.count 47=(s.drop (i+1)).count 47+1)
 | []=>.inl ⟨rfl,rfl,rfl⟩
 | c::l=>by
  by_cases hc:c=47
  ·subst hc;exact .inr ⟨0,by simp,by simp [Lib.indexByte],by simp [dA],by simp⟩
  ·rcases Fy l with ⟨h1,h2,h3⟩|⟨i,h1,h2,h3,h4⟩
   ·refine .inl ⟨by simp [Lib.indexByte,hc,h1],?_,by rw [List.count_cons_of_ne hc];exact h3⟩;unfold dA;rw [if_neg hc,h2]
   ·refine .inr ⟨i+1,by simpa using h1,by simp [Lib.indexByte,hc,h2],?_,?_⟩
    ·have e:dA (c::l)=(match dA l with|[]=>[[c]]|x::r=>(c::x)::r):=by
      conv=>lhs;unfold dA
      rw [if_neg hc];rfl
     rw [e,h3];simp
    ·rw [List.count_cons_of_ne hc,h4];simp
theorem Li:∀ s:List UInt8,(dA s).length=s.count 47+1
 | []=>rfl
 | c::l=>by
  have ih:=Li l;unfold dA;by_cases h:c=47
  ·rw [if_pos h,h];simp [ih]
  ·rw [if_neg h,List.count_cons_of_ne h];cases hc:dA l with
   | nil=>exact absurd hc (yJ l)
   | cons x r=>rw [hc] at ih;simpa using ih
theorem UC (l:List UInt8)(hl:l.length<=10000)(h:Heap):aD Tryz.prog 163 [.string ⟨l.toArray⟩,.string ⟨#[47]⟩,.int .i64 0,.int .i64 (-1)] h (λv h'=>Keeps [] h h'/\∃ b,v=.slice (some ⟨b,0,none⟩) (l.count 47+1) (l.count 47+1)/\h.size<=b/\h'[b]?=some (.cells ⟨(bq (dA l)).map λx=>.string x⟩ 9 (0,0))):=by
 have hcl:l.count 47<=l.length:=List.count_le_length;refine aH aI Tryz.func163 rfl ok163 (by simp [Tryz.f163]) ?_;(conv=>whnf);refine ak.f rfl ?_;(conv=>whnf);refine ak.f (by rw [xH];rfl) ?_;(conv=>whnf);(try refine aU.pass ?_;conv=>whnf);refine ak.t rfl ?_;(conv=>whnf);refine au.i (UB l h) λv h1 k1 hv=>?_;subst hv;(conv=>whnf);have hs:(ByteArray.mk l.toArray).size=l.length:=dN l;have e1:IntKind.i64.wrap ((l.count 47:Nat)+1:Int)=((l.count 47+1:Nat):Int):=wrapN (by omega) (by omega);have e2:IntKind.i64.wrap (((ByteArray.mk l.toArray).size:Int)+1)=((l.length+1:Nat):Int):=by rw [hs];exact wrapN (by omega) (by omega)
 have e4:(if IntKind.i64.wrap (((ByteArray.mk l.toArray).size:Int)+1)<IntKind.i64.wrap ((l.count 47:Nat)+1:Int) then IntKind.i64.wrap (((ByteArray.mk l.toArray).size:Int)+1) else IntKind.i64.wrap ((l.count 47:Nat)+1:Int))=((l.count 47+1:Nat):Int):=by
  rw [e1,e2];split <;> omega
 rw [e4];refine aP.make (n:=l.count 47+1) rfl rfl rfl rfl rfl (by show 16*_<=_;omega) (by omega) λb2 h2 e2' s2 o2 k2=>?_;(conv=>whnf);have e5:IntKind.i64.wrap (((l.count 47+1:Nat):Int)-1)=((l.count 47:Nat):Int):=wrapN (by omega) (by omega);rw [e5];generalize hm:l.count 47=m at *;refine aU.pass ?_;(conv=>whnf);refine bP.on [0,1,2,3,9,10] [] (λq:Nat×List UInt8=>[(0,.v (.string ⟨q.2.toArray⟩)),(1,.v (.string ⟨#[47]⟩)),(2,.v (.int .i64 0)),(3,.v (.int .i64 (m:Int))),(9,.v (.slice (some ⟨b2,0,none⟩) (m+1) (m+1))),(10,.v (.int .i64 (q.1:Int)))]) (λ_=>[])
  (λq h'=>q.1+q.2.count 47=m/\q.2.length<=l.length/\Keeps [] h h'/\∃ done:List (List UInt8),done.length=q.1/\dA l=done++dA q.2/\h'[b2]?=some (.cells ⟨((bq done).map λx=>.string x)++List.replicate (m+1-q.1) (.string ⟨#[]⟩)⟩ 9 (0,0))) (λq=>m-q.1) (0,l) ?_ ?_
 ·(conv=>whnf);refine ⟨(0,l),rfl,rfl,rfl,by simp [hm],Nat.le_refl _,k1.trans k2,[],rfl,rfl,?_⟩;exact o2
 ·rintro ⟨i,s⟩ h3 ⟨hi,hsl,k3,done,hd,hcut,o3⟩;simp only at hi hsl hd hcut o3;(conv=>whnf);refine ak.i (λhc=>?_) (λhc=>?_)
  ·have hi1:i<m:=by simpa using hc
   (conv=>whnf);refine au.i (UA s h3) λv h4 k4 hv=>?_;subst hv;rcases Fy s with ⟨c1,c2,c3⟩|⟨j,c1,c2,c3,c4⟩
   ·omega
   ·rw [c2];(conv=>whnf);refine ak.f (by simp) ?_;have hj0:IntKind.i64.wrap ((j:Int)+0)=(j:Int):=wrapN (by omega) (by omega);have hss:(ByteArray.mk s.toArray).size=s.length:=dN s;(conv=>whnf);refine dm.i 0 j rfl hj0 (Nat.zero_le _) (by rw [hss];omega) ?_;(conv=>whnf);refine aQ.i i rfl (by omega) rfl ?_;have er:List.replicate (m+1-i) (Value.string ⟨#[]⟩)=.string ⟨#[]⟩::List.replicate (m+1-(i+1)) (.string ⟨#[]⟩):=by
     rw [show m+1-i=(m+1-(i+1))+1 by omega,List.replicate_succ]
    rw [er] at o3;have hlen:((bq done).map λx=>Value.string x).length=i:=by simp [bq,hd]
    (conv=>whnf);refine dO.i (k4.obj o3 (by simp)) ?_ (by simp [aA]) λh5 s5 o5 k5=>?_
    ·simp only [List.length_append,List.length_cons,hlen,List.length_replicate];show 0+i*1+1<=_;omega
    have hj1:IntKind.i64.wrap ((j:Int)+1)=((j+1:Nat):Int):=wrapN (by omega) (by omega);(conv=>whnf);refine dm.i (j+1) s.length hj1 (by rw [hss]) (by omega) (by rw [hss];omega) ?_;(conv=>whnf);refine ⟨m-(i+1),by omega,?_⟩;(conv=>whnf);refine ⟨(i+1,s.drop (j+1)),rfl,?_,rfl,by simp only;omega,by simp only [List.length_drop];omega,(k3.trans k4).new1 k5 (by have:=k1.size;omega),done++[s.take j],by simp [hd],by rw [hcut,c3];simp,?_⟩
    ·simp only;rw [wrapN (x:=(i:Int)+1) (n:=i+1) (by simp) (by omega),qL,List.take_length]
    ·have e5:bC (0+i*1) [Value.string (ByteArray.extract ⟨s.toArray⟩ 0 j)] (((bq done).map λx=>Value.string x)++.string ⟨#[]⟩::List.replicate (m+1-(i+1)) (.string ⟨#[]⟩))=((bq (done++[s.take j])).map λx=>Value.string x)++List.replicate (m+1-(i+1)) (.string ⟨#[]⟩):=by
      have:=Ao (A:=(bq done).map λx=>Value.string x) (x:=.string ⟨#[]⟩) (v:=Value.string (ByteArray.extract ⟨s.toArray⟩ 0 j)) (B:=List.replicate (m+1-(i+1)) (.string ⟨#[]⟩));rw [hlen] at this;rw [show 0+i*1=i by omega,this,qL,List.drop_zero];simp [bq,ba]
     rw [<-e5];exact o5
  ·have hi1:i=m:=by
    have:¬ (i<m):=by simpa using hc
    omega
   subst hi1;(conv=>whnf);refine aQ.i i rfl (by omega) rfl ?_;have er:List.replicate (i+1-i) (Value.string ⟨#[]⟩)=[.string ⟨#[]⟩]:=by
    rw [show i+1-i=1 by omega];rfl
   rw [er] at o3;have hlen:((bq done).map λx=>Value.string x).length=i:=by simp [bq,hd]
   (conv=>whnf);refine dO.i o3 ?_ (by simp [aA]) λh5 s5 o5 k5=>?_
   ·simp only [List.length_append,List.length_cons,hlen];show 0+i*1+1<=_;omega
   (conv=>whnf);refine dm.i 0 (i+1) rfl (wrapN (by simp) (by omega)) (Nat.zero_le _) (Nat.le_refl _) ?_;(conv=>whnf);have hlast:dA s=[s]:=by
    rcases Fy s with ⟨_,c2,_⟩|⟨j,_,_,_,c4⟩
    ·exact c2
    ·omega
   rw [kE];refine ⟨k3.new1 k5 (by have:=k1.size;omega),b2,rfl,by have:=k1.size;omega,?_⟩;rw [hcut,hlast];have e5:bC (0+i*1) [Value.string ⟨s.toArray⟩] (((bq done).map λx=>Value.string x)++[.string ⟨#[]⟩])=(bq (done++[s])).map λx=>Value.string x:=by
    have:=Ao (A:=(bq done).map λx=>Value.string x) (x:=.string ⟨#[]⟩) (v:=Value.string ⟨s.toArray⟩) (B:=[]);rw [hlen] at this;rw [show 0+i*1=i by omega,this];simp [bq,ba]
   rw [<-e5];exact o5
theorem fO (l:List (List UInt8)):(bq l).length=l.length:=by simp [bq]
theorem Fx {l:List (List UInt8)}(h:∀ x∈l,x.length<=140737488351232):∀ x∈bq l,One.ok x:=by
 intro x hx;obtain ⟨y,hy,rfl⟩:=List.mem_map.1 hx;show mK (ba y);unfold mK;have:=h y hy;have e:(ba y).size=y.length:=dN y;omega
theorem Bv:∀ {s x:List UInt8},x∈dA s->x.length<=s.length
 | [],x,h=>by simp [dA] at h;simp [h]
 | c::l,x,h=>by
  unfold dA at h;by_cases hc:c=47
  ·rw [if_pos hc] at h;rcases List.mem_cons.1 h with rfl|h
   ·simp
   ·have:=Bv h;simp only [List.length_cons];omega
  ·rw [if_neg hc] at h;cases hl:dA l with
   | nil=>exact absurd hl (yJ l)
   | cons y r=>
    rw [hl] at h;rcases List.mem_cons.1 h with rfl|h
    ·have:=Bv (s:=l) (x:=y) (by rw [hl];simp);simp only [List.length_cons];omega
    ·have:=Bv (s:=l) (x:=x) (by rw [hl];simp [h]);simp only [List.length_cons];omega
theorem Uv (l:List UInt8)(hl:l.length<=10000)(h:Heap):aD Tryz.prog 104 [.string ⟨l.toArray⟩,.string ⟨#[47]⟩] h (λv h'=>Keeps [] h h'/\∃ b,v=.slice (some ⟨b,0,none⟩) (l.count 47+1) (l.count 47+1)/\h.size<=b/\h'[b]?=some (.cells ⟨(bq (dA l)).map λx=>.string x⟩ 9 (0,0))):=by
 refine aH aI Tryz.func104 rfl ok104 (by simp [Tryz.f104]) ?_;(conv=>whnf);refine au.i (UC l hl h) λv h1 k1 hv=>?_;obtain ⟨b,rfl,h1,h2⟩:=hv;(conv=>whnf);exact ⟨k1,b,rfl,h1,h2⟩
def Lh (p:Option (List (List UInt8)))(h:Heap)(v:Value)(h':Heap):Prop:=
 match p with
 | none=>v=.tuple #[.slice none 0 0,.int .i64 3]
 | some l=>∃ a c,v=.tuple #[.slice a l.length c,.int .i64 0]/\Sl h' a l.length c (bq l)/\∀ b∈ay a,h.size<=b
theorem wL (l:List UInt8)(hl:l.length<=140737488351232)(h:Heap):aD Tryz.prog 60 [.string (ba l)] h (λv h'=>Keeps [] h h'/\Lh (bH l) h v h'):=by
 have hs:(ba l).size=l.length:=dN l;refine aH aI Tryz.func60 rfl ok60 (by simp [Tryz.f60]) ?_;(conv=>whnf);refine au.i (Uu l hl h) λv h1 k1 hv=>?_;by_cases hh:l.head?=some 47
 ·rw [if_pos hh] at hv;subst hv;obtain ⟨r,rfl⟩:∃ r,l=47::r:=by
   cases l with
   | nil=>simp at hh
   | cons c r=>simp at hh;exact ⟨r,by rw [hh]⟩
  have hd:(47::r).drop 1=r:=rfl;rw [hd];(conv=>whnf);refine ak.i (λhc=>?_) (λhc=>?_)
  ·(conv=>whnf);have h120:120<(47::r).length:=by
    rw [hs] at hc;simp at hc;simp only [List.length_cons];omega
   refine ⟨k1,?_⟩;have:bH (47::r)=none:=by
    unfold bH;simp only;rw [if_pos (.inr h120)]
   rw [this];rfl
  ·have h120:¬ 120<(47::r).length:=by
    rw [hs] at hc;simp at hc;simp only [List.length_cons];omega
   have hcond:¬ ((47:UInt8)≠47\/120<(47::r).length):=by
    rintro (h|h)
    ·exact h rfl
    ·exact h120 h
   have e0:(ByteArray.mk #[])=⟨([]:List UInt8).toArray⟩:=rfl;(conv=>whnf);refine ak.i (λhd=>?_) (λhd=>?_)
   ·(conv=>whnf);have hr:r=[]:=by
     have hd:((ByteArray.mk r.toArray).toList==(ByteArray.mk #[]).toList)=true:=hd;rw [e0,iV] at hd;simpa using hd
    refine ⟨k1,?_⟩;have:bH (47::r)=some []:=by
     unfold bH;simp only;rw [if_neg hcond,if_pos hr]
    rw [this];exact ⟨none,0,rfl,Sl.nil,by simp [ay]⟩
   ·have hr:¬ r=[]:=by
     have hd:((ByteArray.mk r.toArray).toList==(ByteArray.mk #[]).toList)=false:=hd;rw [e0,iV] at hd;simpa using hd
    have hrl:r.length<=120:=by simp only [List.length_cons] at h120;omega
    (conv=>whnf);refine au.i (Uv r (by omega) h1) λv h2 k2 hv=>?_;obtain ⟨b,rfl,hb,o2⟩:=hv;have hcl:=Li r;have hcc:r.count 47<=r.length:=List.count_le_length;have hsh:∀ x∈dA r,x.length<=140737488351232:=λx hx=>by have:=Bv hx;omega
    have S2:Sl h2 (some ⟨b,0,none⟩) (r.count 47+1) (r.count 47+1) (bq (dA r)):=Sl.l7 o2 (Fx hsh) (by rw [fO,hcl]) (by rw [fO,hcl];omega);(conv=>whnf);refine au.i (Lf S2 (by omega) hsh) λv h3 k3 hv=>?_;subst hv;have hp:bH (47::r)=if (dA r).all dG=true then some (dA r) else none:=by
     unfold bH;simp only;rw [if_neg hcond,if_neg hr]
    (conv=>whnf);refine ak.i (λhe=>?_) (λhe=>?_)
    ·(conv=>whnf);have:¬ (dA r).all dG=true:=by
      intro h;rw [h] at he;cases he
     refine ⟨k1.trans (k2.trans k3),?_⟩;rw [hp,if_neg this];rfl
    ·(conv=>whnf);have:(dA r).all dG=true:=by
      cases h:(dA r).all dG with
      | true=>rfl
      | false=>rw [h] at he;cases he
     refine ⟨k1.trans (k2.trans k3),?_⟩;rw [hp,if_pos this];refine ⟨some ⟨b,0,none⟩,r.count 47+1,by rw [hcl],?_,λx hx=>?_⟩
     ·rw [hcl];exact S2.keep k3
     ·simp [ay] at hx;have:=k1.size;omega
 ·rw [if_neg hh] at hv;subst hv;(conv=>whnf);refine ak.t rfl ?_;(conv=>whnf);refine ⟨k1,?_⟩;have:bH l=none:=by
   unfold bH;cases l with
   | nil=>rfl
   | cons c r=>
    simp only;rw [if_pos (.inl (by simpa using hh))]
  rw [this];rfl
theorem yM (a b:List (List UInt8)):bJ (a++b)=bJ a++bJ b:=by simp [bJ]
theorem pU (x:List UInt8)(r:List (List UInt8)):bJ (x::r)=47::(x++bJ r):=by simp [bJ]
theorem yK {x:List UInt8}{l:List (List UInt8)}(h:x∈l):x.length<=(bJ l).length:=by
 induction l with
 | nil=>cases h
 | cons y r ih=>
  rw [pU];simp only [List.length_cons,List.length_append];rcases List.mem_cons.1 h with rfl|h
  ·omega
  ·have:=ih h;omega
theorem yL (l:List (List UInt8))(i:Nat):(bJ (l.take i)).length<=(bJ l).length:=by
 have:bJ l=bJ (l.take i)++bJ (l.drop i):=by rw [<-yM,List.take_append_drop]
 rw [this];simp
theorem Ur {h:Heap}{a:Option Addr}{n c:Nat}{l:List (List UInt8)}(S:Sl h a n c (bq l))(hb:(bJ l).length<=10000):aD Tryz.prog 224 [.slice a n c,.string ⟨#[47]⟩] h (λv h'=>Keeps [] h h'/\v=.string (ba ((bJ l).drop 1))):=by
 have hl:=S.hlen;rw [fO] at hl;have hn:n<=10000:=by
  have:l.length<=(bJ l).length:=by
   clear S hl hb
   induction l with
   | nil=>simp
   | cons x r ih=>rw [pU];simp only [List.length_cons,List.length_append];omega
  omega
 refine aH aI Tryz.func224 rfl ok224 (by simp [Tryz.f224]) ?_;(conv=>whnf);refine ak.i (λhc=>?_) (λhc=>?_)
 ·(conv=>whnf);have h0:l=[]:=List.eq_nil_of_length_eq_zero (by simp at hc;omega);subst h0;exact ⟨Keeps.refl _ _,rfl⟩
 ·(conv=>whnf);(try refine aU.pass ?_;conv=>whnf);refine ak.i (λhd=>?_) (λhd=>?_)
  ·obtain ⟨x,rfl⟩:∃ x,l=[x]:=by
    have:l.length=1:=by simp at hd;omega
    match l,this with
    | [x],_=>exact ⟨x,rfl⟩
   obtain ⟨b,off,hb',_,hcell⟩:=S.at1 0 (by simp [bq]);(conv=>whnf);refine aQ.i 0 rfl (by simp at hd;omega) hb' ?_;(conv=>whnf);refine ax.i hcell ?_;(conv=>whnf);refine ⟨Keeps.refl _ _,?_⟩;simp [bq,bJ,One.val]
  ·have h2:2<=l.length:=by
    simp at hc hd;omega
   (conv=>whnf);(try refine aU.pass ?_;conv=>whnf);refine ak.t rfl ?_;have e1:IntKind.i64.wrap ((n:Int)-1)=((n-1:Nat):Int):=wrapN (by omega) (by omega);have hq:922337203685477<=IntKind.i64.wrap ((9223372036854775807:Int).tdiv ((n-1:Nat):Int)):=by
    have h3:(9223372036854775807:Int).tdiv ((n-1:Nat):Int)=((9223372036854775807/(n-1):Nat):Int):=rfl;have h4:9223372036854775807/10000<=9223372036854775807/(n-1):=Nat.div_le_div_left (by omega) (by omega);have h5:9223372036854775807/(n-1)<=9223372036854775807:=Nat.div_le_self _ _;rw [h3,dQ (by omega) (by omega)];have:9223372036854775807/10000=922337203685477:=by decide
    omega
   (conv=>whnf);refine aU.pass ?_;(conv=>whnf);rw [e1];refine dH.i (by omega) ?_;(conv=>whnf);refine ak.f ?_ ?_
   ·have h1:(ByteArray.mk #[47]).size=1:=rfl;rw [h1];simp only [decide_eq_false_iff_not];omega
   have jl:∀ i,i<=n->i<=(bJ (l.take i)).length:=λi hi=>by
    have hgen:∀ r:List (List UInt8),r.length<=(bJ r).length:=λr=>by
     induction r with
     | nil=>simp
     | cons x r ih=>rw [pU];simp only [List.length_cons,List.length_append];omega
    have:=hgen (l.take i);rw [List.length_take] at this;omega
   have jb:∀ i,(bJ (l.take i)).length<=10000:=λi=>Nat.le_trans (yL l i) hb;have js:∀ i (hi:i<l.length),(bJ (l.take (i+1))).length=(bJ (l.take i)).length+(l[i].length+1):=λi hi=>by
    rw [List.take_succ_eq_append_getElem hi,yM,List.length_append,pU];simp [bJ]
   (conv=>whnf);refine bP.on [0,1,5,39,40,41] [] (λi:Nat=>[(0,.v (.slice a n c)),(1,.v (.string ⟨#[47]⟩)),(5,.v (.int .i64 ((n-1+(bJ (l.take i)).length-i:Nat):Int))),(39,.v (.slice a n c)),(40,.v (.int .i64 (n:Int))),(41,.v (.int .i64 (i:Int)))]) (λ_=>[])
    (λi h'=>i<=n/\Keeps [] h h') (λi=>n-i) 0 ?_ ?_
   ·(conv=>whnf);refine ⟨0,rfl,?_,rfl,Nat.zero_le _,Keeps.refl _ _⟩;have h1:(ByteArray.mk #[47]).size=1:=rfl;rw [h1,e1,wrapN (x:=((1:Nat):Int)*((n-1:Nat):Int)) (n:=n-1) (by omega) (by omega),wrapN (n:=n-1) (by omega) (by omega)];simp [bJ]
   ·rintro i h3 ⟨hi,k3⟩;(conv=>whnf);refine ak.i (λhf=>?_) (λhf=>?_)
    ·have hi1:i<l.length:=by simp at hf;omega
     obtain ⟨b,off,hb',_,hcell⟩:=(S.keep k3).at1 i (by rw [fO];exact hi1);have e:(bq l)[i]'(by rw [fO];exact hi1)=ba l[i]:=by simp [bq]
     rw [e] at hcell;have hsz:(ba l[i]).size=l[i].length:=dN _;have j1:=jl i (by omega);have j2:=jb (i+1);have j3:=js i hi1;(conv=>whnf);refine aQ.i i rfl (by omega) hb' ?_;(conv=>whnf);refine ax.i hcell ?_;(conv=>whnf);(try refine aU.pass ?_;conv=>whnf);refine ak.f ?_ ?_
     ·rw [dQ (by omega) (by omega),hsz];simp only [decide_eq_false_iff_not];omega
     (conv=>whnf);refine ⟨n-(i+1),by omega,?_⟩;(conv=>whnf);refine ⟨i+1,rfl,?_,rfl,by omega,k3⟩;rw [hsz,wrapN (x:=(i:Int)+1) (n:=i+1) (by simp) (by omega),wrapN (n:=n-1+(bJ (l.take (i+1))).length-(i+1)) (by omega) (by omega)]
    ·have hi1:i=n:=by simp at hf;omega
     subst hi1;have hlt:l.take i=l:=by rw [hl];exact List.take_length
     rw [hlt];have jn:=jl i (Nat.le_refl _);rw [hlt] at jn;generalize hN:i-1+(bJ l).length-i=N;have hN1:(bJ l).length=N+1:=by omega
     (conv=>whnf);refine aR.i λb4 h4 e4 s4 o4 k4=>?_;have B4:iE h4 b4 none none 0 0 []:=⟨o4,.inl ⟨rfl,rfl,rfl,rfl⟩,by simp [ay],.inl rfl⟩;(conv=>whnf);refine au.m (IU B4 N (by omega) (by omega)) (by simp [aA]) λv h5 k5 hv=>?_;obtain ⟨g,cg,B5,hcg,hg⟩:=hv;have k05:Keeps [] h h5:=(k3.trans k4).dL k5 (by simp;have:=k3.size;omega);obtain ⟨x,r,rfl⟩:∃ x r,l=x::r:=by
      match l,h2 with
      | x::r,_=>exact ⟨x,r,rfl⟩
     obtain ⟨b,off,hb',_,hcell⟩:=(S.keep k05).at1 0 (by simp [bq]);have ex:(bq (x::r))[0]'(by simp [bq])=ba x:=by simp [bq]
     rw [ex] at hcell;have hsz:(ba x).size=x.length:=dN _;rw [pU] at hN1 hb;simp only [List.length_cons,List.length_append] at hN1 hb hl;(conv=>whnf);refine aQ.i 0 rfl (by omega) hb' ?_;(conv=>whnf);refine ax.i hcell ?_;(conv=>whnf);refine au.m (vo B5 (ba x) (by rw [hsz];omega)) (by simp [aA]) λv h6 k6 hv=>?_;obtain ⟨rfl,a6,c6,B6,n6,q6⟩:=hv;obtain ⟨rfl,rfl⟩:=q6 (by rw [hsz];omega);have z3:=k3.size;have z4:=k4.size;have z5:=k5.size;have k06:Keeps [] h h6:=k05.dL k6 (λy hy=>by simp [ay] at hy;omega);rw [hsz,Lg,Nat.zero_add,List.nil_append] at B6;(conv=>whnf);refine dm.i 1 i rfl rfl (by omega) S.hcap ?_;have P:=S.part (l:=1) (r:=i) (by omega) (Nat.le_refl _);have hbr:((bq (x::r)).take i).drop 1=bq r:=by
      have:(bq (x::r)).length=i:=by rw [fO];simp;omega
      rw [<-this,List.take_length];simp [bq]
     rw [hbr] at P;(conv=>whnf);have P1:Sl h (iZ a c 1 1) (i-1) (c-1) (bq r):=P;clear P;have rb:∀ j,(bJ (r.take j)).length<=(bJ r).length:=λj=>yL r j;refine bP.on [1,8,63,64,65] [] (λj:Nat=>[(1,.v (.string ⟨#[47]⟩)),(8,.v (.pointer (some ⟨b4,0,none⟩))),(63,.v (.slice (iZ a c 1 1) (i-1) (c-1))),(64,.v (.int .i64 ((i-1:Nat):Int))),(65,.v (.int .i64 (j:Int)))]) (λ_=>[])
      (λj h'=>j<=i-1/\Keeps [] h h'/\iE h' b4 (some ⟨b4,0,none⟩) (some ⟨g,0,none⟩) (x++bJ (r.take j)).length c6 (x++bJ (r.take j))) (λj=>i-j) 0 ?_ ?_
     ·(conv=>whnf);refine ⟨0,rfl,rfl,rfl,Nat.zero_le _,k06,?_⟩;have e:x++bJ (r.take 0)=x:=by simp [bJ]
      rw [e];exact B6
     ·rintro j h7 ⟨hj,k7,B7⟩;(conv=>whnf);refine ak.i (λhf=>?_) (λhf=>?_)
      ·have hj1:j<r.length:=by simp at hf;omega
       obtain ⟨b,off,hb',_,hcell⟩:=(P1.keep k7).at1 j (by rw [fO];exact hj1);have e:(bq r)[j]'(by rw [fO];exact hj1)=ba r[j]:=by simp [bq]
       rw [e] at hcell;have hsj:(ba r[j]).size=r[j].length:=dN _;have jt:r.take (j+1)=r.take j++[r[j]]:=List.take_succ_eq_append_getElem hj1;have j2:=rb (j+1);rw [jt,yM,pU] at j2;have jz:bJ ([]:List (List UInt8))=[]:=rfl;rw [jz] at j2;simp only [List.length_append,List.length_cons,List.length_nil] at j2;(conv=>whnf);refine aQ.i j rfl (by omega) hb' ?_;(conv=>whnf);refine ax.i hcell ?_;(conv=>whnf);refine au.m (vo B7 ⟨#[47]⟩ (by
        have:(ByteArray.mk #[47]).size=1:=rfl;rw [this,List.length_append];omega)) (by simp [aA]) λv h8 k8 hv=>?_
       obtain ⟨rfl,a8,c8,B8,n8,q8⟩:=hv;have s47:(ByteArray.mk #[47]).size=1:=rfl;rw [s47] at B8 q8;obtain ⟨rfl,rfl⟩:=q8 (by rw [List.length_append];omega);(conv=>whnf);refine au.m (vo B8 (ba r[j]) (by rw [hsj,List.length_append];omega)) (by simp [aA]) λv h9 k9 hv=>?_;obtain ⟨rfl,a9,c9,B9,n9,q9⟩:=hv;rw [hsj] at B9 q9;obtain ⟨rfl,rfl⟩:=q9 (by rw [List.length_append];omega);rw [Lg] at B9;(conv=>whnf);refine ⟨i-(j+1),by omega,?_⟩;(conv=>whnf);refine ⟨j+1,rfl,by rw [wrapN (x:=(j:Int)+1) (n:=j+1) (by simp) (by omega)],rfl,by omega,(k7.dL k8 (λy hy=>by simp [ay] at hy;omega)).dL k9 (λy hy=>by simp [ay] at hy;omega),?_⟩;have e:x++bJ (r.take (j+1))=x++bJ (r.take j)++[47]++r[j]:=by
        rw [jt,yM,pU,jz];simp
       have e2:(x++bJ (r.take (j+1))).length=(x++bJ (r.take j)).length+1+r[j].length:=by rw [e];simp only [List.length_append,List.length_cons,List.length_nil]
       rw [e2,e];exact B9
      ·have hj1:j=r.length:=by simp at hf;omega
       subst hj1;rw [List.take_length] at B7;(conv=>whnf);refine au.m (Ak B7 (by rw [List.length_append];omega)) (by simp [aA]) λv h9 k9 hv=>?_;obtain ⟨rfl,B9⟩:=hv;(conv=>whnf);refine ⟨k7.dL k9 (λy hy=>by simp [ay] at hy;omega),?_⟩;rw [pU];rfl
def ni (l:List (List UInt8)):List UInt8:=if l=[] then [47] else bJ l
theorem Uq {h:Heap}{a:Option Addr}{n c:Nat}{l:List (List UInt8)}(S:Sl h a n c (bq l))(hl:l.all dG=true)(hb:(bJ l).length<=120):aD Tryz.prog 166 [.slice a n c] h (λv h'=>Keeps [] h h'/\v=.tuple #[.string (ba (ni l)),.int .i64 0]):=by
 have hn:=S.hlen;rw [fO] at hn;have hll:l.length<=120:=by
  have:=Fj (l:=l) λx hx=>KY (List.all_eq_true.1 hl x hx);omega
 have hx:∀ x∈l,x.length<=140737488351232:=λx hx=>by have:=yK hx;omega
 refine aH aI Tryz.func166 rfl ok166 (by simp [Tryz.f166]) ?_;(conv=>whnf);refine au.i (Ur S (by omega)) λv h1 k1 hv=>?_;subst hv;have e:(ByteArray.mk #[47])++ba ((bJ l).drop 1)=ba (ni l):=by
  have e1:(ByteArray.mk #[47])++ba ((bJ l).drop 1)=ba (47::(bJ l).drop 1):=by
   apply ByteArray.ext;rw [ByteArray.data_append];simp [ba]
  rw [e1];unfold ni;cases l with
  | nil=>rfl
  | cons x r=>rw [if_neg (by simp),pU];rfl
 have hp:(ni l).length<=120:=by
  unfold ni;split
  ·simp
  ·exact hb
 have hsz:(ByteArray.mk #[47]).size=1:=rfl;have hsb:(ba ((bJ l).drop 1)).size=((bJ l).drop 1).length:=dN _;(conv=>whnf);refine dH.i (by rw [hsz,hsb,List.length_drop];omega) ?_;(conv=>whnf);rw [e];have hpz:(ba (ni l)).size=(ni l).length:=dN _;refine ak.t (by simp;omega) ?_;(conv=>whnf);refine au.i (Lf (S.keep k1) (by omega) hx) λv h2 k2 hv=>?_;subst hv;rw [hl];(conv=>whnf);refine ak.f (by simp [di];omega) ?_;(conv=>whnf);exact ⟨k1.trans k2,rfl⟩
theorem Ui (l:List UInt8)(hl:l.length<=140737488351232)(h:Heap):aD Tryz.prog 107 [.string (ba l)] h (λv h'=>Keeps [] h h'/\v=match bH l with
 | none=>.tuple #[.string ⟨#[]⟩,.string ⟨#[]⟩,.int .i64 3]
 | some m=>if m=[] then .tuple #[.string ⟨#[]⟩,.string ⟨#[]⟩,.int .i64 1] else .tuple #[.string (ba (ni m.dropLast)),.string (ba (m.getLast?.getD [])),.int .i64 0]):=by
 refine aH aI Tryz.func107 rfl ok107 (by simp [Tryz.f107]) ?_;(conv=>whnf);refine au.i (wL l hl h) λv h1 k1 hv=>?_;cases hp:bH l with
 | none=>
  rw [hp] at hv;have hv:v=.tuple #[.slice none 0 0,.int .i64 3]:=hv;subst hv;(conv=>whnf);refine ak.t rfl ?_;(conv=>whnf);exact ⟨k1,rfl⟩
 | some m=>
  rw [hp] at hv;obtain ⟨a,c,rfl,S,nb⟩:=hv;obtain ⟨p1,p2,p3,p4⟩:=mE hp;have hm:=S.hlen;(conv=>whnf);refine ak.f rfl ?_;(conv=>whnf);refine ak.i (λhc=>?_) (λhc=>?_)
  ·(conv=>whnf);have:m=[]:=List.eq_nil_of_length_eq_zero (by simpa using hc);refine ⟨k1,?_⟩;simp only;rw [if_pos this]
  ·have hne:¬ m=[]:=by
    intro e;rw [e] at hc;simp at hc
   have hpos:0<m.length:=List.length_pos_iff.2 hne;have e1:IntKind.i64.wrap ((m.length:Int)-1)=((m.length-1:Nat):Int):=wrapN (by omega) (by omega);(conv=>whnf);rw [e1];refine dm.i 0 (m.length-1) rfl rfl (Nat.zero_le _) (by have:=S.hcap;omega) ?_;have P:=S.part (l:=0) (r:=m.length-1) (Nat.zero_le _) (by omega);rw [List.drop_zero,kE] at P;have hbt:(bq m).take (m.length-1)=bq m.dropLast:=by
    rw [List.dropLast_eq_take];simp [bq]
   rw [hbt] at P;have hall:m.dropLast.all dG=true:=List.all_eq_true.2 λx hx=>List.all_eq_true.1 p2 x (List.dropLast_subset _ hx);have hjl:(bJ m.dropLast).length<=120:=by
    rw [List.dropLast_eq_take];have:=yL m (m.length-1);rw [if_neg hne] at p4;rw [p4] at this;omega
   (conv=>whnf);rw [kE];refine au.i (Uq P hall hjl) λv h2 k2 hv=>?_;subst hv;obtain ⟨b,off,hb',_,hcell⟩:=(S.keep k2).at1 (m.length-1) (by rw [fO];omega);have e:(bq m)[m.length-1]'(by rw [fO];omega)=ba (m.getLast?.getD []):=by
    rw [List.getLast?_eq_getElem?,List.getElem?_eq_getElem (by omega)];simp [bq]
   rw [e] at hcell;(conv=>whnf);refine aQ.i (m.length-1) rfl (by omega) hb' ?_;(conv=>whnf);refine ax.i hcell ?_;(conv=>whnf);refine ⟨k1.trans k2,?_⟩;simp only;rw [if_neg hne];rfl
theorem Us (n:Nat)(hn:n<=1000000)(h:Heap):aD Tryz.prog 246 [.slice none 0 0,.int .i64 (n:Int)] h (λv h'=>Keeps [] h h'/\∃ a c,v=.slice a 0 c/\Own h' 9 1 a 0 c []/\∀ b∈ay a,h.size<=b):=by
 have e1:IntKind.i64.wrap ((n:Int)-IntKind.i64.wrap (((0:Nat):Int)-((0:Nat):Int)))=(n:Int):=by
  rw [wrapN (x:=((0:Nat):Int)-((0:Nat):Int)) (n:=0) (by simp) (by omega),wrapN (n:=n) (by simp) (by omega)]
 refine aH aI Tryz.func246 rfl ok246 (by simp [Tryz.f246]) ?_;(conv=>whnf);refine aU.pass ?_;(conv=>whnf);refine ak.f (by simp) ?_;(conv=>whnf);refine aU.pass ?_;(conv=>whnf);rw [e1];refine ak.i (λhc=>?_) (λhc=>?_)
 ·have hp:0<n:=by simp at hc;omega
  (conv=>whnf);refine dm.i 0 0 rfl rfl (Nat.le_refl _) (Nat.zero_le _) ?_;(conv=>whnf);rw [kE];refine aP.DL (aL:=16) rfl rfl rfl rfl rfl rfl rfl hp (by omega) (by decide) λb c h1 e1 s1 o1 hc k1=>?_;(conv=>whnf);refine dm.i 0 0 rfl rfl (Nat.le_refl _) (Nat.zero_le _) ?_;(conv=>whnf);refine ⟨k1,some ⟨b,0,none⟩,c,?_,.inr ⟨b,_,rfl,o1,rfl,by simp,rfl,Nat.zero_le _⟩,by simp [ay];omega⟩;rw [kE];rfl
 ·(conv=>whnf);exact ⟨Keeps.refl _ _,none,0,rfl,.inl ⟨rfl,rfl,rfl,rfl⟩,by simp [ay]⟩
theorem Fv:∀ l:List ByteArray,gM (l.map λx=>Value.string x)=true
 | []=>rfl
 | x::l=>by simpa [gM,tF] using Fv l
theorem Ut {h:Heap}{a:Option Addr}{n c:Nat}{xss:List (List ByteArray)}(S:Sl h a n c xss)(hb:xss.flatten.length<=1000)(hn:n<=1000):aD Tryz.prog 213 [.slice a n c] h
 (λv h'=>Keeps [] h h'/\∃ a' c',v=.slice a' xss.flatten.length c'/\Own h' 9 1 a' xss.flatten.length c' (xss.flatten.map λx=>.string x)/\∀ b∈ay a',h.size<=b):=by
 have hl:=S.hlen;have rP:∀ i (hi:i<xss.length),(xss.take (i+1)).flatten=(xss.take i).flatten++xss[i]:=by
  intro i hi;rw [List.take_succ_eq_append_getElem hi,List.flatten_append];simp
 have rQ:∀ i,(xss.take i).flatten.length<=xss.flatten.length:=by
  intro i;have:xss.flatten=(xss.take i).flatten++(xss.drop i).flatten:=by rw [<-List.flatten_append,List.take_append_drop]
  rw [this,List.length_append];omega
 refine aH aI Tryz.func213 rfl ok213 (by simp [Tryz.f213]) ?_;(conv=>whnf);refine bP.on [0,3,9,10,11] [] (λi:Nat=>[(0,.v (.slice a n c)),(3,.v (.int .i64 ((xss.take i).flatten.length:Int))),(9,.v (.slice a n c)),(10,.v (.int .i64 (n:Int))),(11,.v (.int .i64 (i:Int)))]) (λ_=>[])
  (λi h'=>i<=n/\h'=h) (λi=>n-i) 0 ?_ ?_
 ·(conv=>whnf);exact ⟨0,rfl,rfl,rfl,Nat.zero_le _,rfl⟩
 ·rintro i h2 ⟨hi,rfl⟩;(conv=>whnf);refine ak.i (λhc=>?_) (λhc=>?_)
  ·have hi1:i<xss.length:=by simp at hc;omega
   obtain ⟨b,off,hb',cs,⟨xa,xn,xc,rfl,SX⟩,hcell⟩:=S.at_ i hi1;(conv=>whnf);(try refine aU.pass ?_;conv=>whnf);refine aQ.i i rfl (by omega) hb' ?_;(conv=>whnf);refine ax.i (hcell 0 (by simp)) ?_;have f1:=rP i hi1;have f2:=rQ (i+1);have f3:(xss.take (i+1)).flatten.length=(xss.take i).flatten.length+xn:=by rw [f1,List.length_append,SX.hlen]
   (conv=>whnf);rw [wrapN (n:=(xss.take (i+1)).flatten.length) (by rw [f3];simp) (by omega)];refine ak.f (by simp) ?_;(conv=>whnf);refine ⟨n-(i+1),by omega,?_⟩;(conv=>whnf);exact ⟨i+1,rfl,by rw [wrapN (x:=(i:Int)+1) (n:=i+1) (by simp) (by omega)],rfl,by omega,rfl⟩
  ·have hi1:i=xss.length:=by simp at hc;omega
   subst hi1;(conv=>whnf);rw [List.take_length];refine au.i (Us xss.flatten.length (by omega) h2) λv h3 k3 hv=>?_;obtain ⟨a3,c3,rfl,O3,n3⟩:=hv;(conv=>whnf);refine bP.on [6,25,26,27] [] (λq:Nat×Option Addr×Nat=>[(6,.v (.slice q.2.1 (xss.take q.1).flatten.length q.2.2)),(25,.v (.slice a n c)),(26,.v (.int .i64 (n:Int))),(27,.v (.int .i64 (q.1:Int)))]) (λ_=>[])
    (λq h'=>q.1<=n/\Keeps [] h2 h'/\Own h' 9 1 q.2.1 (xss.take q.1).flatten.length q.2.2 ((xss.take q.1).flatten.map λx=>.string x)/\∀ b∈ay q.2.1,h2.size<=b) (λq=>n-q.1) (0,a3,c3) ?_ ?_
   ·(conv=>whnf);exact ⟨(0,a3,c3),rfl,rfl,rfl,Nat.zero_le _,k3,O3,n3⟩
   ·rintro ⟨i,ai,ci⟩ h4 ⟨hi,k4,O4,n4⟩;simp only at hi O4 n4;(conv=>whnf);refine ak.i (λhc=>?_) (λhc=>?_)
    ·have hi1:i<xss.length:=by simp at hc;omega
     obtain ⟨b,off,hb',cs,⟨xa,xn,xc,rfl,SX⟩,hcell⟩:=S.at_ i hi1;have hc4:=hcell.keep k4;(conv=>whnf);refine aQ.i i rfl (by omega) hb' ?_;(conv=>whnf);refine ax.i (hc4 0 (by simp)) ?_;have f1:=rP i hi1;have f2:=rQ (i+1);have f3:(xss.take (i+1)).flatten.length=(xss.take i).flatten.length+xn:=by rw [f1,List.length_append,SX.hlen]
     have SX4:=SX.keep k4;have oH:=SX.hlen;(conv=>whnf);rcases Nat.eq_zero_or_pos xn with h0|h0
     ·subst h0;have hx0:xss[i]=[]:=List.eq_nil_of_length_eq_zero oH.symm;have hcap:(xss.take i).flatten.length<=ci:=by
       rcases O4 with ⟨rfl,h1,rfl,h2⟩|⟨b,c,_,_,_,_,_,h6⟩
       ·omega
       ·exact h6
      refine aP.append0 rfl rfl rfl hcap ?_;(conv=>whnf);refine ⟨n-(i+1),by omega,?_⟩;(conv=>whnf);refine ⟨(i+1,ai,ci),rfl,?_,rfl,by simp only;omega,k4,?_,n4⟩
      ·have e:(xss.take (i+1)).flatten.length=(xss.take i).flatten.length:=by rw [f3,Nat.add_zero]
       simp only [e,Nat.add_zero];rw [wrapN (x:=(i:Int)+1) (n:=i+1) (by simp) (by omega)]
      ·simp only;rw [f1,hx0,List.append_nil];exact O4
     ·obtain ⟨xb,xo,rfl⟩:=SX.rR h0;refine jO (e:=9) (sz:=1) (aL:=16) (new:=xss[i].map λx=>.string x) rfl rfl rfl rfl rfl rfl rfl O4 (by simp [oH]) (SX4.cells1) (Fv _) (by omega) (by decide) (by simp [aA]) ?_;intro a5 c5 h5 O5 k5 n5;(conv=>whnf);refine ⟨n-(i+1),by omega,?_⟩;(conv=>whnf);refine ⟨(i+1,a5,c5),rfl,?_,rfl,by simp only;omega,k4.dL k5 n4,?_,λb hb=>?_⟩
      ·simp only [f3];rw [wrapN (x:=(i:Int)+1) (n:=i+1) (by simp) (by omega)]
      ·simp only;rw [f1,List.length_append,<-oH,List.map_append];exact O5
      ·rcases n5 b hb with h|h
       ·exact n4 b h
       ·have:=k4.size;omega
    ·have hi1:i=xss.length:=by simp at hc;omega
     subst hi1;(conv=>whnf);rw [List.take_length] at O4;refine ⟨k4,ai,ci,?_,O4,n4⟩;rw [List.take_length]
theorem Fw (h:Heap):∀ xs:List ByteArray,(∀ x∈xs,mK x)->iR h (xs.map λx=>Value.string x) xs
 | [],_=>rfl
 | x::l,hx=>⟨[.string x],_,rfl,⟨rfl,hx x (by simp)⟩,Fw h l (λy hy=>hx y (by simp [hy]))⟩
theorem Uo {h:Heap}{a b:Option Addr}{n c m d:Nat}{x y:List (List UInt8)}(S:Sl h a n c (bq x))(T:Sl h b m d (bq y))(hb:x.length+y.length<=1000)(hx:∀ z∈x++y,z.length<=140737488351232):aD Tryz.prog 151 [.slice a n c,.slice b m d] h (λv h'=>Keeps [] h h'/\∃ a' c',v=.slice a' (x++y).length c'/\Sl h' a' (x++y).length c' (bq (x++y))/\∀ z∈ay a',h.size<=z):=by
 refine aH aI Tryz.func151 rfl ok151 (by simp [Tryz.f151]) ?_;(conv=>whnf);refine aR.i λb4 h4 e4 s4 o4 k4=>?_;have kN:h4[b4]?=some (.cells ⟨[.slice a n c,.slice b m d]⟩ 52 (0,0)):=o4;have S2:Sl h4 (some ⟨b4,0,none⟩) 2 2 [bq x,bq y]:=⟨rfl,Nat.le_refl _,by simp,λi hi=>⟨b4,0,rfl,[if i=0 then .slice a n c else .slice b m d],by
  have hi':i<2:=hi;have:i=0\/i=1:=by omega
  rcases this with rfl|rfl
  ·exact ⟨_,_,_,rfl,S.keep k4⟩
  ·exact ⟨_,_,_,rfl,T.keep k4⟩,λj hj=>by
  have hj0:j=0:=by simpa using hj
  subst hj0;have hi':i<2:=hi;have:i=0\/i=1:=by omega
  simp only [Heap.cell?,kN];rcases this with rfl|rfl <;> rfl⟩⟩
 have hfl:[bq x,bq y].flatten=bq (x++y):=by simp [bq]
 have hlen:(bq (x++y)).length=(x++y).length:=fO _;(conv=>whnf);refine au.i (Ut S2 (by rw [hfl,hlen,List.length_append];omega) (by decide)) λv h5 k5 hv=>?_;obtain ⟨a5,c5,rfl,O5,n5⟩:=hv;rw [hfl,hlen] at O5;rw [hfl,hlen];(conv=>whnf);have R:=O5.sl (α:=ByteArray) (xs:=bq (x++y)) (Fw _ _ (λz hz=>Fx hx z hz)) rfl (by decide) (by rw [hlen,List.length_append];omega);exact ⟨k4.trans k5,a5,c5,rfl,R,λz hz=>by have:=n5 z hz;omega⟩
set_option maxHeartbeats 2000000
structure fZ (S:FS):Prop where
 root:(S.C 1).kind=2
 names:∀ n,0<=n->n<24->(S.C n).kind=2->∀ e∈S.nm n,0<=e.node/\e.node<24/\(S.C e.node).kind≠0
theorem Lb {h:Heap}{V:VL}{M:aV}{X:VS}(A:At h V M X){S:FS}(I:bK X.now S){n:Int}(hn:0<=n/\n<24)(hk:(S.C n).kind≠0):aD Tryz.prog 149 [.pointer (some ⟨V.v,0,none⟩),.int .i64 n] h (λv h'=>Keeps [V.sb] h h'/\v=.tuple #[.agg ⟨(S.C n).cells⟩,.int .i64 0]/\At h' V M (eP X n)):=by
 have bl:=A.blt;have hcr:gU (bU X.now (8+n*8) 8)=some (S.C n):=by rw [I.card n hn.1 hn.2];exact qZ (I.node n hn.1 hn.2).right
 refine aH aI Tryz.func149 rfl ok149 (by simp [Tryz.f149]) ?_;(conv=>whnf);refine aR.i λb1 h1 e1 s1 o1 k1=>?_;have nb1:∀ b∈V.blocks,b≠b1:=λb hb=>by have:=bl b hb;omega
 (conv=>whnf);refine au.m (sN (A.on k1) n) (by simp [aA,bg];exact λe=>nb1 V.sb (by simp [VL.blocks]) e.symm) λv h2 k2 hv=>?_;rw [if_pos hn] at hv;obtain ⟨rfl,A2⟩:=hv;rw [hcr];unfold qb;(conv=>whnf);refine aR.i λb3 h3 e3 s3 o3 k3=>?_;(conv=>whnf);refine aN.i λh4 s4 k4=>?_;(conv=>whnf);refine ak.f ?_ ?_
 ·simp [di];exact hk
 (conv=>whnf);refine aN.i λh5 s5 k5=>?_;(conv=>whnf);have z2:=k2.size;have bl2:=A2.blt;have A5:At h5 V M (eP X n):=((A2.on k3).keep k4 (λb hb=>by have:=bl2 b hb;simp;omega)).keep k5 (λb hb=>by simp;exact nb1 b hb);refine ⟨?_,rfl,A5⟩;exact (((k1.mono (by simp)).trans k2).cu k3).m1 k4 (by omega) |>.m1 k5 (by omega)
theorem Uj (s:List UInt8):bH (s.take 121)=bH s:=by
 by_cases h:s.length<=121
 ·rw [List.take_of_length_le h]
 ·have h1:∀ t:List UInt8,120<t.length->bH t=none:=by
   intro t ht;unfold bH;cases t with
   | nil=>rfl
   | cons c r=>simp only;rw [if_pos (.inr ht)]
  rw [h1 _ (by rw [List.length_take];omega),h1 _ (by omega)]
theorem Uk {h:Heap}{V:VL}{M:aV}{X:VS}(A:At h V M X){n:Int}{c:aB}{m:List Int}{s:List UInt8}(F:gm X.now n c m s):aD Tryz.prog 150 [.pointer (some ⟨V.v,0,none⟩),.agg ⟨c.cells⟩] h (λv h'=>Keeps [] h h'/\match bH s with
 | none=>v=.tuple #[.slice none 0 0,.int .i64 15]
 | some l=>∃ a k,v=.tuple #[.slice a l.length k,.int .i64 0]/\Sl h' a l.length k (bq l)/\∀ b∈ay a,h.size<=b):=by
 have hfit:=F.fits;refine aH aI Tryz.func150 rfl ok150 (by simp [Tryz.f150]) ?_;(conv=>whnf);refine aR.i λb1 h1 e1 s1 o1 k1=>?_;(conv=>whnf);refine au.i (Cb (A.on k1) c F.ok F.szr F.mG 0 121) λv h2 k2 hv=>?_;have hrd:rU X.now c 0 121=(s.take 121,0):=by
  rw [Cc F];unfold iO;rw [if_neg (by omega)];by_cases h0:(s.length:Int)<=0
  ·rw [if_pos h0];have:s=[]:=List.eq_nil_of_length_eq_zero (by omega);rw [this];rfl
  ·rw [if_neg h0]
   congr 1
   rw [show (0:Int).toNat=0 from rfl,List.drop_zero];have:(min (s.length:Int) (0+121)).toNat=min s.length 121:=by omega
   rw [this];rw [show min s.length 121=min 121 s.length by omega,<-List.take_take,List.take_length]
 rw [hrd] at hv;subst hv;(conv=>whnf);refine ak.f rfl ?_;(conv=>whnf);refine au.i (wL (s.take 121) (by rw [List.length_take];omega) h2) λv h3 k3 hv=>?_;rw [Uj] at hv;have z1:=k1.size;have z2:=k2.size;cases hp:bH s with
 | none=>
  rw [hp] at hv;have hv:v=.tuple #[.slice none 0 0,.int .i64 3]:=hv;subst hv;(conv=>whnf);refine ak.t rfl ?_;(conv=>whnf);exact ⟨k1.trans (k2.trans k3),rfl⟩
 | some l=>
  rw [hp] at hv;obtain ⟨a,k,rfl,S3,nb⟩:=hv;(conv=>whnf);refine ak.f rfl ?_;(conv=>whnf);exact ⟨k1.trans (k2.trans k3),a,k,rfl,S3,λb hb=>by have:=nb b hb;omega⟩
theorem La {S:FS}{n:Int}{name:List UInt8}:(aX S).find n name=(cK (S.nm n) name).map (·.node):=rfl
theorem zb {F:Fs}{root:Int}{follow:Bool}{f:Nat}{at_:Int}{links:Nat}{name:List UInt8}{rest:List (List UInt8)}:dW F root follow (f+1) at_ links (name::rest)=(if F.kind at_≠2 then (0,6)
 else (match F.find at_ name with
  | none=>(0,4)
  | some next=>
   if F.kind next≠3\/(rest=[]/\follow=false) then dW F root follow f next links rest
   else if 8<links+1 then (0,11)
   else (match bH (F.data next) with
    | none=>(0,15)
    | some head=>dW F root follow f root (links+1) (head++rest)))):=rfl
structure WS where
 f:Nat
 links:Nat
 l:List (List UInt8)
 a:Option Addr
 n:Nat
 c:Nat
 s:List Int
def lW (S:FS)(r:Int×Int):Value:=.tuple #[.int .i64 r.1,.agg ⟨(if r.2=0 then S.C r.1 else aB.zero).cells⟩,.int .i64 r.2]
theorem Uh {h:Heap}{V:VL}{M:aV}{X:VS}(A:At h V M X){S:FS}(I:bK X.now S)(C:fZ S)(follow:Bool){a:Option Addr}{n c:Nat}{l:List (List UInt8)}(T:Sl h a n c (bq l))(ha:∀ b∈ay a,b≠V.sb)(hl:l.length<=60)(hx:∀ x∈l,x.length<=200) :
 aD Tryz.prog 101 [.pointer (some ⟨V.v,0,none⟩),.slice a n c,.bool follow] h (λv h'=>Keeps [V.sb] h h'/\v=lW S (dW (aX S) 1 follow 600 1 0 l)/\∃ s,At h' V M { X with seen:=s }/\1∈s/\((dW (aX S) 1 follow 600 1 0 l).2=0->(dW (aX S) 1 follow 600 1 0 l).1∈s)):=by
 have bl:=A.blt;have hE:(dW (aX S) 1 follow 600 1 0 l).2 ≠ -1:=Bt 600 1 0 l (by decide) (by omega);generalize hR:dW (aX S) 1 follow 600 1 0 l=R at hE;have hk1:(S.C 1).kind≠0:=by rw [C.root];decide
 refine aH aI Tryz.func101 rfl ok101 (by simp [Tryz.f101]) ?_;(conv=>whnf);refine aR.i λb1 h1 e1 s1 o1 k1=>?_;have nb1:∀ b∈V.blocks,b≠b1:=λb hb=>by have:=bl b hb;omega
 have msb:V.sb∈V.blocks:=by simp [VL.blocks]
 (conv=>whnf);refine bP.on [0,1,2,7,9] [7] (λq:WS=>[(0,.v (.pointer (some ⟨V.v,0,none⟩))),(1,.v (.slice q.a q.n q.c)),(2,.v (.bool follow)),(7,.lp 7 0),(9,.v (.int .i64 (q.links:Int)))]) (λ_=>[(7,b1,aB.zero.cells)])
  (λq h'=>q.links<=8/\Keeps [V.sb] h h'/\h1.size<=h'.size/\At h' V M { X with seen:=q.s }/\Sl h' q.a q.n q.c (bq q.l)/\(∀ b∈ay q.a,b≠V.sb)/\(∀ x∈q.l,x.length<=200)/\q.l.length<=60+60*q.links/\dW (aX S) 1 follow q.f 1 q.links q.l=R) (λq=>q.f) ⟨600,0,l,a,n,c,X.seen⟩ ?_ ?_
 ·(conv=>whnf);exact ⟨⟨600,0,l,a,n,c,X.seen⟩,rfl,rfl,rfl,Nat.zero_le _,k1.mono (by simp),Nat.le_refl _,A.on k1,T.keep k1,ha,hx,by simpa using hl,hR⟩
 ·rintro ⟨f,links,l,a,n,c,s0⟩ h2 ⟨q1,k2,z2,A2,T2,a2,x2,l2,r2⟩;simp only at q1 A2 T2 a2 x2 l2 r2;have bl2:=A2.blt;have nl:=T2.hlen;rw [fO] at nl;(conv=>whnf);refine au.m (Lb A2 I (n:=1) (by decide) hk1) (by simp [aA,bg];exact λe=>nb1 V.sb msb e.symm) λv h3 k3 hv=>?_;obtain ⟨rfl,A3⟩:=hv;(conv=>whnf);refine aR.i λb4 h4 e4 s4 o4 k4=>?_;(conv=>whnf);refine aN.i λh5 s5 k5=>?_;(conv=>whnf);refine ak.f rfl ?_;have z3:=k3.size;have k35:Keeps [] h3 h5:=k4.new1 k5 (by omega);have A5:=A3.on k35;have T5:=(T2.je k3 (λb hb=>by simpa using a2 b hb)).keep k35;have bl3:=A3.blt;have hb4:∀ b∈V.blocks,b≠b4:=λb hb=>by have:=bl3 b hb;omega
  (conv=>whnf);refine bP.on [0,1,2,7,9,10,11,29,30,31] [7,11] (λq:Nat×Int×List Int=>[(0,.v (.pointer (some ⟨V.v,0,none⟩))),(1,.v (.slice a n c)),(2,.v (.bool follow)),(7,.lp 7 0),(9,.v (.int .i64 (links:Int))),(10,.v (.int .i64 q.2.1)),(11,.lp 11 0),(29,.v (.slice a n c)),(30,.v (.int .i64 (n:Int))),(31,.v (.int .i64 (q.1:Int)))]) (λq=>[(7,b1,aB.zero.cells),(11,b4,(S.C q.2.1).cells)])
   (λq h'=>q.1<=n/\Keeps [V.sb] h h'/\h5.size<=h'.size/\At h' V M { X with seen:=q.2.2 }/\Sl h' a n c (bq l)/\(0<=q.2.1/\q.2.1<24)/\(S.C q.2.1).kind≠0/\(1∈q.2.2/\q.2.1∈q.2.2)/\dW (aX S) 1 follow (f-q.1) q.2.1 links (l.drop q.1)=R) (λq=>n-q.1) (0,1,lg s0 1) ?_ ?_
  ·(conv=>whnf);refine ⟨(0,1,lg s0 1),rfl,rfl,rfl,Nat.zero_le _,?_,Nat.le_refl _,A5,T5,(show (0:Int)<=1/\(1:Int)<24 by decide),hk1,⟨mH.2 (.inr rfl),mH.2 (.inr rfl)⟩,by simpa using r2⟩;exact (k2.trans k3).cu k35
  ·rintro ⟨i,at_,s6⟩ h6 ⟨hi,k6,z6,A6,T6,rat,Ul,m6,r6⟩;simp only at hi A6 rat Ul m6 r6;have bl6:=A6.blt;obtain ⟨f',hf'⟩:∃ f',f-i=f'+1:=by
    cases hfi:f-i with
    | zero=>
     exfalso;rw [hfi] at r6;apply hE;rw [<-r6];rfl
    | succ f'=>exact ⟨f',rfl⟩
   rw [hf'] at r6;have stop:∀ (e:Int) (h7 h8:Heap),e≠0->Keeps [V.sb] h h7->h1.size<=h7.size->(∃ s,At h7 V M { X with seen:=s }/\1∈s)->Keeps [b1] h7 h8->R=(0,e)->Keeps [V.sb] h h8/\Value.tuple #[.int .i64 0,.agg ⟨aB.zero.cells⟩,.int .i64 e]=lW S R/\∃ s,At h8 V M { X with seen:=s }/\1∈s/\(R.2=0->R.1∈s):=by
    intro e h7 h8 he k7 z7 ⟨s,A7,m7⟩ k8 hRe;refine ⟨k7.m1 k8 (by omega),?_,s,A7.keep k8 (λb hb=>by simp;exact nb1 b hb),m7,λh=>by rw [hRe] at h;exact absurd h he⟩;subst hRe;unfold lW;simp only;rw [if_neg he]
   (conv=>whnf);refine ak.i (λhc=>?_) (λhc=>?_)
   ·have hi1:i<l.length:=by
     have:(i:Int)<(n:Int):=by simpa using hc
     omega
    rw [List.drop_eq_getElem_cons hi1] at r6;obtain ⟨b7,off7,hb7,_,hcell⟩:=T6.at1 i (by rw [fO];exact hi1);have en:(bq l)[i]'(by rw [fO];exact hi1)=ba l[i]:=by simp [bq]
    rw [en] at hcell;have N6:=I.node at_ rat.1 rat.2;(conv=>whnf);refine aQ.i i rfl (by omega) hb7 ?_;(conv=>whnf);refine ax.i hcell ?_;(conv=>whnf);refine au.i (Kb A6 (S.C at_) N6.ok l[i]) λv h7 k7 hv=>?_;have A7:=A6.on k7;have T7:=T6.keep k7;have k07:Keeps [V.sb] h h7:=k6.cu k7;have z7:=k7.size;have z5:=k35.size;by_cases hk2:(S.C at_).kind=2
    ·obtain ⟨m,D⟩:=N6.dir hk2;rw [KZ D l[i]] at hv;simp only at hv;have Um:¬ ((aX S).kind at_≠2):=λh=>h hk2;rw [zb,if_neg Um,La] at r6;have Bu:=rW (name:=l[i]) D.str;cases hfe:cK (S.nm at_) l[i] with
     | none=>
      have hfr:jk (S.nm at_) l[i]=(0,false):=by unfold jk;rw [hfe]
      rw [hfr] at hv Bu;rw [<-Bu] at hv;subst hv;rw [hfe] at r6;(conv=>whnf);(try refine aU.pass ?_;conv=>whnf);refine ak.f rfl ?_;(conv=>whnf);(try refine aU.pass ?_;conv=>whnf);refine ak.t rfl ?_;(conv=>whnf);refine aN.i λh8 s8 k8=>?_;(conv=>whnf);exact stop 4 h7 h8 (by decide) k07 (by omega) ⟨_,A7,m6.1⟩ k8 r6.symm
     | some e=>
      have hfr:jk (S.nm at_) l[i]=(e.node,true):=by unfold jk;rw [hfe]
      rw [hfr] at hv Bu;rw [<-Bu] at hv;subst hv;rw [hfe] at r6;simp only [Option.map_some] at r6;obtain ⟨en0,en1,Ld⟩:=C.names at_ rat.1 rat.2 hk2 e (List.mem_of_find?_eq_some hfe);(conv=>whnf);(try refine aU.pass ?_;conv=>whnf);refine ak.f rfl ?_;(conv=>whnf);(try refine aU.pass ?_;conv=>whnf);refine ak.f rfl ?_;(conv=>whnf);refine au.m (Lb A7 I (n:=e.node) ⟨en0,en1⟩ Ld) (by
       have q1:=λe=>nb1 V.sb msb e;have q2:=λe=>hb4 V.sb msb e;simp [aA,bg];exact ⟨λe=>q1 e.symm,λe=>q2 e.symm⟩) λv h8 k8 hv=>?_
      obtain ⟨rfl,A8⟩:=hv;(conv=>whnf);refine aN.i λh9 s9 k9=>?_;have A9:=A8.keep k9 (λb hb=>by simp;exact hb4 b hb);have T9:Sl h9 a n c (bq l):=(T7.je k8 (λb hb=>by simpa using a2 b hb)).je k9 (λb hb=>by
       have hlt:b<h2.size:=by
        obtain ⟨bb,oo,hbb,_,hcc⟩:=T2.at1 i (by rw [fO];exact hi1);rw [hbb] at hb;simp [ay] at hb;subst hb;exact wm hcc
       simp;omega)
      have k09:Keeps [V.sb] h h9:=(k07.trans k8).m1 k9 (by omega);have z8:=k8.size;(conv=>whnf);refine ak.f rfl ?_;have hdr:(l.drop (i+1)=[])↔i+1=n:=by
       rw [List.drop_eq_nil_iff];omega
      have Le:IntKind.i64.wrap ((n:Int)-1)=((n-1:Nat):Int):=wrapN (by omega) (by omega);(conv=>whnf);by_cases hcnd:(aX S).kind e.node≠3\/(l.drop (i+1)=[]/\follow=false)
      ·rw [if_pos hcnd] at r6;refine ak.t ?_ ?_
       ·rw [Le];rcases hcnd with h|⟨h,h'⟩
        ·have h:(S.C e.node).kind≠3:=h;simp [di,h]
        ·have:=hdr.1 h;have h2:((i:Int)==((n-1:Nat):Int))=true:=by simp;omega
         rw [h',h2];simp [di]
       (conv=>whnf);refine ⟨n-(i+1),by omega,?_⟩;(conv=>whnf);exact ⟨(i+1,e.node,lg s6 e.node),rfl,by rw [wrapN (x:=(i:Int)+1) (n:=i+1) (by simp) (by omega)],rfl,by simp only;omega,k09,by omega,A9,T9,⟨en0,en1⟩,Ld,⟨mH.2 (.inl m6.1),mH.2 (.inr rfl)⟩,by
        have:f-(i+1)=f':=by omega
        simp only [this];exact r6⟩
      ·rw [if_neg hcnd] at r6;have h3:(S.C e.node).kind=3:=by
        apply Classical.byContradiction;intro h;exact hcnd (.inl h)
       have hnf:¬ (i+1=n/\follow=false):=λh=>hcnd (.inr ⟨hdr.2 h.1,h.2⟩);refine ak.f ?_ ?_
       ·rw [Le,h3];by_cases hin:i+1=n
        ·have:follow=true:=by
          cases follow with
          | true=>rfl
          | false=>exact absurd ⟨hin,rfl⟩ hnf
         rw [this];simp [di,dB]
        ·have h2:((i:Int)==((n-1:Nat):Int))=false:=by simp;omega
         rw [h2];simp [di]
       have Fq:IntKind.i64.wrap ((links:Int)+1)=((links+1:Nat):Int):=wrapN (by omega) (by omega);(conv=>whnf);rw [Fq];by_cases h8:8<links+1
       ·rw [if_pos h8] at r6;refine ak.t (by simp;omega) ?_;(conv=>whnf);refine aN.i λh10 s10 k10=>?_;(conv=>whnf);exact stop 11 h9 h10 (by decide) k09 (by omega) ⟨_,A9,mH.2 (.inl m6.1)⟩ k10 r6.symm
       ·rw [if_neg h8] at r6;refine ak.f (by simp;omega) ?_;obtain ⟨mm,FF⟩:=(I.node e.node en0 en1).file (.inr h3);(conv=>whnf);refine au.i (Uk A9 FF) λv h10 k10 hv=>?_;have A10:=A9.on k10;have k010:=k09.cu k10;have z10:=k10.size;have hdat:(aX S).data e.node=S.aL e.node:=rfl;rw [hdat] at r6;cases hp:bH (S.aL e.node) with
        | none=>
         rw [hp] at hv r6;simp only at hv r6;subst hv;(conv=>whnf);refine ak.t rfl ?_;(conv=>whnf);refine aN.i λh11 s11 k11=>?_;(conv=>whnf);exact stop 15 h10 h11 (by decide) k010 (by omega) ⟨_,A10,mH.2 (.inl m6.1)⟩ k11 r6.symm
        | some head=>
         rw [hp] at hv r6;simp only at hv r6;obtain ⟨ah,kh,rfl,Th,nh⟩:=hv;obtain ⟨p1,p2,p3,p4⟩:=mE hp;(conv=>whnf);refine ak.f rfl ?_;have Un:IntKind.i64.wrap ((i:Int)+1)=((i+1:Nat):Int):=wrapN (by simp) (by omega);have T10:=T9.keep k10;(conv=>whnf);refine dm.i (i+1) n Un rfl (by omega) T10.hcap ?_;have P:=T10.part (l:=i+1) (r:=n) (by omega) (Nat.le_refl _);have hbr:((bq l).take n).drop (i+1)=bq (l.drop (i+1)):=by
          have:(bq l).length=n:=by rw [fO];omega
          rw [<-this,List.take_length];simp [bq]
         rw [hbr] at P;have Fu:∀ x∈head,x.length<=200:=by
          intro x hx;have h1:=yK hx;by_cases hh:head=[]
          ·rw [hh] at hx;cases hx
          ·rw [if_neg hh] at p4;rw [p4] at h1;omega
         have hxs:∀ x∈head++l.drop (i+1),x.length<=200:=by
          intro x hx;rcases List.mem_append.1 hx with h|h
          ·exact Fu x h
          ·exact x2 x (List.mem_of_mem_drop h)
         (conv=>whnf);refine au.i (Uo Th P (by rw [List.length_drop];omega) (λz hz=>by have:=hxs z hz;omega)) λv h11 k11 hv=>?_;obtain ⟨a',c',rfl,T11,n11⟩:=hv;have bl10:=A10.blt V.sb msb;(conv=>whnf);refine ⟨f',by show f'<f;omega,?_⟩;(conv=>whnf);refine ⟨⟨f',links+1,head++l.drop (i+1),a',(head++l.drop (i+1)).length,c',lg s6 e.node⟩,rfl,rfl,rfl,by simp only;omega,k010.cu k11,by have:=k11.size;omega,A10.on k11,T11,λb hb=>by have:=n11 b hb;omega,hxs,?_,r6⟩;simp only [List.length_append,List.length_drop];omega
    ·have hop:nS X.now (S.C at_) l[i]=(0,false,6):=by
      unfold nS fu;rw [if_pos hk2];rfl
     have hop':nS ({ X with seen:=s6 }:VS).now (S.C at_) l[i]=(0,false,6):=hop;rw [hop'] at hv;subst hv;(conv=>whnf);(try refine aU.pass ?_;conv=>whnf);refine ak.t rfl ?_;(conv=>whnf);refine aN.i λh8 s8 k8=>?_;(conv=>whnf);refine stop 6 h7 h8 (by decide) k07 (by omega) ⟨_,A7,m6.1⟩ k8 ?_;rw [<-r6];rw [zb,if_pos (show (aX S).kind at_≠2 from hk2)]
   ·have hi1:i=n:=by
     have:¬ ((i:Int)<(n:Int)):=by simpa using hc
     omega
    subst hi1;(conv=>whnf);refine aN.i λh7 s7 k7=>?_;(conv=>whnf);rw [nl,List.drop_length] at r6;have hR2:R=(at_,0):=by rw [<-r6];rfl
    have z5:=k35.size;refine ⟨k6.m1 k7 (by omega),?_,s6,A6.keep k7 (λb hb=>by simp;exact nb1 b hb),m6.1,λ_=>by rw [hR2];exact m6.2⟩;rw [hR2];unfold lW;simp only;rw [if_pos trivial];rfl
def aW (F:Fs)(path:List UInt8)(follow:Bool):Int×Int:=match bH path with|none=>(0,3)|some l=>dW F 1 follow 600 1 0 l
theorem Cf {X:VS}{S:FS}(C:fZ S){follow:Bool}(f:Nat)(at_:Int)(links:Nat)(l:List (List UInt8))(h:0<=at_/\at_<24/\(S.C at_).kind≠0)(he:(dW (aX S) 1 follow f at_ links l).2=0) :
 0<=(dW (aX S) 1 follow f at_ links l).1/\(dW (aX S) 1 follow f at_ links l).1<24/\(S.C (dW (aX S) 1 follow f at_ links l).1).kind≠0:=by
 have A:Alike (aX S) (aX S) id (λn=>0<=n/\n<24/\(S.C n).kind≠0):=by
  refine ⟨λx _=>rfl,λx n _ _=>by simp,λx n y hx hk hf=>?_,λx _ _=>rfl⟩;have hf':(cK (S.nm x) n).map (·.node)=some y:=hf;cases hfe:cK (S.nm x) n with
  | none=>rw [hfe] at hf';cases hf'
  | some e=>
   rw [hfe] at hf';have:e.node=y:=by simpa using hf'
   rw [<-this];exact C.names x hx.1 hx.2.1 hk e (List.mem_of_find?_eq_some hfe)
 exact ((sj A (root:=1) ⟨by decide,by decide,by rw [C.root];decide⟩ f at_ links l h).2 he).2
theorem sP {path:List UInt8}{l:List (List UInt8)}(h:bH path=some l):∀ x∈l,x.length<=200:=by
 obtain ⟨p1,p2,p3,p4⟩:=mE h;intro x hx;have h1:=yK hx;by_cases hh:l=[]
 ·rw [hh] at hx;cases hx
 ·rw [if_neg hh] at p4;rw [p4] at h1;omega
theorem Ug {h:Heap}{V:VL}{M:aV}{X:VS}(A:At h V M X){S:FS}(I:bK X.now S)(C:fZ S)(path:List UInt8)(hp:path.length<=140737488351232)(follow:Bool) :
 aD Tryz.prog 58 [.pointer (some ⟨V.v,0,none⟩),.string (ba path),.bool follow] h (λv h'=>Keeps [V.sb] h h'/\v=lW S (aW (aX S) path follow)/\∃ s,At h' V M { X with seen:=s }/\(bH path≠none->1∈s/\((aW (aX S) path follow).2=0->(aW (aX S) path follow).1∈s))):=by
 have bl:=A.blt;have msb:V.sb∈V.blocks:=by simp [VL.blocks]
 refine aH aI Tryz.func58 rfl ok58 (by simp [Tryz.f58]) ?_;(conv=>whnf);refine aR.i λb1 h1 e1 s1 o1 k1=>?_;have nb1:∀ b∈V.blocks,b≠b1:=λb hb=>by have:=bl b hb;omega
 (conv=>whnf);refine ak.f rfl ?_;(conv=>whnf);refine au.i (wL path hp h1) λv h2 k2 hv=>?_;have k02:=k1.trans k2;have z1:=k1.size;have z2:=k2.size;unfold aW;cases hpp:bH path with
 | none=>
  rw [hpp] at hv;have hv:v=.tuple #[.slice none 0 0,.int .i64 3]:=hv;subst hv;(conv=>whnf);refine ak.t rfl ?_;(conv=>whnf);refine aN.i λh3 s3 k3=>?_;(conv=>whnf);exact ⟨(k02.mono (by simp)).m1 k3 (by omega),rfl,X.seen,(A.on k02).keep k3 (λb hb=>by simp;exact nb1 b hb),λh=>absurd rfl h⟩
 | some l=>
  rw [hpp] at hv;obtain ⟨a,c,rfl,T2,n2⟩:=hv;obtain ⟨p1,p2,p3,p4⟩:=mE hpp;(conv=>whnf);refine ak.f rfl ?_;(conv=>whnf);refine au.m (Uh (A.on k02) I C follow T2 (λb hb=>by have:=n2 b hb;have:=bl V.sb msb;omega) p1 (sP hpp)) (by simp [aA,bg];exact λe=>nb1 V.sb msb e.symm) λv h3 k3 hv=>?_;obtain ⟨rfl,s,A3,m3⟩:=hv;unfold lW;(conv=>whnf);refine aN.i λh4 s4 k4=>?_;(conv=>whnf);exact ⟨((k02.mono (by simp)).trans k3).m1 k4 (by omega),rfl,s,A3.keep k4 (λb hb=>by simp;exact nb1 b hb),λ_=>m3⟩
theorem uK {h:Heap}{V:VL}{M:aV}{X:VS}(A:At h V M X){S:FS}(I:bK X.now S)(C:fZ S)(path:List UInt8)(hp:path.length<=140737488351232)(follow:Bool) :
 aD Tryz.prog 58 [.pointer (some ⟨V.v,0,none⟩),.string (ba path),.bool follow] h (λv h'=>Keeps [V.sb] h h'/\v=lW S (aW (aX S) path follow)/\∃ s,At h' V M { X with seen:=s }):=
 (Ug A I C path hp follow).mono λ_ _ ⟨k,e,s,A',_⟩=>⟨k,e,s,A'⟩
def bD (F:Fs)(path:List UInt8):Int×List UInt8×Int×Int:=
 match bH path with
 | none=>(0,[],0,3)
 | some l=>if l=[] then (0,[],0,1) else
  let r:=dW F 1 true 600 1 0 l.dropLast
  if r.2≠0 then (0,[],0,r.2) else if F.kind r.1≠2 then (0,[],0,6) else (r.1,l.getLast?.getD [],(F.find r.1 (l.getLast?.getD [])).getD 0,0)
def lX (S:FS)(r:Int×List UInt8×Int×Int):List Value:=if r.2.2.2=0 then [.int .i64 r.1]++(S.C r.1).cells++[.string (ba r.2.1),.int .i64 r.2.2.1] else [.int .i64 0]++aB.zero.cells++[.string ⟨#[]⟩,.int .i64 0]
theorem wM {h:Heap}{V:VL}{M:aV}{X:VS}(A:At h V M X){S:FS}(I:bK X.now S)(C:fZ S)(path:List UInt8)(hp:path.length<=140737488351232) :
 aD Tryz.prog 61 [.pointer (some ⟨V.v,0,none⟩),.string (ba path)] h (λv h'=>Keeps [V.sb] h h'/\v=.tuple #[.agg ⟨lX S (bD (aX S) path)⟩,.int .i64 (bD (aX S) path).2.2.2]/\∃ s,At h' V M { X with seen:=s }):=by
 have bl:=A.blt;have msb:V.sb∈V.blocks:=by simp [VL.blocks]
 refine aH aI Tryz.func61 rfl ok61 (by simp [Tryz.f61]) ?_;(conv=>whnf);refine aR.i λb1 h1 e1 s1 o1 k1=>?_;have nb1:∀ b∈V.blocks,b≠b1:=λb hb=>by have:=bl b hb;omega
 (conv=>whnf);refine ak.f rfl ?_;(conv=>whnf);refine au.i (Ui path hp h1) λv h2 k2 hv=>?_;have k02:=k1.trans k2;have z1:=k1.size;have z2:=k2.size;have stop:∀ (h2 h3:Heap) (r:Int×List UInt8×Int×Int),Keeps [V.sb] h h2->(∃ s,At h2 V M { X with seen:=s })->Keeps [b1] h2 h3->r.2.2.2≠0->bD (aX S) path=r ->
  Keeps [V.sb] h h3/\Value.tuple #[.agg ⟨[.int .i64 0]++aB.zero.cells++[.string ⟨#[]⟩,.int .i64 0]⟩,.int .i64 r.2.2.2]=.tuple #[.agg ⟨lX S (bD (aX S) path)⟩,.int .i64 (bD (aX S) path).2.2.2]/\∃ s,At h3 V M { X with seen:=s }:=by
  intro h2 h3 r k2 ⟨s,A2⟩ k3 hr he;refine ⟨k2.m1 k3 (by omega),?_,s,A2.keep k3 (λb hb=>by simp;exact nb1 b hb)⟩;rw [he];unfold lX;rw [if_neg hr]
 have hpl:bD (aX S) path=bD (aX S) path:=rfl
 conv at hpl=>rhs;unfold bD
 cases hpp:bH path with
 | none=>
  rw [hpp] at hv hpl;simp only at hv hpl;subst hv;(conv=>whnf);refine ak.t rfl ?_;(conv=>whnf);refine aN.i λh3 s3 k3=>?_;(conv=>whnf);exact stop h2 h3 _ (k02.mono (by simp)) ⟨X.seen,A.on k02⟩ k3 (by decide) hpl
 | some l=>
  rw [hpp] at hv hpl;simp only at hv hpl;obtain ⟨p1,p2,p3,p4⟩:=mE hpp;by_cases h0:l=[]
  ·rw [if_pos h0] at hv hpl;subst hv;(conv=>whnf);refine ak.t rfl ?_;(conv=>whnf);refine aN.i λh3 s3 k3=>?_;(conv=>whnf);exact stop h2 h3 _ (k02.mono (by simp)) ⟨X.seen,A.on k02⟩ k3 (by decide) hpl
  ·rw [if_neg h0] at hv hpl;subst hv;have hall:l.dropLast.all dG=true:=List.all_eq_true.2 λx hx=>List.all_eq_true.1 p2 x (List.dropLast_subset _ hx);have hjl:(bJ l.dropLast).length<=120:=by
    rw [List.dropLast_eq_take];have:=yL l (l.length-1);rw [if_neg h0] at p4;rw [p4] at this;omega
   have hup:bH (ni l.dropLast)=some l.dropLast:=TI hall hjl;have WK:(ni l.dropLast).length<=120:=by
    unfold ni;split
    ·simp
    ·exact hjl
   (conv=>whnf);refine ak.f rfl ?_;(conv=>whnf);refine au.m (uK (A.on k02) I C (ni l.dropLast) (by omega) true) (by simp [aA,bg];exact λe=>nb1 V.sb msb e.symm) λv h3 k3 hv=>?_;obtain ⟨rfl,s,A3⟩:=hv;have hpa:aW (aX S) (ni l.dropLast) true=dW (aX S) 1 true 600 1 0 l.dropLast:=by
    unfold aW;rw [hup]
   rw [hpa];generalize hr:dW (aX S) 1 true 600 1 0 l.dropLast=r at hpl;unfold lW;(conv=>whnf);refine aR.i λb4 h4 e4 s4 o4 k4=>?_;(conv=>whnf);refine aN.i λh5 s5 k5=>?_;have z3:=k3.size;have k35:Keeps [] h3 h5:=k4.new1 k5 (by omega);have A5:=A3.on k35;have k05:Keeps [V.sb] h h5:=((k02.mono (by simp)).trans k3).cu k35;by_cases hr2:r.2=0
   ·rw [if_neg (λh=>h hr2)] at hpl;have hin:=Cf (X:=X) C (follow:=true) 600 1 0 l.dropLast ⟨by decide,by decide,by rw [C.root];decide⟩;rw [hr] at hin;obtain ⟨r0,r1,rk⟩:=hin hr2;rw [hr2];(conv=>whnf);refine ak.f rfl ?_;have N5:=I.node r.1 r0 r1;(conv=>whnf);refine au.i (Kb A5 (S.C r.1) N5.ok (l.getLast?.getD [])) λv h6 k6 hv=>?_;have A6:=A5.on k6;have k06:=k05.cu k6;by_cases hk2:(S.C r.1).kind=2
    ·obtain ⟨m,D⟩:=N5.dir hk2;rw [KZ D] at hv;simp only at hv;subst hv;rw [if_neg (show ¬ ((aX S).kind r.1≠2) from λh=>h hk2)] at hpl;have hfr:(jk (S.nm r.1) (l.getLast?.getD [])).1=((aX S).find r.1 (l.getLast?.getD [])).getD 0:=by
      rw [La];unfold jk;cases cK (S.nm r.1) (l.getLast?.getD []) <;> rfl
     (conv=>whnf);refine ak.f rfl ?_;(conv=>whnf);refine aN.i λh7 s7 k7=>?_;(conv=>whnf);have z6:=k6.size;refine ⟨k06.m1 k7 (by omega),?_,s,A6.keep k7 (λb hb=>by simp;exact nb1 b hb)⟩;rw [hpl];unfold lX;simp only;rw [if_pos trivial,hfr];rfl
    ·rw [if_pos (show (aX S).kind r.1≠2 from hk2)] at hpl;have hop:nS X.now (S.C r.1) (l.getLast?.getD [])=(0,false,6):=by
      unfold nS fu;rw [if_pos hk2];rfl
     have hop':nS ({ X with seen:=s }:VS).now (S.C r.1) (l.getLast?.getD [])=(0,false,6):=hop;rw [hop'] at hv;subst hv;(conv=>whnf);refine ak.t rfl ?_;(conv=>whnf);refine aN.i λh7 s7 k7=>?_;(conv=>whnf);have z6:=k6.size;exact stop h6 h7 _ k06 ⟨s,A6⟩ k7 (by decide) hpl
   ·rw [if_pos hr2] at hpl;(conv=>whnf);refine ak.t (by simp;exact hr2) ?_;(conv=>whnf);refine aN.i λh7 s7 k7=>?_;(conv=>whnf);exact stop h5 h7 _ k05 ⟨s,A5⟩ k7 hr2 hpl
theorem yN {name:List UInt8}:∀ {l:List aF},strict l->cK l name=(if dx l name=true then l[aO l name]? else none)
 | [],_=>rfl
 | x::l,hs=>by
  obtain ⟨h1,h2⟩:=List.pairwise_cons.1 hs;have ih:=yN (name:=name) h2;by_cases hx:blt x.name name=true
  ·have e1:aO (x::l) name=aO l name+1:=by unfold aO;rw [List.takeWhile_cons,if_pos hx];rfl
   have e2:dx (x::l) name=dx l name:=by unfold dx;rw [e1];rfl
   have hne:¬ x.name=name:=by rintro rfl;rw [mZ] at hx;cases hx
   rw [e2,e1];have e3:(x::l)[aO l name+1]?=l[aO l name]?:=rfl;rw [e3,<-ih];unfold cK;rw [List.find?_cons,decide_eq_false hne]
  ·have e1:aO (x::l) name=0:=by unfold aO;rw [List.takeWhile_cons,if_neg hx];rfl
   have e2:dx (x::l) name=decide (x.name=name):=by unfold dx;rw [e1];rfl
   rw [e2,e1];by_cases hne:x.name=name
   ·unfold cK;rw [List.find?_cons,decide_eq_true hne];rfl
   ·have hf:=rW (name:=name) hs;rw [e2,decide_eq_false hne] at hf;rw [decide_eq_false hne];cases hfe:cK (x::l) name with
    | none=>rfl
    | some e=>
     unfold jk at hf;rw [hfe] at hf;cases hf
theorem zk {name:List UInt8}{l:List aF}(hs:strict l)(h:cK l name=none):dx l name=false:=by
 rw [yN hs] at h;by_cases ht:dx l name=true
 ·obtain ⟨hk,_⟩:=vR ht;rw [if_pos ht,List.getElem?_eq_getElem hk] at h;cases h
 ·simpa using ht
theorem wG {name:List UInt8}{l:List aF}(hs:strict l){e:aF}(h:cK l name=some e):dx l name=true/\∃ hk:aO l name<l.length,l[aO l name]=e/\e.name=name:=by
 rw [yN hs] at h;by_cases ht:dx l name=true
 ·obtain ⟨hk,hn⟩:=vR ht;rw [if_pos ht,List.getElem?_eq_getElem hk] at h;have he:=Option.some.inj h;exact ⟨ht,hk,he,he ▸ hn⟩
 ·rw [if_neg ht] at h;cases h
set_option maxHeartbeats 4000000
def live (T:List aS)(i:Int):Prop:=inT T i/\(tn T i).kind≠0
def dV (l:List aF)(j:Int):Nat:=(l.map (·.node)).count j
def refs (T:List aS)(j:Int):Nat:=dV (T.flatMap (·.names)) j
theorem Vv (j:Int):dV [] j=0:=rfl
theorem yS (l r:List aF)(j:Int):dV (l++r) j=dV l j+dV r j:=by unfold dV;rw [List.map_append,List.count_append]
theorem Me (e:aF)(l:List aF)(j:Int):dV (e::l) j=dV l j+if e.node=j then 1 else 0:=by
 unfold dV;rw [List.map_cons,List.count_cons]
 congr 1
 by_cases h:e.node=j
 ·rw [if_pos (by simpa using h),if_pos h]
 ·rw [if_neg (by simpa using h),if_neg h]
theorem Mf {l r:List aF}(h:l.Perm r)(j:Int):dV l j=dV r j:=(h.map _).count_eq j
theorem FN (l:List aF)(e:aF)(j:Int):dV (bF l e) j=dV l j+if e.node=j then 1 else 0:=by
 rw [Mf (mX l e),Me]
theorem eraseP {α:Type}:∀ {l:List α} {k:Nat} (hk:k<l.length),((l[k]'hk)::l.eraseIdx k).Perm l
 | x::l,0,_=>List.Perm.refl _
 | x::l,k+1,hk=>by
  have ih:=eraseP (l:=l) (k:=k) (by simpa using hk);show ((l[k]'(by simpa using hk))::x::l.eraseIdx k).Perm (x::l);exact (List.Perm.swap _ _ _).trans (ih.cons x)
theorem Ma {l:List aF}{k:Nat}(hk:k<l.length)(j:Int):dV (l.eraseIdx k) j+(if (l[k]'hk).node=j then 1 else 0)=dV l j:=by
 rw [<-Mf (eraseP hk) j,Me]
theorem Md {l:List aF}{j:Int}:0<dV l j↔∃ e∈l,e.node=j:=by
 unfold dV;rw [List.count_pos_iff,List.mem_map]
theorem Vu (T:List aS)(x:aS)(j:Int):refs (T++[x]) j=refs T j+dV x.names j:=by
 unfold refs;rw [List.flatMap_append,yS];simp
theorem Mg:∀ (T:List aS) (k:Nat) (hk:k<T.length) (x:aS) (j:Int),refs (T.set k x) j+dV (T[k]'hk).names j=refs T j+dV x.names j
 | y::T,0,_,x,j=>by
  unfold refs;show dV ((x::T).flatMap (·.names)) j+dV y.names j=dV ((y::T).flatMap (·.names)) j+_;rw [List.flatMap_cons,List.flatMap_cons,yS,yS];omega
 | y::T,k+1,hk,x,j=>by
  have ih:=Mg T k (by simpa using hk) x j;unfold refs at ih ⊢;show dV ((y::T.set k x).flatMap (·.names)) j+dV (T[k]'(by simpa using hk)).names j=_;rw [List.flatMap_cons,List.flatMap_cons,yS,yS];omega
def bM (T:List aS)(d:Int)(x:aS):List aS:=T.set d.toNat x
theorem nW (T:List aS)(d:Int)(x:aS):(bM T d x).length=T.length:=by unfold bM;simp
theorem nK {T:List aS}{d:Int}(hd:inT T d)(x:aS){i:Int}(hi:0<=i):tn (bM T d x) i=if i=d then x else tn T i:=by
 have h1:=hd.1;have h2:=hd.2;unfold tn bM;rw [List.getElem?_set];by_cases e:i=d
 ·subst e;rw [if_pos rfl,if_pos (by omega),if_pos rfl];rfl
 ·rw [if_neg (by omega),if_neg e]
theorem sD {T:List aS}{d:Int}(hd:inT T d)(x:aS)(j:Int):refs (bM T d x) j+dV (tn T d).names j=refs T j+dV x.names j:=by
 have h1:=hd.1;have h2:=hd.2;have:=Mg T d.toNat (by omega) x j;have e:tn T d=T[d.toNat]'(by omega):=by
  unfold tn;rw [List.getElem?_eq_getElem (by omega)];rfl
 rw [e];exact this
theorem BG {T:List aS}{d i:Int}(x:aS):inT (bM T d x) i↔inT T i:=by unfold inT;rw [nW]
theorem zm {T:List aS}{d:Int}(hd:inT T d){e:aF}(he:e∈(tn T d).names):0<refs T e.node:=by
 have h1:=hd.1;have h2:=hd.2;unfold refs;refine Md.2 ⟨e,List.mem_flatMap.2 ⟨tn T d,?_,he⟩,rfl⟩;unfold tn;rw [List.getElem?_eq_getElem (by omega)];exact List.getElem_mem _
structure bW (S:FS)(T:List aS)(num:List Int):Prop where
 len:num.length=T.length
 two:2<=T.length
 root:nu num 1=1/\(tn T 1).kind=2
 bG:∀ i,live T i->1<=nu num i/\nu num i<24
 inj:∀ i j,live T i->live T j->nu num i=nu num j->i=j
 kind:∀ i,live T i->(S.C (nu num i)).kind=(tn T i).kind/\1<=(tn T i).kind/\(tn T i).kind<=3
 links:∀ i,live T i->(S.C (nu num i)).links=(tn T i).links
 dir:∀ i,live T i->(tn T i).kind=2->S.nm (nu num i)=(tn T i).names.map (rn num)/\(∀ e∈(tn T i).names,live T e.node)/\strict (tn T i).names/\(tn T i).data=[]
 data:∀ i,live T i->(tn T i).kind≠2->(tn T i).data=S.aL (nu num i)/\(tn T i).names=[]
 dead:∀ i,inT T i->(tn T i).kind=0->(tn T i).names=[]
 zero:(tn T 0).names=[]
 all:∀ n,0<=n->n<24->(S.C n).kind≠0->∃ i,live T i/\nu num i=n
 cnt:∀ i,live T i->i≠1->(tn T i).links=(refs T i:Int)
 top:refs T 1=0
 rank:∃ rk:Int->Nat,∀ i,live T i->(tn T i).kind=2->∀ e∈(tn T i).names,rk e.node<rk i
theorem bW.live1 {S:FS}{T:List aS}{num:List Int}(W:bW S T num):live T 1:=⟨⟨by omega,by have:=W.two;omega⟩,by rw [W.root.2];decide⟩
theorem bW.alike {S:FS}{T:List aS}{num:List Int}(W:bW S T num):Alike (aY T) (aX S) (nu num) (live T):=by
 refine ⟨λi hi=>(W.kind i hi).1,λi name hi hk=>?_,λi name y hi hk hf=>?_,λi hi hk=>?_⟩
 ·show (cK (S.nm (nu num i)) name).map (·.node)=((cK (tn T i).names name).map (·.node)).map (nu num);rw [(W.dir i hi hk).1,Fz,Option.map_map,Option.map_map];rfl
 ·have hf':(cK (tn T i).names name).map (·.node)=some y:=hf;cases he:cK (tn T i).names name with
  | none=>rw [he] at hf';cases hf'
  | some e=>
   rw [he] at hf';have:e.node=y:=by simpa using hf'
   rw [<-this];exact (W.dir i hi hk).2.1 e (List.mem_of_find?_eq_some he)
 ·have:(tn T i).kind=3:=hk;exact ((W.data i hi (by omega)).1).symm
theorem bW.path {S:FS}{T:List aS}{num:List Int}(W:bW S T num)(path:List UInt8)(follow:Bool) :
 (aW (aX S) path follow).2=(aW (aY T) path follow).2/\((aW (aY T) path follow).2=0->(aW (aX S) path follow).1=nu num (aW (aY T) path follow).1/\live T (aW (aY T) path follow).1):=by
 unfold aW;cases bH path with
 | none=>exact ⟨rfl,λh=>by cases h⟩
 | some l=>
  have:=sj W.alike (root:=1) (follow:=follow) W.live1 600 1 0 l W.live1;rw [W.root.1] at this;exact this
theorem bW.place {S:FS}{T:List aS}{num:List Int}(W:bW S T num)(path:List UInt8) :
 (bD (aX S) path).2.2.2=(bD (aY T) path).2.2.2/\((bD (aY T) path).2.2.2=0->live T (bD (aY T) path).1/\(tn T (bD (aY T) path).1).kind=2/\(bD (aX S) path).1=nu num (bD (aY T) path).1/\(bD (aX S) path).2.1=(bD (aY T) path).2.1 /\
  (
   (cK (tn T (bD (aY T) path).1).names (bD (aY T) path).2.1=none/\(bD (aY T) path).2.2.1=0/\(bD (aX S) path).2.2.1=0) \/
   ∃ e,cK (tn T (bD (aY T) path).1).names (bD (aY T) path).2.1=some e/\(bD (aY T) path).2.2.1=e.node/\live T e.node/\(bD (aX S) path).2.2.1=nu num e.node)):=by
 unfold bD;cases bH path with
 | none=>exact ⟨rfl,λh=>by cases h⟩
 | some l=>
  simp only;by_cases h0:l=[]
  ·rw [if_pos h0,if_pos h0];exact ⟨rfl,λh=>by cases h⟩
  ·rw [if_neg h0,if_neg h0];have hal:=sj W.alike (root:=1) (follow:=true) W.live1 600 1 0 l.dropLast W.live1;rw [W.root.1] at hal;generalize dW (aX S) 1 true 600 1 0 l.dropLast=rv at hal ⊢;generalize dW (aY T) 1 true 600 1 0 l.dropLast=r at hal ⊢;obtain ⟨a1,a2⟩:=hal;rw [a1];by_cases hr:r.2=0
   ·have hrn:¬ (r.2≠0):=λh=>h hr;rw [if_neg hrn,if_neg hrn];obtain ⟨b1,b2⟩:=a2 hr;rw [b1,W.alike.kind r.1 b2];by_cases hk:(aY T).kind r.1=2
    ·have hkn:¬ ((aY T).kind r.1≠2):=λh=>h hk;rw [if_neg hkn,if_neg hkn];refine ⟨rfl,λ_=>⟨b2,hk,rfl,rfl,?_⟩⟩;show _\/_;simp only;rw [W.alike.find r.1 _ b2 hk];have hd:∀ nm,(aY T).find r.1 nm=(cK (tn T r.1).names nm).map (·.node):=λnm=>rfl;rw [hd];cases hfe:cK (tn T r.1).names (l.getLast?.getD []) with
     | none=>exact .inl ⟨rfl,rfl,rfl⟩
     | some e=>exact .inr ⟨e,rfl,rfl,(W.dir r.1 b2 hk).2.1 e (List.mem_of_find?_eq_some hfe),rfl⟩
    ·rw [if_pos hk,if_pos hk];exact ⟨rfl,λh=>by cases h⟩
   ·rw [if_pos hr,if_pos hr];exact ⟨rfl,λh=>absurd h hr⟩
theorem bW.fc {S:FS}{T:List aS}{num:List Int}(W:bW S T num):fZ S:=by
 refine ⟨?_,λn n0 n1 hk e he=>?_⟩
 ·have:=W.kind 1 W.live1;rw [W.root.1] at this;rw [this.1];exact W.root.2
 ·obtain ⟨i,hi,rfl⟩:=W.all n n0 n1 (by rw [hk];decide);have hki:(tn T i).kind=2:=by rw [<-(W.kind i hi).1];exact hk
  obtain ⟨q1,q2,q3,_⟩:=W.dir i hi hki;rw [q1] at he;obtain ⟨e0,he0,rfl⟩:=List.mem_map.1 he;have hl:=q2 e0 he0;have hr:=W.bG e0.node hl;have hk2:=W.kind e0.node hl;have hn:(rn num e0).node=nu num e0.node:=rfl;rw [hn];exact ⟨by omega,hr.2,by rw [hk2.1];omega⟩
theorem Vt {T:List aS}{x:aS}{i:Int}(hi:0<=i/\i<T.length+1):tn (T++[x]) i=if i=T.length then x else tn T i:=by
 unfold tn;by_cases e:i=T.length
 ·rw [if_pos e];have:i.toNat=T.length:=by omega
  rw [this];simp
 ·rw [if_neg e,List.getElem?_append_left (by omega)]
theorem bW.made {S S':FS}{T:List aS}{num:List Int}(W:bW S T num){d n kind:Int}{nm data:List UInt8}(hd:live T d)(hk:(tn T d).kind=2)(hn0:(S.C n).kind=0)(hn:1<=n/\n<24)(hp:dx (tn T d).names nm=false)(hkind:1<=kind/\kind<=3)(hdd:kind=2->data=[])
 (hC:∀ x,(S'.C x).kind=if x=n then kind else (S.C x).kind) (hL:∀ x,0<=x->x<24->(S.C x).kind≠0\/x=n->(S'.C x).links=if x=n then 1 else (S.C x).links)
 (hN:∀ x,S'.nm x=if x=nu num d then bF (S.nm (nu num d)) ⟨nm,n⟩ else if x=n then [] else S.nm x) (hB:∀ x,S'.aL x=if x=n then data else S.aL x) :
 bW S' (bM T d { tn T d with names:=bF (tn T d).names ⟨nm,(T.length:Int)⟩ }++[⟨T.length,kind,1,data,[]⟩]) (num++[n]):=by
 have hl:=W.len;have vZ:=W.two;have hd0:=hd.1.1;have hd1:=hd.1.2;have FO:=nW T d { tn T d with names:=bF (tn T d).names ⟨nm,(T.length:Int)⟩ };have hL2:(bM T d { tn T d with names:=bF (tn T d).names ⟨nm,(T.length:Int)⟩ }++[(⟨T.length,kind,1,data,[]⟩:aS)]).length=T.length+1:=by rw [List.length_append,FO];rfl
 have htn:∀ i:Int,0<=i->i<T.length+1->tn (bM T d { tn T d with names:=bF (tn T d).names ⟨nm,(T.length:Int)⟩ }++[(⟨T.length,kind,1,data,[]⟩:aS)]) i=if i=T.length then ⟨T.length,kind,1,data,[]⟩ else if i=d then { tn T d with names:=bF (tn T d).names ⟨nm,(T.length:Int)⟩ } else tn T i:=by
  intro i i0 i1;rw [Vt (by rw [FO];omega),FO];by_cases e:i=T.length
  ·rw [if_pos e,if_pos e]
  ·rw [if_neg e,if_neg e,nK hd.1 _ i0]
 have hnu:∀ i:Int,0<=i->i<T.length+1->nu (num++[n]) i=if i=T.length then n else nu num i:=by
  intro i i0 i1;unfold nu;by_cases e:i=T.length
  ·rw [if_pos e];have:i.toNat=num.length:=by omega
   rw [this];simp
  ·rw [if_neg e,List.getElem?_append_left (by omega)]
 have hkd:∀ i:Int,0<=i->i<T.length+1->(tn (bM T d { tn T d with names:=bF (tn T d).names ⟨nm,(T.length:Int)⟩ }++[(⟨T.length,kind,1,data,[]⟩:aS)]) i).kind=if i=T.length then kind else (tn T i).kind:=by
  intro i i0 i1;rw [htn i i0 i1];by_cases e:i=T.length
  ·rw [if_pos e,if_pos e]
  ·rw [if_neg e,if_neg e];by_cases e2:i=d
   ·rw [if_pos e2,e2]
   ·rw [if_neg e2]
 generalize hT':bM T d { tn T d with names:=bF (tn T d).names ⟨nm,(T.length:Int)⟩ }++[(⟨T.length,kind,1,data,[]⟩:aS)]=T' at hL2 htn hkd;have hlive:∀ i,live T' i↔live T i\/i=T.length:=by
  intro i;unfold live inT;rw [hL2]
  constructor
  ·rintro ⟨⟨h1,h2⟩,h3⟩;rw [hkd i (by omega) (by omega)] at h3;by_cases e:i=T.length
   ·exact .inr e
   ·rw [if_neg e] at h3;exact .inl ⟨⟨h1,by omega⟩,h3⟩
  ·rintro (⟨⟨h1,h2⟩,h3⟩|e)
   ·refine ⟨⟨h1,by omega⟩,?_⟩;rw [hkd i (by omega) (by omega),if_neg (by omega)];exact h3
   ·refine ⟨⟨by omega,by omega⟩,?_⟩;rw [hkd i (by omega) (by omega),if_pos e];omega
 have hne:∀ i,live T i->nu num i≠n:=by
  intro i hi e;have h1:=(W.kind i hi).1;have h2:=(W.kind i hi).2.1;rw [e,hn0] at h1;omega
 have hlt:∀ i,live T i->i≠T.length/\0<=i/\i<T.length:=λi hi=>by have:=hi.1.1;have:=hi.1.2;omega
 have hdn:nu num d≠n:=hne d hd;have hrn:∀ e:aF,live T e.node->rn (num++[n]) e=rn num e:=by
  intro e he;have:=hlt _ he;unfold rn;rw [hnu e.node (by omega) (by omega),if_neg this.1]
 have hrefs:∀ j,refs T' j=refs T j+if j=T.length then 1 else 0:=by
  intro j;rw [<-hT',Vu];have h1:=sD hd.1 { tn T d with names:=bF (tn T d).names ⟨nm,(T.length:Int)⟩ } j;have h2:dV (bF (tn T d).names ⟨nm,(T.length:Int)⟩) j=dV (tn T d).names j+if (T.length:Int)=j then 1 else 0:=FN _ _ _;have h3:dV ({ tn T d with names:=bF (tn T d).names ⟨nm,(T.length:Int)⟩ }:aS).names j=dV (tn T d).names j+if (T.length:Int)=j then 1 else 0:=h2;rw [h3] at h1;show _+dV [] j=_;rw [Vv];by_cases e:j=T.length
  ·rw [if_pos e.symm] at h1;rw [if_pos e];omega
  ·rw [if_neg (λx=>e x.symm)] at h1;rw [if_neg e];omega
 refine ⟨by rw [hL2,List.length_append,hl];rfl,by rw [hL2];omega,?_,λi hi=>?_,λi j hi hj e=>?_,λi hi=>?_,λi hi=>?_,λi hi hki=>?_,λi hi hki=>?_,λi hi hki=>?_,?_,λx x0 x1 hx=>?_,λi hi h1=>?_,?_,?_⟩
 ·have h1:=hlt 1 W.live1;rw [hnu 1 (by omega) (by omega),hkd 1 (by omega) (by omega),if_neg h1.1,if_neg h1.1];exact W.root
 ·rcases (hlive i).1 hi with h|h
  ·have h1:=hlt i h;rw [hnu i (by omega) (by omega),if_neg h1.1];exact W.bG i h
  ·rw [hnu i (by omega) (by omega),if_pos h];exact hn
 ·rcases (hlive i).1 hi with h|h <;> rcases (hlive j).1 hj with g|g
  ·have h1:=hlt i h;have g1:=hlt j g;rw [hnu i (by omega) (by omega),hnu j (by omega) (by omega),if_neg h1.1,if_neg g1.1] at e;exact W.inj i j h g e
  ·have h1:=hlt i h;rw [hnu i (by omega) (by omega),hnu j (by omega) (by omega),if_neg h1.1,if_pos g] at e;exact absurd e (hne i h)
  ·have g1:=hlt j g;rw [hnu i (by omega) (by omega),hnu j (by omega) (by omega),if_pos h,if_neg g1.1] at e;exact absurd e.symm (hne j g)
  ·omega
 ·rcases (hlive i).1 hi with h|h
  ·have h1:=hlt i h;rw [hnu i (by omega) (by omega),hkd i (by omega) (by omega),if_neg h1.1,if_neg h1.1,hC,if_neg (hne i h)];exact W.kind i h
  ·rw [hnu i (by omega) (by omega),hkd i (by omega) (by omega),if_pos h,if_pos h,hC,if_pos rfl];exact ⟨rfl,hkind⟩
 ·rcases (hlive i).1 hi with h|h
  ·have h1:=hlt i h;have hr:=W.bG i h;have hk3:=W.kind i h;rw [hnu i (by omega) (by omega),htn i (by omega) (by omega),if_neg h1.1,if_neg h1.1,hL _ (by omega) hr.2 (.inl (by rw [hk3.1];omega)),if_neg (hne i h),W.links i h];by_cases e2:i=d
   ·rw [if_pos e2,e2]
   ·rw [if_neg e2]
  ·rw [hnu i (by omega) (by omega),htn i (by omega) (by omega),if_pos h,if_pos h,hL n (by omega) hn.2 (.inr rfl),if_pos rfl]
 ·rcases (hlive i).1 hi with h|h
  ·have h1:=hlt i h;rw [hkd i (by omega) (by omega),if_neg h1.1] at hki;obtain ⟨q1,q2,q3,q4⟩:=W.dir i h hki;rw [hnu i (by omega) (by omega),htn i (by omega) (by omega),if_neg h1.1,if_neg h1.1,hN];by_cases e2:i=d
   ·subst e2;rw [if_pos rfl,if_pos rfl];refine ⟨?_,λe he=>(hlive _).2 ?_,xY q3 hp,q4⟩
    ·rw [q1];show _=(bF (tn T i).names ⟨nm,(T.length:Int)⟩).map (rn (num++[n]));rw [Bw (rn (num++[n])) (λ_=>rfl)];have e1:(tn T i).names.map (rn (num++[n]))=(tn T i).names.map (rn num):=List.map_congr_left λe he=>hrn e (q2 e he);have e3:rn (num++[n]) ⟨nm,(T.length:Int)⟩=⟨nm,n⟩:=by
      unfold rn;rw [show (⟨nm,(T.length:Int)⟩:aF).node=(T.length:Int) from rfl,hnu (T.length:Int) (by omega) (by omega),if_pos rfl]
     rw [e1,e3]
    ·have he':e∈bF (tn T i).names ⟨nm,(T.length:Int)⟩:=he;rcases List.mem_cons.1 ((mX _ _).mem_iff.1 he') with rfl|h3
     ·exact .inr rfl
     ·exact .inl (q2 e h3)
   ·rw [if_neg e2,if_neg (λx=>e2 (W.inj i d h hd x)),if_neg (hne i h)];exact ⟨by rw [q1];exact (List.map_congr_left λe he=>hrn e (q2 e he)).symm,λe he=>(hlive _).2 (.inl (q2 e he)),q3,q4⟩
  ·rw [hkd i (by omega) (by omega),if_pos h] at hki;rw [hnu i (by omega) (by omega),htn i (by omega) (by omega),if_pos h,if_pos h,hN,if_neg (λx=>hdn x.symm),if_pos rfl];exact ⟨rfl,by simp,List.Pairwise.nil,hdd hki⟩
 ·rcases (hlive i).1 hi with h|h
  ·have h1:=hlt i h;rw [hkd i (by omega) (by omega),if_neg h1.1] at hki;rw [hnu i (by omega) (by omega),htn i (by omega) (by omega),if_neg h1.1,if_neg h1.1,hB,if_neg (hne i h)];by_cases e2:i=d
   ·rw [e2] at hki;exact absurd hk hki
   ·rw [if_neg e2];exact W.data i h hki
  ·rw [hnu i (by omega) (by omega),htn i (by omega) (by omega),if_pos h,if_pos h,hB,if_pos rfl];exact ⟨rfl,rfl⟩
 ·have h1:=hi.1;have h2:=hi.2;rw [hL2] at h2;rw [hkd i (by omega) (by omega)] at hki;by_cases e:i=T.length
  ·rw [if_pos e] at hki;omega
  ·rw [if_neg e] at hki;rw [htn i (by omega) (by omega),if_neg e];by_cases e2:i=d
   ·rw [e2,hk] at hki;cases hki
   ·rw [if_neg e2];exact W.dead i ⟨h1,by omega⟩ hki
 ·rw [htn 0 (by omega) (by omega),if_neg (by omega),if_neg (by omega)];exact W.zero
 ·by_cases e:x=n
  ·exact ⟨(T.length:Int),(hlive _).2 (.inr rfl),by rw [hnu (T.length:Int) (by omega) (by omega),if_pos rfl,e]⟩
  ·rw [hC,if_neg e] at hx;obtain ⟨i,hi,he⟩:=W.all x x0 x1 hx;have h1:=hlt i hi;exact ⟨i,(hlive _).2 (.inl hi),by rw [hnu _ (by omega) (by omega),if_neg h1.1];exact he⟩
 ·rw [hrefs];rcases (hlive i).1 hi with h|h
  ·have h2:=hlt i h;rw [htn i (by omega) (by omega),if_neg h2.1,if_neg h2.1,Nat.add_zero];have h3:=W.cnt i h h1;by_cases e2:i=d
   ·rw [if_pos e2];show (tn T d).links=_;rw [<-e2];exact h3
   ·rw [if_neg e2];exact h3
  ·rw [htn i (by omega) (by omega),if_pos h,if_pos h];have h0:refs T i=0:=by
    apply Classical.byContradiction;intro hx;have h3:0<refs T i:=by omega
    unfold refs at h3;obtain ⟨e,he,hee⟩:=Md.1 h3;obtain ⟨x,hx,hex⟩:=List.mem_flatMap.1 he;obtain ⟨k,hk2,rfl⟩:=List.mem_iff_getElem.1 hx;have htk:tn T (k:Int)=T[k]:=by
     unfold tn;rw [show ((k:Int)).toNat=k by omega,List.getElem?_eq_getElem hk2];rfl
    rw [<-htk] at hex;by_cases hk0:k=0
    ·subst hk0;have h5:(tn T ((0:Nat):Int)).names=[]:=W.zero;rw [h5] at hex;cases hex
    ·by_cases hz:(tn T (k:Int)).kind=0
     ·rw [W.dead (k:Int) ⟨by omega,by omega⟩ hz] at hex;cases hex
     ·have hlk:live T (k:Int):=⟨⟨by omega,by omega⟩,hz⟩;by_cases h2:(tn T (k:Int)).kind=2
      ·have:=(W.dir (k:Int) hlk h2).2.1 e hex;have:=hlt _ this;omega
      ·rw [(W.data (k:Int) hlk h2).2] at hex;cases hex
   rw [h0];rfl
 ·rw [hrefs,if_neg (by omega)];exact W.top
 ·obtain ⟨rk,hr⟩:=W.rank;refine ⟨λi=>if i=T.length then 0 else rk i+1,λi hi hki e he=>?_⟩;rcases (hlive i).1 hi with h|h
  ·have h1:=hlt i h;rw [hkd i (by omega) (by omega),if_neg h1.1] at hki;rw [htn i (by omega) (by omega),if_neg h1.1] at he;simp only;rw [if_neg h1.1];have key:e.node=T.length\/(e∈(tn T i).names):=by
    by_cases e2:i=d
    ·rw [if_pos e2] at he;have he':e∈bF (tn T d).names ⟨nm,(T.length:Int)⟩:=he;rcases List.mem_cons.1 ((mX _ _).mem_iff.1 he') with rfl|h3
     ·exact .inl rfl
     ·exact .inr (by rw [e2];exact h3)
    ·rw [if_neg e2] at he;exact .inr he
   rcases key with k1|k1
   ·rw [if_pos k1];omega
   ·have:=hr i h hki e k1;split
    ·omega
    ·omega
  ·rw [htn i (by omega) (by omega),if_pos h] at he;cases he
theorem dU {T:List aS}{i:Int}(h:live T i):0<=i:=by have:=h.1.1;omega
theorem bW.linked {S S':FS}{T:List aS}{num:List Int}(W:bW S T num){d x:Int}{nm:List UInt8}(hd:live T d)(hk:(tn T d).kind=2)(hx:live T x)(hkx:(tn T x).kind≠2)(hp:dx (tn T d).names nm=false)
 (hC:∀ y,(S'.C y).kind=(S.C y).kind) (hL:∀ y,0<=y->y<24->(S.C y).kind≠0->(S'.C y).links=if y=nu num x then (S.C y).links+1 else (S.C y).links)
 (hN:∀ y,S'.nm y=if y=nu num d then bF (S.nm (nu num d)) ⟨nm,nu num x⟩ else S.nm y) (hB:∀ y,S'.aL y=S.aL y) :
 bW S' (bM (bM T x { tn T x with links:=(tn T x).links+1 }) d { tn T d with names:=bF (tn T d).names ⟨nm,x⟩ }) num:=by
 have hne:x≠d:=λe=>hkx (by rw [e];exact hk);have hd1:inT (bM T x { tn T x with links:=(tn T x).links+1 }) d:=(BG _).2 hd.1;have htn:∀ i:Int,0<=i->tn (bM (bM T x { tn T x with links:=(tn T x).links+1 }) d { tn T d with names:=bF (tn T d).names ⟨nm,x⟩ }) i=if i=d then { tn T d with names:=bF (tn T d).names ⟨nm,x⟩ } else if i=x then { tn T x with links:=(tn T x).links+1 } else tn T i:=by
  intro i i0;rw [nK hd1 _ i0,nK hx.1 _ i0]
 have hrefs:∀ j,refs (bM (bM T x { tn T x with links:=(tn T x).links+1 }) d { tn T d with names:=bF (tn T d).names ⟨nm,x⟩ }) j=refs T j+if x=j then 1 else 0:=by
  intro j;have h1:=sD hd1 { tn T d with names:=bF (tn T d).names ⟨nm,x⟩ } j;have h2:=sD hx.1 { tn T x with links:=(tn T x).links+1 } j;rw [nK hx.1 _ (dU hd),if_neg (λe=>hne e.symm)] at h1;have h3:dV ({ tn T d with names:=bF (tn T d).names ⟨nm,x⟩ }:aS).names j=dV (tn T d).names j+if x=j then 1 else 0:=FN _ _ _;have h4:dV ({ tn T x with links:=(tn T x).links+1 }:aS).names j=dV (tn T x).names j:=rfl;rw [h3] at h1;rw [h4] at h2;omega
 have hlen:(bM (bM T x { tn T x with links:=(tn T x).links+1 }) d { tn T d with names:=bF (tn T d).names ⟨nm,x⟩ }).length=T.length:=by rw [nW,nW]
 generalize hT':bM (bM T x { tn T x with links:=(tn T x).links+1 }) d { tn T d with names:=bF (tn T d).names ⟨nm,x⟩ }=T' at htn hrefs hlen;have hkd:∀ i:Int,0<=i->(tn T' i).kind=(tn T i).kind:=by
  intro i i0;rw [htn i i0];by_cases e:i=d
  ·rw [if_pos e,e]
  ·rw [if_neg e];by_cases e2:i=x
   ·rw [if_pos e2,e2]
   ·rw [if_neg e2]
 have hlive:∀ i,live T' i↔live T i:=by
  intro i;unfold live inT;rw [hlen]
  constructor
  ·rintro ⟨⟨h1,h2⟩,h3⟩;rw [hkd i (by omega)] at h3;exact ⟨⟨h1,h2⟩,h3⟩
  ·rintro ⟨⟨h1,h2⟩,h3⟩;exact ⟨⟨h1,h2⟩,by rw [hkd i (by omega)];exact h3⟩
 have hnx:nu num x≠nu num d:=λe=>hne (W.inj x d hx hd e);refine ⟨W.len.trans hlen.symm,by rw [hlen];exact W.two,⟨W.root.1,by rw [hkd 1 (by omega)];exact W.root.2⟩,λi hi=>W.bG i ((hlive i).1 hi),λi j hi hj e=>W.inj i j ((hlive i).1 hi) ((hlive j).1 hj) e,λi hi=>?_,λi hi=>?_,λi hi hki=>?_,λi hi hki=>?_,λi hi hki=>?_,?_,λy y0 y1 hy=>?_,λi hi h1=>?_,?_,?_⟩
 ·have h:=(hlive i).1 hi;rw [hC,hkd i (dU h)];exact W.kind i h
 ·have h:=(hlive i).1 hi;have hr:=W.bG i h;have hk3:=W.kind i h;rw [hL _ (by omega) hr.2 (by rw [hk3.1];omega),htn i (dU h)];by_cases e:i=d
  ·rw [if_pos e,e,if_neg (λe2=>hnx e2.symm)];exact W.links d hd
  ·rw [if_neg e];by_cases e2:i=x
   ·rw [if_pos e2,e2,if_pos rfl];show _=(tn T x).links+1;rw [W.links x hx]
   ·rw [if_neg e2,if_neg (λe3=>e2 (W.inj i x h hx e3))];exact W.links i h
 ·have h:=(hlive i).1 hi;rw [hkd i (dU h)] at hki;obtain ⟨r1,r2,r3,r4⟩:=W.dir i h hki;rw [hN,htn i (dU h)];by_cases e:i=d
  ·subst e;rw [if_pos rfl,if_pos rfl];refine ⟨?_,λe he=>(hlive _).2 ?_,xY r3 hp,r4⟩
   ·rw [r1];exact (Bw (rn num) (λ_=>rfl) (tn T i).names ⟨nm,x⟩).symm
   ·have he':e∈bF (tn T i).names ⟨nm,x⟩:=he;rcases List.mem_cons.1 ((mX _ _).mem_iff.1 he') with rfl|h3
    ·exact hx
    ·exact r2 e h3
  ·rw [if_neg e,if_neg (λe2=>e (W.inj i d h hd e2)),if_neg (λe2=>hkx (by rw [<-e2];exact hki))];exact ⟨r1,λe he=>(hlive _).2 (r2 e he),r3,r4⟩
 ·have h:=(hlive i).1 hi;rw [hkd i (dU h)] at hki;rw [hB,htn i (dU h),if_neg (λe=>hki (by rw [e];exact hk))];by_cases e2:i=x
  ·rw [if_pos e2];have:=W.data i h hki;rw [e2] at this ⊢;exact this
  ·rw [if_neg e2];exact W.data i h hki
 ·have h1:=hi.1;have hi':inT T i:=⟨h1,by have:=hi.2;rw [hlen] at this;exact this⟩;rw [hkd i (by omega)] at hki;rw [htn i (by omega),if_neg (λe=>hd.2 (by rw [<-e];exact hki)),if_neg (λe=>hx.2 (by rw [<-e];exact hki))];exact W.dead i hi' hki
 ·rw [htn 0 (by omega),if_neg (λe=>by have:=hd.1.1;omega),if_neg (λe=>by have:=hx.1.1;omega)];exact W.zero
 ·rw [hC] at hy;obtain ⟨i,h,he⟩:=W.all y y0 y1 hy;exact ⟨i,(hlive i).2 h,he⟩
 ·have h:=(hlive i).1 hi;have h3:=W.cnt i h h1;rw [hrefs,htn i (dU h)];by_cases e:i=d
  ·rw [if_pos e,if_neg (λe2=>hne (e2.trans e))];show (tn T d).links=_;rw [<-e,h3];rfl
  ·rw [if_neg e];by_cases e2:i=x
   ·rw [if_pos e2,if_pos e2.symm];show (tn T x).links+1=_;rw [<-e2,h3];rfl
   ·rw [if_neg e2,if_neg (λe3=>e2 e3.symm)];exact h3
 ·rw [hrefs,if_neg (λe=>hkx (by rw [e];exact W.root.2))];exact W.top
 ·obtain ⟨rk,hr⟩:=W.rank;refine ⟨λi=>if (tn T i).kind=2 then rk i+1 else 0,λi hi hki e he=>?_⟩;have h:=(hlive i).1 hi;rw [hkd i (dU h)] at hki;rw [htn i (dU h)] at he;simp only;rw [if_pos hki];have key:e.node=x\/e∈(tn T i).names:=by
   by_cases e2:i=d
   ·rw [if_pos e2] at he;have he':e∈bF (tn T d).names ⟨nm,x⟩:=he;rcases List.mem_cons.1 ((mX _ _).mem_iff.1 he') with rfl|h3
    ·exact .inl rfl
    ·exact .inr (by rw [e2];exact h3)
   ·rw [if_neg e2,if_neg (λe3=>hkx (by rw [<-e3];exact hki))] at he;exact .inr he
  rcases key with k1|k1
  ·rw [k1,if_neg hkx];omega
  ·have:=hr i h hki e k1;split <;> omega
theorem bW.wrote {S S':FS}{T:List aS}{num:List Int}(W:bW S T num){x:Int}{s:List UInt8}(hx:live T x)(hkx:(tn T x).kind≠2)
 (hC:∀ y,(S'.C y).kind=(S.C y).kind) (hL:∀ y,0<=y->y<24->(S.C y).kind≠0->(S'.C y).links=(S.C y).links)
 (hN:∀ y,S'.nm y=S.nm y) (hB:∀ y,S'.aL y=if y=nu num x then s else S.aL y):bW S' (bM T x { tn T x with data:=s }) num:=by
 have htn:∀ i:Int,0<=i->tn (bM T x { tn T x with data:=s }) i=if i=x then { tn T x with data:=s } else tn T i:=λi i0=>nK hx.1 _ i0;have hrefs:∀ j,refs (bM T x { tn T x with data:=s }) j=refs T j:=by
  intro j;have h2:=sD hx.1 { tn T x with data:=s } j;have h4:dV ({ tn T x with data:=s }:aS).names j=dV (tn T x).names j:=rfl;rw [h4] at h2;omega
 have hlen:(bM T x { tn T x with data:=s }).length=T.length:=nW _ _ _;generalize hT':bM T x { tn T x with data:=s }=T' at htn hrefs hlen;have hkd:∀ i:Int,0<=i->(tn T' i).kind=(tn T i).kind/\(tn T' i).links=(tn T i).links/\(tn T' i).names=(tn T i).names:=by
  intro i i0;rw [htn i i0];by_cases e2:i=x
  ·rw [if_pos e2,e2];exact ⟨rfl,rfl,rfl⟩
  ·rw [if_neg e2];exact ⟨rfl,rfl,rfl⟩
 have hlive:∀ i,live T' i↔live T i:=by
  intro i;unfold live inT;rw [hlen]
  constructor
  ·rintro ⟨⟨h1,h2⟩,h3⟩;rw [(hkd i (by omega)).1] at h3;exact ⟨⟨h1,h2⟩,h3⟩
  ·rintro ⟨⟨h1,h2⟩,h3⟩;exact ⟨⟨h1,h2⟩,by rw [(hkd i (by omega)).1];exact h3⟩
 refine ⟨W.len.trans hlen.symm,by rw [hlen];exact W.two,⟨W.root.1,by rw [(hkd 1 (by omega)).1];exact W.root.2⟩,λi hi=>W.bG i ((hlive i).1 hi),λi j hi hj e=>W.inj i j ((hlive i).1 hi) ((hlive j).1 hj) e,λi hi=>?_,λi hi=>?_,λi hi hki=>?_,λi hi hki=>?_,λi hi hki=>?_,?_,λy y0 y1 hy=>?_,λi hi h1=>?_,?_,?_⟩
 ·have h:=(hlive i).1 hi;rw [hC,(hkd i (dU h)).1];exact W.kind i h
 ·have h:=(hlive i).1 hi;have hr:=W.bG i h;have hk3:=W.kind i h;rw [hL _ (by omega) hr.2 (by rw [hk3.1];omega),(hkd i (dU h)).2.1];exact W.links i h
 ·have h:=(hlive i).1 hi;rw [(hkd i (dU h)).1] at hki;obtain ⟨r1,r2,r3,r4⟩:=W.dir i h hki;rw [hN,(hkd i (dU h)).2.2];refine ⟨r1,λe he=>(hlive _).2 (r2 e he),r3,?_⟩;rw [htn i (dU h),if_neg (λe=>hkx (by rw [<-e];exact hki))];exact r4
 ·have h:=(hlive i).1 hi;rw [(hkd i (dU h)).1] at hki;obtain ⟨d1,d2⟩:=W.data i h hki;rw [(hkd i (dU h)).2.2];refine ⟨?_,d2⟩;rw [hB,htn i (dU h)];by_cases e2:i=x
  ·rw [if_pos e2,e2,if_pos rfl]
  ·rw [if_neg e2,if_neg (λe3=>e2 (W.inj i x h hx e3))];exact d1
 ·have hi':inT T i:=⟨hi.1,by have:=hi.2;rw [hlen] at this;exact this⟩;have:=hi.1;rw [(hkd i (by omega)).1] at hki;rw [(hkd i (by omega)).2.2];exact W.dead i hi' hki
 ·rw [(hkd 0 (by omega)).2.2];exact W.zero
 ·rw [hC] at hy;obtain ⟨i,h,he⟩:=W.all y y0 y1 hy;exact ⟨i,(hlive i).2 h,he⟩
 ·have h:=(hlive i).1 hi;rw [hrefs,(hkd i (dU h)).2.1];exact W.cnt i h h1
 ·rw [hrefs];exact W.top
 ·obtain ⟨rk,hr⟩:=W.rank;refine ⟨rk,λi hi hki e he=>?_⟩;have h:=(hlive i).1 hi;rw [(hkd i (dU h)).1] at hki;rw [(hkd i (dU h)).2.2] at he;exact hr i h hki e he
end Go.Proofs.YtoociceebodfeaaGreatDoor
