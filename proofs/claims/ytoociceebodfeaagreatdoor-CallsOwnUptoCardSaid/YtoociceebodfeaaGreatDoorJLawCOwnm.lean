/-
  Joined texts: CalR, StpA, StpB, StpC, StpD, StpE, PlyA, PlyB, EntB, MemB, MemC, LayA, LaiZ, CalH, NewT.
-/
import Derived.Test.YtoociceebodfeaaGreatDoorJLawCOwnl
import Derived.Test.YtoociceebodfeaaGreatDoorJLawCOwng
import Derived.Test.YtoociceebodfeaaGreatDoorJLawCOwnh
import Derived.Test.YtoociceebodfeaaGreatDoorJLawCOwnj
set_option linter.all false
set_option maxRecDepth 100000
set_option maxHeartbeats 4000000
namespace Go.Proofs.YtoociceebodfeaaGreatDoor
open Go Go.aK
def nX (S:FS)(c:cO):dJ:=if fU S c.path=0 then ⟨(iO (S.aL (cB S c.path).1) c.at_ c.n).2,(iO (S.aL (cB S c.path).1) c.at_ c.n).1,0,0,0,[]⟩ else bO (fU S c.path)
def kW (S:FS)(c:cO):dJ:=if (aW (aX S) c.path false).2=0 then ⟨0,[],(S.C (aW (aX S) c.path false).1).kind,(S.C (aW (aX S) c.path false).1).links,(S.C (aW (aX S) c.path false).1).size,[]⟩ else bO (aW (aX S) c.path false).2
def nZ (S:FS)(c:cO):dJ:=if (aW (aX S) c.path false).2=0 then (if (S.C (aW (aX S) c.path false).1).kind=3 then ⟨(iO (S.aL (aW (aX S) c.path false).1) 0 120).2,(iO (S.aL (aW (aX S) c.path false).1) 0 120).1,0,0,0,[]⟩ else bO 1) else bO (aW (aX S) c.path false).2
def wB (S:FS)(c:cO):dJ:=⟨vE S c.path,[],0,0,0,vN S c.path⟩
def gB (B:Int->UInt64)(X:VS)(S:FS)(c:cO)(r:dJ)(X':VS):Prop:=
 if c.kind=4 then ∃ e,r=bO e/\kF B X S c.path 1 [] (.int .i64 e) X' else
 if c.kind=5 then ∃ e,r=bO e/\kF B X S c.path 2 [] (.int .i64 e) X' else
 if c.kind=6 then ∃ e,r=bO e/\sM B X S c.path c.path2 (.int .i64 e) X' else
 if c.kind=7 then ∃ e,r=bO e/\((bH c.path2=none/\e=3/\X'=X)\/(bH c.path2≠none/\kF B X S c.path 3 c.path2 (.int .i64 e) X')) else
 if c.kind=8 then ∃ e,r=bO e/\mF X S c.path oZ (.int .i64 e) X' else
 if c.kind=9 then ∃ e,r=bO e/\mF X S c.path pq (.int .i64 e) X' else
 if c.kind=10 then ∃ e,r=bO e/\sJ X S c.path c.path2 (.int .i64 e) X' else
 if c.kind=11 then ∃ e,r=bO e/\qU B X S c.path c.at_ c.data (.int .i64 e) X' else
 if c.kind=13 then ∃ e,r=bO e/\sI X S c.path c.at_ (.int .i64 e) X' else
 if c.kind=12 then (∃ s,X'={ X with seen:=s })/\r=nX S c else
 if c.kind=14 then (∃ s,X'={ X with seen:=s })/\r=kW S c else
 if c.kind=16 then (∃ s,X'={ X with seen:=s })/\r=nZ S c else
 if c.kind=15 then (∃ s,X'={ X with seen:=s })/\r=wB S c else
 X'=X/\r=bO 1
theorem vc4 {B:Int->UInt64}{X:VS}{S:FS}{c:cO}{r:dJ}{X':VS}(h:c.kind=4):gB B X S c r X'↔∃ e,r=bO e/\kF B X S c.path 1 [] (.int .i64 e) X':=by simp [gB,h]
theorem vc5 {B:Int->UInt64}{X:VS}{S:FS}{c:cO}{r:dJ}{X':VS}(h:c.kind=5):gB B X S c r X'↔∃ e,r=bO e/\kF B X S c.path 2 [] (.int .i64 e) X':=by simp [gB,h]
theorem vc6 {B:Int->UInt64}{X:VS}{S:FS}{c:cO}{r:dJ}{X':VS}(h:c.kind=6):gB B X S c r X'↔∃ e,r=bO e/\sM B X S c.path c.path2 (.int .i64 e) X':=by simp [gB,h]
theorem vc7 {B:Int->UInt64}{X:VS}{S:FS}{c:cO}{r:dJ}{X':VS}(h:c.kind=7):gB B X S c r X'↔∃ e,r=bO e/\((bH c.path2=none/\e=3/\X'=X)\/(bH c.path2≠none/\kF B X S c.path 3 c.path2 (.int .i64 e) X')):=by simp [gB,h]
theorem vc8 {B:Int->UInt64}{X:VS}{S:FS}{c:cO}{r:dJ}{X':VS}(h:c.kind=8):gB B X S c r X'↔∃ e,r=bO e/\mF X S c.path oZ (.int .i64 e) X':=by simp [gB,h]
theorem vc9 {B:Int->UInt64}{X:VS}{S:FS}{c:cO}{r:dJ}{X':VS}(h:c.kind=9):gB B X S c r X'↔∃ e,r=bO e/\mF X S c.path pq (.int .i64 e) X':=by simp [gB,h]
theorem vc10 {B:Int->UInt64}{X:VS}{S:FS}{c:cO}{r:dJ}{X':VS}(h:c.kind=10):gB B X S c r X'↔∃ e,r=bO e/\sJ X S c.path c.path2 (.int .i64 e) X':=by simp [gB,h]
theorem vc11 {B:Int->UInt64}{X:VS}{S:FS}{c:cO}{r:dJ}{X':VS}(h:c.kind=11):gB B X S c r X'↔∃ e,r=bO e/\qU B X S c.path c.at_ c.data (.int .i64 e) X':=by simp [gB,h]
theorem vc13 {B:Int->UInt64}{X:VS}{S:FS}{c:cO}{r:dJ}{X':VS}(h:c.kind=13):gB B X S c r X'↔∃ e,r=bO e/\sI X S c.path c.at_ (.int .i64 e) X':=by simp [gB,h]
theorem vc12 {B:Int->UInt64}{X:VS}{S:FS}{c:cO}{r:dJ}{X':VS}(h:c.kind=12):gB B X S c r X'↔(∃ s,X'={ X with seen:=s })/\r=nX S c:=by simp [gB,h]
theorem vc14 {B:Int->UInt64}{X:VS}{S:FS}{c:cO}{r:dJ}{X':VS}(h:c.kind=14):gB B X S c r X'↔(∃ s,X'={ X with seen:=s })/\r=kW S c:=by simp [gB,h]
theorem vc16 {B:Int->UInt64}{X:VS}{S:FS}{c:cO}{r:dJ}{X':VS}(h:c.kind=16):gB B X S c r X'↔(∃ s,X'={ X with seen:=s })/\r=nZ S c:=by simp [gB,h]
theorem vc15 {B:Int->UInt64}{X:VS}{S:FS}{c:cO}{r:dJ}{X':VS}(h:c.kind=15):gB B X S c r X'↔(∃ s,X'={ X with seen:=s })/\r=wB S c:=by simp [gB,h]
theorem vc0 {B:Int->UInt64}{X:VS}{S:FS}{c:cO}{r:dJ}{X':VS}(h:c.kind<4\/16<c.kind):gB B X S c r X'↔(X'=X/\r=bO 1):=by
 unfold gB;rw [if_neg (show ¬ c.kind=4 by omega)];rw [if_neg (show ¬ c.kind=5 by omega)];rw [if_neg (show ¬ c.kind=6 by omega)];rw [if_neg (show ¬ c.kind=7 by omega)];rw [if_neg (show ¬ c.kind=8 by omega)];rw [if_neg (show ¬ c.kind=9 by omega)];rw [if_neg (show ¬ c.kind=10 by omega)];rw [if_neg (show ¬ c.kind=11 by omega)];rw [if_neg (show ¬ c.kind=13 by omega)];rw [if_neg (show ¬ c.kind=12 by omega)];rw [if_neg (show ¬ c.kind=14 by omega)];rw [if_neg (show ¬ c.kind=16 by omega)];rw [if_neg (show ¬ c.kind=15 by omega)]
theorem kF.int {B:Int->UInt64}{X X':VS}{S:FS}{path data:List UInt8}{kind:Int}{v:Value}(R:kF B X S path kind data v X'):∃ e,v=.int .i64 e:=by
 obtain ⟨_,_,⟨_,h,_⟩|⟨_,_,_,_,⟨_,h,_⟩|⟨_,h,_⟩|⟨_,h,_⟩⟩⟩:=R <;> exact ⟨_,h⟩
theorem sM.int {B:Int->UInt64}{X X':VS}{S:FS}{old name:List UInt8}{v:Value}(R:sM B X S old name v X'):∃ e,v=.int .i64 e:=by
 obtain ⟨_,_,⟨_,h,_⟩|⟨_,_,h,_⟩|⟨_,_,⟨_,h,_⟩|⟨_,_,_,_,⟨_,h,_⟩|⟨_,_,h,_⟩|⟨_,_,h,_⟩|⟨_,_,h,_⟩⟩⟩⟩:=R <;> exact ⟨_,h⟩
theorem mF.int {X X':VS}{S:FS}{path:List UInt8}{may:aB->Int}{v:Value}(R:mF X S path may v X'):∃ e,v=.int .i64 e:=by
 obtain ⟨_,_,⟨_,h,_⟩|⟨_,_,_,_,⟨_,h,_⟩|⟨_,_,h,_⟩|⟨_,_,h,_⟩⟩⟩:=R <;> exact ⟨_,h⟩
theorem qU.int {B:Int->UInt64}{X X':VS}{S:FS}{path data:List UInt8}{at_:Int}{v:Value}(R:qU B X S path at_ data v X'):∃ e,v=.int .i64 e:=by
 obtain ⟨_,_,⟨_,h,_⟩|⟨_,_,h,_⟩|⟨_,_,h,_⟩|⟨_,_,h,_⟩⟩:=R <;> exact ⟨_,h⟩
theorem sI.int {X X':VS}{S:FS}{path:List UInt8}{size:Int}{v:Value}(R:sI X S path size v X'):∃ e,v=.int .i64 e:=by
 obtain ⟨_,_,⟨_,h,_⟩|⟨_,_,h,_⟩|⟨_,_,h,_⟩⟩:=R <;> exact ⟨_,h⟩
theorem sJ.int {X X':VS}{S:FS}{old name:List UInt8}{v:Value}(R:sJ X S old name v X'):∃ e,v=.int .i64 e:=by
 obtain ⟨_,_,⟨_,h,_⟩|⟨_,_,⟨_,h,_⟩|⟨_,_,_,_,⟨_,h,_⟩|⟨_,⟨_,h,_⟩|⟨_,_,_,_,⟨_,h,_⟩|⟨_,_,h,_⟩|⟨_,_,_,h,_⟩|⟨_,_,h⟩|⟨_,_,h,_⟩⟩⟩⟩⟩⟩:=R <;> exact ⟨_,h⟩
theorem Nh {h:Heap}{V:VL}{M:aV}{X:VS}(A:At h V M X){S:FS}(I:bK X.now S)(C:fZ S)(Q:uI S){rk:Int->Nat}(hr:zf S rk)(aw:X.bE=[])(c:cO)(hc:c.ok) :
 aD Tryz.prog 15 [.pointer (some ⟨V.v,0,none⟩),.agg ⟨c.cells⟩] h (λv h'=>Keeps [V.ob,V.sb,V.mb] h h'/\∃ r,eO h h' r v/\gD r/\∃ X',At h' V M X'/\gB M.read X S c r X'):=by
 have bl:=A.blt;have q1:=bl V.ob (by simp [VL.blocks]);have q2:=bl V.sb (by simp [VL.blocks]);have q3:=bl V.mb (by simp [VL.blocks]);have m0:∀ x∈([]:List Nat),x∈[V.ob,V.sb,V.mb]:=by simp
 have m1:∀ x∈[V.sb],x∈[V.ob,V.sb,V.mb]:=by simp
 refine aH aI Tryz.func15 rfl ok15 (by simp [Tryz.f15]) ?_;(conv=>whnf);refine aR.i λb1 h1 e1 s1 o1 k1=>?_;(conv=>whnf);refine aR.i λb2 h2 e2 s2 o2 k2=>?_;have z1:=k1.size;have z2:=k2.size;have k12:=k1.trans k2;have kk2:Keeps [V.ob,V.sb,V.mb] h h2:=k12.mono m0;have A2:=A.on k12;have jU:∀ {F:List Nat},(∀ x∈F,x∈[V.ob,V.sb,V.mb])->∀ y,y=b1\/y=b2->y∉F:=λhF y hy hx=>by
  have:=hF y hx;simp at this;omega
 have hb2:∀ b∈V.blocks,b∉[b2]:=λb hb hx=>by have:=bl b hb;simp at hx;omega
 (conv=>whnf);(try refine aU.pass ?_;conv=>whnf);refine ak.i (λhd=>?_) (λhd4=>?_)
 ·have hk:c.kind=4:=by simpa using hd
  (conv=>whnf);refine au.m (BX A2 I C aw c.path hc.2.1 (.inl rfl)) (λy hy=>jU (λx hx=>hx) y (by simpa [aA,bg] using hy)) λv h3 k3 hv=>?_;obtain ⟨X',A3,R⟩:=hv;have jV:=R.int;obtain ⟨e,rfl⟩:=jV;have z3:=k3.size;(conv=>whnf);refine aN.i λh4 s4 k4=>?_;(conv=>whnf);exact ⟨(kk2.trans k3).m1 k4 (by omega),bO e,eO.err _ _ e,gD.nil rfl,X',A3.keep k4 hb2,(vc4 hk).2 ⟨e,rfl,R⟩⟩
 ·skip;(conv=>whnf);(try refine aU.pass ?_;conv=>whnf);refine ak.i (λhd=>?_) (λhd5=>?_)
  ·have hk:c.kind=5:=by simpa using hd
   (conv=>whnf);refine au.m (BX A2 I C aw c.path hc.2.1 (.inr rfl)) (λy hy=>jU (λx hx=>hx) y (by simpa [aA,bg] using hy)) λv h3 k3 hv=>?_;obtain ⟨X',A3,R⟩:=hv;have jV:=R.int;obtain ⟨e,rfl⟩:=jV;have z3:=k3.size;(conv=>whnf);refine aN.i λh4 s4 k4=>?_;(conv=>whnf);exact ⟨(kk2.trans k3).m1 k4 (by omega),bO e,eO.err _ _ e,gD.nil rfl,X',A3.keep k4 hb2,(vc5 hk).2 ⟨e,rfl,R⟩⟩
  ·skip;(conv=>whnf);(try refine aU.pass ?_;conv=>whnf);refine ak.i (λhd=>?_) (λhd6=>?_)
   ·have hk:c.kind=6:=by simpa using hd
    (conv=>whnf);refine au.m (NN A2 I C c.path c.path2 hc.2.1 hc.2.2.1) (λy hy=>jU (λx hx=>hx) y (by simpa [aA,bg] using hy)) λv h3 k3 hv=>?_;obtain ⟨X',A3,R⟩:=hv;have jV:=R.int;obtain ⟨e,rfl⟩:=jV;have z3:=k3.size;(conv=>whnf);refine aN.i λh4 s4 k4=>?_;(conv=>whnf);exact ⟨(kk2.trans k3).m1 k4 (by omega),bO e,eO.err _ _ e,gD.nil rfl,X',A3.keep k4 hb2,(vc6 hk).2 ⟨e,rfl,R⟩⟩
   ·skip;(conv=>whnf);(try refine aU.pass ?_;conv=>whnf);refine ak.i (λhd=>?_) (λhd7=>?_)
    ·have hk:c.kind=7:=by simpa using hd
     (conv=>whnf);refine au.m (Gn A2 I C aw c.path c.path2 hc.2.1 hc.2.2.1) (λy hy=>jU (λx hx=>hx) y (by simpa [aA,bg] using hy)) λv h3 k3 hv=>?_;obtain ⟨X',A3,R⟩:=hv;have jV:∃ e,v=.int .i64 e:=by rcases R with ⟨_,h,_⟩|⟨_,R⟩;exact ⟨_,h⟩;exact R.int
     obtain ⟨e,rfl⟩:=jV;have R':(bH c.path2=none/\e=3/\X'=X)\/(bH c.path2≠none/\kF M.read X S c.path 3 c.path2 (.int .i64 e) X'):=by
      rcases R with ⟨r1,r2,r3⟩|R
      ·cases r2;exact .inl ⟨r1,rfl,r3⟩
      ·exact .inr R
     have z3:=k3.size;(conv=>whnf);refine aN.i λh4 s4 k4=>?_;(conv=>whnf);exact ⟨(kk2.trans k3).m1 k4 (by omega),bO e,eO.err _ _ e,gD.nil rfl,X',A3.keep k4 hb2,(vc7 hk).2 ⟨e,rfl,R'⟩⟩
    ·skip;(conv=>whnf);(try refine aU.pass ?_;conv=>whnf);refine ak.i (λhd=>?_) (λhd8=>?_)
     ·have hk:c.kind=8:=by simpa using hd
      (conv=>whnf);refine au.m (Gp A2 I C Q c.path hc.2.1) (λy hy=>jU (λx hx=>hx) y (by simpa [aA,bg] using hy)) λv h3 k3 hv=>?_;obtain ⟨X',A3,R⟩:=hv;have jV:=R.int;obtain ⟨e,rfl⟩:=jV;have z3:=k3.size;(conv=>whnf);refine aN.i λh4 s4 k4=>?_;(conv=>whnf);exact ⟨(kk2.trans k3).m1 k4 (by omega),bO e,eO.err _ _ e,gD.nil rfl,X',A3.keep k4 hb2,(vc8 hk).2 ⟨e,rfl,R⟩⟩
     ·skip;(conv=>whnf);(try refine aU.pass ?_;conv=>whnf);refine ak.i (λhd=>?_) (λhd9=>?_)
      ·have hk:c.kind=9:=by simpa using hd
       (conv=>whnf);refine au.m (NP A2 I C Q c.path hc.2.1) (λy hy=>jU (λx hx=>hx) y (by simpa [aA,bg] using hy)) λv h3 k3 hv=>?_;obtain ⟨X',A3,R⟩:=hv;have jV:=R.int;obtain ⟨e,rfl⟩:=jV;have z3:=k3.size;(conv=>whnf);refine aN.i λh4 s4 k4=>?_;(conv=>whnf);exact ⟨(kk2.trans k3).m1 k4 (by omega),bO e,eO.err _ _ e,gD.nil rfl,X',A3.keep k4 hb2,(vc9 hk).2 ⟨e,rfl,R⟩⟩
      ·skip;(conv=>whnf);(try refine aU.pass ?_;conv=>whnf);refine ak.i (λhd=>?_) (λhd10=>?_)
       ·have hk:c.kind=10:=by simpa using hd
        (conv=>whnf);refine au.m (NQ A2 I C hr c.path c.path2 hc.2.1 hc.2.2.1) (λy hy=>jU (λx hx=>hx) y (by simpa [aA,bg] using hy)) λv h3 k3 hv=>?_;obtain ⟨X',A3,R⟩:=hv;have jV:=R.int;obtain ⟨e,rfl⟩:=jV;have z3:=k3.size;(conv=>whnf);refine aN.i λh4 s4 k4=>?_;(conv=>whnf);exact ⟨(kk2.trans k3).m1 k4 (by omega),bO e,eO.err _ _ e,gD.nil rfl,X',A3.keep k4 hb2,(vc10 hk).2 ⟨e,rfl,R⟩⟩
       ·skip;(conv=>whnf);(try refine aU.pass ?_;conv=>whnf);refine ak.i (λhd=>?_) (λhd11=>?_)
        ·have hk:c.kind=11:=by simpa using hd
         (conv=>whnf);refine au.m (Gq A2 I C c.path hc.2.1 c.at_ c.data) (λy hy=>jU (λx hx=>hx) y (by simpa [aA,bg] using hy)) λv h3 k3 hv=>?_;obtain ⟨X',A3,R⟩:=hv;have jV:=R.int;obtain ⟨e,rfl⟩:=jV;have z3:=k3.size;(conv=>whnf);refine aN.i λh4 s4 k4=>?_;(conv=>whnf);exact ⟨(kk2.trans k3).m1 k4 (by omega),bO e,eO.err _ _ e,gD.nil rfl,X',A3.keep k4 hb2,(vc11 hk).2 ⟨e,rfl,R⟩⟩
        ·skip;(conv=>whnf);(try refine aU.pass ?_;conv=>whnf);refine ak.i (λhd=>?_) (λhd13=>?_)
         ·have hk:c.kind=13:=by simpa using hd
          (conv=>whnf);refine au.m (NR A2 I C c.path hc.2.1 c.at_) (λy hy=>jU (λx hx=>hx) y (by simpa [aA,bg] using hy)) λv h3 k3 hv=>?_;obtain ⟨X',A3,R⟩:=hv;have jV:=R.int;obtain ⟨e,rfl⟩:=jV;have z3:=k3.size;(conv=>whnf);refine aN.i λh4 s4 k4=>?_;(conv=>whnf);exact ⟨(kk2.trans k3).m1 k4 (by omega),bO e,eO.err _ _ e,gD.nil rfl,X',A3.keep k4 hb2,(vc13 hk).2 ⟨e,rfl,R⟩⟩
         ·skip;(conv=>whnf);(try refine aU.pass ?_;conv=>whnf);refine ak.i (λhd=>?_) (λhd12=>?_)
          ·have hk:c.kind=12:=by simpa using hd
           (conv=>whnf);refine au.m (Gr A2 I C c.path hc.2.1 c.at_ c.n) (λy hy=>jU m1 y (by simpa [aA,bg] using hy)) λv h3 k3 hv=>?_;have z3:=k3.size;have o3:=k3.obj o2 (jU m1 b2 (.inr rfl));obtain ⟨⟨s,A3⟩,hv⟩:=hv;have kk3:Keeps [V.ob,V.sb,V.mb] h h3:=kk2.trans (k3.mono m1);have hv:v=.tuple #[.string (ba (nX S c).data),.int .i64 (nX S c).err]/\nX S c=⟨(nX S c).err,(nX S c).data,0,0,0,[]⟩:=by
            unfold nX;split at hv
            ·rename_i h0;rw [if_pos h0];exact ⟨hv,rfl⟩
            ·rename_i h0;rw [if_neg h0];exact ⟨hv,rfl⟩
           obtain ⟨rfl,hq⟩:=hv;generalize hQ:nX S c=q at hq;(conv=>whnf);refine aN.i λh4 s4 k4=>?_;(conv=>whnf);refine ⟨kk3.m1 k4 (by omega),q,?_,gD.nil (by rw [hq]),_,A3.keep k4 hb2,(vc12 hk).2 ⟨⟨s,rfl⟩,hQ.symm⟩⟩;rw [hq];exact eO.flat _ _ _ _ 0 0 0
          ·skip;(conv=>whnf);(try refine aU.pass ?_;conv=>whnf);refine ak.i (λhd=>?_) (λhd14=>?_)
           ·have hk:c.kind=14:=by simpa using hd
            (conv=>whnf);refine au.m (Gs A2 I C c.path hc.2.1) (λy hy=>jU m1 y (by simpa [aA,bg] using hy)) λv h3 k3 hv=>?_;have z3:=k3.size;have o3:=k3.obj o2 (jU m1 b2 (.inr rfl));obtain ⟨⟨s,A3⟩,hv⟩:=hv;have kk3:Keeps [V.ob,V.sb,V.mb] h h3:=kk2.trans (k3.mono m1);have hv:v=.tuple #[.agg #[.int .i64 0,.int .i64 (kW S c).k,.int .i64 (kW S c).l,.int .i64 (kW S c).s],.int .i64 (kW S c).err]/\kW S c=⟨(kW S c).err,[],(kW S c).k,(kW S c).l,(kW S c).s,[]⟩:=by
             unfold kW;split at hv
             ·rename_i h0;rw [if_pos h0];exact ⟨hv,rfl⟩
             ·rename_i h0;rw [if_neg h0];exact ⟨hv,rfl⟩
            obtain ⟨rfl,hq⟩:=hv;generalize hQ:kW S c=q at hq;(conv=>whnf);refine aR.i λb5 h5 e5 s5 o5 k5=>?_;(conv=>whnf);refine aN.i λh6 s6 k6=>?_;have k36:Keeps [] h3 h6:=k5.new1 k6 (by omega);have z36:=k36.size;(conv=>whnf);refine aN.i λh7 s7 k7=>?_;(conv=>whnf);refine ⟨(kk3.trans (k36.mono m0)).m1 k7 (by omega),q,?_,gD.nil (by rw [hq]),_,(A3.on k36).keep k7 hb2,(vc14 hk).2 ⟨⟨s,rfl⟩,hQ.symm⟩⟩;rw [hq];exact eO.flat _ _ _ _ _ _ _
           ·skip;(conv=>whnf);(try refine aU.pass ?_;conv=>whnf);refine ak.i (λhd=>?_) (λhd16=>?_)
            ·have hk:c.kind=16:=by simpa using hd
             (conv=>whnf);refine au.m (NS A2 I C c.path hc.2.1) (λy hy=>jU m1 y (by simpa [aA,bg] using hy)) λv h3 k3 hv=>?_;have z3:=k3.size;have o3:=k3.obj o2 (jU m1 b2 (.inr rfl));obtain ⟨⟨s,A3⟩,hv⟩:=hv;have kk3:Keeps [V.ob,V.sb,V.mb] h h3:=kk2.trans (k3.mono m1);have hv:v=.tuple #[.string (ba (nZ S c).data),.int .i64 (nZ S c).err]/\nZ S c=⟨(nZ S c).err,(nZ S c).data,0,0,0,[]⟩:=by
              unfold nZ;split at hv
              ·rename_i h0;rw [if_pos h0];split at hv
               ·rename_i h1;rw [if_pos h1];exact ⟨hv,rfl⟩
               ·rename_i h1;rw [if_neg h1];exact ⟨hv,rfl⟩
              ·rename_i h0;rw [if_neg h0];exact ⟨hv,rfl⟩
             obtain ⟨rfl,hq⟩:=hv;generalize hQ:nZ S c=q at hq;(conv=>whnf);refine aN.i λh4 s4 k4=>?_;(conv=>whnf);refine ⟨kk3.m1 k4 (by omega),q,?_,gD.nil (by rw [hq]),_,A3.keep k4 hb2,(vc16 hk).2 ⟨⟨s,rfl⟩,hQ.symm⟩⟩;rw [hq];exact eO.flat _ _ _ _ 0 0 0
            ·skip;(conv=>whnf);(try refine aU.pass ?_;conv=>whnf);refine ak.i (λhd=>?_) (λhd15=>?_)
             ·have hk:c.kind=15:=by simpa using hd
              (conv=>whnf);refine au.m (NT A2 I C c.path hc.2.1) (λy hy=>jU m1 y (by simpa [aA,bg] using hy)) λv h3 k3 hv=>?_;have z3:=k3.size;have o3:=k3.obj o2 (jU m1 b2 (.inr rfl));obtain ⟨⟨s,A3⟩,hv⟩:=hv;have kk3:Keeps [V.ob,V.sb,V.mb] h h3:=kk2.trans (k3.mono m1);obtain ⟨hv,hnl,hl105⟩:=hv;have hL:wB S c=⟨vE S c.path,[],0,0,0,vN S c.path⟩:=rfl;generalize vE S c.path=e at hL hv;generalize vN S c.path=l at hL hv hnl hl105;obtain ⟨a3,c3,rfl,O3,n3⟩:=hv;have S3:=zn O3 (by omega) hnl;(conv=>whnf);refine aR.i λb5 h5 e5 s5 o5 k5=>?_;(conv=>whnf);refine aN.i λh6 s6 k6=>?_;have k36:Keeps [] h3 h6:=k5.new1 k6 (by omega);have z36:=k36.size;have o6:=k36.obj o3 (by simp);(conv=>whnf);refine bP.on [4,11,13,14] [4,13] (λq:Nat×Option Addr×Nat=>[(4,.lp 4 0),(11,.v (.slice a3 l.length c3)),(13,.lp 13 0),(14,.v (.int .i64 (q.1:Int)))]) (λq=>[(4,b2,[.int .i64 0,.int .i64 0,.string ⟨#[]⟩,.int .i64 0,.int .i64 0,.int .i64 0,.int .i64 0,.slice none 0 0]),(13,b5,[.int .i64 e,.int .i64 0,.string ⟨#[]⟩,.int .i64 0,.int .i64 0,.int .i64 0,.int .i64 0,.slice q.2.1 q.1 q.2.2])]) (λq h7=>q.1<=l.length/\Keeps [] h3 h7/\h6.size<=h7.size/\Own h7 93 2 q.2.1 q.1 q.2.2 (bS (jW (l.take q.1)))/\∀ b∈ay q.2.1,h6.size<=b) (λq=>l.length-q.1) (0,none,0) ?_ ?_
              ·(conv=>whnf);exact ⟨(0,none,0),rfl,rfl,rfl,Nat.zero_le _,k36,Nat.le_refl _,.inl ⟨rfl,rfl,rfl,rfl⟩,λb hb=>(by cases hb)⟩
              ·rintro ⟨i,a7,c7⟩ h7 ⟨hi,k7,z7,O7,n7⟩;simp only at hi O7 n7;(conv=>whnf);refine ak.i (λhi1=>?_) (λhi1=>?_)
               ·have hi1:i<l.length:=by simpa using hi1
                obtain ⟨b8,o8,hb8,_,hc8⟩:=(S3.keep k7).at1 i (by rw [fO];exact hi1);have e8:(bq l)[i]'(by rw [fO];exact hi1)=ba (l[i]'hi1):=by simp [bq]
                rw [e8] at hc8;(conv=>whnf);refine aQ.i i rfl hi1 hb8 ?_;(conv=>whnf);refine ax.i hc8 ?_;(conv=>whnf);refine aR.i λb9 h9 e9 s9 o9 k9=>?_;(conv=>whnf);refine Gt (s:=l[i]'hi1) (l:=l.take i) (O7.keep k9 (by simp)) (by rw [List.length_take];omega) (by omega) (λj hj=>?_) (λy hy hx=>?_) ?_
                ·simp only [Heap.cell?,o9];have:j=0\/j=1:=by omega
                 rcases this with rfl|rfl <;> rfl
                ·have:=n7 y hy;simp [aA,bg] at hx;omega
                ·intro a10 c10 h10 O10 k10 n10;have z9:=k9.size;have ew:IntKind.i64.wrap ((i:Int)+1)=((i+1:Nat):Int):=wrapN (by simp) (by omega);have ht:l.take (i+1)=l.take i++[l[i]'hi1]:=List.take_succ_eq_append_getElem hi1;have z10:=k10.size;(conv=>whnf);refine aN.i λh11 s11 k11=>?_;(conv=>whnf);refine ⟨l.length-(i+1),by omega,?_⟩;(conv=>whnf);rw [ew];have z11:=k11.size;have wK:∀ b∈ay a10,h6.size<=b:=λb hb=>by
                  rcases n10 b hb with h|h
                  ·exact n7 b h
                  ·omega
                 refine ⟨(i+1,a10,c10),rfl,rfl,rfl,hi1,(((k7.trans k9).dL k10 (λb hb=>by have:=n7 b hb;omega)).new1 k11 (by omega)),by omega,?_,wK⟩;simp only;rw [ht];exact O10.keep k11 (λb hb hx=>by have:=wK b hb;simp at hx;omega)
               ·have hi1:i=l.length:=by simp at hi1;omega
                rw [hi1,List.take_length] at O7;subst hi1;(conv=>whnf);refine aN.i λh8 s8 k8=>?_;(conv=>whnf);exact ⟨(kk3.trans (k7.mono m0)).m1 k8 (by omega),_,⟨a7,c7,rfl,O7.keep k8 (λb hb hx=>by have:=n7 b hb;simp at hx;omega),λb hb=>by have:=n7 b hb;omega⟩,⟨hnl,hl105⟩,_,(A3.on k7).keep k8 hb2,(vc15 hk).2 ⟨⟨s,rfl⟩,hL.symm⟩⟩
             ·skip;(conv=>whnf);(try refine aU.pass ?_;conv=>whnf);refine aN.i λh4 s4 k4=>?_;(conv=>whnf);have hn4:c.kind≠4:=by simpa using hd4
              have hn5:c.kind≠5:=by simpa using hd5
              have hn6:c.kind≠6:=by simpa using hd6
              have hn7:c.kind≠7:=by simpa using hd7
              have hn8:c.kind≠8:=by simpa using hd8
              have hn9:c.kind≠9:=by simpa using hd9
              have hn10:c.kind≠10:=by simpa using hd10
              have hn11:c.kind≠11:=by simpa using hd11
              have hn13:c.kind≠13:=by simpa using hd13
              have hn12:c.kind≠12:=by simpa using hd12
              have hn14:c.kind≠14:=by simpa using hd14
              have hn16:c.kind≠16:=by simpa using hd16
              have hn15:c.kind≠15:=by simpa using hd15
              exact ⟨(kk2).m1 k4 (by omega),bO 1,eO.err _ _ 1,gD.nil rfl,X,A2.keep k4 hb2,(vc0 (by omega)).2 ⟨rfl,rfl⟩⟩
theorem bW.sK {S:FS}{T:List aS}{num:List Int}(W:bW S T num)(path:List UInt8):(bD (aX S) path).2.2.2=(bD (aY T) path).2.2.2:=(W.place path).1
theorem bW.tE {S:FS}{T:List aS}{num:List Int}(W:bW S T num)(path:List UInt8):fU S path=tE T path/\(tE T path=0->(cB S path).1=nu num (tX T path)/\live T (tX T path)/\(tn T (tX T path)).kind≠2):=by
 obtain ⟨w1,w2⟩:=W.path path true;unfold fU Proofs.YtoociceebodfeaaGreatDoor.tE cB tX;by_cases h0:(aW (aY T) path true).2=0
 ·obtain ⟨a1,a2⟩:=w2 h0;have hk:=(W.kind _ a2).1;rw [<-a1] at hk;rw [w1,h0,hk];refine ⟨rfl,λh=>⟨a1,a2,λhk2=>?_⟩⟩;rw [if_pos ⟨rfl,hk2⟩] at h;cases h
 ·rw [if_neg (λh=>h0 (w1 ▸ h.1)),if_neg (λh=>h0 h.1),w1];exact ⟨rfl,λh=>absurd h h0⟩
structure Both (S:FS)(T:List aS)(num:List Int)(d':Int)(gI:List UInt8)(nd' d:Int)(nm:List UInt8)(nd:Int):Prop where
 ld:live T d
 kd:(tn T d).kind=2
 ed:d'=nu num d
 en:gI=nm
 ex:(nd=0/\nd'=0/\cK (tn T d).names nm=none)\/(nd≠0/\nd'≠0/\live T nd/\nd'=nu num nd/\∃ e,cK (tn T d).names nm=some e/\e.node=nd)
theorem bW.both {S:FS}{T:List aS}{num:List Int}(W:bW S T num){path:List UInt8}{d':Int}{gI:List UInt8}{nd' d:Int}{nm:List UInt8}{nd:Int}(P:lU S path d' gI nd')(Q:lV T path d nm nd):Both S T num d' gI nd' d nm nd:=by
 obtain ⟨w1,w2⟩:=W.place path;rw [P.is,Q.is] at w2;obtain ⟨a1,a2,a3,a4,a5⟩:=w2 rfl;simp only at a1 a2 a3 a4 a5;refine ⟨a1,a2,a3,a4,?_⟩;rcases a5 with ⟨b1,b2,b3⟩|⟨e,b1,b2,b3,b4⟩
 ·exact .inl ⟨b2,b3,b1⟩
 ·have h1:=b3.1.1;have h2:=W.bG _ b3;rw [<-b2] at b3 b4 h1 h2;exact .inr ⟨by omega,by omega,b3,b4,e,b1,b2.symm⟩
theorem bW.wE {S:FS}{T:List aS}{num:List Int}(W:bW S T num){path:List UInt8}{d:Int}{nm:List UInt8}{nd:Int}(Q:lV T path d nm nd)(h:(bD (aX S) path).2.2.2≠0):False:=by
 rw [W.sK,Q.is] at h;exact h rfl
theorem bW.wF {S:FS}{T:List aS}{num:List Int}(W:bW S T num){path:List UInt8}{d:Int}{nm:List UInt8}{nd:Int}(P:lU S path d nm nd)(h:(bD (aY T) path).2.2.2≠0):False:=by
 rw [<-W.sK,P.is] at h;exact h rfl
theorem bW.lk {now:Int->UInt64}{S:FS}{T:List aS}{num:List Int}(W:bW S T num)(I:bK now S){i:Int}(hi:live T i):0<=(tn T i).links/\(tn T i).links<=255/\((tn T i).kind=2->(tn T i).links=1):=by
 have hr:=W.bG i hi;have hk:=W.kind i hi;have N:=I.node (nu num i) (by omega) hr.2;rw [<-W.links i hi];by_cases h2:(tn T i).kind=2
 ·obtain ⟨m,D⟩:=N.dir (by rw [hk.1];exact h2);have:=D.kind.2;rw [this];exact ⟨by decide,by decide,λ_=>rfl⟩
 ·obtain ⟨m,F⟩:=N.file (by rw [hk.1];omega);exact ⟨F.kind.2.1,F.kind.2.2,λh=>absurd h h2⟩
theorem bW.wH {now:Int->UInt64}{S:FS}{T:List aS}{num:List Int}(W:bW S T num)(I:bK now S){i:Int}(hi:live T i)(h2:(tn T i).kind=2):(S.C (nu num i)).links=1:=by
 rw [W.links i hi];exact (W.lk I hi).2.2 h2
theorem Gm {x:Int}(h : -1000<=x/\x<=1000):IntKind.i64.wrap x=x:=dQ (by omega) (by omega)
def Out (X X':VS)(S:FS)(num:List Int)(T':List aS)(r r':dJ):Prop:=X'.away=X.away/\X'.bE=X.bE /\
 ((r=bO 9/\r'.err=0)\/(r=r'/\r.err≠0/\X'.now=X.now)\/(r=r'/\r.err=0/\∃ S' num',bK X'.now S'/\bW S' T' num'))
theorem BU {B:Int->UInt64}{X X':VS}{S:FS}{T T':List aS}{num:List Int}(W:bW S T num)(I:bK X.now S){path data:List UInt8}{kind e e':Int}(hk:1<=kind/\kind<=3)(hd:kind=2->data=[])(R:kF B X S path kind data (.int .i64 e) X')(D:nG T path kind data e' T'):Out X X' S num T' (bO e) (bO e'):=by
 obtain ⟨ra,rb,R⟩:=R;refine ⟨ra,rb,?_⟩;rcases R with ⟨r1,r2,r3,_⟩|⟨d',gI,nd',P,R⟩
 ·cases r2;rcases D with ⟨_,d2⟩|⟨d,nm,nd,Q,_⟩
  ·exact .inr (.inl ⟨by rw [d2,W.sK],r1,r3⟩)
  ·exact absurd r1 (λh=>W.wE Q h)
 ·rcases D with ⟨d1,_⟩|⟨d,nm,nd,Q,D⟩
  ·exact absurd d1 (λh=>W.wF P h)
  ·obtain ⟨ld,kd,e1,e2,e3⟩:=W.both P Q;subst e1 e2;rcases R with ⟨r1,r2,r3,_⟩|⟨r1,r2,_⟩|⟨r1,r2,_,_,n,M⟩
   ·cases r2;rcases D with ⟨_,rfl⟩|⟨d1,_⟩
    ·exact .inr (.inl ⟨rfl,by decide,r3⟩)
    ·rcases e3 with ⟨_,q,_⟩|⟨q,_⟩
     ·exact absurd q r1
     ·exact absurd d1 q
   ·cases r2;rcases D with ⟨d1,_⟩|⟨_,rfl,_⟩
    ·rcases e3 with ⟨q,_⟩|⟨_,q,_⟩
     ·exact absurd q d1
     ·exact absurd r1 q
    ·exact .inl ⟨rfl,rfl⟩
   ·cases r2;rcases D with ⟨d1,_⟩|⟨d1,rfl,hT⟩
    ·rcases e3 with ⟨q,_⟩|⟨_,q,_⟩
     ·exact absurd q d1
     ·exact absurd r1 q
    ·subst d1;refine .inr (.inr ⟨rfl,rfl,?_⟩);obtain ⟨c2,c1,x1,x2,x3,x4,IF⟩:=M.fs;have hdk:(S.C (nu num d)).kind=2:=by rw [(W.kind d ld).1];exact kd
     have hdn:nu num d≠n:=λh=>by rw [h,M.was] at hdk;cases hdk
     have hdl:=W.wH I ld kd;refine ⟨_,num++[n],IF,?_⟩;rw [hT];refine W.made ld kd M.was ⟨by have:=M.bG;omega,M.bG.2⟩ (Q.uJ W.tree) hk hd (λx=>?_) (λx _ _ hx=>?_) (λx=>?_) (λx=>?_)
     ·show (if x=nu num d then c1 else if x=n then c2 else S.C x).kind=_;by_cases hxn:x=n
      ·rw [if_pos hxn,if_neg (by omega),if_pos hxn,x1]
      ·rw [if_neg hxn,if_neg hxn];by_cases hxd:x=nu num d
       ·rw [if_pos hxd,x3,hxd,hdk]
       ·rw [if_neg hxd]
     ·show (if x=nu num d then c1 else if x=n then c2 else S.C x).links=_;by_cases hxn:x=n
      ·rw [if_pos hxn,if_neg (by omega),if_pos hxn,x2]
      ·rw [if_neg hxn,if_neg hxn];by_cases hxd:x=nu num d
       ·rw [if_pos hxd,x4,hxd,hdl]
       ·rw [if_neg hxd]
     ·show (if x=nu num d then bF (S.nm (nu num d)) ⟨gI,n⟩ else if x=n then [] else S.nm x)=_;rfl
     ·show (if x=nu num d then S.aL (nu num d) else if x=n then data else S.aL x)=_;by_cases hxn:x=n
      ·rw [if_pos hxn,if_neg (by omega)]
      ·rw [if_neg hxn];by_cases hxd:x=nu num d
       ·rw [if_pos hxd,hxd]
       ·rw [if_neg hxd]
theorem NH {B:Int->UInt64}{X X':VS}{S:FS}{T T':List aS}{num:List Int}(W:bW S T num)(I:bK X.now S){old name:List UInt8}{e e':Int}(R:sM B X S old name (.int .i64 e) X')(D:wJ T old name e' T'):Out X X' S num T' (bO e) (bO e'):=by
 obtain ⟨ra,rb,R⟩:=R;refine ⟨ra,rb,?_⟩;obtain ⟨w1,w2⟩:=W.path old false;rw [w1] at R;rcases R with ⟨r1,r2,r3,_⟩|⟨r1,r2,r3,r4,_⟩|⟨r1,r2,R⟩
 ·cases r2;rcases D with ⟨_,rfl⟩|⟨d1,_⟩|⟨d1,_⟩
  ·exact .inr (.inl ⟨rfl,r1,r3⟩)
  ·exact absurd d1 r1
  ·exact absurd d1 r1
 ·cases r3;obtain ⟨a1,a2⟩:=w2 r1;rw [a1,(W.kind _ a2).1] at r2;rcases D with ⟨d1,_⟩|⟨_,_,rfl⟩|⟨_,d2,_⟩
  ·exact absurd r1 d1
  ·exact .inr (.inl ⟨rfl,by decide,r4⟩)
  ·exact absurd r2 d2
 ·obtain ⟨a1,a2⟩:=w2 r1;have hkk:=(W.kind _ a2).1;have hlk:=W.lk I a2;have hll:=W.links _ a2;rw [a1] at r2 R;rw [hkk] at r2;rcases D with ⟨d1,_⟩|⟨_,d2,_⟩|⟨_,d2,D⟩
  ·exact absurd r1 d1
  ·exact absurd d2 r2
  ·generalize (aW (aY T) old false).1=x at *;rcases R with ⟨r5,r6,r7,_⟩|⟨d',gI,nd',P,R⟩
   ·cases r6;rcases D with ⟨_,rfl⟩|⟨d,nm,nd,Q,_⟩
    ·exact .inr (.inl ⟨by rw [W.sK],r5,r7⟩)
    ·exact absurd r5 (λh=>W.wE Q h)
   ·rcases D with ⟨d1,_⟩|⟨d,nm,nd,Q,D⟩
    ·exact absurd d1 (λh=>W.wF P h)
    ·obtain ⟨ld,kd,e1,e2,e3⟩:=W.both P Q;subst e1 e2;have hz:nd'=0↔nd=0:=by
      rcases e3 with ⟨q1,q2,_⟩|⟨q1,q2,_⟩
      ·exact ⟨λ_=>q1,λ_=>q2⟩
      ·exact ⟨λh=>absurd h q2,λh=>absurd h q1⟩
     rw [hll] at R;rcases R with ⟨r3,r4,r5,_⟩|⟨r3,r4,r5,r6,_⟩|⟨r3,r4,r5,_⟩|⟨r3,r4,r5,_,_,c2,c1,x1,x2,x3,x4,IF⟩
     ·cases r4;rcases D with ⟨_,rfl⟩|⟨d1,_⟩|⟨d1,_⟩
      ·exact .inr (.inl ⟨rfl,by decide,r5⟩)
      ·exact absurd (hz.2 d1) r3
      ·exact absurd (hz.2 d1) r3
     ·cases r5;rcases D with ⟨d1,_⟩|⟨_,_,rfl⟩|⟨_,d2,_⟩
      ·exact absurd (hz.1 r3) d1
      ·exact .inr (.inl ⟨rfl,by decide,r6⟩)
      ·omega
     ·cases r5;rcases D with ⟨d1,_⟩|⟨_,d2,_⟩|⟨_,_,rfl,_⟩
      ·exact absurd (hz.1 r3) d1
      ·omega
      ·exact .inl ⟨rfl,rfl⟩
     ·cases r5;rcases D with ⟨d1,_⟩|⟨_,d3,_⟩|⟨d1,_,rfl,hT⟩
      ·exact absurd (hz.1 r3) d1
      ·omega
      ·subst d1;refine .inr (.inr ⟨rfl,rfl,_,num,IF,?_⟩);have hdk:(S.C (nu num d)).kind=2:=by rw [(W.kind d ld).1];exact kd
       have hdl:=W.wH I ld kd;have hxd:nu num x≠nu num d:=λh=>r2 (by rw [<-hkk,h];exact hdk);rw [hT,Gm (by omega)];refine W.linked ld kd a2 d2 (Q.uJ W.tree) (λy=>?_) (λy _ _ hy=>?_) (λy=>?_) (λy=>?_)
       ·show (if y=nu num d then c1 else if y=nu num x then c2 else S.C y).kind=_;by_cases h1:y=nu num d
        ·rw [if_pos h1,x3,h1,hdk]
        ·rw [if_neg h1];by_cases h2:y=nu num x
         ·rw [if_pos h2,x1,h2]
         ·rw [if_neg h2]
       ·show (if y=nu num d then c1 else if y=nu num x then c2 else S.C y).links=_;by_cases h1:y=nu num d
        ·rw [if_pos h1,x4,h1,if_neg (λh=>hxd h.symm),hdl]
        ·rw [if_neg h1];by_cases h2:y=nu num x
         ·rw [if_pos h2,if_pos h2,x2,h2,hll]
         ·rw [if_neg h2,if_neg h2]
       ·show (if y=nu num d then bF (S.nm (nu num d)) ⟨gI,nu num x⟩ else if y=nu num x then S.nm (nu num x) else S.nm y)=_;by_cases h1:y=nu num d
        ·rw [if_pos h1,if_pos h1]
        ·rw [if_neg h1,if_neg h1];by_cases h2:y=nu num x
         ·rw [if_pos h2,h2]
         ·rw [if_neg h2]
       ·show (if y=nu num d then S.aL (nu num d) else if y=nu num x then S.aL (nu num x) else S.aL y)=_;by_cases h1:y=nu num d
        ·rw [if_pos h1,h1]
        ·rw [if_neg h1];by_cases h2:y=nu num x
         ·rw [if_pos h2,h2]
         ·rw [if_neg h2]
theorem Gj (num:List Int)(e:aF):(rn num e).name=e.name:=rfl
theorem Gh {X X':VS}{S:FS}{T T':List aS}{num:List Int}(W:bW S T num)(I:bK X.now S){path:List UInt8}{isDir:Bool}{may:aB->Int}{e e':Int}
 (hm:∀ i,live T i->(may (S.C (nu num i))=(if isDir=false/\(tn T i).kind=2 then 7 else if isDir=true/\(tn T i).kind≠2 then 6 else if isDir=true/\(tn T i).names≠[] then 8 else 0)))
 (R:mF X S path may (.int .i64 e) X') (D:sH T path isDir e' T'):Out X X' S num T' (bO e) (bO e'):=by
 obtain ⟨ra,rb,R⟩:=R;refine ⟨ra,rb,?_⟩;rcases R with ⟨r1,r2,r3,_⟩|⟨d',gI,nd',P,R⟩
 ·cases r2;rcases D with ⟨_,rfl⟩|⟨d,nm,nd,Q,_⟩
  ·exact .inr (.inl ⟨by rw [W.sK],r1,r3⟩)
  ·exact absurd r1 (λh=>W.wE Q h)
 ·rcases D with ⟨d1,_⟩|⟨d,nm,nd,Q,D⟩
  ·exact absurd d1 (λh=>W.wF P h)
  ·obtain ⟨ld,kd,e1,e2,e3⟩:=W.both P Q;subst e1 e2;rcases e3 with ⟨q1,q2,_⟩|⟨q1,q2,q3,q4,en,q5,q6⟩
   ·rcases R with ⟨_,r2,r3,_⟩|⟨r1,_⟩|⟨r1,_⟩
    ·cases r2;rcases D with ⟨_,rfl⟩|⟨d1,_⟩|⟨d1,_⟩|⟨d1,_⟩|⟨d1,_⟩
     ·exact .inr (.inl ⟨rfl,by decide,r3⟩)
     all_goals exact absurd q1 d1
    all_goals exact absurd q2 r1
   ·have hmd:=hm nd q3;rw [<-q4] at hmd;rcases R with ⟨r1,_⟩|⟨_,r2,r3,r4,_⟩|⟨_,r2,r3,_,c1,x1,x2,hL⟩
    ·exact absurd r1 q2
    ·cases r3;rw [hmd] at r2 ⊢;rcases D with ⟨d1,_⟩|⟨_,d2,d3,rfl⟩|⟨_,d2,d3,rfl⟩|⟨_,d2,d3,d4,rfl⟩|⟨_,d2,d3,_⟩
     ·exact absurd d1 q1
     ·rw [if_pos ⟨d2,d3⟩];exact .inr (.inl ⟨rfl,by decide,r4⟩)
     ·rw [if_neg (λh=>d3 h.2),if_pos ⟨d2,d3⟩];exact .inr (.inl ⟨rfl,by decide,r4⟩)
     ·rw [if_neg (λh=>by rw [d2] at h;cases h.1),if_neg (λh=>h.2 d3),if_pos ⟨d2,d4⟩];exact .inr (.inl ⟨rfl,by decide,r4⟩)
     ·exfalso;apply r2;rw [if_neg (λh=>by have:=d2.2 h.2;rw [h.1] at this;cases this),if_neg (λh=>h.2 (d2.1 h.1)),if_neg (λh=>h.2 (d3 h.1))]
    ·cases r3;rw [hmd] at r2;rcases D with ⟨d1,_⟩|⟨_,d2,d3,_⟩|⟨_,d2,d3,_⟩|⟨_,d2,d3,d4,_⟩|⟨_,d2,d3,rfl,hT⟩
     ·exact absurd d1 q1
     ·rw [if_pos ⟨d2,d3⟩] at r2;cases r2
     ·rw [if_neg (λh=>d3 h.2),if_pos ⟨d2,d3⟩] at r2;cases r2
     ·rw [if_neg (λh=>by rw [d2] at h;cases h.1),if_neg (λh=>h.2 d3),if_pos ⟨d2,d4⟩] at r2;cases r2
     ·have hem:en∈(tn T d).names:=List.mem_of_find?_eq_some q5;obtain ⟨hpt,hkl,hkn,_⟩:=wG (W.dir d ld kd).2.2.1 q5;have hnd:((tn T d).names[aO (tn T d).names gI]'hkl).node=nd:=by rw [hkn];exact q6
      obtain ⟨hne,hn1⟩:=W.ne_of ld kd hem;rw [q6] at hne hn1;have hlk:=W.lk I q3;have hcnt:=W.cnt nd q3 hn1;have hpos:=zm ld.1 hem;rw [q6] at hpos;have hll:=W.links nd q3;have hdl:=W.wH I ld kd;have hdk:(S.C (nu num d)).kind=2:=by rw [(W.kind d ld).1];exact kd
      have hxd:nu num nd≠nu num d:=λh=>hne (W.inj nd d q3 ld h);have hpk:aO (S.nm (nu num d)) gI=aO (tn T d).names gI:=by rw [(W.dir d ld kd).1,zi _ (Gj num)]
      have hT':T'=bM (bM T d { tn T d with names:=(tn T d).names.eraseIdx (aO (tn T d).names gI) }) nd (if (tn T nd).links-1=0 then ⟨0,0,0,[],[]⟩ else { tn T nd with links:=(tn T nd).links-1 }):=by
       rw [hT,nK ld.1 _ (dU q3),if_neg hne];unfold wz;rw [Gm (by omega)]
      have hne0:(tn T nd).links=1->(tn T nd).names=[]:=λ_=>by
       by_cases h2:(tn T nd).kind=2
       ·exact d3 (d2.2 h2)
       ·exact (W.data nd q3 h2).2
      rw [q4,hpk] at hL;rw [hll] at hL;rcases hL with ⟨g1,vv,IF⟩|⟨g1,vv,IF⟩
      ·refine .inr (.inr ⟨rfl,rfl,_,num,IF,?_⟩);rw [hT'];have no:∀ y,¬ (y=nu num nd/\(tn T nd).links=1):=λy h=>by omega
       refine W.lost ld kd hkl hnd hne0 (λy=>?_) (λy _ _ _ _=>?_) (λy _=>?_) (λy _=>?_)
       ·rw [if_neg (no y)];show (if y=nu num nd then lT (qV (S.C (nu num nd))) vv else if y=nu num d then c1 else S.C y).kind=_;by_cases h1:y=nu num nd
        ·rw [if_pos h1,h1];rfl
        ·rw [if_neg h1];by_cases h2:y=nu num d
         ·rw [if_pos h2,x1,h2,hdk]
         ·rw [if_neg h2]
       ·show (if y=nu num nd then lT (qV (S.C (nu num nd))) vv else if y=nu num d then c1 else S.C y).links=_;by_cases h1:y=nu num nd
        ·rw [if_pos h1,if_pos h1,h1];rfl
        ·rw [if_neg h1,if_neg h1];by_cases h2:y=nu num d
         ·rw [if_pos h2,x2,h2,hdl]
         ·rw [if_neg h2]
       ·show (if y=nu num nd then S.nm (nu num nd) else if y=nu num d then _ else S.nm y)=_;by_cases h1:y=nu num nd
        ·rw [if_pos h1,h1,if_neg hxd]
        ·rw [if_neg h1]
       ·show (if y=nu num nd then S.aL (nu num nd) else if y=nu num d then S.aL (nu num d) else S.aL y)=_;by_cases h1:y=nu num nd
        ·rw [if_pos h1,h1]
        ·rw [if_neg h1];by_cases h2:y=nu num d
         ·rw [if_pos h2,h2]
         ·rw [if_neg h2]
      ·have hl1:(tn T nd).links=1:=by omega
       refine .inr (.inr ⟨rfl,rfl,_,num,IF,?_⟩);rw [hT'];refine W.lost ld kd hkl hnd hne0 (λy=>?_) (λy _ _ _ hy=>?_) (λy hy=>?_) (λy hy=>?_)
       ·show (if y=nu num nd then fQ vv else if y=nu num d then c1 else S.C y).kind=_;by_cases h1:y=nu num nd
        ·rw [if_pos h1,if_pos ⟨h1,hl1⟩];rfl
        ·rw [if_neg h1,if_neg (show ¬ (y=nu num nd/\(tn T nd).links=1) from λh=>h1 h.1)];by_cases h2:y=nu num d
         ·rw [if_pos h2,x1,h2,hdk]
         ·rw [if_neg h2]
       ·have h1:y≠nu num nd:=λh=>hy ⟨h,hl1⟩;show (if y=nu num nd then fQ vv else if y=nu num d then c1 else S.C y).links=_;rw [if_neg h1,if_neg h1];by_cases h2:y=nu num d
        ·rw [if_pos h2,x2,h2,hdl]
        ·rw [if_neg h2]
       ·have h1:y≠nu num nd:=λh=>hy ⟨h,hl1⟩;show (if y=nu num nd then [] else if y=nu num d then _ else S.nm y)=_;rw [if_neg h1]
       ·have h1:y≠nu num nd:=λh=>hy ⟨h,hl1⟩;show (if y=nu num nd then [] else if y=nu num d then S.aL (nu num d) else S.aL y)=_;rw [if_neg h1];by_cases h2:y=nu num d
        ·rw [if_pos h2,h2]
        ·rw [if_neg h2]
theorem iJ.snoc {T:List aS}{d x:Int}{e:aF}(h:iJ T d x)(hk:(tn T d).kind=2)(he:e∈(tn T d).names):iJ T e.node x:=by
 induction h with
 | refl=>exact .head hk he .refl
 | head h1 h2 _ ih=>exact .head h1 h2 ih
theorem kY.BV {T:List aS}{x y:Int}(h:kY T x y):iJ T y x:=by
 induction h with
 | refl=>exact .refl
 | step _ _ h2 h3 ih=>exact ih.snoc h2 h3
theorem bW.NJ {S:FS}{T:List aS}{num:List Int}(W:bW S T num){f x:Int}(h:iJ T f x)(hx:live T x):kZ S (nu num f) (nu num x):=by
 induction h with
 | refl=>exact .refl
 | @head x e h1 h2 h3 ih=>
  obtain ⟨a1,a2,_,_⟩:=W.dir x hx h1;have h2':rn num e∈S.nm (nu num x):=by rw [a1];exact List.mem_map_of_mem h2
  exact .head (by rw [(W.kind x hx).1];exact h1) h2' (ih (a2 e h2))
theorem bW.BV {S:FS}{T:List aS}{num:List Int}(W:bW S T num){f:Int}(hf:live T f){x':Int}(h:kZ S (nu num f) x'):∀ x,live T x->x'=nu num x->iJ T f x:=by
 induction h with
 | refl=>
  intro x hx e;rw [W.inj f x hf hx e];exact .refl
 | @head y e h1 h2 h3 ih=>
  intro x hx ey;subst ey;have hk:(tn T x).kind=2:=by rw [<-(W.kind x hx).1];exact h1
  obtain ⟨a1,a2,_,_⟩:=W.dir x hx hk;rw [a1] at h2;obtain ⟨e0,h0,rfl⟩:=List.mem_map.1 h2;exact .head hk h0 (ih e0.node (a2 e0 h0) rfl)
theorem NI {X X':VS}{S:FS}{T T':List aS}{num:List Int}(W:bW S T num)(I:bK X.now S){old name:List UInt8}{e e':Int}(R:sJ X S old name (.int .i64 e) X')(D:zh T old name e' T'):Out X X' S num T' (bO e) (bO e'):=by
 obtain ⟨ra,rb,R⟩:=R;refine ⟨ra,rb,?_⟩;rcases R with ⟨r1,r2,r3,_⟩|⟨r1,r2,R⟩
 ·cases r2;rcases D with ⟨_,rfl⟩|⟨d1,d2,_⟩
  ·exact .inr (.inl ⟨rfl,by decide,r3⟩)
  ·rcases r1 with r1|r1
   ·exact absurd r1 d1
   ·exact absurd r1 d2
 ·rcases D with ⟨d1,_⟩|⟨_,_,D⟩
  ·rcases d1 with d1|d1
   ·exact absurd d1 r1
   ·exact absurd d1 r2
  ·rcases R with ⟨r3,r4,r5,_⟩|⟨d',gI,nd',P,R⟩
   ·cases r4;rcases D with ⟨_,rfl⟩|⟨d,nm,nd,Q,_⟩
    ·exact .inr (.inl ⟨by rw [W.sK],r3,r5⟩)
    ·exact absurd r3 (λh=>W.wE Q h)
   ·rcases D with ⟨d1,_⟩|⟨d,nm,nd,Q,D⟩
    ·exact absurd d1 (λh=>W.wF P h)
    ·obtain ⟨ld,kd,e1,e2,e3⟩:=W.both P Q;subst e1 e2;rcases e3 with ⟨q1,q2,_⟩|⟨q1,q2,q3,q4,en,q5,q6⟩
     ·rcases R with ⟨_,r4,r5,_⟩|⟨r3,_⟩
      ·cases r4;rcases D with ⟨_,rfl⟩|⟨d1,_⟩
       ·exact .inr (.inl ⟨rfl,by decide,r5⟩)
       ·exact absurd q1 d1
      ·exact absurd q2 r3
     ·rcases R with ⟨r3,_⟩|⟨_,R⟩
      ·exact absurd r3 q2
      ·rcases D with ⟨d1,_⟩|⟨_,D⟩
       ·exact absurd d1 q1
       ·rcases R with ⟨r3,r4,r5,_⟩|⟨f',NK,Gi,P2,R⟩
        ·cases r4;rcases D with ⟨_,rfl⟩|⟨_,_,_,Q2,_⟩
         ·exact .inr (.inl ⟨by rw [W.sK],r3,r5⟩)
         ·exact absurd r3 (λh=>W.wE Q2 h)
        ·rcases D with ⟨d1,_⟩|⟨f,nm2,nd2,Q2,D⟩
         ·exact absurd d1 (λh=>W.wF P2 h)
         ·obtain ⟨lf,kf,f1,f2,f3⟩:=W.both P2 Q2;subst f1 f2;have hz:Gi=0↔nd2=0:=by
           rcases f3 with ⟨g1,g2,_⟩|⟨g1,g2,_⟩
           ·exact ⟨λ_=>g1,λ_=>g2⟩
           ·exact ⟨λh=>absurd h g2,λh=>absurd h g1⟩
          have hs:Gi=nd'↔nd2=nd:=by
           rcases f3 with ⟨g1,g2,_⟩|⟨g1,g2,g3,g4,_⟩
           ·exact ⟨λh=>absurd (h.symm.trans g2) q2,λh=>absurd (h.symm.trans g1) q1⟩
           ·exact ⟨λh=>W.inj nd2 nd g3 q3 (by rw [<-g4,<-q4];exact h),λh=>by rw [g4,q4,h]⟩
          have hB:kZ S (nu num f) nd'↔((tn T nd).kind=2/\iJ T f nd):=by
           rw [q4];exact ⟨λh=>by
            have hb:=W.BV lf h nd q3 rfl;exact ⟨hb.dir kf,hb⟩,λh=>W.NJ h.2 q3⟩
          rcases R with ⟨r3,r4,r5,_⟩|⟨r3,r4,r5,r6,_⟩|⟨r3,r4,r5,r6,r7,_⟩|⟨r3,r4,r5⟩|⟨r3,r4,r5,_,c1,c2,x1,x2,x3,x4,IF⟩
          ·cases r4;rcases D with ⟨_,rfl,rfl⟩|⟨d1,_⟩|⟨d1,_⟩|⟨d1,_⟩
           ·exact .inr (.inr ⟨rfl,rfl,S,num,by rw [r5];exact I,W⟩)
           ·exact absurd (hs.1 r3) d1
           ·exact absurd (hs.1 r3) d1
           ·exact absurd (hs.1 r3) (λh=>q1 (h.symm.trans d1))
          ·cases r5;rcases D with ⟨d1,_⟩|⟨_,_,rfl⟩|⟨_,d2,_⟩|⟨_,d2,_⟩
           ·exact absurd (hs.2 d1) r3
           ·exact .inr (.inl ⟨rfl,by decide,r6⟩)
           ·exact absurd (hB.1 r4) d2
           ·exact absurd (hB.1 r4) d2
          ·cases r6;rcases D with ⟨d1,_⟩|⟨_,d2,_⟩|⟨_,d2,d3,rfl⟩|⟨d1,_⟩
           ·exact absurd (hs.2 d1) r3
           ·exact absurd (hB.2 d2) r4
           ·exact .inr (.inl ⟨rfl,by decide,r7⟩)
           ·exact absurd (hz.2 d1) r5
          ·cases r5;rcases D with ⟨d1,_⟩|⟨_,d2,_⟩|⟨_,_,d3,_⟩|⟨_,_,rfl,_⟩
           ·exact absurd (hs.2 d1) (λh=>q2 (h.symm.trans r3))
           ·exact absurd (hB.2 d2) r4
           ·exact absurd (hz.1 r3) d3
           ·exact .inl ⟨rfl,rfl⟩
          ·cases r5;rcases D with ⟨d1,_⟩|⟨_,d2,_⟩|⟨_,_,d3,_⟩|⟨d1,d2,rfl,hT⟩
           ·exact absurd (hs.2 d1) (λh=>q2 (h.symm.trans r3))
           ·exact absurd (hB.2 d2) r4
           ·exact absurd (hz.1 r3) d3
           ·refine .inr (.inr ⟨rfl,rfl,_,num,IF,?_⟩);rw [hT];obtain ⟨hpt,hkl,hkn,_⟩:=wG (W.dir d ld kd).2.2.1 q5;have hnd:((tn T d).names[aO (tn T d).names gI]'hkl).node=nd:=by rw [hkn];exact q6
            have hpk:aO (S.nm (nu num d)) gI=aO (tn T d).names gI:=by rw [(W.dir d ld kd).1,zi _ (Gj num)]
            have hdk:(S.C (nu num d)).kind=2:=by rw [(W.kind d ld).1];exact kd
            have jf:(S.C (nu num f)).kind=2:=by rw [(W.kind f lf).1];exact kf
            have hdl:=W.wH I ld kd;have hfl:=W.wH I lf kf;have hdf:nu num f=nu num d↔f=d:=⟨λh=>W.inj f d lf ld h,λh=>by rw [h]⟩;subst d1;refine W.moved ld kd hkl hnd lf kf ?_ (λhb=>d2 ?_) (λy=>?_) (λy _ _ _=>?_) (λy=>?_) (λy=>?_)
            ·by_cases ol:f=d
             ·rw [if_pos ol];subst ol;exact zk (wI (W.dir _ lf kf).2.2.1 _) (Gl (Q2.new W.tree) _)
             ·rw [if_neg ol];exact Q2.uJ W.tree
            ·have hb2:=hb.BV;exact ⟨hb2.dir kf,hb2⟩
            ·show (if y=nu num f then c2 else if y=nu num d then c1 else S.C y).kind=_;by_cases h1:y=nu num f
             ·rw [if_pos h1,x3,h1,jf]
             ·rw [if_neg h1];by_cases h2:y=nu num d
              ·rw [if_pos h2,x1,h2,hdk]
              ·rw [if_neg h2]
            ·show (if y=nu num f then c2 else if y=nu num d then c1 else S.C y).links=_;by_cases h1:y=nu num f
             ·rw [if_pos h1,x4,h1,hfl]
             ·rw [if_neg h1];by_cases h2:y=nu num d
              ·rw [if_pos h2,x2,h2,hdl]
              ·rw [if_neg h2]
            ·show (if y=nu num f then bF (if nu num f=nu num d then (S.nm (nu num d)).eraseIdx (aO (S.nm (nu num d)) gI) else S.nm (nu num f)) ⟨NK,nd'⟩ else if y=nu num d then (S.nm (nu num d)).eraseIdx (aO (S.nm (nu num d)) gI) else S.nm y)=_;rw [hpk,q4];by_cases ol:f=d
             ·rw [if_pos ol,if_pos (hdf.2 ol)]
             ·rw [if_neg ol,if_neg (λh=>ol (hdf.1 h))]
            ·show (if y=nu num f then S.aL (nu num f) else if y=nu num d then S.aL (nu num d) else S.aL y)=_;by_cases h1:y=nu num f
             ·rw [if_pos h1,h1]
             ·rw [if_neg h1];by_cases h2:y=nu num d
              ·rw [if_pos h2,h2]
              ·rw [if_neg h2]
theorem Gg {X X':VS}{S:FS}{T T':List aS}{num:List Int}(W:bW S T num)(I:bK X.now S){path:List UInt8}{r:List UInt8->List UInt8×Int}{e e':Int}
 (R:X'.away=X.away/\X'.bE=X.bE/\((fU S path≠0/\e=fU S path/\X'.now=X.now)\/(fU S path=0/\(r (S.aL (cB S path).1)).2≠0/\e=(r (S.aL (cB S path).1)).2/\X'.now=X.now)\/(fU S path=0/\(r (S.aL (cB S path).1)).2=0/\e=9) \/
  (fU S path=0/\(r (S.aL (cB S path).1)).2=0/\e=0/\∃ c',c'.kind=(S.C (cB S path).1).kind/\c'.links=(S.C (cB S path).1).links/\bK X'.now (S.put (cB S path).1 c' (S.nm (cB S path).1) (r (S.aL (cB S path).1)).1))))
 (D:nH T path r e' T'):Out X X' S num T' (bO e) (bO e'):=by
 obtain ⟨ra,rb,R⟩:=R;refine ⟨ra,rb,?_⟩;obtain ⟨w1,w2⟩:=W.tE path;rw [w1] at R;by_cases h0:tE T path=0
 ·obtain ⟨a1,a2,a3⟩:=w2 h0;have hd:=(W.data _ a2 a3).1;rw [a1,<-hd] at R;rcases R with ⟨r1,_⟩|⟨_,r2,r3,r4⟩|⟨_,r2,r3⟩|⟨_,r2,r3,c',x1,x2,IF⟩
  ·exact absurd h0 r1
  ·rcases D with ⟨d1,_⟩|⟨_,d2,d3⟩|⟨_,d2,_⟩
   ·exact absurd h0 d1
   ·exact .inr (.inl ⟨by rw [r3,d3],by rw [r3];exact r2,r4⟩)
   ·exact absurd d2 r2
  ·subst r3;rcases D with ⟨d1,_⟩|⟨_,d2,d3⟩|⟨_,d2,d3,_⟩
   ·exact absurd h0 d1
   ·exact absurd r2 d2
   ·exact .inl ⟨rfl,d3⟩
  ·subst r3;rcases D with ⟨d1,_⟩|⟨_,d2,d3⟩|⟨_,d2,d3,hT⟩
   ·exact absurd h0 d1
   ·exact absurd r2 d2
   ·subst d3;refine .inr (.inr ⟨rfl,rfl,_,num,IF,?_⟩);rw [hT];refine W.wrote a2 a3 (λy=>?_) (λy _ _ _=>?_) (λy=>?_) (λy=>rfl)
    ·show (if y=nu num (tX T path) then c' else S.C y).kind=_;by_cases h1:y=nu num (tX T path)
     ·rw [if_pos h1,x1,h1]
     ·rw [if_neg h1]
    ·show (if y=nu num (tX T path) then c' else S.C y).links=_;by_cases h1:y=nu num (tX T path)
     ·rw [if_pos h1,x2,h1]
     ·rw [if_neg h1]
    ·show (if y=nu num (tX T path) then S.nm (nu num (tX T path)) else S.nm y)=_;by_cases h1:y=nu num (tX T path)
     ·rw [if_pos h1,h1]
     ·rw [if_neg h1]
 ·rcases R with ⟨r1,r2,r3⟩|⟨r1,_⟩|⟨r1,_⟩|⟨r1,_⟩
  ·rcases D with ⟨_,d2⟩|⟨d1,_⟩|⟨d1,_⟩
   ·exact .inr (.inl ⟨by rw [r2,d2],by rw [r2];exact h0,r3⟩)
   ·exact absurd d1 h0
   ·exact absurd d1 h0
  all_goals exact absurd r1 h0
theorem Nw {B:Int->UInt64}{X X':VS}{S:FS}{T T':List aS}{num:List Int}(W:bW S T num)(I:bK X.now S){path data:List UInt8}{at_ e e':Int}(R:qU B X S path at_ data (.int .i64 e) X')(D:nH T path (λs=>fq s at_ data) e' T'):Out X X' S num T' (bO e) (bO e'):=by
 refine Gg W I ?_ D;obtain ⟨ra,rb,R⟩:=R;refine ⟨ra,rb,?_⟩;rcases R with ⟨r1,r2,r3,_⟩|⟨r1,r2,r3,r4,_⟩|⟨r1,r2,r3,_⟩|⟨r1,r2,r3,_,r4⟩
 ·cases r2;exact .inl ⟨r1,rfl,r3⟩
 ·cases r3;exact .inr (.inl ⟨r1,r2,rfl,r4⟩)
 ·cases r3;exact .inr (.inr (.inl ⟨r1,r2,rfl⟩))
 ·cases r3;exact .inr (.inr (.inr ⟨r1,r2,rfl,r4⟩))
theorem Ny {X X':VS}{S:FS}{T T':List aS}{num:List Int}(W:bW S T num)(I:bK X.now S){path:List UInt8}{size e e':Int}(R:sI X S path size (.int .i64 e) X')(D:nH T path (λs=>iw s size) e' T'):Out X X' S num T' (bO e) (bO e'):=by
 refine Gg W I ?_ D;obtain ⟨ra,rb,R⟩:=R;refine ⟨ra,rb,?_⟩;rcases R with ⟨r1,r2,r3,_⟩|⟨r1,r2,r3,r4,_⟩|⟨r1,r2,r3,_,r4⟩
 ·cases r2;exact .inl ⟨r1,rfl,r3⟩
 ·cases r3;exact .inr (.inl ⟨r1,r2,rfl,r4⟩)
 ·cases r3;exact .inr (.inr (.inr ⟨r1,r2,rfl,r4⟩))
def BR (T:List aS):Prop:=∀ i,(tn T i).kind=3->(tn T i).data.length<=120
theorem Nz {s:List UInt8}(h:s.length<=120):iO s 0 120=(s,0):=by
 unfold iO;rw [if_neg (by omega)];by_cases h0:(s.length:Int)<=0
 ·rw [if_pos h0];have:s=[]:=List.eq_nil_of_length_eq_zero (by omega);rw [this]
 ·rw [if_neg h0];have:(min (s.length:Int) (0+120)).toNat=s.length:=by omega
  rw [this,List.take_length];rfl
theorem NA {S:FS}{T:List aS}{num:List Int}(W:bW S T num)(c:cO):nX S c=nY T c:=by
 obtain ⟨w1,w2⟩:=W.tE c.path;unfold nX nY;rw [w1];by_cases h0:tE T c.path=0
 ·obtain ⟨a1,a2,a3⟩:=w2 h0;rw [if_pos h0,if_pos h0,a1,<-(W.data _ a2 a3).1]
 ·rw [if_neg h0,if_neg h0]
theorem NC {now:Int->UInt64}{S:FS}{T:List aS}{num:List Int}(W:bW S T num)(I:bK now S)(c:cO):kW S c=kX T c:=by
 obtain ⟨w1,w2⟩:=W.path c.path false;unfold kW kX;rw [w1];by_cases h0:(aW (aY T) c.path false).2=0
 ·obtain ⟨a1,a2⟩:=w2 h0;rw [if_pos h0,if_pos h0,a1];generalize (aW (aY T) c.path false).1=x at a2 ⊢;have hk:=W.kind x a2;have hr:=W.bG x a2;have N:=I.node (nu num x) (by omega) hr.2;have hs:(S.C (nu num x)).size=(((tn T x).data.length+(tn T x).names.length:Nat):Int):=by
   by_cases h2:(tn T x).kind=2
   ·obtain ⟨m,D⟩:=N.dir (by rw [hk.1];exact h2);obtain ⟨q1,_,_,q4⟩:=W.dir x a2 h2;rw [D.size,q1,q4,List.length_map];simp
   ·obtain ⟨m,F⟩:=N.file (by rw [hk.1];omega);obtain ⟨q1,q2⟩:=W.data x a2 h2;rw [F.size,q1,q2];simp
  rw [hk.1,W.links x a2,hs]
 ·rw [if_neg h0,if_neg h0]
theorem ND {S:FS}{T:List aS}{num:List Int}(W:bW S T num)(hs:BR T)(c:cO):nZ S c=oh T c:=by
 obtain ⟨w1,w2⟩:=W.path c.path false;unfold nZ oh;rw [w1];by_cases h0:(aW (aY T) c.path false).2=0
 ·obtain ⟨a1,a2⟩:=w2 h0;rw [if_pos h0,if_pos h0,a1];generalize (aW (aY T) c.path false).1=x at a2 ⊢;rw [(W.kind x a2).1];by_cases h3:(tn T x).kind=3
  ·rw [if_pos h3,if_pos h3,<-(W.data x a2 (by omega)).1,Nz (hs x h3)]
  ·rw [if_neg h3,if_neg h3]
 ·rw [if_neg h0,if_neg h0]
theorem NE {S:FS}{T:List aS}{num:List Int}(W:bW S T num)(c:cO):wB S c=wD T c:=by
 obtain ⟨w1,w2⟩:=W.path c.path true;have hE:vE S c.path=lE T c.path:=by
  unfold vE lE;rw [w1];by_cases h0:(aW (aY T) c.path true).2=0
  ·obtain ⟨a1,a2⟩:=w2 h0;rw [a1,(W.kind _ a2).1]
  ·rw [if_neg (λh=>h0 h.1),if_neg (λh=>h0 h.1)]
 unfold wB wD vN;rw [hE]
 congr 1
 by_cases hl:lE T c.path=0
 ·rw [if_pos hl,if_pos hl];have h0:(aW (aY T) c.path true).2=0/\(tn T (aW (aY T) c.path true).1).kind=2:=by
   unfold lE at hl;split at hl
   ·cases hl
   ·rename_i hn;exact ⟨hl,Classical.byContradiction λh=>hn ⟨hl,h⟩⟩
  obtain ⟨a1,a2⟩:=w2 h0.1;rw [a1,(W.dir _ a2 h0.2).1];unfold fV tX;rw [List.map_map];rfl
 ·rw [if_neg hl,if_neg hl]
theorem NF {now:Int->UInt64}{S:FS}{T:List aS}{num:List Int}(W:bW S T num)(I:bK now S):∀ i,live T i->(oZ (S.C (nu num i))=(if false=false/\(tn T i).kind=2 then 7 else if false=true/\(tn T i).kind≠2 then 6 else if false=true/\(tn T i).names≠[] then 8 else 0)):=by
 intro i hi;unfold oZ;rw [(W.kind i hi).1];by_cases h2:(tn T i).kind=2
 ·rw [if_pos h2,if_pos ⟨rfl,h2⟩]
 ·rw [if_neg h2,if_neg (λh=>h2 h.2),if_neg (λh=>by cases h.1),if_neg (λh=>by cases h.1)]
theorem NG {now:Int->UInt64}{S:FS}{T:List aS}{num:List Int}(W:bW S T num)(I:bK now S):∀ i,live T i->(pq (S.C (nu num i))=(if true=false/\(tn T i).kind=2 then 7 else if true=true/\(tn T i).kind≠2 then 6 else if true=true/\(tn T i).names≠[] then 8 else 0)):=by
 intro i hi;unfold pq;have hr:=W.bG i hi;have hk:=W.kind i hi;rw [if_neg (show ¬ (true=false/\(tn T i).kind=2) from λh=>by cases h.1),hk.1];by_cases h2:(tn T i).kind=2
 ·obtain ⟨m,D⟩:=(I.node (nu num i) (by omega) hr.2).dir (by rw [hk.1];exact h2);have hs:(S.C (nu num i)).size=((tn T i).names.length:Int):=by rw [D.size,(W.dir i hi h2).1,List.length_map]
  rw [if_neg (λh=>h h2),if_neg (show ¬ (true=true/\(tn T i).kind≠2) from λh=>h.2 h2),hs];by_cases hn:(tn T i).names=[]
  ·rw [if_neg (by rw [hn];simp),if_neg (λh=>h.2 hn)]
  ·have:=List.length_pos_iff.2 hn;rw [if_pos (by omega),if_pos ⟨rfl,hn⟩]
 ·rw [if_pos h2,if_pos ⟨rfl,h2⟩]
theorem Nl {B:Int->UInt64}{X X':VS}{S:FS}{T T':List aS}{num:List Int}(W:bW S T num)(I:bK X.now S)(hs:BR T){c:cO}{r r':dJ}(RR:gB B X S c r X')(DD:fT T c r' T'):Out X X' S num T' r r':=by
 have tell:∀ {q q':dJ},q=q'->(∃ s,X'={ X with seen:=s })/\r=q->T'=T/\r'=q'->Out X X' S num T' r r':=by
  rintro q q' rfl ⟨⟨s,rfl⟩,rfl⟩ ⟨rfl,rfl⟩;refine ⟨rfl,rfl,.inr ?_⟩;by_cases h:r'.err=0
  ·exact .inr ⟨rfl,h,S,num,I,W⟩
  ·exact .inl ⟨rfl,h,rfl⟩
 by_cases k4:c.kind=4
 ·obtain ⟨e,rfl,R⟩:=(vc4 k4).1 RR;obtain ⟨e',rfl,D⟩:=(rc4 k4).1 DD;exact BU W I (by decide) (λ_=>rfl) R D
 by_cases k5:c.kind=5
 ·obtain ⟨e,rfl,R⟩:=(vc5 k5).1 RR;obtain ⟨e',rfl,D⟩:=(rc5 k5).1 DD;exact BU W I (by decide) (λ_=>rfl) R D
 by_cases k6:c.kind=6
 ·obtain ⟨e,rfl,R⟩:=(vc6 k6).1 RR;obtain ⟨e',rfl,D⟩:=(rc6 k6).1 DD;exact NH W I R D
 by_cases k7:c.kind=7
 ·obtain ⟨e,rfl,R⟩:=(vc7 k7).1 RR;obtain ⟨e',rfl,D⟩:=(rc7 k7).1 DD;rcases R with ⟨r1,rfl,rfl⟩|⟨r1,R⟩
  ·rcases D with ⟨_,rfl⟩|⟨d1,_⟩
   ·exact ⟨rfl,rfl,.inr (.inl ⟨rfl,by decide,rfl⟩)⟩
   ·exact absurd r1 d1
  ·rcases D with ⟨d1,_⟩|⟨_,D⟩
   ·exact absurd d1 r1
   ·exact BU W I (by decide) (λh=>by cases h) R D
 by_cases k8:c.kind=8
 ·obtain ⟨e,rfl,R⟩:=(vc8 k8).1 RR;obtain ⟨e',rfl,D⟩:=(rc8 k8).1 DD;exact Gh W I (NF W I) R D
 by_cases k9:c.kind=9
 ·obtain ⟨e,rfl,R⟩:=(vc9 k9).1 RR;obtain ⟨e',rfl,D⟩:=(rc9 k9).1 DD;exact Gh W I (NG W I) R D
 by_cases k10:c.kind=10
 ·obtain ⟨e,rfl,R⟩:=(vc10 k10).1 RR;obtain ⟨e',rfl,D⟩:=(rc10 k10).1 DD;exact NI W I R D
 by_cases k11:c.kind=11
 ·obtain ⟨e,rfl,R⟩:=(vc11 k11).1 RR;obtain ⟨e',rfl,D⟩:=(rc11 k11).1 DD;exact Nw W I R D
 by_cases k13:c.kind=13
 ·obtain ⟨e,rfl,R⟩:=(vc13 k13).1 RR;obtain ⟨e',rfl,D⟩:=(rc13 k13).1 DD;exact Ny W I R D
 by_cases k12:c.kind=12
 ·exact tell (NA W c) ((vc12 k12).1 RR) ((rc12 k12).1 DD)
 by_cases k14:c.kind=14
 ·exact tell (NC W I c) ((vc14 k14).1 RR) ((rc14 k14).1 DD)
 by_cases k16:c.kind=16
 ·exact tell (ND W hs c) ((vc16 k16).1 RR) ((rc16 k16).1 DD)
 by_cases k15:c.kind=15
 ·exact tell (NE W c) ((vc15 k15).1 RR) ((rc15 k15).1 DD)
 obtain ⟨rfl,rfl⟩:=(vc0 (by omega)).1 RR;obtain ⟨rfl,rfl⟩:=(rc0 (by omega)).1 DD;exact ⟨rfl,rfl,.inr (.inl ⟨rfl,by decide,rfl⟩)⟩
theorem BQ {F:Fs}(h1:F.kind 1≠3):∀ (f:Nat) (at_:Int) (links:Nat) (l:List (List UInt8)),F.kind at_≠3->(dW F 1 true f at_ links l).2=0->F.kind (dW F 1 true f at_ links l).1≠3
 | 0,_,_,_,_,h=>by cases h
 | f+1,at_,links,[],ha,_=>ha
 | f+1,at_,links,name::rest,ha,h=>by
  rw [zb] at h ⊢;split at h
  ·cases h
  ·rename_i hk;rw [if_neg hk];cases hf:F.find at_ name with
   | none=>rw [hf] at h;cases h
   | some next=>
    rw [hf] at h;simp only at h ⊢;split at h
    ·rename_i hc;rw [if_pos hc];refine BQ h1 f next links rest ?_ h;rcases hc with hc|hc
     ·exact hc
     ·cases hc.2
    ·rename_i hc;rw [if_neg hc];split at h
     ·cases h
     ·rename_i h8;rw [if_neg h8];cases hp:bH (F.data next) with
      | none=>rw [hp] at h;cases h
      | some head=>
       rw [hp] at h;exact BQ h1 f 1 (links+1) (head++rest) h1 h
theorem Nv {T:List aS}(h1:(tn T 1).kind≠3){path:List UInt8}(h:(aW (aY T) path true).2=0):(tn T (tX T path)).kind≠3:=by
 unfold tX;unfold aW at h ⊢;cases hp:bH path with
 | none=>rw [hp] at h;cases h
 | some l=>
  rw [hp] at h;exact BQ (F:=aY T) h1 600 1 0 l h1 h
def oW (N:Nat)(x:aS):Prop:=x.names.length<=N/\(x.kind=3->x.data.length<=120)
structure jd (T:List aS)(N:Nat):Prop where
 len:T.length<=N+2
 all:∀ x∈T,oW N x
theorem oW.up {N:Nat}{x:aS}(h:oW N x):oW (N+1) x:=⟨by have:=h.1;omega,h.2⟩
theorem jd.up {T:List aS}{N:Nat}(h:jd T N):jd T (N+1):=⟨by have:=h.len;omega,λx hx=>(h.all x hx).up⟩
theorem jd.tn {T:List aS}{N:Nat}(h:jd T N)(i:Int):oW N (tn T i):=by
 unfold Proofs.YtoociceebodfeaaGreatDoor.tn;cases hx:T[i.toNat]? with
 | none=>exact ⟨Nat.zero_le _,λh=>by cases h⟩
 | some x=>exact h.all x (List.mem_of_getElem? hx)
theorem jd.short {T:List aS}{N:Nat}(h:jd T N):BR T:=λi hi=>(h.tn i).2 hi
theorem jd.bM {T:List aS}{N:Nat}(h:jd T N)(d:Int){x:aS}(hx:oW N x):jd (bM T d x) N:=
 ⟨by rw [nW];exact h.len,λy hy=>by
  rcases List.mem_or_eq_of_mem_set hy with hy|rfl
  ·exact h.all y hy
  ·exact hx⟩
theorem nG.qR {T T':List aS}{N:Nat}{path data:List UInt8}{kind:Int}(hd:kind=3->data.length<=120)(S:jd T N)(D:nG T path kind data 0 T'):jd T' (N+1):=by
 rcases D with ⟨d1,d2⟩|⟨d,nm,nd,Q,⟨_,d2⟩|⟨_,_,rfl⟩⟩
 ·exact absurd d2.symm d1
 ·cases d2
 ·have h1:=S.up.bM d (x:={ tn T d with names:=bF (tn T d).names ⟨nm,(T.length:Int)⟩ }) ⟨by
   show (bF (tn T d).names ⟨nm,(T.length:Int)⟩).length<=N+1;rw [wu];have:=(S.tn d).1;omega,(S.tn d).2⟩
  refine ⟨?_,λy hy=>?_⟩
  ·rw [List.length_append,nW];have:=S.len;simp only [List.length_cons,List.length_nil];omega
  ·rcases List.mem_append.1 hy with hy|hy
   ·exact h1.all y hy
   ·obtain rfl:=List.mem_singleton.1 hy;exact ⟨Nat.zero_le _,hd⟩
theorem fT.qR {T T':List aS}{N:Nat}{c:cO}{r:dJ}(h1:(tn T 1).kind≠3)(S:jd T N)(h0:r.err=0)(DD:fT T c r T'):jd T' (N+1):=by
 have Gf:∀ (T:List aS) (d:Int) (k:Nat),jd T N->oW N { tn T d with names:=(tn T d).names.eraseIdx k }:=λT d k S=>⟨by
  show ((tn T d).names.eraseIdx k).length<=N;have:=(List.eraseIdx_sublist (tn T d).names k).length_le;have:=(S.tn d).1;omega,(S.tn d).2⟩
 have dat:∀ {path:List UInt8} {f:List UInt8->List UInt8×Int},nH T path f 0 T'->jd T' (N+1):=by
  intro path f D;rcases D with ⟨d1,d2⟩|⟨_,d1,d2⟩|⟨d1,_,_,rfl⟩
  ·exact absurd d2.symm d1
  ·exact absurd d2.symm d1
  ·have hx:oW N { tn T (tX T path) with data:=(f (tn T (tX T path)).data).1 }:=⟨(S.tn (tX T path)).1,λhk=>absurd hk (Nv h1 (ze d1).1)⟩;exact (S.bM _ hx).up
 have rem:∀ {path:List UInt8} {b:Bool},sH T path b 0 T'->jd T' (N+1):=by
  intro path b D;rcases D with ⟨d1,d2⟩|⟨d,nm,nd,Q,⟨_,d2⟩|⟨_,_,_,d2⟩|⟨_,_,_,d2⟩|⟨_,_,_,_,d2⟩|⟨_,_,_,_,rfl⟩⟩
  ·exact absurd d2.symm d1
  ·cases d2
  ·cases d2
  ·cases d2
  ·cases d2
  ·have S1:=S.bM d (Gf T d (aO (tn T d).names nm) S);refine (S1.bM nd ?_).up;unfold wz;split
   ·exact ⟨Nat.zero_le _,λh=>by cases h⟩
   ·exact ⟨(S1.tn nd).1,(S1.tn nd).2⟩
 have pW:∀ {e:Int},r=bO e->e=0:=λh=>by rw [h] at h0;exact h0
 by_cases k4:c.kind=4
 ·obtain ⟨e,he,D⟩:=(rc4 k4).1 DD;rw [pW he] at D;exact D.qR (λh=>by cases h) S
 by_cases k5:c.kind=5
 ·obtain ⟨e,he,D⟩:=(rc5 k5).1 DD;rw [pW he] at D;exact D.qR (λh=>by cases h) S
 by_cases k6:c.kind=6
 ·obtain ⟨e,he,D⟩:=(rc6 k6).1 DD;rw [pW he] at D;rcases D with ⟨d1,d2⟩|⟨_,_,d2⟩|⟨_,_,⟨d1,d2⟩|⟨d,nm,nd,Q,⟨_,d2⟩|⟨_,_,d2⟩|⟨_,_,_,rfl⟩⟩⟩
  ·exact absurd d2.symm d1
  ·cases d2
  ·exact absurd d2.symm d1
  ·cases d2
  ·cases d2
  ·have hx1:oW N { tn T (aW (aY T) c.path false).1 with links:=IntKind.i64.wrap ((tn T (aW (aY T) c.path false).1).links+1) }:=⟨(S.tn (aW (aY T) c.path false).1).1,(S.tn (aW (aY T) c.path false).1).2⟩;have hx2:oW (N+1) { tn T d with names:=bF (tn T d).names ⟨nm,(aW (aY T) c.path false).1⟩ }:=⟨by
    show (bF (tn T d).names _).length<=N+1;rw [wu];have:=(S.tn d).1;omega,(S.tn d).2⟩
   exact ((S.bM _ hx1).up).bM d hx2
 by_cases k7:c.kind=7
 ·obtain ⟨e,he,D⟩:=(rc7 k7).1 DD;rw [pW he] at D;rcases D with ⟨_,d2⟩|⟨d1,D⟩
  ·cases d2
  ·refine D.qR (λ_=>?_) S;cases hp:bH c.path2 with
   | none=>exact absurd hp d1
   | some l=>exact (mE hp).2.2.1
 by_cases k8:c.kind=8
 ·obtain ⟨e,he,D⟩:=(rc8 k8).1 DD;rw [pW he] at D;exact rem D
 by_cases k9:c.kind=9
 ·obtain ⟨e,he,D⟩:=(rc9 k9).1 DD;rw [pW he] at D;exact rem D
 by_cases k10:c.kind=10
 ·obtain ⟨e,he,D⟩:=(rc10 k10).1 DD;rw [pW he] at D;rcases D with ⟨_,d2⟩|⟨_,_,⟨d1,d2⟩|⟨d,nm,nd,Q,⟨_,d2⟩|⟨_,⟨d1,d2⟩|⟨f,nm2,nd2,Q2,⟨_,_,rfl⟩|⟨_,_,d2⟩|⟨_,_,_,d2⟩|⟨_,_,_,rfl⟩⟩⟩⟩⟩
  ·cases d2
  ·exact absurd d2.symm d1
  ·cases d2
  ·exact absurd d2.symm d1
  ·exact S.up
  ·cases d2
  ·cases d2
  ·have S1:=S.bM d (Gf T d (aO (tn T d).names nm) S);refine S1.up.bM f ⟨?_,(S1.tn f).2⟩;show (bF _ _).length<=N+1;rw [wu];have:=(S1.tn f).1;omega
 by_cases k11:c.kind=11
 ·obtain ⟨e,he,D⟩:=(rc11 k11).1 DD;rw [pW he] at D;exact dat D
 by_cases k13:c.kind=13
 ·obtain ⟨e,he,D⟩:=(rc13 k13).1 DD;rw [pW he] at D;exact dat D
 by_cases k12:c.kind=12
 ·rw [((rc12 k12).1 DD).1];exact S.up
 by_cases k14:c.kind=14
 ·rw [((rc14 k14).1 DD).1];exact S.up
 by_cases k16:c.kind=16
 ·rw [((rc16 k16).1 DD).1];exact S.up
 by_cases k15:c.kind=15
 ·rw [((rc15 k15).1 DD).1];exact S.up
 rw [((rc0 (by omega)).1 DD).1];exact S.up
theorem bW.Ga {now:Int->UInt64}{S:FS}{L:List bV}{num:List Int}{N:Nat}(W:bW S (aC L) num)(I:bK now S)(M:jd (aC L) N)(hN:N<105):kV L:=by
 refine ⟨W.tree,λi _ hk=>by have:=M.short i hk;omega,?_,λx hx=>?_,λpath fl h0=>?_⟩
 ·have:=M.len;rw [mD] at this;omega
 ·have:=(M.all x.nd (List.mem_map_of_mem hx)).1;omega
 ·obtain ⟨_,w2⟩:=W.path path fl;obtain ⟨_,a2⟩:=w2 h0;have hr:=W.bG _ a2;have hk:=W.kind _ a2;by_cases h2:(tn (aC L) (aW (aY (aC L)) path fl).1).kind=2
  ·rw [(W.dir _ a2 h2).2.2.2];exact Nat.zero_le _
  ·obtain ⟨m,F⟩:=(I.node _ (by omega) hr.2).file (by rw [hk.1];omega);rw [(W.data _ a2 h2).1];exact F.fits
theorem bW.Nf {S:FS}{T:List aS}{num:List Int}(W:bW S T num):∃ rk,wh T rk:=by
 obtain ⟨rk,h⟩:=W.rank;exact ⟨rk,λx hx hk=>h x ⟨hx,by rw [hk];decide⟩ hk⟩
theorem bW.Ni {S:FS}{T:List aS}{num:List Int}(W:bW S T num):uI S:=by
 intro d d0 d24 hk e he h;obtain ⟨i,hi,rfl⟩:=W.all d (by omega) d24 (by rw [hk];decide);have hki:(tn T i).kind=2:=by rw [<-(W.kind i hi).1];exact hk
 obtain ⟨q1,q2,_⟩:=W.dir i hi hki;rw [q1] at he;obtain ⟨e0,h0,rfl⟩:=List.mem_map.1 he;exact (W.ne_of hi hki h0).1 (W.inj _ _ (q2 e0 h0) hi h)
theorem bW.Na {S:FS}{T:List aS}{num:List Int}(W:bW S T num):∃ rk,zf S rk:=by
 obtain ⟨rk,h⟩:=W.rank;have key:∀ x,∃ n:Nat,∀ i,live T i->nu num i=x->n=rk i:=by
  intro x;by_cases hx:∃ i,live T i/\nu num i=x
  ·obtain ⟨i,hi,rfl⟩:=hx;exact ⟨rk i,λj hj hji=>by rw [W.inj j i hj hi hji]⟩
  ·exact ⟨0,λi hi hix=>absurd ⟨i,hi,hix⟩ hx⟩
 refine ⟨λx=>Classical.choose (key x),λd d0 d24 hk e he=>?_⟩;obtain ⟨i,hi,rfl⟩:=W.all d (by omega) d24 (by rw [hk];decide);have hki:(tn T i).kind=2:=by rw [<-(W.kind i hi).1];exact hk
 obtain ⟨q1,q2,_⟩:=W.dir i hi hki;rw [q1] at he;obtain ⟨e0,h0,rfl⟩:=List.mem_map.1 he;have r1:=Classical.choose_spec (key (nu num i)) i hi rfl;have r2:=Classical.choose_spec (key (nu num e0.node)) e0.node (q2 e0 h0) rfl;show Classical.choose (key (nu num e0.node))<Classical.choose (key (nu num i));rw [r1,r2];exact h i hi hki e0 h0
def wC (V:VL)(t:Nat):List Value:=[.pointer (some ⟨V.mem.m,0,none⟩),.pointer (some ⟨V.v,0,none⟩),.pointer (some ⟨t,0,none⟩)]
theorem eO.keep {F:List Nat}{h h1 h2:Heap}{r:dJ}{v:Value}(A:eO h h1 r v)(k:Keeps F h1 h2)(hF:∀ x∈F,∀ cs T fz,h1[x]?=some (.cells cs T fz)->T≠93):eO h h2 r v:=by
 obtain ⟨a,c,e,O,n⟩:=A;exact ⟨a,c,e,O.keep k (λb hb hx=>by
  obtain ⟨cs,oc⟩:=nD O b hb;exact hF _ hx _ _ _ oc rfl),n⟩
structure qQ (h:Heap)(b0 w:Nat)(V:VL)(M:aV)(X:VS)(S:FS)(z t:Nat)(aT:Option Addr)(cT:Nat)(L:List bV)(num:List Int)(N:Nat):Prop where
 obj:h[w]?=some (.cells ⟨wC V t⟩ 31 (0,0))
 at_:At h V M X
 fs:bK X.now S
 rel:bW S (aC L) num
 qR:jd (aC L) N
 tree:cZ h z t aT cT L
 ab:V.ab=none/\V.lS=none
 calm:M.iq = -1/\M.sure.length=2824
 new:b0<=w/\∀ b∈V.blocks,b0<=b
 apart:w∉V.blocks
theorem At.aw0 {h:Heap}{V:VL}{M:aV}{X:VS}(A:At h V M X)(lQ:V.lS=none):X.bE=[]:=by
 have:=A.bE;rw [lQ] at this;exact this
theorem za {h:Heap}{b:Nat}{m:List (Int×Value)}(M:dF h b m){cs:Array Value}{T:TypeId}{fz:Nat×Nat}(o:h[b]?=some (.cells cs T fz)):False:=by
 obtain ⟨es,cl,h1,_⟩:=M;rw [o] at h1;cases h1
theorem eO.val {h h1:Heap}{r:dJ}{v:Value}(A:eO h h1 r v):∃ a c,v=wo r.err r.data r.k r.l r.s a r.names.length c:=by
 obtain ⟨a,c,e,_⟩:=A;exact ⟨a,c,e⟩
def TB (z:Nat)(h:Heap)(BS:List Nat):Prop:=∀ b∈BS,z<=b/\∃ cs fz,h[b]?=some (.cells cs 40 fz)
theorem TB.nil (z:Nat)(h:Heap):TB z h []:=λb hb=>by cases hb
theorem TB.add {z b:Nat}{h h':Heap}{BS:List Nat}(A:TB z h BS)(hz:z<=h.size)(e:b=h.size)(k:Keeps [] h h'){cs:Array Value}{fz:Nat×Nat}(o:h'[b]?=some (.cells cs 40 fz)):TB z h' (b::BS):=by
 intro x hx;rcases List.mem_cons.1 hx with rfl|hx
 ·exact ⟨by omega,cs,fz,o⟩
 ·obtain ⟨h1,cs,fz,h2⟩:=A x hx;exact ⟨h1,cs,fz,k.obj h2 (by simp)⟩
theorem TB.keep {z:Nat}{F:List Nat}{h h':Heap}{BS:List Nat}(A:TB z h BS)(k:Keeps F h h')(hF:∀ x∈F,x<z\/∀ cs fz,h[x]?≠some (.cells cs 40 fz)):TB z h' BS:=by
 intro x hx;obtain ⟨h1,cs,fz,h2⟩:=A x hx;refine ⟨h1,cs,fz,k.obj h2 (λNt=>?_)⟩;rcases hF x Nt with h|h
 ·omega
 ·exact h _ _ h2
theorem TB.yZ {z b:Nat}{h h' hA:Heap}{BS:List Nat}{r:dJ}{v:Value}(A:TB z h BS)(hb:b∈BS)(k:Keeps [b] h h')(R:eO hA h r v):eO hA h' r v:=by
 obtain ⟨_,cs,fz,h2⟩:=A b hb;refine R.keep k (λx hx cs' T uH o=>?_);obtain rfl:=List.mem_singleton.1 hx;rw [h2] at o;cases o;decide
theorem TB.tree {z b:Nat}{h h':Heap}{BS:List Nat}(A:TB z h BS)(hb:b∈BS)(k:Keeps [b] h h'){z' t:Nat}{aT:Option Addr}{cT:Nat}{L:List bV}(H:cZ h z' t aT cT L):cZ h' z' t aT cT L:=by
 obtain ⟨_,cs,fz,h2⟩:=A b hb;exact H.iW k h2 (by decide)
theorem TB.at_ {z b:Nat}{h h':Heap}{BS:List Nat}(A:TB z h BS)(hb:b∈BS)(k:Keeps [b] h h'){V:VL}{M:aV}{X:VS}(B:At h V M X)(bl:∀ x∈V.blocks,x<z):At h' V M X:=
 B.keep k (λx hx hx2=>by have:=bl x hx;have:=(A b hb).1;simp at hx2;omega)
theorem TB.keeps {z b:Nat}{h0 h h':Heap}{BS:List Nat}(A:TB z h BS)(hb:b∈BS)(k:Keeps [b] h h')(hz:h0.size<=z){F:List Nat}(K:Keeps F h0 h):Keeps F h0 h':=
 K.gL k (λx hx=>.inr (by obtain rfl:=List.mem_singleton.1 hx;have:=(A x hb).1;omega))
theorem TB.next {z b b':Nat}{h h6 h7:Heap}{BS:List Nat}(A:TB z h BS)(k6:Keeps [b] h h6)(Wu:Keeps [b'] h6 h7)(hb':b'∈BS)(hne:b'≠b):TB z h6 [b']:=by
 intro x hx;obtain rfl:=List.mem_singleton.1 hx;obtain ⟨h1,cs,fz,h2⟩:=A x hb';exact ⟨h1,cs,fz,k6.obj h2 (by simpa using hne)⟩
theorem VL.Gd {V:VL}{ob sb mb x:Nat}(h:x∈({ V with ob:=ob,sb:=sb,mb:=mb }:VL).blocks):x∈V.blocks\/x=ob\/x=sb\/x=mb:=by
 simp only [VL.blocks,List.mem_cons,List.mem_append] at h ⊢;rcases h with h|h|h|h|h
 ·exact .inl (.inl h)
 ·exact .inr (.inl h)
 ·exact .inr (.inr (.inl h))
 ·exact .inr (.inr (.inr h))
 ·exact .inl (.inr (.inr (.inr (.inr h))))
theorem At.noT {h:Heap}{V:VL}{M:aV}{X:VS}(A:At h V M X):∀ x∈[V.ob,V.sb,V.mb,V.v,V.mem.m,V.mem.lb],∀ cs T fz,h[x]?=some (.cells cs T fz)->T=121\/T=91:=by
 intro x hx cs T fz o;simp only [List.mem_cons,List.not_mem_nil,or_false] at hx;obtain ⟨own,O,_⟩:=A.own;rcases hx with rfl|rfl|rfl|rfl|rfl|rfl
 ·exact (za O o).elim
 ·exact (za A.seen o).elim
 ·exact (za A.mine o).elim
 ·have:=A.obj;rw [o] at this;cases this;exact .inl rfl
 ·have:=A.mem.obj;rw [o] at this;cases this;exact .inr rfl
 ·exact (za A.mem.loose o).elim
theorem qQ.fail {h h':Heap}{b0 w:Nat}{V:VL}{M:aV}{X X':VS}{S:FS}{z t:Nat}{aT:Option Addr}{cT:Nat}{L:List bV}{num:List Int}{N:Nat}(P:qQ h b0 w V M X S z t aT cT L num N)(hb0:b0<=h.size)(Nu:X.now=M.read)(k:Keeps [w,V.ob,V.sb,V.mb,V.v,V.mem.m,V.mem.lb] h h')(hw:h'[w]?=some (.cells ⟨wC V t⟩ 31 (0,0)))
 {ob sb mb:Nat} (g1:h.size<=ob) (g2:h.size<=sb) (g3:h.size<=mb) (A:At h' { V with ob:=ob,sb:=sb,mb:=mb } M { X' with now:=M.read,seen:=[],mine:=[] }) :
 qQ h' b0 w { V with ob:=ob,sb:=sb,mb:=mb } M { X' with now:=M.read,seen:=[],mine:=[] } S z t aT cT L num (N+1):=by
 have hwl:=eZ P.obj;refine ⟨hw,A,by rw [<-Nu];exact P.fs,P.rel,P.qR.up,P.tree.BN k (λx hx cs T fz o=>?_),P.ab,P.calm,⟨P.new.1,λb hb=>?_⟩,λhb=>?_⟩
 ·rcases List.mem_cons.1 hx with rfl|hx
  ·have:=P.obj;rw [o] at this;cases this;decide
  ·rcases P.at_.noT x hx cs T fz o with rfl|rfl <;> decide
 ·rcases VL.Gd hb with h|rfl|rfl|rfl
  ·exact P.new.2 b h
  all_goals omega
 ·rcases VL.Gd hb with h|rfl|rfl|rfl
  ·exact P.apart h
  all_goals omega
theorem cZ.Nk {h:Heap}{z t:Nat}{aT:Option Addr}{cT:Nat}{L:List bV}(H:cZ h z t aT cT L):∀ x∈t::ay aT,∀ cs T fz,h[x]?=some (.cells cs T fz)->T=80\/T=77:=by
 intro x hx cs T fz o;rcases List.mem_cons.1 hx with rfl|hx
 ·have:=H.tr;rw [o] at this;cases this;exact .inl rfl
 ·obtain ⟨cs2,o2⟩:=nD H.own x hx;rw [o] at o2;cases o2;exact .inr rfl
end Go.Proofs.YtoociceebodfeaaGreatDoor
namespace Go.aK
theorem vW {α β:Type}(f:α->β):∀ (l:List α) (j:Nat),(l.map f).eraseIdx j=(l.eraseIdx j).map f
 | [],_=>rfl
 | _::_,0=>rfl
 | x::l,j+1=>by simp [vW f l j]
theorem aP.del {P:Program}{T kT eT Wd ty:TypeId}(hu:P.underlying T=some (.map kT eT))(hk:P.underlying kT=some (.int .i64)){h:Heap}{r:Nat}{m:List (Int×Value)}(o:dF h r m){n:Int}(hn:gJ m n≠none){bs:List Nat}(hb:r∉bs)
 {K:Value->Heap->Prop} (H:∀ h' j,j<m.length->(m[j]?).map (·.1)=some n->h'.size=h.size->dF h' r (m.eraseIdx j)->Keeps [r] h h'->K (.tuple #[]) h'):aP P (Builtin.delete_ #[T,Wd] ty ⟨[.map (some r),.int .i64 n]⟩) bs h K:=by
 unfold aP;intro hlt w hw;subst hw;have hr:=o.lt;obtain ⟨es,cl,h1,h2,h3,h4,h5⟩:=o;obtain ⟨q,h6,h7,h8⟩:=vg es.toList m n 0 h2;obtain ⟨p,rfl⟩:∃ p,q=some p:=by
  cases q with
  | none=>exact absurd (by simpa using h7.symm) hn
  | some p=>exact ⟨p,rfl⟩
 obtain ⟨j,hj1,hj2,hj3⟩:=h8 p rfl;have hj:p.1=j:=by omega
 have hjl:j<es.size:=by simpa using hj2
 have hml:m.length=es.size:=by
  have:=congrArg List.length h2;simpa using this.symm
 have hel:(es.eraseIdxIfInBounds j).toList=es.toList.eraseIdx j:=by
  rw [Array.eraseIdxIfInBounds,dif_pos hjl,Array.toList_eraseIdx]
 refine ⟨.tuple #[],{ w with heap:=w.heap.setIfInBounds r (.map (es.eraseIdxIfInBounds j) cl) },?_,⟨rfl,rfl,rfl⟩,λb hb'=>?_,H _ j (by omega) hj3 (by simp) ⟨es.eraseIdxIfInBounds j,cl,by rw [jN _ _ _ _ hr,if_pos rfl],?_,?_,?_,?_⟩ (rJ _ _ _ hr)⟩
 ·simp only [Builtin.delete_,Sem.run_bind,dI P T w hu,Result.andThen_ok,qx h1,List.getElem?_toArray,List.getElem?_cons_zero,List.getElem?_cons_succ];rw [tK hk (.inl ⟨_,rfl⟩)];simp only [Result.andThen_ok,tL hk h6 w,hj,Sem.run_bind,rO h1,Sem.run_pure]
 ·show (w.heap.setIfInBounds r _)[b]?=_;rw [jN _ _ _ _ hr,if_neg (by intro e;subst e;exact hb hb')]
 ·rw [hel,<-vW,h2,vW]
 ·rw [<-vW];exact h3.sublist (List.eraseIdx_sublist _ _)
 ·rw [hel,<-vW];exact h4.sublist (List.eraseIdx_sublist _ _)
 ·intro e he;rw [hel] at he;exact h5 e (List.mem_of_mem_eraseIdx he)
theorem aP.V6 {P:Program}{T kT eT ty:TypeId}(hu:P.underlying T=some (.map kT eT)){h:Heap}{r:Nat}{m:List (Int×Value)}(o:dF h r m){bs:List Nat}(hb:r∉bs)
 {K:Value->Heap->Prop} (H:∀ h',h'.size=h.size->dF h' r []->Keeps [r] h h'->K (.tuple #[]) h'):aP P (Builtin.clear_ #[T] ty ⟨[.map (some r)]⟩) bs h K:=by
 unfold aP;intro hlt w hw;subst hw;have hr:=o.lt;obtain ⟨es,cl,h1,h2,h3,h4,h5⟩:=o;refine ⟨.tuple #[],{ w with heap:=w.heap.setIfInBounds r (.map #[] cl) },?_,⟨rfl,rfl,rfl⟩,λb hb'=>?_,H _ (by simp) ⟨#[],cl,by rw [jN _ _ _ _ hr,if_pos rfl],rfl,List.nodup_nil,List.nodup_nil,by simp⟩ (rJ _ _ _ hr)⟩
 ·simp [Builtin.clear_,Sem.run_bind,dI P T w hu,qx h1,rO h1]
 ·show (w.heap.setIfInBounds r _)[b]?=_;rw [jN _ _ _ _ hr,if_neg (by intro e;subst e;exact hb hb')]
end Go.aK
namespace Go.Proofs.YtoociceebodfeaaGreatDoor
open Go Go.aK
def lM (h:Heap)(L:ML)(M:aV):Prop:=Own h 46 1 L.sa L.len L.cap (M.sure.map wv)
theorem Mw {h:Heap}{b off n c:Nat}{ws:List UInt64}(S:Sl h (some ⟨b,off,none⟩) n c ws)(hn:n<=1099511627776):aD Tryz.prog 41 [.slice (some ⟨b,off,none⟩) n c] h (λv h'=>Keeps [] h h'/\∃ a' c',v=.slice a' n c'/\Own h' 46 1 a' n c' (ws.map wv)/\Sl h' a' n c' ws/\∀ x∈ay a',h.size<=x/\x<h'.size):=by
 refine aH aI Tryz.func41 rfl ok41 (by simp [Tryz.f41]) ?_;(conv=>whnf);refine ak.f rfl ?_;(conv=>whnf);refine aR.i λb1 h1 e1 s1 o1 k1=>?_;(conv=>whnf);have hl:=S.hlen;have O:Own h1 46 1 (some ⟨b1,0,none⟩) 0 0 []:=.inr ⟨b1,[],rfl,o1,rfl,rfl,rfl,Nat.le_refl _⟩;refine jO (e:=46) (sz:=1) (aL:=8) (new:=ws.map wv) rfl rfl rfl rfl rfl rfl rfl O (by simp [hl]) ((S.keep k1).cells1) (tV ws) (by omega) (by decide) (by simp [aA]) ?_;intro a2 c2 h2 O2 k2 n2;(conv=>whnf);rw [Nat.zero_add] at O2;have nb:∀ x∈ay a2,h.size<=x/\x<h2.size:=λx hx=>by
  refine ⟨?_,O2.lt x hx⟩;rcases n2 x hx with h|h
  ·simp [ay] at h;omega
  ·omega
 refine ⟨k1.dL k2 (by intro x hx;simp [ay] at hx;omega),a2,c2,by rw [Nat.zero_add],O2,?_,nb⟩;have R:iR h2 ([]++ws.map wv) ws:=by
  rw [List.nil_append];exact xR h2 ws
 exact O2.sl R rfl (by decide) (by omega)
theorem V8 {h:Heap}{b off n c:Nat}{ws:List UInt64}(S:Sl h (some ⟨b,off,none⟩) n c ws)(hn:n<=4096):aD Tryz.prog 82 [.slice (some ⟨b,off,none⟩) n c] h (λv h'=>Keeps [] h h'/\∃ L:ML,v=.pointer (some ⟨L.m,0,none⟩)/\fG h' L ⟨ws,[],[],0,-1⟩/\lM h' L ⟨ws,[],[],0,-1⟩/\∀ x∈L.blocks,h.size<=x):=by
 refine aH aI Tryz.func82 rfl ok82 (by simp [Tryz.f82]) ?_;(conv=>whnf);have hm:(if (4096:Int)<(n:Int) then (4096:Int) else (n:Int))=(n:Int):=if_neg (by omega);have hl:=S.hlen;refine dm.i 0 n rfl hm (Nat.zero_le _) S.hcap ?_;(conv=>whnf);have S1:=S.part (l:=0) (r:=n) (Nat.zero_le _) (Nat.le_refl _);have e1:∀ s,iZ (some ⟨b,off,none⟩) c 0 s=some ⟨b,off,none⟩:=λs=>by
  unfold iZ;split
  ·rfl
  ·simp [Addr.add]
 rw [e1,Nat.sub_zero,Nat.sub_zero,List.drop_zero,hl,List.take_length,<-hl] at S1;rw [e1,Nat.sub_zero,Nat.sub_zero];refine au.i (Mw S1 (by omega)) λv h1 k1 hv=>?_;obtain ⟨a',c',rfl,O2,S2,nb⟩:=hv;(conv=>whnf);refine aR.i λb2 h2 e2 s2 o2 k2=>?_;(conv=>whnf);refine aR.i λb3 h3 e3 s3 o3 k3=>?_;(conv=>whnf);refine aR.i λb4 h4 e4 s4 o4 k4=>?_;(conv=>whnf);have z1:=k1.size;refine ⟨k1.trans (k2.trans (k3.trans k4)),⟨b4,a',n,c',b2,b3⟩,rfl,⟨o4,S2.keep (k2.trans (k3.trans k4)),(dF.new o2).keep (k3.trans k4) (by simp),(dF.new o3).keep k4 (by simp),by show b2≠b3;omega,λx hx=>?_,λx hx=>by have:=nb x hx;omega⟩,O2.keep (k2.trans (k3.trans k4)) (by simp),?_⟩
 ·have:=nb x hx;show x≠b4/\x≠b2/\x≠b3;omega
 ·intro x hx;simp only [ML.blocks,List.mem_cons] at hx;rcases hx with hx|hx|hx|hx
  ·have hx:x=b4:=hx;omega
  ·have hx:x=b2:=hx;omega
  ·have hx:x=b3:=hx;omega
  ·exact (nb x hx).1
theorem VG (n:Nat)(hp:0<n)(hn:n<=4096)(h:Heap):aD Tryz.prog 37 [.int .i64 (n:Int)] h (λv h'=>Keeps [] h h'/\∃ L:ML,v=.pointer (some ⟨L.m,0,none⟩)/\fG h' L ⟨List.replicate n 0,[],[],0,-1⟩/\lM h' L ⟨List.replicate n 0,[],[],0,-1⟩/\∀ x∈L.blocks,h.size<=x):=by
 refine aH aI Tryz.func37 rfl ok37 (by simp [Tryz.f37]) ?_;(conv=>whnf);have e1:(if (4096:Int)<(if (n:Int)<0 then 0 else (n:Int)) then (4096:Int) else (if (n:Int)<0 then 0 else (n:Int)))=(n:Int):=by
  rw [if_neg (show ¬ ((n:Int)<0) by omega),if_neg (by omega)]
 have e2:(if (4096:Int)<(if (0:Int)>(n:Int) then 0 else (n:Int)) then (4096:Int) else (if (0:Int)>(n:Int) then 0 else (n:Int)))=(n:Int):=e1;rw [e2];refine aP.make (n:=n) rfl rfl rfl rfl rfl (by show 8*n<=_;omega) (by omega) λb1 h1 e3 s1 o1 k1=>?_;have ru:h1[b1]?=some (.cells ⟨(List.replicate n (0:UInt64)).map wv⟩ 46 (0,0)):=by
  rw [o1,List.map_replicate];rfl
 have S1:Sl h1 (some ⟨b1,0,none⟩) n n (List.replicate n (0:UInt64)):=Sl.l7 ru (by simp [One.ok]) (by simp) (by simp;omega);(conv=>whnf);refine au.i (V8 S1 hn) λv h2 k2 hv=>?_;obtain ⟨L,rfl,A2,O2,nb⟩:=hv;(conv=>whnf);exact ⟨k1.trans k2,L,rfl,A2,O2,λx hx=>by have:=nb x hx;omega⟩
def kD (loose way:List (Int×UInt64))(first:Int):Nat->List (Int×UInt64)
 | 0=>way
 | k+1=>match lk loose (first+(k:Int)) with | some v=>iA (kD loose way first k) (first+(k:Int)) v | none=>kD loose way first k
theorem Mx (loose way:List (Int×UInt64))(first:Int):∀ (k:Nat) (x:Int),lk (kD loose way first k) x=if first<=x/\x<first+(k:Int) then (match lk loose x with|some v=>some v|none=>lk way x) else lk way x
 | 0,x=>by rw [if_neg (by omega)];rfl
 | k+1,x=>by
  have ih:=Mx loose way first k x;unfold kD;cases hl:lk loose (first+(k:Int)) with
  | none=>
   simp only;rw [ih];by_cases e:x=first+(k:Int)
   ·subst e;rw [if_neg (by omega),if_pos (by omega),hl]
   ·by_cases h2:first<=x/\x<first+(k:Int)
    ·rw [if_pos h2,if_pos (by omega)]
    ·rw [if_neg h2,if_neg (by omega)]
  | some v=>
   simp only;rw [sQ];by_cases e:x=first+(k:Int)
   ·rw [if_pos e,e,if_pos (by omega),hl]
   ·rw [if_neg e,ih];by_cases h2:first<=x/\x<first+(k:Int)
    ·rw [if_pos h2,if_pos (by omega)]
    ·rw [if_neg h2,if_neg (by omega)]
def lN (i:Int):Int:=i-i.tmod 8
theorem V9 {h:Heap}{L:ML}{M:aV}(A:fG h L M)(i:Int)(hi:0<=i/\i<1000000)(h0:(M.call (M.there i)).1=0):aD Tryz.prog 86 [.pointer (some ⟨L.m,0,none⟩),.int .i64 i] h (λv h'=>Keeps [L.m,L.wb] h h'/\v=.int .i64 0/\fG h' L { (M.call (M.there i)).2 with way:=kD (M.call (M.there i)).2.loose (M.call (M.there i)).2.way (lN i) 8 }):=by
 refine aH aI Tryz.func86 rfl ok86 (by simp [Tryz.f86]) ?_;(conv=>whnf);refine au.i (Cn A i) λv h1 k1 hv=>?_;subst hv;have A1:=A.on k1;(conv=>whnf);refine au.m (Cq A1 (M.there i)) (by simp [aA]) λv h2 k2 hv=>?_;obtain ⟨rfl,A2⟩:=hv;generalize (M.call (M.there i)).2=N at A2 ⊢;rw [h0];(conv=>whnf);refine ak.f rfl ?_;have hm8:0<=i.tmod 8/\i.tmod 8<8:=by
  rw [Int.tmod_eq_emod_of_nonneg hi.1];omega
 have ew:IntKind.i64.wrap (i-i.tmod 8)=lN i:=dQ (by omega) (by omega);have hlo:0<=lN i/\lN i<1000000:=by
  unfold lN;have:i.tmod 8<=i:=by rw [Int.tmod_eq_emod_of_nonneg hi.1];omega
  omega
 (conv=>whnf);refine dH.i (by decide) ?_;(conv=>whnf);rw [ew];generalize lN i=q at hlo ⊢;refine bP.on [0,6,7] [] (λk:Nat=>[(0,.v (.pointer (some ⟨L.m,0,none⟩))),(6,.v (.int .i64 q)),(7,.v (.int .i64 (q+(k:Int))))]) (λ_=>[])
  (λk h'=>k<=8/\Keeps [L.m,L.wb] h h'/\fG h' L { N with way:=kD N.loose N.way q k }) (λk=>8-k) 0 ?_ ?_
 ·(conv=>whnf);refine ⟨0,rfl,by simp,rfl,Nat.zero_le _,?_,A2⟩;exact (k1.mono (by simp)).trans (k2.mono (by simp))
 ·rintro k h3 ⟨hk,k3,A3⟩;have e8:IntKind.i64.wrap (q+8)=q+8:=dQ (by omega) (by omega);(conv=>whnf);rw [e8];refine ak.i (λhc=>?_) (λhc=>?_)
  ·have hk1:k<8:=by simp at hc;omega
   (conv=>whnf);(try refine aU.pass ?_;conv=>whnf);refine ax.o A3.obj rfl ?_;have en:IntKind.i64.wrap (q+(k:Int)+1)=q+((k+1:Nat):Int):=by
    rw [dQ (by omega) (by omega)];simp;omega
   cases hl:lk N.loose (q+(k:Int)) with
   | some w=>
    (conv=>whnf);refine gF.is A3.loose (by rw [qc,hl]) ?_;(conv=>whnf);(try refine aU.pass ?_;conv=>whnf);refine ak.t rfl ?_;(conv=>whnf);refine ax.o A3.obj rfl ?_;(conv=>whnf);refine aP.put rfl rfl A3.way (by simp [aA]) λh4 s4 M4 k4=>?_;(conv=>whnf);refine ⟨8-(k+1),by omega,?_⟩;(conv=>whnf);refine ⟨k+1,rfl,by rw [en],rfl,by omega,k3.trans (k4.mono (by simp)),?_⟩;have hfl:kD N.loose N.way q (k+1)=iA (kD N.loose N.way q k) (q+(k:Int)) w:=by
     conv=>lhs;unfold kD
     rw [hl]
    rw [hfl];have a3:=A3.ap3;exact ⟨k4.obj A3.obj (by simpa using a3.2),A3.sure.je k4 (λb hb=>by simpa using (A3.ap2 b hb).2.2),A3.loose.keep k4 (by simpa using A3.ap1),by rw [<-zF];exact M4,A3.ap1,A3.ap2,λb hb=>Nat.lt_of_lt_of_le (A3.lt b hb) k4.size⟩
   | none=>
    (conv=>whnf);refine gF.is A3.loose (by rw [qc,hl]) ?_;(conv=>whnf);(try refine aU.pass ?_;conv=>whnf);refine ak.f rfl ?_;(conv=>whnf);refine ⟨8-(k+1),by omega,?_⟩;(conv=>whnf);refine ⟨k+1,rfl,by rw [en],rfl,by omega,k3,?_⟩;have hfl:kD N.loose N.way q (k+1)=kD N.loose N.way q k:=by
     conv=>lhs;unfold kD
     rw [hl]
    rw [hfl];exact A3
  ·have hk1:k=8:=by simp at hc;omega
   subst hk1;(conv=>whnf);exact ⟨k3,rfl,A3⟩
theorem FT {a:Int}{l1 l2:List Int}:(l1++a::l2).Nodup↔(a::(l1++l2)).Nodup:=List.perm_middle.nodup_iff
theorem FZ {h:Heap}{a:Option Addr}{n c:Nat}{ws:List UInt64}(O:Own h 46 1 a n c (ws.map wv))(hb:ws.length<=281474976710656):Sl h a n c ws:=by
 exact O.sl (α:=UInt64) (xR h ws) rfl (by decide) hb
theorem V3 {l:List (Int×UInt64)}{j:Nat}{n:Int}(hn:(l.map (·.1)).Nodup)(hj:(l[j]?).map (·.1)=some n)(k:Int):lk (l.eraseIdx j) k=if k=n then none else lk l k:=by
 induction l generalizing j with
 | nil=>simp at hj
 | cons p l ih=>
  obtain ⟨a,v⟩:=p;simp only [List.map_cons,List.nodup_cons] at hn;cases j with
  | zero=>
   simp at hj;subst hj;simp only [List.eraseIdx_cons_zero,lk];by_cases e:k=a
   ·rw [if_pos e,e];cases h:lk l a with
    | none=>rfl
    | some w=>
     exfalso;apply hn.1;clear ih hn
     induction l with
     | nil=>cases h
     | cons q l ih=>
      obtain ⟨b,u⟩:=q;simp only [lk] at h;simp only [List.map_cons,List.mem_cons];split at h
      ·rename_i e;exact .inl e
      ·exact .inr (ih h)
   ·rw [if_neg e,if_neg e]
  | succ j=>
   have hj':(l[j]?).map (·.1)=some n:=by simpa using hj
   have hna:n≠a:=by
    rintro rfl;apply hn.1;simp only [Option.map_eq_some_iff] at hj';obtain ⟨q,hq,rfl⟩:=hj';exact List.mem_map.2 ⟨q,List.mem_of_getElem? hq,rfl⟩
   simp only [List.eraseIdx_cons_succ,lk];rw [ih hn.2 hj'];by_cases e:k=a
   ·rw [if_pos e,if_pos e,if_neg (λx=>hna (x.symm.trans e))]
   ·rw [if_neg e,if_neg e]
theorem V4 (l:List (Int×UInt64))(j:Nat):(fH l).eraseIdx j=fH (l.eraseIdx j):=by
 unfold fH;exact vW _ l j
theorem yT {h:Heap}{r:Nat}{l:List (Int×UInt64)}(o:dF h r (fH l)):(l.map (·.1)).Nodup:=by
 obtain ⟨es,cl,_,_,g,_⟩:=o;have:(fH l).map (·.1)=l.map (·.1):=by simp [fH]
 rw [this] at g;exact g
theorem Mt {l:List (Int×UInt64)}{x:Int}{v:UInt64}(h:lk l x=some v):x∈l.map (·.1):=by
 induction l with
 | nil=>cases h
 | cons p l ih=>
  obtain ⟨a,w⟩:=p;simp only [lk] at h;simp only [List.map_cons,List.mem_cons];split at h
  ·rename_i e;exact .inl e
  ·exact .inr (ih h)
theorem Mv {l:List (Int×UInt64)}(h:fH l=[]):l=[]:=by
 unfold fH at h;exact List.map_eq_nil_iff.1 h
theorem V5 {h:Heap}{L:ML}{M:aV}(A:fG h L M)(O:lM h L M)(hu:M.iq = -1)(hs:M.sure.length<=1000000)(hw:∀ p∈M.way,lk M.loose p.1=some p.2/\M.there p.1=true):aD Tryz.prog 87 [.pointer (some ⟨L.m,0,none⟩)] h (λv h'=>Keeps L.blocks h h'/\v=.int .i64 0 /\
 ∃ N:aV,fG h' L N/\lM h' L N/\N.iq = -1/\N.sure.length=M.sure.length/\N.way=[]/\(∀ i,N.read i=M.read i)/\(∀ x,lk N.loose x≠none->lk M.loose x≠none/\lk M.way x=none)):=by
 have hc1:(M.call true).1=0:=by
  unfold aV.call;rw [hu];simp
 have hc2:(M.call true).2={ M with calls:=IntKind.i64.wrap (M.calls+1) }:=by
  unfold aV.call;rw [hu];simp
 refine aH aI Tryz.func87 rfl ok87 (by simp [Tryz.f87]) ?_;(conv=>whnf);refine au.m (Cq A true) (by simp [aA]) λv h1 k1 hv=>?_;obtain ⟨rfl,A1⟩:=hv;rw [hc1];rw [hc2] at A1;have O1:lM h1 L { M with calls:=IntKind.i64.wrap (M.calls+1) }:=O.keep k1 (λb hb=>by simp;exact (A.ap2 b hb).1);(conv=>whnf);refine ak.f rfl ?_;(conv=>whnf);refine ax.o A1.obj rfl ?_;(conv=>whnf);refine aP.range rfl A1.way λit hR ei si ki IR=>?_;have AR:=A1.on ki;have OR:lM hR L { M with calls:=IntKind.i64.wrap (M.calls+1) }:=Own.keep O1 ki (by simp);have bl:=A1.blt;have hwn:=yT A1.way;generalize hM1:({ M with calls:=IntKind.i64.wrap (M.calls+1) }:aV)=M1 at *;have hread1:∀ i,M1.read i=M.read i:=λi=>by subst hM1;rfl
 have hsure1:M1.sure=M.sure:=by subst hM1;rfl
 have hway1:M1.way=M.way:=by subst hM1;rfl
 have hloose1:M1.loose=M.loose:=by subst hM1;rfl
 have hunt1:M1.iq = -1:=by subst hM1;exact hu
 have yU:∀ b∈L.blocks,b≠it:=λb hb=>by have:=bl b hb;omega
 (conv=>whnf);refine bP.on [0,15] [] (λq:List (Int×UInt64)×aV=>[(0,.v (.pointer (some ⟨L.m,0,none⟩))),(15,.v (.pointer (some ⟨it,0,none⟩)))])
  (λ_=>[]) (λq h'=>Keeps (it::L.blocks) hR h'/\(∃ last,mM h' it L.wb (fH q.1) last)/\fG h' L q.2/\lM h' L q.2/\q.2.iq = -1/\q.2.sure.length=M.sure.length/\(∀ i,q.2.read i=M.read i)/\(q.1.map (·.1)).Nodup/\(∀ p∈q.1,lk q.2.loose p.1=some p.2/\q.2.there p.1=true)/\(∀ x,lk q.2.loose x≠none->lk M.loose x≠none/\(lk M.way x=none\/x∈q.1.map (·.1)))) (λq=>q.1.length) (M1.way,M1) ?_ ?_
 ·(conv=>whnf);refine ⟨(M1.way,M1),rfl,rfl,rfl,Keeps.refl _ _,⟨none,IR⟩,AR,OR,hunt1,by rw [hsure1],hread1,hwn,λp hp=>?_,λx hx=>?_⟩
  ·rw [hway1] at hp;have:=hw p hp;rw [hloose1];refine ⟨this.1,?_⟩;unfold aV.there;rw [hsure1];exact this.2
  ·rw [hloose1] at hx;refine ⟨hx,?_⟩;rw [hway1];cases hl:lk M.way x with
   | none=>exact .inl rfl
   | some v=>exact .inr (Mt hl)
 ·rintro ⟨R,N⟩ h2 ⟨k2,⟨last,I2⟩,A2,O2,u2,s2,r2,n2,w2,y2⟩;simp only at I2 A2 O2 u2 s2 r2 n2 w2 y2;have FU:it≠L.wb:=λe=>yU L.wb (by simp [ML.blocks]) e.symm;(conv=>whnf);refine aP.next I2 (by simp [aA]) FU (λhR0=>?_) (λR1 p R2 h3 hRR s3 k3 I3=>?_)
  ·(conv=>whnf);refine ak.f rfl ?_;(conv=>whnf);refine ax.o A2.obj rfl ?_;(conv=>whnf);refine aP.V6 rfl A2.way (by simp [aA]) λh3 s3 M3 k3=>?_;(conv=>whnf);have a3:=A2.ap3;refine ⟨?_,rfl,{ N with way:=[] },⟨k3.obj A2.obj (by simpa using a3.2),A2.sure.je k3 (λb hb=>by simpa using (A2.ap2 b hb).2.2),A2.loose.keep k3 (by simpa using A2.ap1),M3,A2.ap1,A2.ap2,λb hb=>Nat.lt_of_lt_of_le (A2.lt b hb) k3.size⟩,Own.keep O2 k3 (λb hb=>by simpa using (A2.ap2 b hb).2.2),u2,s2,rfl,r2,λx hx=>?_⟩
   rotate_left
   ·obtain ⟨y3,y4⟩:=y2 x hx;refine ⟨y3,?_⟩;rcases y4 with h|h
    ·exact h
    ·have hR1:R=[]:=Mv hR0;rw [hR1] at h;simp at h
   have ka:Keeps L.blocks h hR:=(k1.mono (by simp [ML.blocks])).cu ki;have kb:Keeps L.blocks h h2:=ka.gL k2 (λx hx=>by
    rcases List.mem_cons.1 hx with rfl|hx
    ·right;have:=k1.size;omega
    ·exact .inl hx)
   exact kb.trans (k3.mono (by simp [ML.blocks]))
  ·obtain ⟨m1,q,m2,rfl,rfl,rfl,rfl⟩:=KW hRR;obtain ⟨ql,qt⟩:=w2 q (by simp);(conv=>whnf);refine ak.t rfl ?_;(conv=>whnf);refine aP.entry I3 ?_;have A3:=A2.keep k3 (λb hb=>by simp;exact yU b hb);have O3:lM h3 L N:=Own.keep O2 k3 (λb hb=>by simp;exact yU b (by simp [ML.blocks,hb]));(conv=>whnf);refine ax.o A3.obj rfl ?_;have hq0:0<=q.1/\q.1<N.sure.length:=by simpa [aV.there] using qt
   have hlen:=A3.sure.hlen;have hO:=O3;rcases hO with ⟨_,h0,_⟩|⟨b,cs,hb,ob,ht,hcl,hll,hcc⟩
   ·omega
   obtain ⟨i,hi⟩:∃ i:Nat,q.1=(i:Int):=⟨q.1.toNat,by omega⟩;have hi1:i<N.sure.length:=by omega
   have vX:b∈ay L.sa:=by rw [hb];simp [ay]
   have ap:=A2.ap2 b vX;(conv=>whnf);refine aQ.i i (by exact hi) (by omega) hb ?_;(conv=>whnf);refine dO.i ob ?_ (by simp [aA]) λh4 s4 o4 k4=>?_
   ·show 0+i*1+1<=cs.length;omega
   have hset:(cs.set i (wv q.2)).take (N.sure.set i q.2).length=(N.sure.set i q.2).map wv:=by
    rw [List.length_set,List.take_set,List.map_set];rw [List.length_map] at ht;rw [ht]
   have kN:h4[b]?=some (.cells ⟨cs.set i (wv q.2)⟩ 46 (0,0)):=by
    rw [o4];have e:bC (0+i*1) [wv q.2] cs=cs.set i (wv q.2):=by
     rw [show 0+i*1=i by omega,vC _ _ _ (by omega)]
    exact congrArg (λx=>some (Obj.cells ⟨x⟩ 46 (0,0))) e
   have O4:lM h4 L { N with sure:=N.sure.set i q.2 }:=.inr ⟨b,_,hb,kN,by simpa using hset,by rw [List.length_set];exact hcl,by simpa using hll,hcc⟩;have kb4:∀ x∈L.blocks,x≠b->x∉[b]:=λx _ hx=>by simpa using hx
   have A4:fG h4 L { N with sure:=N.sure.set i q.2 }:=⟨k4.obj A3.obj (by simpa using λe=>ap.1 e.symm),FZ O4 (by rw [List.length_set];omega),A3.loose.keep k4 (by simpa using λe=>ap.2.1 e.symm),A3.way.keep k4 (by simpa using λe=>ap.2.2 e.symm),A3.ap1,A3.ap2,λx hx=>Nat.lt_of_lt_of_le (A3.lt x hx) k4.size⟩;(conv=>whnf);refine ax.o A4.obj rfl ?_;(conv=>whnf);refine gF.is A4.loose (by rw [qc,ql]) ?_;(conv=>whnf);(try refine aU.pass ?_;conv=>whnf);refine ak.t (by simp) ?_;(conv=>whnf);refine ax.o A4.obj rfl ?_;(conv=>whnf);refine aP.del rfl rfl A4.loose (n:=q.1) (by rw [qc,ql];simp) (by simp [aA]) λh5 j hj hjn s5 M5 k5=>?_;have V7:(N.loose[j]?).map (·.1)=some q.1:=by
    have:((fH N.loose)[j]?).map (·.1)=some q.1:=hjn;unfold fH at this;rw [List.getElem?_map,Option.map_map] at this;exact this
   have hln:=yT A4.loose;rw [V4] at M5;have a3:=A3.ap3;(conv=>whnf);refine ⟨(m1++m2).length,by simp,?_⟩;(conv=>whnf);have hN5:∀ x,lk (N.loose.eraseIdx j) x=if x=q.1 then none else lk N.loose x:=λx=>V3 hln V7 x;refine ⟨(m1++m2,{ N with sure:=N.sure.set i q.2,loose:=N.loose.eraseIdx j }),rfl,rfl,rfl,?_,⟨some (q.1,wv q.2),?_⟩,⟨k5.obj A4.obj (by simpa using a3.1),A4.sure.je k5 (λx hx=>by simpa using (A3.ap2 x hx).2.1),M5,A4.way.keep k5 (by simpa using A3.ap1.symm),A3.ap1,A3.ap2,λx hx=>Nat.lt_of_lt_of_le (A4.lt x hx) k5.size⟩,Own.keep O4 k5 (λx hx=>by simpa using (A3.ap2 x hx).2.1),u2,by simp only [List.length_set];exact s2,λx=>?_,?_,λp hp=>?_,λx hx=>?_⟩
   ·exact ((k2.trans (k3.mono (by simp))).trans (k4.mono (by simp;right;simp [ML.blocks,vX]))).trans (k5.mono (by simp [ML.blocks]))
   ·have:fH m1++fH m2=fH (m1++m2):=List.map_append.symm;have FV:mM h3 it L.wb (fH (m1++m2)) (some (q.1,wv q.2)):=by rw [<-this];exact I3
    refine (FV.keep k4 ?_ (by simpa using λe=>ap.2.2 e.symm)).keep k5 ?_ (by simpa using A3.ap1.symm)
    ·have:=yU b (by simp [ML.blocks,vX]);simpa using λe=>this e.symm
    ·have:=yU L.lb (by simp [ML.blocks]);simpa using λe=>this e.symm
   ·rw [<-r2 x];unfold aV.read aV.there;simp only [List.length_set];split
    ·rename_i hx;rw [hN5];by_cases e:x=q.1
     ·rw [if_pos e,e,ql,hi];simp [hi1]
     ·rw [if_neg e];have hne:x.toNat≠i:=by
       intro e2;apply e;have:0<=x:=by simp at hx;exact hx.1
       omega
      rw [List.getElem?_set_ne (λe=>hne e.symm)]
    ·rfl
   ·have:(m1++q::m2).map (·.1)=m1.map (·.1)++q.1::m2.map (·.1):=by simp
    rw [this] at n2;rw [List.map_append];exact (List.nodup_cons.1 (FT.1 n2)).2
   ·have hp':p∈m1++q::m2:=by
     simp only [List.mem_append,List.mem_cons] at hp ⊢;rcases hp with h|h
     ·exact .inl h
     ·exact .inr (.inr h)
    obtain ⟨p1,p2⟩:=w2 p hp';refine ⟨?_,?_⟩
    ·show lk (N.loose.eraseIdx j) p.1=some p.2;have hne:p.1≠q.1:=by
      intro e;have:(m1++q::m2).map (·.1)=m1.map (·.1)++q.1::m2.map (·.1):=by simp
      rw [this] at n2;have hnq:=FT.1 n2;rw [List.nodup_cons] at hnq;apply hnq.1;rw [<-e,<-List.map_append];exact List.mem_map.2 ⟨p,hp,rfl⟩
     rw [hN5,if_neg hne];exact p1
    ·unfold aV.there at p2 ⊢;simp only [List.length_set];exact p2
   ·have hx:lk (N.loose.eraseIdx j) x≠none:=hx;rw [hN5] at hx;have hne:x≠q.1:=by
     intro e;rw [if_pos e] at hx;exact hx rfl
    rw [if_neg hne] at hx;obtain ⟨y3,y4⟩:=y2 x hx;refine ⟨y3,?_⟩;rcases y4 with h|h
    ·exact .inl h
    ·right
     simp only [List.map_append,List.map_cons,List.mem_append,List.mem_cons] at h ⊢;rcases h with h|h|h
     ·exact .inl h
     ·exact absurd h hne
     ·exact .inr h
def oV:List UInt64:=([7021221306412823411,2824,0,0,0,0,0,0]:List UInt64)++(List.replicate 8 0++(fJ (bZ 2 1)++List.replicate 2800 0))
theorem VX:oV.length=2824:=by
 unfold oV;simp [fJ]
theorem VY (h:Heap):aD Tryz.prog 83 [] h (λv h'=>Keeps [] h h'/\∃ b,v=.slice (some ⟨b,0,none⟩) 2824 2824/\h.size<=b/\h'[b]?=some (.cells ⟨oV.map wv⟩ 46 (0,0))):=by
 refine aH aI Tryz.func83 rfl ok83 (by simp [Tryz.f83]) ?_;(conv=>whnf);refine au.i (Cs h) λv h1 k1 hv=>?_;subst hv;(conv=>whnf);refine aP.make (n:=2824) rfl rfl rfl rfl rfl (by decide) (by decide) λb2 h2 e2 s2 o2 k2=>?_;(conv=>whnf);refine au.i (QJ h2) λv h3 k3 hv=>?_;obtain ⟨b3,rfl,hb3,_,o3⟩:=hv;have z1:=k1.size;have z2:=k2.size;have z3:=k3.size;have Ms:(([7021221306412823411,2824,0,0,0,0,0,0]:List UInt64).map wv).length=8:=rfl;(conv=>whnf);refine aP.copy (sz:=1) (new:=([7021221306412823411,2824,0,0,0,0,0,0]:List UInt64).map wv) rfl rfl rfl (k3.obj o2 (by simp)) rfl (λj hj=>by simp only [Heap.cell?,o3];simp) (tV _) (by rw [Ms,List.length_replicate];decide) (by simp [aA]) λh4 s4 o4 k4=>?_;have hz:List.replicate 2824 (Value.int .u64 0)=List.replicate 8 (.int .u64 0)++(List.replicate 8 (.int .u64 0)++(List.replicate 8 (.int .u64 0)++List.replicate 2800 (.int .u64 0))):=by
  rw [List.replicate_append_replicate,List.replicate_append_replicate,List.replicate_append_replicate]
 have e4:bC 0 (([7021221306412823411,2824,0,0,0,0,0,0]:List UInt64).map wv) (List.replicate 2824 (.int .u64 0))=(([7021221306412823411,2824,0,0,0,0,0,0]:List UInt64).map wv)++(List.replicate 8 (.int .u64 0)++(List.replicate 8 (.int .u64 0)++List.replicate 2800 (.int .u64 0))):=by
  rw [hz];have:=Aj (A:=([7021221306412823411,2824,0,0,0,0,0,0]:List UInt64).map wv) (x:=Value.int .u64 0) (B:=List.replicate 8 (.int .u64 0)++(List.replicate 8 (.int .u64 0)++List.replicate 2800 (.int .u64 0)));rw [Ms] at this;exact this
 rw [e4] at o4;(conv=>whnf);refine au.i (Eb 2 1 h4) λv h5 k5 hv=>?_;rw [if_pos (by decide)] at hv;subst hv;(conv=>whnf);refine aR.i λb6 h6 e6 s6 o6 k6=>?_;(conv=>whnf);refine aN.i λh7 s7 k7=>?_;have k47:Keeps [] h4 h7:=(k5.trans k6).new1 k7 (by have:=k5.size;omega);obtain ⟨fo,fr⟩:=Av (kind:=2) (by decide) 1;(conv=>whnf);refine au.i (D7 (bZ 2 1) fo h7) λv h8 k8 hv=>?_;rw [if_pos fr] at hv;obtain ⟨b8,rfl,hb8,o8⟩:=hv;(conv=>whnf);refine au.i (sS 1 h8) λv h9 k9 hv=>?_;subst hv;(conv=>whnf);refine dm.i 16 2824 rfl rfl (by decide) (by decide) ?_;(conv=>whnf);have eA:iZ (some ⟨b2,0,none⟩) 2824 16 1=some ⟨b2,0+16*1,none⟩:=by
  unfold iZ;rw [if_neg (by omega)];simp [addr_add]
 have VZ:iZ (some ⟨b2,0,none⟩) 2824 16 Tryz.prog.types[46].size=some ⟨b2,0+16*1,none⟩:=eA;rw [VZ];have k49:=k47.trans (k8.trans k9);have hcw:(fJ (bZ 2 1)).length=8:=rfl;refine aP.copy (sz:=1) (new:=(fJ (bZ 2 1)).map wv) rfl rfl rfl (k49.obj o4 (by simp)) (by rw [List.length_map];rfl) (λj hj=>by simp only [Heap.cell?,k9.obj o8 (by simp)];simp) (tV _) (by simp [hcw]) ?_ λh10 s10 o10 k10=>?_
 ·have:=k3.size;have:=k4.size;have:=k5.size;simp [aA,bg];omega
 (conv=>whnf);have e10:bC (0+16*1) ((fJ (bZ 2 1)).map wv) (([7021221306412823411,2824,0,0,0,0,0,0]:List UInt64).map wv++(List.replicate 8 (.int .u64 0)++(List.replicate 8 (.int .u64 0)++List.replicate 2800 (.int .u64 0))))=oV.map wv:=by
  have h1:([7021221306412823411,2824,0,0,0,0,0,0]:List UInt64).map wv++(List.replicate 8 (Value.int .u64 0)++(List.replicate 8 (.int .u64 0)++List.replicate 2800 (.int .u64 0)))=(([7021221306412823411,2824,0,0,0,0,0,0]:List UInt64).map wv++List.replicate 8 (.int .u64 0))++(List.replicate 8 (.int .u64 0)++List.replicate 2800 (.int .u64 0)):=by rw [List.append_assoc]
  rw [h1];have h2:=IK (A:=([7021221306412823411,2824,0,0,0,0,0,0]:List UInt64).map wv++List.replicate 8 (.int .u64 0)) (N:=(fJ (bZ 2 1)).map wv) (L:=List.replicate 8 (.int .u64 0)++List.replicate 2800 (.int .u64 0));have hl:(([7021221306412823411,2824,0,0,0,0,0,0]:List UInt64).map wv++List.replicate 8 (Value.int .u64 0)).length=0+16*1:=by simp
  rw [hl] at h2;rw [h2];have h3:=Aj (A:=(fJ (bZ 2 1)).map wv) (x:=Value.int .u64 0) (B:=List.replicate 2800 (.int .u64 0));rw [List.length_map,hcw] at h3;rw [h3];unfold oV;simp only [List.map_append,List.map_replicate,List.append_assoc];rfl
 rw [e10] at o10;refine ⟨?_,b2,rfl,by omega,o10⟩;exact ((k1.trans (k2.trans k3)).new1 k4 (by omega)).trans k49 |>.new1 k10 (by omega)
def fB (i:Int):UInt64:=if 0<=i/\i<2824 then oV[i.toNat]?.getD 0 else 0
theorem VU {i:Int}:fB i=if i=0 then 7021221306412823411 else if i=1 then 2824 else if 16<=i/\i<24 then (fJ (bZ 2 1))[(i-16).toNat]?.getD 0 else 0:=by
 unfold fB;by_cases h:0<=i/\i<2824
 ·rw [if_pos h];obtain ⟨n,rfl⟩:∃ n:Nat,i=(n:Int):=⟨i.toNat,by omega⟩;rw [Int.toNat_natCast];unfold oV;have hl0:([7021221306412823411,2824,0,0,0,0,0,0]:List UInt64).length=8:=rfl;have hl2:(fJ (bZ 2 1)).length=8:=rfl;by_cases h8:n<8
  ·rw [List.getElem?_append_left (by rw [hl0];exact h8)];have:n=0\/n=1\/n=2\/n=3\/n=4\/n=5\/n=6\/n=7:=by omega
   rcases this with rfl|rfl|rfl|rfl|rfl|rfl|rfl|rfl <;> rfl
  ·rw [List.getElem?_append_right (by rw [hl0];omega),hl0,if_neg (by omega),if_neg (by omega)];by_cases h16:n<16
   ·rw [List.getElem?_append_left (by simp;omega),if_neg (by omega),List.getElem?_replicate,if_pos (by omega)];rfl
   ·rw [List.getElem?_append_right (by simp;omega),List.length_replicate];by_cases h24:n<24
    ·rw [List.getElem?_append_left (by rw [hl2];omega),if_pos (by omega)]
     congr 2
     omega
    ·rw [List.getElem?_append_right (by rw [hl2];omega),if_neg (by omega),List.getElem?_replicate];split <;> rfl
 ·rw [if_neg h,if_neg (by omega),if_neg (by omega),if_neg (by omega)]
def S0:FS:=⟨λn=>if n=1 then bZ 2 1 else fQ 0,λ_=>[],λ_=>[]⟩
theorem FR {k:Int}(h0:0<=k):fB (200+k)=0:=by
 rw [VU,if_neg (by omega),if_neg (by omega),if_neg (by omega)]
theorem VW:∀ n:Fin 24,bU fB (8+(n.val:Int)*8) 8=fJ (if (n.val:Int)=1 then bZ 2 1 else fQ 0):=by decide +kernel
theorem fs0:bK fB S0:=by
 have hno:∀ n:Int,0<=n->n<24->∀ x,0<=x->x<96->fB (200+x)≠w64 (n+1):=by
  intro n n0 n1 x x0 x1 e;rw [FR x0] at e;have h1:(w64 (n+1)).toNat=(n+1).toNat:=by
   unfold w64;rw [UInt64.toNat_ofNat'];omega
  rw [<-e] at h1;have:(0:UInt64).toNat=0:=rfl;omega
 refine ⟨λn n0 n1=>?_,λn n0 n1=>?_,rfl,λk k0 k1=>.inl (FR k0)⟩
 ·have:=VW ⟨n.toNat,by omega⟩;simp only [Int.toNat_of_nonneg n0] at this;exact this
 ·by_cases h:n=1
  ·have:S0.C n=bZ 2 1:=if_pos h;rw [this];exact JF (by decide) 1 (hno n n0 n1)
  ·have:S0.C n=fQ 0:=if_neg h;rw [this];exact zA 0 (hno n n0 n1)
theorem VQ (s m a n:List Int)(ha:a=[]):bB fB ⟨fB,s,m,a,n⟩ 96=96:=by
 subst ha;unfold bB;rw [List.filter_eq_self.2 (λj hj=>?_),List.length_range];have hj:=List.mem_range.1 hj;unfold iF;have h0:fB (200+(j:Int))=0:=FR (by omega);simp [h0];omega
structure lK (S:FS)(K:Int->Int)(NM:Int->List aF)(BY:Int->List UInt8):Prop where
 k:∀ i,(S.C i).kind=K i
 n:∀ i,S.nm i=NM i
 b:∀ i,S.aL i=BY i
def vf (K:Int->Int)(NM:Int->List aF)(BY:Int->List UInt8):Fs:=⟨K,λi name=>(cK (NM i) name).map (·.node),BY⟩
theorem lK.view {S:FS}{K:Int->Int}{NM:Int->List aF}{BY:Int->List UInt8}(Z:lK S K NM BY):aX S=vf K NM BY:=by
 have h1:(λi=>(S.C i).kind)=K:=funext Z.k;have h2:S.nm=NM:=funext Z.n;have h3:S.aL=BY:=funext Z.b;unfold aX vf;rw [h1,h2,h3]
theorem lK.fc {S:FS}{K:Int->Int}{NM:Int->List aF}{BY:Int->List UInt8}(Z:lK S K NM BY)(h1:K 1=2)(h:∀ n:Fin 24,K (n.val:Int)=2->∀ e∈NM (n.val:Int),0<=e.node/\e.node<24/\K e.node≠0):fZ S:=by
 refine ⟨(Z.k 1).trans h1,λn n0 n1 hk e he=>?_⟩;have:=h ⟨n.toNat,by omega⟩;simp only [Int.toNat_of_nonneg n0] at this;rw [Z.n] at he;have:=this ((Z.k n).symm.trans hk) e he;rw [Z.k];exact this
theorem lK.ns {S:FS}{K:Int->Int}{NM:Int->List aF}{BY:Int->List UInt8}(Z:lK S K NM BY)(h:∀ n:Fin 24,K (n.val:Int)=2->∀ e∈NM (n.val:Int),e.node≠(n.val:Int)):uI S:=by
 intro n n0 n1 hk e he;have:=h ⟨n.toNat,by omega⟩;simp only [Int.toNat_of_nonneg (show 0<=n by omega)] at this;rw [Z.n] at he;exact this ((Z.k n).symm.trans hk) e he
theorem Mr {B:Int->UInt64}{X X':VS}{S:FS}{K:Int->Int}{NM:Int->List aF}{BY:Int->List UInt8}{path data nm:List UInt8}{kind n1:Int}{v:Value}(Z:lK S K NM BY)(hp:bD (vf K NM BY) path=(1,nm,0,0))
 (hfree:8<=bB B X 96) (hlen:(NM 1).length<10) (hn:2<=n1/\n1<24/\K n1=0) (hl:∀ k:Fin 24,2<=(k.val:Int)->(k.val:Int)<n1->K (k.val:Int)≠0) (R:kF B X S path kind data v X') :
 v=.int .i64 0/\X'.away=X.away/\X'.bE=X.bE/\bB B X 96<=bB B X' 96+8/\∃ S',bK X'.now S' /\
  lK S' (λi=>if i=1 then 2 else if i=n1 then kind else K i) (λi=>if i=1 then bF (NM 1) ⟨nm,n1⟩ else if i=n1 then [] else NM i) (λi=>if i=1 then BY 1 else if i=n1 then data else BY i) /\
  (S'.C n1).links=1/\∀ i,i≠1->i≠n1->S'.C i=S.C i:=by
 obtain ⟨e1,e2,H⟩:=R;have hv:=Z.view;rw [hv] at H;rcases H with ⟨he,_⟩|⟨d,gI,nd,P,H⟩
 ·rw [hp] at he;exact absurd rfl he
 ·have hP:=P.is;rw [hv,hp] at hP;obtain ⟨t1,t2⟩:=Prod.mk.inj hP;obtain ⟨t2,t3⟩:=Prod.mk.inj t2;obtain ⟨t3,_⟩:=Prod.mk.inj t3;subst t1 t2 t3;rcases H with ⟨hnd,_⟩|⟨_,_,hc⟩|⟨_,hv0,hm,hf,n,Mk⟩
  ·exact absurd rfl hnd
  ·exfalso;rcases hc with hc|hc|hc
   ·omega
   ·rw [Z.n] at hc;omega
   ·exact hc n1 hn.1 hn.2.1 ((Z.k n1).trans hn.2.2)
  ·have hne:n=n1:=by
    have h1:=Mk.was;rw [Z.k] at h1;have h2:=Mk.bG;rcases Int.lt_trichotomy n n1 with h|h|h
    ·have:=hl ⟨n.toNat,by omega⟩;simp only [Int.toNat_of_nonneg (show 0<=n by omega)] at this;exact absurd h1 (this h2.1 h)
    ·exact h
    ·exact absurd ((Z.k n1).trans hn.2.2) (Mk.least n1 hn.1 h)
   subst hne;obtain ⟨c2,c1,k1,k2,k3,k4,I⟩:=Mk.fs;have hn1:n≠1:=by have:=hn.1;omega
   refine ⟨hv0,e1,e2,hf,_,I,⟨λi=>?_,λi=>?_,λi=>?_⟩,?_,λi h1 h2=>?_⟩
   ·show (if i=1 then c1 else if i=n then c2 else S.C i).kind=_;by_cases h1:i=1
    ·rw [if_pos h1,if_pos h1];exact k3
    ·rw [if_neg h1,if_neg h1];by_cases h2:i=n
     ·rw [if_pos h2,if_pos h2];exact k1
     ·rw [if_neg h2,if_neg h2];exact Z.k i
   ·show (if i=1 then bF (S.nm 1) ⟨nm,n⟩ else if i=n then [] else S.nm i)=_;rw [Z.n 1,Z.n i]
   ·show (if i=1 then S.aL 1 else if i=n then data else S.aL i)=_;rw [Z.b 1,Z.b i]
   ·show (if n=1 then c1 else if n=n then c2 else S.C n).links=1;rw [if_neg hn1,if_pos rfl];exact k2
   ·show (if i=1 then c1 else if i=n then c2 else S.C i)=_;rw [if_neg h1,if_neg h2]
def K0 (i:Int):Int:=if i=1 then 2 else 0
def N0 (i:Int):List aF:=[]
def B0 (i:Int):List UInt8:=[]
def K1 (i:Int):Int:=if i=1 then 2 else if i=2 then 1 else K0 i
def N1 (i:Int):List aF:=if i=1 then bF (N0 1) ⟨[102],2⟩ else if i=2 then [] else N0 i
def B1 (i:Int):List UInt8:=if i=1 then B0 1 else if i=2 then [] else B0 i
def K2 (i:Int):Int:=if i=1 then 2 else if i=3 then 3 else K1 i
def N2 (i:Int):List aF:=if i=1 then bF (N1 1) ⟨[108],3⟩ else if i=3 then [] else N1 i
def B2 (i:Int):List UInt8:=if i=1 then B1 1 else if i=3 then [47,102] else B1 i
def B3 (i:Int):List UInt8:=if i=2 then [104,105] else B2 i
def K4 (i:Int):Int:=if i=3 then 0 else if i=1 then 2 else K2 i
def N4 (i:Int):List aF:=if i=3 then [] else if i=1 then (N2 1).eraseIdx (aO (N2 1) [108]) else N2 i
def B4 (i:Int):List UInt8:=if i=3 then [] else if i=1 then B3 1 else B3 i
theorem sim0:lK S0 K0 N0 B0:=⟨λi=>by
 show (if i=1 then bZ 2 1 else fQ 0).kind=if i=1 then 2 else 0;by_cases h:i=1
 ·rw [if_pos h,if_pos h];rfl
 ·rw [if_neg h,if_neg h];rfl,λ_=>rfl,λ_=>rfl⟩
theorem pl0:bD (vf K0 N0 B0) [47,102]=(1,[102],0,0):=by decide +kernel
theorem pl1:bD (vf K1 N1 B1) [47,108]=(1,[108],0,0):=by decide +kernel
theorem pa2:aW (vf K2 N2 B2) [47,108] true=(2,0):=by decide +kernel
theorem pl3:bD (vf K2 N2 B3) [47,108]=(1,[108],3,0):=by decide +kernel
theorem pa4:aW (vf K4 N4 B4) [47,102] true=(2,0):=by decide +kernel
theorem pb4:aW (vf K4 N4 B4) [47,102] false=(2,0):=by decide +kernel
theorem fc0:∀ n:Fin 24,K0 (n.val:Int)=2->∀ e∈N0 (n.val:Int),0<=e.node/\e.node<24/\K0 e.node≠0:=by decide +kernel
theorem fc1:∀ n:Fin 24,K1 (n.val:Int)=2->∀ e∈N1 (n.val:Int),0<=e.node/\e.node<24/\K1 e.node≠0:=by decide +kernel
theorem fc2:∀ n:Fin 24,K2 (n.val:Int)=2->∀ e∈N2 (n.val:Int),0<=e.node/\e.node<24/\K2 e.node≠0:=by decide +kernel
theorem ns2:∀ n:Fin 24,K2 (n.val:Int)=2->∀ e∈N2 (n.val:Int),e.node≠(n.val:Int):=by decide +kernel
theorem fc4:∀ n:Fin 24,K4 (n.val:Int)=2->∀ e∈N4 (n.val:Int),0<=e.node/\e.node<24/\K4 e.node≠0:=by decide +kernel
theorem VR {B:Int->UInt64}{X X':VS}{S:FS}{v:Value}(Z:lK S K2 N2 B2)(hfree:2<=bB B X 96)(R:qU B X S [47,108] 0 [104,105] v X') :
 v=.int .i64 0/\X'.away=X.away/\X'.bE=X.bE/\∃ S',bK X'.now S'/\lK S' K2 N2 B3/\(S'.C 2).links=(S.C 2).links/\S'.C 3=S.C 3:=by
 obtain ⟨e1,e2,H⟩:=R;have hp:cB S [47,108]=(2,0):=by unfold cB;rw [Z.view];exact pa2
 have hk:(S.C 2).kind=1:=by rw [Z.k];decide +kernel
 have he:fU S [47,108]=0:=by
  unfold fU;rw [hp,if_neg (by rintro ⟨_,h⟩;rw [hk] at h;cases h)]
 have hb:S.aL 2=[]:=by rw [Z.b];decide +kernel
 rw [he,hp] at H;simp only [hb] at H;have hr:fq [] 0 [104,105]=([104,105],0):=by decide +kernel
 rw [hr] at H;rcases H with ⟨h,_⟩|⟨_,h,_⟩|⟨_,_,_,h⟩|⟨_,_,hv,_,c',hc1,hc2,I⟩
 ·exact absurd rfl h
 ·exact absurd rfl h
 ·exfalso;have:((0:Int).toNat+[(104:UInt8),105].length+127)/128-(0:Int).toNat/128+1=2:=by decide
  omega
 ·refine ⟨hv,e1,e2,_,I,⟨λi=>?_,λi=>?_,λi=>?_⟩,?_,?_⟩
  ·show (if i=2 then c' else S.C i).kind=_;by_cases h:i=2
   ·rw [if_pos h,h,hc1];exact Z.k 2
   ·rw [if_neg h];exact Z.k i
  ·show (if i=2 then S.nm 2 else S.nm i)=_;by_cases h:i=2
   ·rw [if_pos h,h];exact Z.n 2
   ·rw [if_neg h];exact Z.n i
  ·show (if i=2 then [104,105] else S.aL i)=_;unfold B3;rw [Z.b i]
  ·show (if (2:Int)=2 then c' else S.C 2).links=_;rw [if_pos rfl];exact hc2
  ·show (if (3:Int)=2 then c' else S.C 3)=_;rw [if_neg (by decide)]
theorem VT {X X':VS}{S:FS}{v:Value}(Z:lK S K2 N2 B3)(hl:(S.C 3).links=1)(R:mF X S [47,108] oZ v X') :
 v=.int .i64 0/\X'.away=X.away/\X'.bE=X.bE/\∃ S',bK X'.now S'/\lK S' K4 N4 B4/\S'.C 2=S.C 2:=by
 obtain ⟨e1,e2,H⟩:=R;have hv:=Z.view;rw [hv] at H;rcases H with ⟨he,_⟩|⟨d,gI,nd,P,H⟩
 ·rw [pl3] at he;exact absurd rfl he
 ·have hP:=P.is;rw [hv,pl3] at hP;obtain ⟨t1,t2⟩:=Prod.mk.inj hP;obtain ⟨t2,t3⟩:=Prod.mk.inj t2;obtain ⟨t3,_⟩:=Prod.mk.inj t3;subst t1 t2 t3;have hk:(S.C 3).kind=3:=by rw [Z.k];decide +kernel
  have hm:oZ (S.C 3)=0:=by
   unfold oZ;rw [hk,if_neg (by decide)]
  rcases H with ⟨h,_⟩|⟨_,h,_⟩|⟨_,_,hv0,_,c1,k1,_,⟨h,_⟩|⟨_,vv,I⟩⟩
  ·cases h
  ·exact absurd hm h
  ·omega
  ·refine ⟨hv0,e1,e2,_,I,⟨λi=>?_,λi=>?_,λi=>?_⟩,?_⟩
   ·show (if i=3 then fQ vv else if i=1 then c1 else S.C i).kind=_;unfold K4;by_cases h3:i=3
    ·rw [if_pos h3,if_pos h3];rfl
    ·rw [if_neg h3,if_neg h3];by_cases h1:i=1
     ·rw [if_pos h1,if_pos h1];exact k1
     ·rw [if_neg h1,if_neg h1];exact Z.k i
   ·show (if i=3 then [] else if i=1 then (S.nm 1).eraseIdx (aO (S.nm 1) [108]) else S.nm i)=_;unfold N4;rw [Z.n 1,Z.n i]
   ·show (if i=3 then [] else if i=1 then S.aL 1 else S.aL i)=_;unfold B4;rw [Z.b 1,Z.b i]
   ·show (if (2:Int)=3 then fQ vv else if (2:Int)=1 then c1 else S.C 2)=_;rw [if_neg (by decide),if_neg (by decide)]
def L0:List bV:=[⟨⟨0,0,0,[],[]⟩,none,0,0⟩,⟨⟨1,2,1,[],[]⟩,none,0,0⟩]
theorem VJ (h:Heap):aD Tryz.prog 40 [] h (λv h'=>Keeps [] h h'/\∃ bT t,v=.pointer (some ⟨t,0,none⟩)/\h.size<=bT/\h.size<=t/\h'[t]?=some (.cells ⟨[.slice (some ⟨bT,0,none⟩) 2 2]⟩ 80 (0,0))/\h'[bT]?=some (.cells ⟨fM L0⟩ 77 (0,0))):=by
 refine aH aI Tryz.func40 rfl ok40 (by simp [Tryz.f40]) ?_;(conv=>whnf);refine aR.i λb1 h1 e1 s1 o1 k1=>?_;(conv=>whnf);refine aR.i λb2 h2 e2 s2 o2 k2=>?_;(conv=>whnf);exact ⟨k1.trans k2,b1,b2,rfl,by omega,by omega,o2,k2.obj o1 (by simp)⟩
end Go.Proofs.YtoociceebodfeaaGreatDoor
