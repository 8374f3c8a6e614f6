/-
  Layer 10 without a view; the law of it.
-/
import Derived.Test.YtlloemmpnhoanaaGreatBodyR
set_option linter.all false
set_option maxRecDepth 100000
namespace Go.Proofs.YtlloemmpnhoanaaGreat
open Go Go.Eng

theorem mayNil_spec (node : Int) (h : Heap) : CallH Tryz.prog 38 [.pointer none, .int .i64 node] h (fun v h' => Keeps [] h h' ∧ v = .int .i64 1) := by
  refine call_of hmix Tryz.func38 rfl ok38 (by simp [Tryz.f38]) ?_
  conv => whnf
  refine CallR.i (cardAt_spec node h) fun v h1 k1 hv => ?_
  subst hv
  conv => whnf
  first | refine IfR.t rfl ?_ | (refine MeetR.pass ?_; (conv => whnf); refine IfR.t rfl ?_)
  conv => whnf
  exact ⟨k1, rfl⟩
theorem mapNil_spec (L : List Value) (h : Heap) : CallH Tryz.prog 26 [.pointer none, .agg ⟨L⟩] h (fun v h' => Keeps [] h h' ∧ v = .tuple #[.slice none 0 0, .int .i64 1]) := by
  refine call_of hmix Tryz.func26 rfl ok26 (by simp [Tryz.f26]) ?_
  conv => whnf
  refine AllocR.i fun b1 h1 e1 s1 o1 k1 => ?_
  conv => whnf
  refine IfR.t rfl ?_
  conv => whnf
  exact ⟨k1, rfl⟩
theorem readNil_spec (L : List Value) (at_ n : Int) (h : Heap) : CallH Tryz.prog 13 [.pointer none, .agg ⟨L⟩, .int .i64 at_, .int .i64 n] h (fun v h' => Keeps [] h h' ∧ v = .tuple #[.string ⟨#[]⟩, .int .i64 1]) := by
  refine call_of hmix Tryz.func13 rfl ok13 (by simp [Tryz.f13]) ?_
  conv => whnf
  refine AllocR.i fun b1 h1 e1 s1 o1 k1 => ?_
  conv => whnf
  first | refine IfR.t rfl ?_ | (refine MeetR.pass ?_; (conv => whnf); refine IfR.t rfl ?_)
  conv => whnf
  exact ⟨k1, rfl⟩
theorem writeNil_spec (node : Int) (L : List Value) (at_ : Int) (t : ByteArray) (h : Heap) : CallH Tryz.prog 18 [.pointer none, .int .i64 node, .agg ⟨L⟩, .int .i64 at_, .string t] h (fun v h' => Keeps [] h h' ∧ v = .tuple #[.agg ⟨Crd.zero.cells⟩, .int .i64 1]) := by
  refine call_of hmix Tryz.func18 rfl ok18 (by simp [Tryz.f18]) ?_
  conv => whnf
  refine AllocR.i fun b1 h1 e1 s1 o1 k1 => ?_
  conv => whnf
  refine AllocR.i fun b2 h2 e2 s2 o2 k2 => ?_
  conv => whnf
  refine CallR.i (mayNil_spec node h2) fun v h3 k3 hv => ?_
  subst hv
  have z3 := k3.size
  conv => whnf
  first | refine IfR.t rfl ?_ | (refine MeetR.pass ?_; (conv => whnf); refine IfR.t rfl ?_)
  conv => whnf
  refine BoxR.i fun h4 s4 k4 => ?_
  conv => whnf
  exact ⟨(k1.trans (k2.trans k3)).new1 k4 (by omega), rfl⟩
theorem cutNil_spec (node : Int) (L : List Value) (n : Int) (h : Heap) : CallH Tryz.prog 22 [.pointer none, .int .i64 node, .agg ⟨L⟩, .int .i64 n] h (fun v h' => Keeps [] h h' ∧ v = .tuple #[.agg ⟨Crd.zero.cells⟩, .int .i64 1]) := by
  refine call_of hmix Tryz.func22 rfl ok22 (by simp [Tryz.f22]) ?_
  conv => whnf
  refine AllocR.i fun b1 h1 e1 s1 o1 k1 => ?_
  conv => whnf
  refine AllocR.i fun b2 h2 e2 s2 o2 k2 => ?_
  conv => whnf
  refine CallR.i (mayNil_spec node h2) fun v h3 k3 hv => ?_
  subst hv
  have z3 := k3.size
  conv => whnf
  first | refine IfR.t rfl ?_ | (refine MeetR.pass ?_; (conv => whnf); refine IfR.t rfl ?_)
  conv => whnf
  refine BoxR.i fun h4 s4 k4 => ?_
  conv => whnf
  exact ⟨(k1.trans (k2.trans k3)).new1 k4 (by omega), rfl⟩
theorem keepNil_spec (node : Int) (L : List Value) (sa : Option Addr) (n c : Nat) (h : Heap) : CallH Tryz.prog 43 [.pointer none, .int .i64 node, .agg ⟨L⟩, .slice sa n c] h (fun v h' => Keeps [] h h' ∧ v = .tuple #[.agg ⟨Crd.zero.cells⟩, .int .i64 1]) := by
  refine call_of hmix Tryz.func43 rfl ok43 (by simp [Tryz.f43]) ?_
  conv => whnf
  refine AllocR.i fun b1 h1 e1 s1 o1 k1 => ?_
  conv => whnf
  refine AllocR.i fun b2 h2 e2 s2 o2 k2 => ?_
  conv => whnf
  refine CallR.i (mayNil_spec node h2) fun v h3 k3 hv => ?_
  subst hv
  have z3 := k3.size
  conv => whnf
  first | refine IfR.f rfl ?_ | (refine MeetR.pass ?_; (conv => whnf); refine IfR.f rfl ?_)
  conv => whnf
  refine IfR.f rfl ?_
  conv => whnf
  refine IfR.t rfl ?_
  conv => whnf
  refine BoxR.i fun h4 s4 k4 => ?_
  conv => whnf
  exact ⟨(k1.trans (k2.trans k3)).new1 k4 (by omega), rfl⟩

end Go.Proofs.YtlloemmpnhoanaaGreat
