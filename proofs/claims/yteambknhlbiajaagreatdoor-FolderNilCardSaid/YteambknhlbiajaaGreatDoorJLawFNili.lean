/-
  Joined texts: FolP.
-/
import Derived.Test.YteambknhlbiajaaGreatDoorJLawFNilh
/-
  Layer 11's laws: without a view there are no names.
-/
set_option linter.all false
set_option maxRecDepth 100000
set_option maxHeartbeats 1000000
namespace Go.Proofs.YteambknhlbiajaaGreatDoor
open Go Go.Eng

theorem fopenNil_spec (c : Crd) (h : Heap) : CallH Tryz.prog 33 [.pointer none, .agg ⟨c.cells⟩] h (fun v h' => Keeps [] h h' ∧ v = .tuple #[.pointer none, .slice none 0 0, .int .i64 1]) := by
  refine call_of hmix Tryz.func33 rfl ok33 (by simp [Tryz.f33]) ?_
  conv => whnf
  refine AllocR.i fun b1 h1 e1 s1 o1 k1 => ?_
  conv => whnf
  refine IfR.t rfl ?_
  conv => whnf
  exact ⟨k1, rfl⟩
theorem listNil_spec (c : Crd) (h : Heap) : CallH Tryz.prog 13 [.pointer none, .agg ⟨c.cells⟩] h (fun v h' => Keeps [] h h' ∧ v = .tuple #[.slice none 0 0, .int .i64 1]) := by
  refine call_of hmix Tryz.func13 rfl ok13 (by simp [Tryz.f13]) ?_
  conv => whnf
  refine AllocR.i fun b1 h1 e1 s1 o1 k1 => ?_
  conv => whnf
  refine CallR.i (fopenNil_spec c h1) fun v h2 k2 hv => ?_
  subst hv
  conv => whnf
  exact ⟨k1.trans k2, rfl⟩
theorem findNil_spec (c : Crd) (s : ByteArray) (h : Heap) : CallH Tryz.prog 14 [.pointer none, .agg ⟨c.cells⟩, .string s] h (fun v h' => Keeps [] h h' ∧ v = .tuple #[.int .i64 0, .bool false, .int .i64 1]) := by
  refine call_of hmix Tryz.func14 rfl ok14 (by simp [Tryz.f14]) ?_
  conv => whnf
  refine AllocR.i fun b1 h1 e1 s1 o1 k1 => ?_
  conv => whnf
  refine CallR.i (fopenNil_spec c h1) fun v h2 k2 hv => ?_
  subst hv
  conv => whnf
  refine IfR.t rfl ?_
  conv => whnf
  exact ⟨k1.trans k2, rfl⟩
theorem fmayNil_spec (node : Int) (h : Heap) : CallH Tryz.prog 35 [.pointer none, .int .i64 node] h (fun v h' => Keeps [] h h' ∧ v = .int .i64 1) := by
  refine call_of hmix Tryz.func35 rfl ok35 (by simp [Tryz.f35]) ?_
  conv => whnf
  refine CallR.i (cardAt_spec node h) fun v h1 k1 hv => ?_
  subst hv
  conv => whnf
  first | refine IfR.t rfl ?_ | (refine MeetR.pass ?_; (conv => whnf); refine IfR.t rfl ?_)
  conv => whnf
  exact ⟨k1, rfl⟩
theorem addNil_spec (node : Int) (c : Crd) (s : ByteArray) (t : Int) (h : Heap) : CallH Tryz.prog 18 [.pointer none, .int .i64 node, .agg ⟨c.cells⟩, .string s, .int .i64 t] h (fun v h' => Keeps [] h h' ∧ v = .tuple #[.agg ⟨Crd.zero.cells⟩, .int .i64 1]) := by
  refine call_of hmix Tryz.func18 rfl ok18 (by simp [Tryz.f18]) ?_
  conv => whnf
  refine AllocR.i fun b1 h1 e1 s1 o1 k1 => ?_
  conv => whnf
  refine AllocR.i fun b2 h2 e2 s2 o2 k2 => ?_
  conv => whnf
  refine CallR.i (fmayNil_spec node h2) fun v h3 k3 hv => ?_
  subst hv
  conv => whnf
  refine IfR.t rfl ?_
  conv => whnf
  refine BoxR.i fun h4 s4 k4 => ?_
  conv => whnf
  exact ⟨((k1.trans k2).trans k3).new1 k4 (by have := k1.size; omega), rfl⟩
theorem fdropNil_spec (node : Int) (c : Crd) (s : ByteArray) (h : Heap) : CallH Tryz.prog 19 [.pointer none, .int .i64 node, .agg ⟨c.cells⟩, .string s] h (fun v h' => Keeps [] h h' ∧ v = .tuple #[.agg ⟨Crd.zero.cells⟩, .int .i64 0, .int .i64 1]) := by
  refine call_of hmix Tryz.func19 rfl ok19 (by simp [Tryz.f19]) ?_
  conv => whnf
  refine AllocR.i fun b1 h1 e1 s1 o1 k1 => ?_
  conv => whnf
  refine AllocR.i fun b2 h2 e2 s2 o2 k2 => ?_
  conv => whnf
  refine AllocR.i fun b3 h3 e3 s3 o3 k3 => ?_
  conv => whnf
  refine CallR.i (fmayNil_spec node h3) fun v h4 k4 hv => ?_
  subst hv
  conv => whnf
  refine IfR.t rfl ?_
  conv => whnf
  refine BoxR.i fun h5 s5 k5 => ?_
  conv => whnf
  exact ⟨(((k1.trans k2).trans k3).trans k4).new1 k5 (by omega), rfl⟩
theorem clearNil_spec (node : Int) (c : Crd) (h : Heap) : CallH Tryz.prog 20 [.pointer none, .int .i64 node, .agg ⟨c.cells⟩] h (fun v h' => Keeps [] h h' ∧ v = .tuple #[.agg ⟨Crd.zero.cells⟩, .int .i64 1]) := by
  refine call_of hmix Tryz.func20 rfl ok20 (by simp [Tryz.f20]) ?_
  conv => whnf
  refine AllocR.i fun b1 h1 e1 s1 o1 k1 => ?_
  conv => whnf
  refine AllocR.i fun b2 h2 e2 s2 o2 k2 => ?_
  conv => whnf
  refine CallR.i (fmayNil_spec node h2) fun v h3 k3 hv => ?_
  subst hv
  conv => whnf
  refine IfR.t rfl ?_
  conv => whnf
  refine BoxR.i fun h4 s4 k4 => ?_
  conv => whnf
  exact ⟨((k1.trans k2).trans k3).new1 k4 (by have := k1.size; omega), rfl⟩

theorem nil11_law (c : Crd) (s : ByteArray) (n : Int) (h : Heap) : CallH Tryz.prog 4 [.agg ⟨c.cells⟩, .string s, .int .i64 n] h (fun v h' => Keeps [] h h' ∧ v = .bool true) := by
  refine call_of hmix Tryz.func4 rfl ok4 (by simp [Tryz.f4]) ?_
  conv => whnf
  refine AllocR.i fun b1 h1 e1 s1 o1 k1 => ?_
  conv => whnf
  refine CallR.i (lives11_spec h1) fun v h2 k2 hv => ?_
  subst hv
  have kk := k1.trans k2
  have z := kk.size
  conv => whnf
  refine IfR.f rfl ?_
  conv => whnf
  refine CallR.i (listNil_spec c h2) fun v h3 k3 hv => ?_
  subst hv
  have kk := kk.trans k3
  conv => whnf
  refine CallR.i (findNil_spec c s h3) fun v h4 k4 hv => ?_
  subst hv
  have kk := kk.trans k4
  conv => whnf
  refine CallR.i (addNil_spec n c s 1 h4) fun v h5 k5 hv => ?_
  subst hv
  have kk := kk.trans k5
  have z5 := kk.size
  conv => whnf
  refine AllocR.i fun b6 h6 e6 s6 o6 k6 => ?_
  conv => whnf
  refine BoxR.i fun h7 s7 k7 => ?_
  have kk := (kk.trans k6).new1 k7 (by omega)
  conv => whnf
  refine CallR.i (fdropNil_spec n c s h7) fun v h8 k8 hv => ?_
  subst hv
  have kk := kk.trans k8
  have z8 := kk.size
  conv => whnf
  refine AllocR.i fun b9 h9 e9 s9 o9 k9 => ?_
  conv => whnf
  refine BoxR.i fun h10 s10 k10 => ?_
  have kk := (kk.trans k9).new1 k10 (by omega)
  conv => whnf
  refine CallR.i (clearNil_spec n c h10) fun v h11 k11 hv => ?_
  subst hv
  have kk := kk.trans k11
  have z11 := kk.size
  conv => whnf
  refine AllocR.i fun b12 h12 e12 s12 o12 k12 => ?_
  conv => whnf
  refine BoxR.i fun h13 s13 k13 => ?_
  have kk := (kk.trans k12).new1 k13 (by omega)
  conv => whnf
  exact ⟨kk, rfl⟩
end Go.Proofs.YteambknhlbiajaaGreatDoor
