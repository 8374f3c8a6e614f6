/-
  The references that layer 10's statements call.
-/
import Derived.Test.YtlloemmpnhoanaaGreatBodyN
import Derived.Test.YtlloemmpnhoanaaGreatEngE
set_option linter.all false
set_option maxRecDepth 100000
namespace Go.Proofs.YtlloemmpnhoanaaGreat
open Go Go.Eng

def noneC (v : UInt64) : Crd := ⟨0, 0, 0, v, -1, -1, -1, -1, -1, -1⟩

theorem refNone_spec (v : UInt64) (h : Heap) : CallH Tryz.prog 37 [wv v] h (fun r h' => Keeps [] h h' ∧ r = .agg ⟨(noneC v).cells⟩) := by
  refine call_of hmix Tryz.func37 rfl ok37 (by simp [Tryz.f37]) ?_
  conv => whnf
  refine AllocR.i fun b1 h1 e1 s1 o1 k1 => ?_
  conv => whnf
  refine BoxR.i fun h2 s2 k2 => ?_
  conv => whnf
  exact ⟨k1.new1 k2 (by omega), rfl⟩

def freshC (kind : Int) (v : UInt64) : Crd := { noneC v with kind := kind, links := 1 }

theorem refFresh_spec (kind : Int) (v : UInt64) (h : Heap) : CallH Tryz.prog 17 [.int .i64 kind, wv v] h (fun r h' => Keeps [] h h' ∧ r = .tuple (if 1 ≤ kind ∧ kind ≤ 3 then #[.agg ⟨(freshC kind v).cells⟩, .int .i64 0] else #[.agg ⟨Crd.zero.cells⟩, .int .i64 1])) := by
  refine call_of hmix Tryz.func17 rfl ok17 (by simp [Tryz.f17]) ?_
  conv => whnf
  refine AllocR.i fun b1 h1 e1 s1 o1 k1 => ?_
  conv => whnf
  refine IfR.i (fun hc => ?_) (fun hc => ?_)
  · conv => whnf
    refine BoxR.i fun h2 s2 k2 => ?_
    conv => whnf
    have : ¬ (1 ≤ kind ∧ kind ≤ 3) := by simp [bif_or] at hc; omega
    rw [if_neg this]
    exact ⟨k1.new1 k2 (by omega), rfl⟩
  · conv => whnf
    refine CallR.i (refNone_spec v h1) fun v2 h2 k2 hv => ?_
    subst hv
    conv => whnf
    refine AllocR.i fun b3 h3 e3 s3 o3 k3 => ?_
    conv => whnf
    refine BoxR.i fun h4 s4 k4 => ?_
    conv => whnf
    refine BoxR.i fun h5 s5 k5 => ?_
    conv => whnf
    refine BoxR.i fun h6 s6 k6 => ?_
    conv => whnf
    refine BoxR.i fun h7 s7 k7 => ?_
    conv => whnf
    have : 1 ≤ kind ∧ kind ≤ 3 := by simp [bif_or] at hc; omega
    rw [if_pos this]
    have z2 := k2.size
    exact ⟨((((k1.trans (k2.trans k3)).new1 k4 (by omega)).new1 k5 (by omega)).new1 k6 (by omega)).new1 k7 (by omega), rfl⟩

def blockC (n : Int) : Bool := decide (-1 ≤ n) && decide (n < 96)
theorem refBlock_spec (n : Int) (h : Heap) : CallH Tryz.prog 49 [.int .i64 n] h (fun r h' => Keeps [] h h' ∧ r = .bool (blockC n)) := by
  refine call_of hmix Tryz.func49 rfl ok49 (by simp [Tryz.f49]) ?_
  conv => whnf
  refine ⟨Keeps.refl _ _, ?_⟩
  rw [bif_and]; rfl

/-- may a card be? -/
def rightC (c : Crd) : Bool :=
  if c.kind = 0 then decide (c = noneC c.ver)
  else c.direct.all blockC && (decide (1 ≤ c.kind) && decide (c.kind ≤ 3) && decide (0 ≤ c.links) && decide (c.links ≤ 255) && decide (0 ≤ c.size) && decide (c.size ≤ 2688) && blockC c.more)

theorem cells_inj {a b : Crd} : a.cells = b.cells ↔ a = b := by
  constructor
  · intro h
    obtain ⟨a1, a2, a3, a4, a5, a6, a7, a8, a9, a10⟩ := a
    obtain ⟨b1, b2, b3, b4, b5, b6, b7, b8, b9, b10⟩ := b
    simp only [Crd.cells, List.cons.injEq, Value.int.injEq, true_and, and_true, wv_inj] at h
    obtain ⟨rfl, rfl, rfl, rfl, rfl, rfl, rfl, rfl, rfl, rfl⟩ := h
    rfl
  · rintro rfl; rfl

theorem eqT_crd (a b : Crd) : eqT Tryz.prog 10000 39 (.agg ⟨a.cells⟩) (.agg ⟨b.cells⟩) = some (decide (a = b)) := by
  have h : eqT Tryz.prog 10000 39 (.agg ⟨a.cells⟩) (.agg ⟨b.cells⟩) = some ((a.kind == b.kind) && ((a.links == b.links) && ((a.size == b.size) && (((a.ver.toNat : Int) == (b.ver.toNat : Int)) && (((a.d0 == b.d0) && ((a.d1 == b.d1) && ((a.d2 == b.d2) && ((a.d3 == b.d3) && ((a.d4 == b.d4) && true))))) && ((a.more == b.more) && true)))))) := rfl
  rw [h]
  congr 1
  rw [Bool.eq_iff_iff]
  simp only [Bool.and_eq_true, beq_iff_eq, decide_eq_true_eq, Bool.and_true]
  constructor
  · rintro ⟨h1, h2, h3, h4, ⟨h5, h6, h7, h8, h9⟩, h10⟩
    rw [← cells_inj]
    simp only [Crd.cells, wv, h1, h2, h3, h4, h5, h6, h7, h8, h9, h10]
  · rintro rfl; simp
end Go.Proofs.YtlloemmpnhoanaaGreat
