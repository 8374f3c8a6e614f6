/-
  Layer 10: the laws' arguments; the law without a view.
-/
import Derived.Test.YtlloemmpnhoanaaGreatBodyU
import Derived.Test.YtlloemmpnhoanaaGreatEngP
set_option linter.all false
set_option maxRecDepth 100000
namespace Go.Proofs.YtlloemmpnhoanaaGreat
open Go Go.Eng Go.RowKit

section
variable {H : Type} {enc : TypeId × Value → H} {W : World} {sp : Nat → Bool} {held : Bool}

theorem opens_word {P : Program} {t : TypeId} (ht : P.underlying t = some (.int .u64)) : Opens enc P W sp held t UInt64 := by
  intro fuel cs x h _
  cases fuel with
  | zero => simp [DataW.trod] at h
  | succ fuel =>
    match cs, h with
    | [], h => simp [DataW.trod, ht] at h
    | _ :: _ :: _, h => simp [DataW.trod, ht] at h
    | [c], h =>
      cases c <;> simp [DataW.trod, ht] at h
      rename_i k n
      obtain ⟨⟨rfl, hwf⟩, _⟩ := h
      simp [Lit.wf, IntKind.min, IntKind.max, IntKind.bits, IntKind.signed] at hwf
      refine ⟨UInt64.ofNat n.toNat, ?_⟩
      show [Value.int .u64 n] = [wv (UInt64.ofNat n.toNat)]
      have : ((UInt64.ofNat n.toNat).toNat : Int) = n := by
        rw [UInt64.toNat_ofNat']; omega
      unfold wv
      rw [this]

theorem three_of {cs : List Value} (h : cs.length = 3) : ∃ a b c, cs = [a, b, c] := by
  match cs, h with
  | [a, b, c], _ => exact ⟨a, b, c, rfl⟩
theorem two_of {cs : List Value} (h : cs.length = 2) : ∃ a b, cs = [a, b] := by
  match cs, h with
  | [a, b], _ => exact ⟨a, b, rfl⟩
theorem four_of {cs : List Value} (h : cs.length = 4) : ∃ a b c d, cs = [a, b, c, d] := by
  match cs, h with
  | [a, b, c, d], _ => exact ⟨a, b, c, d, rfl⟩
theorem five_of {cs : List Value} (h : cs.length = 5) : ∃ a b c d e, cs = [a, b, c, d, e] := by
  match cs, h with
  | [a, b, c, d, e], _ => exact ⟨a, b, c, d, e, rfl⟩
theorem ten_of {cs : List Value} (h : cs.length = 10) : ∃ a b c d e f g i j k, cs = [a, b, c, d, e, f, g, i, j, k] := by
  match cs, h with
  | [a, b, c, d, e, f, g, i, j, k], _ => exact ⟨a, b, c, d, e, f, g, i, j, k, rfl⟩

theorem opens_chg : Opens enc Tryz.prog W sp held 89 Chg := by
  intro fuel cs x h hw
  obtain ⟨hl, f', hp⟩ := trod_parts Tryz.underlying89 h hw
  obtain ⟨a, b, rfl⟩ := two_of hl
  obtain ⟨y0, h0, w0⟩ := hp _ (List.mem_cons_self)
  obtain ⟨y1, h1, w1⟩ := hp _ (List.mem_cons_of_mem _ List.mem_cons_self)
  obtain ⟨n, hn, hn2⟩ := opens_int (W := W) Tryz.underlying3 f' _ _ h0 w0
  obtain ⟨s, hs⟩ := opens_word (W := W) Tryz.underlying36 f' _ _ h1 w1
  cases hn; cases hs
  exact ⟨⟨n, s⟩, rfl, hn2⟩

theorem opens_chgs : Opens enc Tryz.prog W sp held 86 (List Chg) := opens_slice Tryz.underlying86 (by kernel_rfl) (by decide) (of_decide_eq_true (by kernel_rfl)) opens_chg
theorem opens_ints : Opens enc Tryz.prog W sp held 61 (List Int) := opens_slice Tryz.underlying61 (by kernel_rfl) (by decide) (of_decide_eq_true (by kernel_rfl)) (opens_int Tryz.underlying3)

theorem opens_five {fuel : Nat} {cs : List Value} {x : DataW H × List MemPlace} (h : DataW.trod enc Tryz.prog W 0 sp held fuel 37 cs = some x) (hw : ∀ m ∈ x.1.weights Tryz.prog 37, m ≤ reachBytes) :
    ∃ w0 w1 w2 w3 w4 : Int, cs = [.int .i64 w0, .int .i64 w1, .int .i64 w2, .int .i64 w3, .int .i64 w4] ∧ inI64 w0 ∧ inI64 w1 ∧ inI64 w2 ∧ inI64 w3 ∧ inI64 w4 := by
  obtain ⟨hl, f', hp⟩ := array_parts Tryz.underlying37 h hw
  obtain ⟨a, b, c, d, e, rfl⟩ := five_of hl
  obtain ⟨y0, h0, w0⟩ := hp 0 (by decide)
  obtain ⟨y1, h1, w1⟩ := hp 1 (by decide)
  obtain ⟨y2, h2, w2⟩ := hp 2 (by decide)
  obtain ⟨y3, h3, w3⟩ := hp 3 (by decide)
  obtain ⟨y4, h4, w4⟩ := hp 4 (by decide)
  obtain ⟨n0, e0, g0⟩ := opens_int (W := W) Tryz.underlying3 f' _ _ h0 w0
  obtain ⟨n1, e1, g1⟩ := opens_int (W := W) Tryz.underlying3 f' _ _ h1 w1
  obtain ⟨n2, e2, g2⟩ := opens_int (W := W) Tryz.underlying3 f' _ _ h2 w2
  obtain ⟨n3, e3, g3⟩ := opens_int (W := W) Tryz.underlying3 f' _ _ h3 w3
  obtain ⟨n4, e4, g4⟩ := opens_int (W := W) Tryz.underlying3 f' _ _ h4 w4
  cases e0; cases e1; cases e2; cases e3; cases e4
  exact ⟨_, _, _, _, _, rfl, g0, g1, g2, g3, g4⟩

theorem opens_card {fuel : Nat} {cs : List Value} {x : DataW H × List MemPlace} (h : DataW.trod enc Tryz.prog W 0 sp held fuel 39 cs = some x) (hw : ∀ m ∈ x.1.weights Tryz.prog 39, m ≤ reachBytes) :
    ∃ c : Crd, cs = c.cells ∧ c.ok := by
  obtain ⟨hl, f', hp⟩ := trod_parts Tryz.underlying39 h hw
  obtain ⟨a, b, c, d, e, f, g, i, j, k, rfl⟩ := ten_of hl
  obtain ⟨y0, h0, w0⟩ := hp _ (List.mem_cons_self)
  obtain ⟨y1, h1, w1⟩ := hp _ (List.mem_cons_of_mem _ List.mem_cons_self)
  obtain ⟨y2, h2, w2⟩ := hp _ (List.mem_cons_of_mem _ (List.mem_cons_of_mem _ List.mem_cons_self))
  obtain ⟨y3, h3, w3⟩ := hp _ (List.mem_cons_of_mem _ (List.mem_cons_of_mem _ (List.mem_cons_of_mem _ List.mem_cons_self)))
  obtain ⟨y4, h4, w4⟩ := hp _ (List.mem_cons_of_mem _ (List.mem_cons_of_mem _ (List.mem_cons_of_mem _ (List.mem_cons_of_mem _ List.mem_cons_self))))
  obtain ⟨y5, h5, w5⟩ := hp _ (List.mem_cons_of_mem _ (List.mem_cons_of_mem _ (List.mem_cons_of_mem _ (List.mem_cons_of_mem _ (List.mem_cons_of_mem _ List.mem_cons_self)))))
  obtain ⟨n0, e0, g0⟩ := opens_int (W := W) Tryz.underlying3 f' _ _ h0 w0
  obtain ⟨n1, e1, g1⟩ := opens_int (W := W) Tryz.underlying3 f' _ _ h1 w1
  obtain ⟨n2, e2, g2⟩ := opens_int (W := W) Tryz.underlying3 f' _ _ h2 w2
  obtain ⟨n3, e3⟩ := opens_word (W := W) Tryz.underlying36 f' _ _ h3 w3
  obtain ⟨z0, z1, z2, z3, z4, e4, q0, q1, q2, q3, q4⟩ := opens_five (W := W) h4 w4
  obtain ⟨n5, e5, g5⟩ := opens_int (W := W) Tryz.underlying3 f' _ _ h5 w5
  cases e0; cases e1; cases e2; cases e3; cases e4; cases e5
  refine ⟨⟨n0, n1, n2, n3, z0, z1, z2, z3, z4, n5⟩, rfl, g0, g1, g2, ?_, g5⟩
  intro x hx
  simp [Crd.direct] at hx
  rcases hx with rfl | rfl | rfl | rfl | rfl <;> assumption

theorem opens_op {fuel : Nat} {cs : List Value} {x : DataW H × List MemPlace} (h : DataW.trod enc Tryz.prog W 0 sp held fuel 30 cs = some x) (hw : ∀ m ∈ x.1.weights Tryz.prog 30, m ≤ reachBytes) :
    ∃ (k a n : Int) (s : ByteArray), cs = [.int .i64 k, .int .i64 a, .int .i64 n, .string s] ∧ inI64 k ∧ inI64 a ∧ inI64 n ∧ okStr s := by
  obtain ⟨hl, f', hp⟩ := trod_parts Tryz.underlying30 h hw
  obtain ⟨a, b, c, d, rfl⟩ := four_of hl
  obtain ⟨y0, h0, w0⟩ := hp _ (List.mem_cons_self)
  obtain ⟨y1, h1, w1⟩ := hp _ (List.mem_cons_of_mem _ List.mem_cons_self)
  obtain ⟨y2, h2, w2⟩ := hp _ (List.mem_cons_of_mem _ (List.mem_cons_of_mem _ List.mem_cons_self))
  obtain ⟨y3, h3, w3⟩ := hp _ (List.mem_cons_of_mem _ (List.mem_cons_of_mem _ (List.mem_cons_of_mem _ List.mem_cons_self)))
  obtain ⟨n0, e0, g0⟩ := opens_int (W := W) Tryz.underlying3 f' _ _ h0 w0
  obtain ⟨n1, e1, g1⟩ := opens_int (W := W) Tryz.underlying3 f' _ _ h1 w1
  obtain ⟨n2, e2, g2⟩ := opens_int (W := W) Tryz.underlying3 f' _ _ h2 w2
  obtain ⟨s, e3, g3⟩ := opens_string (W := W) Tryz.underlying9 f' _ _ h3 w3
  cases e0; cases e1; cases e2; cases e3
  exact ⟨_, _, _, _, rfl, g0, g1, g2, g3⟩
end

end Go.Proofs.YtlloemmpnhoanaaGreat
