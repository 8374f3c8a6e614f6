/-
  Find: the laws' arguments.
-/
import Derived.Test.YtegagciipigkbaaFindA
import Derived.Test.YtegagciipigkbaaEngP
set_option linter.all false
namespace Go.Proofs.Ytegagciipigkbaa
open Go Go.Eng Go.RowKit

section
variable {H : Type} {enc : TypeId × Value → H} {W : World} {sp : Nat → Bool} {held : Bool}

theorem two_of {cs : List Value} (h : cs.length = 2) : ∃ a b, cs = [a, b] := by
  match cs, h with
  | [a, b], _ => exact ⟨a, b, rfl⟩
theorem four_of {cs : List Value} (h : cs.length = 4) : ∃ a b c d, cs = [a, b, c, d] := by
  match cs, h with
  | [a, b, c, d], _ => exact ⟨a, b, c, d, rfl⟩
theorem five_of {cs : List Value} (h : cs.length = 5) : ∃ a b c d e, cs = [a, b, c, d, e] := by
  match cs, h with
  | [a, b, c, d, e], _ => exact ⟨a, b, c, d, e, rfl⟩

theorem opens_ent : Opens enc Try.prog W sp held 45 Ent := by
  intro fuel cs x h hw
  obtain ⟨hl, f', hp⟩ := trod_parts Try.underlying45 h hw
  obtain ⟨a, b, rfl⟩ := two_of hl
  obtain ⟨y0, h0, w0⟩ := hp _ (List.mem_cons_self)
  obtain ⟨y1, h1, w1⟩ := hp _ (List.mem_cons_of_mem _ List.mem_cons_self)
  obtain ⟨s, hs, hs2⟩ := opens_string (W := W) Try.underlying9 f' _ _ h0 w0
  obtain ⟨n, hn, hn2⟩ := opens_int (W := W) Try.underlying3 f' _ _ h1 w1
  cases hs; cases hn
  exact ⟨⟨s, n⟩, rfl, hs2, hn2⟩

theorem opens_nd : Opens enc Try.prog W sp held 31 Nd := by
  intro fuel cs x h hw
  obtain ⟨hl, f', hp⟩ := trod_parts Try.underlying31 h hw
  obtain ⟨a, b, c, d, e, rfl⟩ := five_of hl
  obtain ⟨y0, h0, w0⟩ := hp _ (List.mem_cons_self)
  obtain ⟨y1, h1, w1⟩ := hp _ (List.mem_cons_of_mem _ List.mem_cons_self)
  obtain ⟨y2, h2, w2⟩ := hp _ (List.mem_cons_of_mem _ (List.mem_cons_of_mem _ List.mem_cons_self))
  obtain ⟨y3, h3, w3⟩ := hp _ (List.mem_cons_of_mem _ (List.mem_cons_of_mem _ (List.mem_cons_of_mem _ List.mem_cons_self)))
  obtain ⟨y4, h4, w4⟩ := hp _ (List.mem_cons_of_mem _ (List.mem_cons_of_mem _ (List.mem_cons_of_mem _ (List.mem_cons_of_mem _ List.mem_cons_self))))
  obtain ⟨n0, e0, g0⟩ := opens_int (W := W) Try.underlying3 f' _ _ h0 w0
  obtain ⟨n1, e1, g1⟩ := opens_int (W := W) Try.underlying3 f' _ _ h1 w1
  obtain ⟨n2, e2, g2⟩ := opens_int (W := W) Try.underlying3 f' _ _ h2 w2
  obtain ⟨s, e3, g3⟩ := opens_string (W := W) Try.underlying9 f' _ _ h3 w3
  obtain ⟨l, e4⟩ := opens_slice (α := Ent) (W := W) Try.underlying29 (by kernel_rfl) (by decide) (of_decide_eq_true (by kernel_rfl)) opens_ent f' _ _ h4 w4
  obtain ⟨sa, sn, sc, e4, S⟩ := e4
  cases e0; cases e1; cases e2; cases e3; cases e4
  exact ⟨⟨n0, n1, n2, s, l⟩, sa, sn, sc, rfl, ⟨g0, g1, g2, g3⟩, S⟩

theorem opens_nodes : Opens enc Try.prog W sp held 22 (List Nd) := opens_slice Try.underlying22 (by kernel_rfl) (by decide) (of_decide_eq_true (by kernel_rfl)) opens_nd

theorem opens_four {fuel : Nat} {cs : List Value} {x : DataW H × List MemPlace} (h : DataW.trod enc Try.prog W 0 sp held fuel 33 cs = some x) (hw : ∀ m ∈ x.1.weights Try.prog 33, m ≤ reachBytes) :
    ∃ w0 w1 w2 w3 : Int, cs = [.int .i64 w0, .int .i64 w1, .int .i64 w2, .int .i64 w3] ∧ inI64 w0 ∧ inI64 w1 ∧ inI64 w2 ∧ inI64 w3 := by
  obtain ⟨hl, f', hp⟩ := array_parts Try.underlying33 h hw
  obtain ⟨a, b, c, d, rfl⟩ := four_of hl
  obtain ⟨y0, h0, w0⟩ := hp 0 (by decide)
  obtain ⟨y1, h1, w1⟩ := hp 1 (by decide)
  obtain ⟨y2, h2, w2⟩ := hp 2 (by decide)
  obtain ⟨y3, h3, w3⟩ := hp 3 (by decide)
  obtain ⟨n0, e0, g0⟩ := opens_int (W := W) Try.underlying3 f' _ _ h0 w0
  obtain ⟨n1, e1, g1⟩ := opens_int (W := W) Try.underlying3 f' _ _ h1 w1
  obtain ⟨n2, e2, g2⟩ := opens_int (W := W) Try.underlying3 f' _ _ h2 w2
  obtain ⟨n3, e3, g3⟩ := opens_int (W := W) Try.underlying3 f' _ _ h3 w3
  cases e0; cases e1; cases e2; cases e3
  exact ⟨_, _, _, _, rfl, g0, g1, g2, g3⟩
end
end Go.Proofs.Ytegagciipigkbaa
