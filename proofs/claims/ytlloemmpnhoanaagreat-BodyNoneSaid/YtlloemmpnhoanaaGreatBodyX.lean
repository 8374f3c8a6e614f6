/-
  The law of maps.
-/
import Derived.Test.YtlloemmpnhoanaaGreatBodyW
set_option linter.all false
set_option maxRecDepth 100000
set_option maxHeartbeats 1000000
namespace Go.Proofs.YtlloemmpnhoanaaGreat
open Go Go.Eng

theorem mapOf_in {now : Int → UInt64} {c : Crd} (hc : c.ok) {m : List Int} (h : mapOf now c = some m) : ∀ x ∈ m, inI64 x := by
  intro x hx
  unfold mapOf at h
  split at h
  · have h' := Option.some.inj h
    subst h'
    rcases List.mem_append.1 hx with hx | hx
    · exact hc.2.2.2.1 x hx
    · rw [(List.mem_replicate.1 hx).2]; exact ⟨by decide, by decide⟩
  · split at h
    · rename_i hp
      have h' := Option.some.inj h
      subst h'
      rcases List.mem_append.1 hx with hx | hx
      · exact hc.2.2.2.1 x hx
      · obtain ⟨w, hw, rfl⟩ := List.mem_map.1 hx
        have := List.all_eq_true.1 hp.2.2.1 w hw
        simp at this
        unfold inI64 convW; omega
    · cases h

def fitB (x : Int) : Bool := decide (-1 ≤ x) && decide (x < 96)

theorem fit_all {m : List Int} {p : Bool} (h : (p && m.all fitB) = true) : ∀ x ∈ m, -1 ≤ x ∧ x < 96 := by
  intro x hx
  have h2 : m.all fitB = true := by
    cases p
    · cases h
    · exact h
  have := List.all_eq_true.1 h2 x hx
  simpa [fitB] using this
theorem odd_fit : ∀ m : List Int, m.any oddB = !m.all fitB
  | [] => rfl
  | x :: m => by
    have : oddB x = !fitB x := by
      unfold oddB fitB
      by_cases h1 : -1 ≤ x <;> by_cases h2 : x < 96 <;> simp [h1, h2] <;> omega
    rw [List.any_cons, List.all_cons, odd_fit m, this, Bool.not_and]
theorem keep_not (B : Int → UInt64) (X : VS) {m : List Int} {n : Nat} (hl : m.length = n) (h : (decide (n = 21) && m.all fitB) = false) : (keepP B X 2 (freshC 1 1) m).2.1 = 1 := by
  unfold keepP
  rw [if_neg]
  rintro ⟨_, h1, h2⟩
  rw [odd_fit] at h2
  rw [← hl, h1] at h
  cases hx : m.all fitB <;> rw [hx] at h h2 <;> simp at h h2

theorem _root_.Go.Eng.Sl.lt {h : Heap} {a : Option Addr} {n c : Nat} {m : List Int} (T : Sl h a n c m) (hn : 0 < n) : ∀ b ∈ blkA a, b < h.size := by
  have hl := T.hlen
  obtain ⟨b, o, hb, _, hc⟩ := T.at1 0 (by omega)
  intro x hx
  rw [hb] at hx
  simp [blkA] at hx
  subst hx
  exact cell_lt hc

end Go.Proofs.YtlloemmpnhoanaaGreat
