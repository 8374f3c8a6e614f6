/-
  The engine: arguments of a law.
-/
import Derived.Test.YtlloemmpnhoanaaGreatEngN
set_option linter.all false
namespace Go.Eng
open Go Go.RowKit Go.Deep

section
variable {H : Type} {enc : TypeId × Value → H} {P : Program} {W : World} {sp : Nat → Bool} {held : Bool}

/-- an argument, opened -/
theorem arg_opens {t : TypeId} {α : Type} [Rp α] (ho : Opens enc P W sp held t α) {v : Value} {d : DataW H} {p : List MemPlace} (h : DataW.Trod enc P W 0 sp held t v d p) (hw : ∀ m ∈ d.weights P t, m ≤ reachBytes) :
    ∃ y : α, rep W.heap v.cells.toList y := by
  obtain ⟨fuel, hf⟩ := h
  exact ho fuel _ _ hf hw

theorem agg_of {v : Value} {cs : List Value} (h : v.cells.toList = cs) (hl : cs.length ≠ 1) : v = .agg ⟨cs⟩ := by
  subst h
  cases v
  case agg a => simp [Value.cells]
  all_goals simp [Value.cells] at hl

theorem weights_each {ts : List TypeId} {ds : List (DataW H)} (h : (DataW.weightsEach P ts ds).all (· ≤ reachBytes) = true) : ∀ (j : Nat) t d, ts[j]? = some t → ds[j]? = some d → ∀ m ∈ d.weights P t, m ≤ reachBytes := by
  have key : ∀ (ts : List TypeId) (ds : List (DataW H)), (∀ m ∈ DataW.weightsEach P ts ds, m ≤ reachBytes) → ∀ (j : Nat) t d, ts[j]? = some t → ds[j]? = some d → ∀ m ∈ d.weights P t, m ≤ reachBytes := by
    intro ts
    induction ts with
    | nil => intro ds _ j t d h; simp at h
    | cons t ts ih =>
      intro ds hw j t' d' h1 h2 m hm
      cases ds with
      | nil => simp at h2
      | cons d ds =>
        simp only [DataW.weightsEach, List.mem_append] at hw
        cases j with
        | zero =>
          simp at h1 h2; subst h1 h2
          exact hw m (.inl hm)
        | succ j => exact ih ds (fun m hm => hw m (.inr hm)) j t' d' (by simpa using h1) (by simpa using h2) m hm
  exact key ts ds (fun m hm => by simpa using (List.all_eq_true.1 h) m hm)

/-- the parts of an array -/
theorem array_parts {t e : TypeId} {n : Nat} {fuel : Nat} {cs : List Value} {x : DataW H × List MemPlace} (ht : P.underlying t = some (.array n e)) (h : DataW.trod enc P W 0 sp held fuel t cs = some x)
    (hw : ∀ m ∈ x.1.weights P t, m ≤ reachBytes) :
    cs.length = P.cellsOf t ∧ ∃ fuel', ∀ i, i < n → ∃ y, DataW.trod enc P W 0 sp held fuel' e ((cs.drop (i * P.cellsOf e)).take (P.cellsOf e)) = some y ∧ ∀ m ∈ y.1.weights P e, m ≤ reachBytes := by
  cases fuel with
  | zero => simp [DataW.trod] at h
  | succ fuel =>
    have h' : (if cs.length = P.cellsOf t then ((List.range n).mapM fun i => DataW.trod enc P W 0 sp held fuel e ((cs.drop (i * P.cellsOf e)).take (P.cellsOf e))).map fun xs => (DataW.agg (xs.map (·.1)), xs.flatMap (·.2)) else none) = some x := by
      rw [← h]
      conv => rhs; unfold DataW.trod
      simp only [ht]
    split at h'
    · rename_i hl
      refine ⟨hl, fuel, ?_⟩
      simp only [Option.map_eq_some_iff] at h'
      obtain ⟨xs, hxs, hx⟩ := h'
      have hw' : ∀ m ∈ DataW.weightsAll P e (xs.map (·.1)), m ≤ reachBytes := fun m hm => hw m (by
        rw [← hx]; unfold DataW.weights; simp only [ht]; exact hm)
      have key : ∀ (l : List Nat) (xs : List (DataW H × List MemPlace)), l.mapM (fun i => DataW.trod enc P W 0 sp held fuel e ((cs.drop (i * P.cellsOf e)).take (P.cellsOf e))) = some xs →
          (∀ m ∈ DataW.weightsAll P e (xs.map (·.1)), m ≤ reachBytes) →
          ∀ i ∈ l, ∃ y, DataW.trod enc P W 0 sp held fuel e ((cs.drop (i * P.cellsOf e)).take (P.cellsOf e)) = some y ∧ ∀ m ∈ y.1.weights P e, m ≤ reachBytes := by
        intro l
        induction l with
        | nil => intro xs _ _ f hf; cases hf
        | cons g l ih =>
          intro xs hx hw f hf
          simp only [List.mapM_cons, Option.bind_eq_bind] at hx
          cases hv : DataW.trod enc P W 0 sp held fuel e ((cs.drop (g * P.cellsOf e)).take (P.cellsOf e)) with
          | none => rw [hv] at hx; simp at hx
          | some v =>
            rw [hv] at hx
            simp only [Option.bind_some] at hx
            cases hr : l.mapM (fun i => DataW.trod enc P W 0 sp held fuel e ((cs.drop (i * P.cellsOf e)).take (P.cellsOf e))) with
            | none => rw [hr] at hx; simp at hx
            | some r =>
              rw [hr] at hx
              simp at hx; subst hx
              simp only [List.map_cons, DataW.weightsAll, List.mem_append] at hw
              simp only [List.mem_cons] at hf
              rcases hf with rfl | hf
              · exact ⟨v, hv, fun m hm => hw m (.inl hm)⟩
              · exact ih r hr (fun m hm => hw m (.inr hm)) f hf
      exact fun i hi => key _ _ hxs hw' i (by simpa using hi)
    · cases h'
end
end Go.Eng
