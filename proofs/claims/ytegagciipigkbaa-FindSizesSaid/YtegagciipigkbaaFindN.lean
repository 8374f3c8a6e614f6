/-
  FindSizes: the plain part.
-/
import Derived.Test.YtegagciipigkbaaFindM
set_option linter.all false
namespace Go.Proofs.Ytegagciipigkbaa
open Go Go.Eng

/-- what a number counts for -/
def valN (N : List Nd) (k : Int) : Int := if (getN N k).kind = 2 then 0 else ((getN N k).data.size : Int)

theorem valN_pos (N : List Nd) (k : Int) : 0 ≤ valN N k := by unfold valN; split <;> omega

theorem sum_sub {f : Int → Int} (hf : ∀ k, 0 ≤ f k) : ∀ {a b : List Int}, a.Nodup → (∀ x ∈ a, x ∈ b) → (a.map f).sum ≤ (b.map f).sum
  | [], b, _, _ => by
    have : ∀ b : List Int, 0 ≤ (b.map f).sum := by
      intro b
      induction b with
      | nil => simp
      | cons x b ih => have := hf x; simp; omega
    simpa using this b
  | x :: a, b, h, hs => by
    have hx := hs x (by simp)
    obtain ⟨b1, b2, rfl⟩ := List.append_of_mem hx
    have nd := List.nodup_cons.1 h
    have ih := sum_sub hf (a := a) (b := b1 ++ b2) nd.2 (fun y hy => by
      have := hs y (by simp [hy])
      simp only [List.mem_append, List.mem_cons] at this ⊢
      rcases this with h | rfl | h
      · exact .inl h
      · exact absurd hy nd.1
      · exact .inr h)
    simp only [List.map_cons, List.sum_cons, List.map_append, List.sum_append] at ih ⊢
    omega

/-- what 'Size' reckons, in any order -/
structure SumIs (N : List Nd) (path : ByteArray) (l : List Spot) (t : Sum) : Prop where
  there : t.there = l.any fun s => decide (s.path = path)
  nd : t.seen.Nodup
  mem : ∀ k, k ∈ t.seen ↔ ∃ s ∈ l, under path s = true ∧ s.node.id = k
  n : t.n = (t.seen.map (valN N)).sum

theorem sumP_is (N : List Nd) (path : ByteArray) (l : List Spot) (hl : ∀ s ∈ l, s.node = getN N s.node.id) : SumIs N path l (sumP path l) := by
  have key : ∀ (l m : List Spot) (t : Sum), (∀ s ∈ l, s.node = getN N s.node.id) → SumIs N path m t → SumIs N path (m ++ l) (l.foldl (stepS path) t) := by
    intro l
    induction l with
    | nil => intro m t _ h; simpa using h
    | cons s l ih =>
      intro m t hl h
      have hs := hl s (by simp)
      have step : SumIs N path (m ++ [s]) (stepS path t s) := by
        unfold stepS
        split
        · rename_i hc
          refine ⟨by simp [h.there], h.nd, fun k => ?_, h.n⟩
          rw [h.mem]
          constructor
          · rintro ⟨x, hx, e⟩; exact ⟨x, by simp [hx], e⟩
          · rintro ⟨x, hx, e1, e2⟩
            simp only [List.mem_append, List.mem_singleton] at hx
            rcases hx with hx | rfl
            · exact ⟨x, hx, e1, e2⟩
            · rcases hc with hc | hc
              · rw [e2] at hc; exact (h.mem k).1 hc
              · rw [hc] at e1; cases e1
        · rename_i hc
          simp only [not_or, Bool.not_eq_false] at hc
          refine ⟨by simp [h.there], List.nodup_append.2 ⟨h.nd, by simp, fun a ha b hb e => ?_⟩, fun k => ?_, ?_⟩
          · simp at hb; subst hb; subst e; exact hc.1 ha
          · simp only [List.mem_append, List.mem_singleton]
            constructor
            · rintro (hk | rfl)
              · obtain ⟨x, hx, e⟩ := (h.mem k).1 hk; exact ⟨x, .inl hx, e⟩
              · exact ⟨s, .inr rfl, hc.2, rfl⟩
            · rintro ⟨x, hx, e1, e2⟩
              rcases hx with hx | rfl
              · exact .inl ((h.mem k).2 ⟨x, hx, e1, e2⟩)
              · exact .inr e2.symm
          · simp only [List.map_append, List.sum_append, List.map_cons, List.map_nil, List.sum_cons, List.sum_nil, h.n]
            unfold valN
            rw [← hs]
            split <;> omega
      have := ih (m ++ [s]) _ (fun x hx => hl x (by simp [hx])) step
      simpa using this
  have := key l [] ⟨false, [], 0⟩ hl ⟨rfl, by simp, fun k => by simp, rfl⟩
  rw [List.nil_append] at this
  exact this

theorem head_list (s p : ByteArray) : (s.extract 0 p.size = p) ↔ p.data.toList <+: s.data.toList := by
  have e : (s.extract 0 p.size).data.toList = s.data.toList.take p.data.toList.length := by
    rw [ByteArray.data_extract]
    simp
  constructor
  · intro h
    rw [h] at e
    rw [e]; exact List.take_prefix _ _
  · intro h
    have h2 := List.prefix_iff_eq_take.1 h
    rw [← h2] at e
    exact congrArg ByteArray.mk (Array.toList_inj.1 e)

theorem headP_iff (s p : ByteArray) : headP s p = true ↔ p.data.toList <+: s.data.toList := by
  unfold headP
  rw [Bool.and_eq_true, decide_eq_true_iff, decide_eq_true_iff, head_list]
  refine ⟨fun h => h.2, fun h => ⟨?_, h⟩⟩
  have := h.length_le
  simpa using this

theorem headOf_prefix (p : ByteArray) : p.data.toList <+: (headOf p).data.toList := by
  unfold headOf
  split
  · exact List.prefix_refl _
  · rw [ByteArray.data_append]; simp

theorem under_mono {x y : ByteArray} {s : Spot} (h : (headOf x).data.toList <+: y.data.toList) (hu : under y s = true) : under x s = true := by
  unfold under at hu ⊢
  rw [Bool.or_eq_true, decide_eq_true_iff, headP_iff] at hu ⊢
  right
  rcases hu with hu | hu
  · rw [hu]; exact h
  · exact h.trans ((headOf_prefix y).trans hu)

/-- what holds of the root and passes on to what is below holds of all paths -/
theorem visitP_all {N : List Nd} {p : Spot → Prop} (hp : ∀ t, p t → t.node.kind = 2 → ∀ x ∈ t.node.names, p (childP N t x)) : ∀ (F : Nat) (s : Spot) (acc : List Spot), p s → (∀ t ∈ acc, p t) → ∀ t ∈ visitP N F s acc, p t
  | 0, s, acc, _, h, t, ht => h t ht
  | F + 1, s, acc, hs, h, t, ht => by
    have fold : ∀ (l : List Ent) (acc : List Spot), (∀ x ∈ l, p (childP N s x)) → (∀ t ∈ acc, p t) → ∀ t ∈ l.foldl (fun acc x => visitP N F (childP N s x) acc) acc, p t := by
      intro l
      induction l with
      | nil => intro acc _ h t ht; exact h t ht
      | cons x l ih =>
        intro acc hl h t ht
        exact ih _ (fun y hy => hl y (by simp [hy])) (visitP_all hp F _ _ (hl x (by simp)) h) t ht
    have app : ∀ t ∈ acc ++ [s], p t := by
      intro t ht
      simp only [List.mem_append, List.mem_singleton] at ht
      rcases ht with ht | rfl
      · exact h t ht
      · exact hs
    rw [visitP] at ht
    split at ht
    · exact h t ht
    · split at ht
      · rename_i hk
        exact fold _ _ (fun x hx => hp s hs hk x hx) app t ht
      · exact app t ht

theorem spots_paths (N : List Nd) (s : Spot) (h : s ∈ spotsP N) : [47] <+: s.path.data.toList := by
  unfold spotsP at h
  split at h
  · refine visitP_all (p := fun s => [47] <+: s.path.data.toList) (fun t ht _ x _ => ?_) 501 (rootP N) [] (List.prefix_refl _) (by simp) s h
    unfold childP
    simp only [ByteArray.data_append, Array.toList_append]
    split
    · simp
    · rw [List.append_assoc]
      exact ht.trans (List.prefix_append _ _)
  · cases h
end Go.Proofs.Ytegagciipigkbaa
