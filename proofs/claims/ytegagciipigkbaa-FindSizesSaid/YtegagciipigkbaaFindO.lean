/-
  FindSizes: all paths are found, each directory once.
-/
import Derived.Test.YtegagciipigkbaaFindN
set_option linter.all false
namespace Go.Proofs.Ytegagciipigkbaa
open Go Go.Eng

/-- all paths, with their places (the way from the top, last step first) -/
def treeV (N : List Nd) : Nat → Spot → List Nat → List (List Nat × Spot)
  | 0, _, _ => []
  | F + 1, s, q => (q, s) :: if s.node.kind = 2 then kids F s q 0 s.node.names else []
where
  kids (F : Nat) (s : Spot) (q : List Nat) : Nat → List Ent → List (List Nat × Spot)
  | _, [] => []
  | i, x :: l => treeV N F (childP N s x) (i :: q) ++ kids F s q (i + 1) l

theorem visitP_eq (N : List Nd) : ∀ (F : Nat) (s : Spot) (q : List Nat) (acc : List Spot), acc.length + (treeV N F s q).length ≤ 500 → visitP N F s acc = acc ++ (treeV N F s q).map (·.2)
  | 0, s, q, acc, _ => by simp [visitP, treeV]
  | F + 1, s, q, acc, h => by
    have fold : ∀ (l : List Ent) (i : Nat) (acc : List Spot), acc.length + (treeV.kids N F s q i l).length ≤ 500 → l.foldl (fun acc x => visitP N F (childP N s x) acc) acc = acc ++ (treeV.kids N F s q i l).map (·.2) := by
      intro l
      induction l with
      | nil => intro i acc _; simp [treeV.kids]
      | cons x l ih =>
        intro i acc h
        simp only [treeV.kids, List.length_append] at h
        simp only [List.foldl_cons, treeV.kids]
        rw [visitP_eq N F _ (i :: q) acc (by omega), ih (i + 1) _ (by simp; omega)]
        simp
    simp only [treeV, List.length_cons] at h
    rw [visitP, if_neg (by omega)]
    simp only [treeV]
    split
    · rename_i hk
      rw [if_pos hk] at h
      rw [fold _ 0 _ (by simp; omega)]
      simp
    · simp

theorem treeV_suffix (N : List Nd) : ∀ (F : Nat) (s : Spot) (q : List Nat), ∀ e ∈ treeV N F s q, q <:+ e.1
  | 0, s, q, e, h => by simp [treeV] at h
  | F + 1, s, q, e, h => by
    have kids : ∀ (l : List Ent) (i : Nat), ∀ e ∈ treeV.kids N F s q i l, q <:+ e.1 := by
      intro l
      induction l with
      | nil => intro i e h; simp [treeV.kids] at h
      | cons x l ih =>
        intro i e h
        simp only [treeV.kids, List.mem_append] at h
        rcases h with h | h
        · exact (List.suffix_cons i q).trans (treeV_suffix N F _ _ e h)
        · exact ih _ e h
    simp only [treeV, List.mem_cons] at h
    rcases h with rfl | h
    · exact List.suffix_refl _
    · split at h
      · exact kids _ _ e h
      · cases h

theorem kids_suffix (N : List Nd) (F : Nat) (s : Spot) (q : List Nat) : ∀ (l : List Ent) (i : Nat), ∀ e ∈ treeV.kids N F s q i l, ∃ j, i ≤ j ∧ (j :: q) <:+ e.1
  | [], i, e, h => by simp [treeV.kids] at h
  | x :: l, i, e, h => by
    simp only [treeV.kids, List.mem_append] at h
    rcases h with h | h
    · exact ⟨i, Nat.le_refl _, treeV_suffix N F _ _ e h⟩
    · obtain ⟨j, h1, h2⟩ := kids_suffix N F s q l (i + 1) e h
      exact ⟨j, by omega, h2⟩

theorem treeV_nodup (N : List Nd) : ∀ (F : Nat) (s : Spot) (q : List Nat), ((treeV N F s q).map (·.1)).Nodup
  | 0, s, q => by simp [treeV]
  | F + 1, s, q => by
    have kids : ∀ (l : List Ent) (i : Nat), ((treeV.kids N F s q i l).map (·.1)).Nodup := by
      intro l
      induction l with
      | nil => intro i; simp [treeV.kids]
      | cons x l ih =>
        intro i
        simp only [treeV.kids, List.map_append]
        refine List.nodup_append.2 ⟨treeV_nodup N F _ _, ih _, ?_⟩
        intro a ha b hb hab
        subst hab
        obtain ⟨e, he, rfl⟩ := List.mem_map.1 ha
        obtain ⟨e', he', hee⟩ := List.mem_map.1 hb
        have h1 := treeV_suffix N F _ _ e he
        obtain ⟨j, hj, h2⟩ := kids_suffix N F s q l (i + 1) e' he'
        rw [hee] at h2
        have h3 := List.suffix_of_suffix_length_le h1 h2 (by simp)
        have h4 := h3.eq_of_length (by simp)
        simp at h4
        omega
    simp only [treeV, List.map_cons, List.nodup_cons]
    split
    · refine ⟨fun h => ?_, kids _ _⟩
      obtain ⟨e, he, hee⟩ := List.mem_map.1 h
      obtain ⟨j, _, h2⟩ := kids_suffix N F s q _ _ e he
      have := h2.length_le
      rw [hee] at this
      simp at this
      omega
    · simp

theorem kids_mem (N : List Nd) (F : Nat) (s : Spot) (q : List Nat) : ∀ (l : List Ent) (i : Nat) (e : List Nat × Spot), e ∈ treeV.kids N F s q i l ↔ ∃ j x, l[j]? = some x ∧ e ∈ treeV N F (childP N s x) ((i + j) :: q)
  | [], i, e => by simp [treeV.kids]
  | y :: l, i, e => by
    simp only [treeV.kids, List.mem_append, kids_mem N F s q l (i + 1) e]
    constructor
    · rintro (h | ⟨j, x, h1, h2⟩)
      · exact ⟨0, y, rfl, h⟩
      · exact ⟨j + 1, x, by simpa using h1, by rw [show i + (j + 1) = i + 1 + j by omega]; exact h2⟩
    · rintro ⟨j, x, h1, h2⟩
      cases j with
      | zero => simp at h1; subst h1; exact .inl h2
      | succ j => exact .inr ⟨j, x, by simpa using h1, by rw [show i + 1 + j = i + (j + 1) by omega]; exact h2⟩

/-- where a path comes from -/
theorem treeV_parent (N : List Nd) : ∀ (F : Nat) (s : Spot) (q : List Nat), ∀ e ∈ treeV N F s q, e = (q, s) ∨ ∃ i p x, p ∈ treeV N F s q ∧ e.1 = i :: p.1 ∧ p.2.node.kind = 2 ∧ p.2.node.names[i]? = some x ∧ e.2 = childP N p.2 x
  | 0, s, q, e, h => by simp [treeV] at h
  | F + 1, s, q, e, h => by
    simp only [treeV, List.mem_cons] at h
    rcases h with rfl | h
    · exact .inl rfl
    · right
      split at h
      · rename_i hk
        obtain ⟨j, x, h1, h2⟩ := (kids_mem N F s q _ 0 e).1 h
        rw [Nat.zero_add] at h2
        rcases treeV_parent N F _ _ e h2 with rfl | ⟨i, p, y, p1, p2, p3, p4, p5⟩
        · exact ⟨j, (q, s), x, by simp [treeV], rfl, hk, h1, rfl⟩
        · refine ⟨i, p, y, ?_, p2, p3, p4, p5⟩
          simp only [treeV, List.mem_cons]
          right
          rw [if_pos hk]
          exact (kids_mem N F s q _ 0 p).2 ⟨j, x, h1, by rw [Nat.zero_add]; exact p1⟩
      · cases h
end Go.Proofs.Ytegagciipigkbaa
