/-
  FindSizes: there are few paths.
-/
import Derived.Test.YtegagciipigkbaaFindP
set_option linter.all false
namespace Go.Proofs.Ytegagciipigkbaa
open Go Go.Eng

theorem nodup_len {α : Type} [BEq α] [LawfulBEq α] : ∀ {a b : List α}, a.Nodup → (∀ x ∈ a, x ∈ b) → a.length ≤ b.length
  | [], b, _, _ => Nat.zero_le _
  | x :: a, b, h, hs => by
    obtain ⟨b1, b2, rfl⟩ := List.append_of_mem (hs x (by simp))
    have nd := List.nodup_cons.1 h
    have ih := nodup_len (a := a) (b := b1 ++ b2) nd.2 (fun y hy => by
      have := hs y (by simp [hy])
      simp only [List.mem_append, List.mem_cons] at this ⊢
      rcases this with h | rfl | h
      · exact .inl h
      · exact absurd hy nd.1
      · exact .inr h)
    simp only [List.length_cons, List.length_append] at ih ⊢
    omega

/-- all names: their directory's number, and how manieth they are -/
def slotsP : List Nd → List (Int × Nat)
  | [] => []
  | n :: l => (List.range n.names.length).map (fun i => (n.id, i)) ++ slotsP l

theorem slotsP_mem {n : Nd} {i : Nat} (hi : i < n.names.length) : ∀ {l : List Nd}, n ∈ l → (n.id, i) ∈ slotsP l
  | [], h => nomatch h
  | m :: l, h => by
    simp only [slotsP, List.mem_append]
    simp only [List.mem_cons] at h
    rcases h with rfl | h
    · left; simp; exact hi
    · exact .inr (slotsP_mem hi h)

theorem slotsP_len {l : List Nd} (h : ∀ n ∈ l, FitN n) : (slotsP l).length ≤ 20 * l.length := by
  induction l with
  | nil => simp [slotsP]
  | cons n l ih =>
    have := ih (fun n hn => h n (by simp [hn]))
    have h1 := (h n (by simp)).1
    simp only [slotsP, List.length_append, List.length_map, List.length_range, List.length_cons]
    omega

theorem apart_eq {N : List Nd} (ap : Apart N) {a b : Nd} (ha : a ∈ N) (hb : b ∈ N) (h : a.id = b.id) : a = b := by
  unfold Apart at ap
  obtain ⟨i, hi, rfl⟩ := List.mem_iff_getElem.1 ha
  obtain ⟨j, hj, rfl⟩ := List.mem_iff_getElem.1 hb
  have := List.pairwise_iff_getElem.1 ap
  rcases Nat.lt_trichotomy i j with h1 | rfl | h1
  · have := this i j (by simpa using hi) (by simpa using hj) h1
    simp at this; exact absurd h this
  · rfl
  · have := this j i (by simpa using hj) (by simpa using hi) h1
    simp at this; exact absurd h.symm this

/-- the slot that a place comes from -/
def From (N : List Nd) (e : List Nat × Spot) (t : Int × Nat) : Prop := ∃ p x, p ∈ allV N ∧ e.1 = t.2 :: p.1 ∧ p.2.node.kind = 2 ∧ p.2.node.names[t.2]? = some x ∧ t.1 = p.2.node.id

theorem from_one {N : List Nd} (g : Good N) (ap : Apart N) {e e' : List Nat × Spot} {t : Int × Nat} (h : From N e t) (h' : From N e' t) : e.1 = e'.1 := by
  obtain ⟨p, x, p1, p2, p3, p4, p5⟩ := h
  obtain ⟨p', x', p1', p2', p3', p4', p5'⟩ := h'
  have := apart_eq ap (allV_mem g p p1) (allV_mem g p' p1') (by rw [← p5, ← p5'])
  rw [p2, p2', dir_once g _ p p' p1 p1' rfl p3 this]

theorem slots_of {N : List Nd} (g : Good N) (ap : Apart N) : ∀ L : List (List Nat × Spot), (∀ e ∈ L, e ∈ allV N ∧ e.1 ≠ []) → (L.map (·.1)).Nodup → ∃ S : List (Int × Nat), S.length = L.length ∧ S.Nodup ∧ (∀ t ∈ S, ∃ e ∈ L, From N e t) ∧ ∀ t ∈ S, t ∈ slotsP N
  | [], _, _ => ⟨[], rfl, by simp, by simp, by simp⟩
  | e :: L, h, nd => by
    have nd' := List.nodup_cons.1 nd
    obtain ⟨S, s1, s2, s3, s4⟩ := slots_of g ap L (fun e he => h e (by simp [he])) nd'.2
    have he := h e (by simp)
    rcases treeV_parent N 501 (rootP N) [] e he.1 with rfl | ⟨i, p, x, p1, p2, p3, p4, p5⟩
    · exact absurd rfl he.2
    · have hf : From N e (p.2.node.id, i) := ⟨p, x, p1, p2, p3, p4, rfl⟩
      have hi : i < p.2.node.names.length := by
        rcases Nat.lt_or_ge i p.2.node.names.length with h | h
        · exact h
        · rw [List.getElem?_eq_none h] at p4; cases p4
      refine ⟨(p.2.node.id, i) :: S, by simp [s1], List.nodup_cons.2 ⟨fun hm => ?_, s2⟩, ?_, ?_⟩
      · obtain ⟨e', he', hf'⟩ := s3 _ hm
        have := from_one g ap hf hf'
        exact nd'.1 (List.mem_map.2 ⟨e', he', this.symm⟩)
      · intro t ht
        simp only [List.mem_cons] at ht
        rcases ht with rfl | ht
        · exact ⟨e, by simp, hf⟩
        · obtain ⟨e', he', hf'⟩ := s3 t ht
          exact ⟨e', by simp [he'], hf'⟩
      · intro t ht
        simp only [List.mem_cons] at ht
        rcases ht with rfl | ht
        · exact slotsP_mem hi (allV_mem g p p1)
        · exact s4 t ht

theorem allV_few {N : List Nd} (g : Good N) (fit : Fit N) : (allV N).length ≤ 481 := by
  have ap := fit_apart fit
  have hn := treeV_nodup N 501 (rootP N) []
  have e : allV N = ([], rootP N) :: (if (rootP N).node.kind = 2 then treeV.kids N 500 (rootP N) [] 0 (rootP N).node.names else []) := by unfold allV; rw [treeV]
  change ((allV N).map (·.1)).Nodup at hn
  have hsub : ∀ x ∈ allV N, x ∈ allV N := fun x h => h
  rw [e] at hn hsub
  generalize (if (rootP N).node.kind = 2 then treeV.kids N 500 (rootP N) [] 0 (rootP N).node.names else []) = L at e hn hsub
  simp only [List.map_cons, List.nodup_cons] at hn
  obtain ⟨S, s1, s2, s3, s4⟩ := slots_of g ap L (fun x hx => ⟨by rw [e]; simp [hx], fun h0 => hn.1 (List.mem_map.2 ⟨x, hx, h0⟩)⟩) hn.2
  have h1 := nodup_len s2 s4
  have h2 := slotsP_len fit.node
  have h3 := fit.few
  rw [e, List.length_cons, ← s1]
  omega
end Go.Proofs.Ytegagciipigkbaa
