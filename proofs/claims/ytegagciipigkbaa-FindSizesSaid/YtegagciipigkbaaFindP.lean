/-
  FindSizes: each directory lies at one place.
-/
import Derived.Test.YtegagciipigkbaaFindO
set_option linter.all false
namespace Go.Proofs.Ytegagciipigkbaa
open Go Go.Eng

theorem cntE_one {l : List Ent} {i : Nat} {x : Ent} {k : Int} (h : l[i]? = some x) (hk : x.node = k) : 1 ≤ cntE l k := by
  unfold cntE
  exact List.length_pos_of_mem (List.mem_filter.2 ⟨List.mem_of_getElem? h, by simpa using hk⟩)

theorem cntE_two : ∀ {l : List Ent} {i j : Nat} {x y : Ent} {k : Int}, l[i]? = some x → l[j]? = some y → x.node = k → y.node = k → i < j → 2 ≤ cntE l k
  | [], i, j, x, y, k, h, _, _, _, _ => by simp at h
  | z :: l, 0, j + 1, x, y, k, h1, h2, h3, h4, _ => by
    simp at h1; subst h1
    have := cntE_one (l := l) (by simpa using h2) h4
    unfold cntE at this ⊢
    simp [List.filter_cons, h3]; omega
  | z :: l, i + 1, j + 1, x, y, k, h1, h2, h3, h4, hij => by
    have := cntE_two (l := l) (by simpa using h1) (by simpa using h2) h3 h4 (by omega)
    unfold cntE at this ⊢
    simp only [List.filter_cons]
    split <;> simp <;> omega
  | z :: l, i, 0, x, y, k, _, _, _, _, hij => by omega

theorem cntN_ge {N : List Nd} {n : Nd} (hn : n ∈ N) (hk : n.kind = 2) (k : Int) : cntE n.names k ≤ cntN N k := by
  obtain ⟨a, b, rfl⟩ := List.append_of_mem hn
  rw [cntN_append]
  simp only [cntN, if_pos hk]; omega

theorem cntN_ge2 {N : List Nd} {n m : Nd} (hn : n ∈ N) (hm : m ∈ N) (hne : n ≠ m) (hk : n.kind = 2) (hk' : m.kind = 2) (k : Int) : cntE n.names k + cntE m.names k ≤ cntN N k := by
  obtain ⟨a, b, rfl⟩ := List.append_of_mem hn
  rw [cntN_append]
  simp only [cntN, if_pos hk]
  simp only [List.mem_append, List.mem_cons] at hm
  rcases hm with h | h | h
  · have := cntN_ge h hk' k; omega
  · exact absurd h.symm hne
  · have := cntN_ge h hk' k; omega

/-- a number that is named once is named at one place -/
theorem named_once {N : List Nd} {n m : Nd} {i j : Nat} {x y : Ent} {k : Int} (hn : n ∈ N) (hm : m ∈ N) (hk : n.kind = 2) (hk' : m.kind = 2) (h1 : n.names[i]? = some x) (h2 : m.names[j]? = some y) (hx : x.node = k) (hy : y.node = k) (hc : cntN N k ≤ 1) : n = m ∧ i = j := by
  have g1 := cntE_one h1 hx
  have g2 := cntE_one h2 hy
  have hnm : n = m := Classical.byContradiction fun hne => by
    have := cntN_ge2 hn hm hne hk hk' k
    omega
  subst hnm
  refine ⟨rfl, Classical.byContradiction fun hij => ?_⟩
  have := cntN_ge hn hk k
  rcases Nat.lt_or_gt_of_ne hij with h | h
  · have := cntE_two h1 h2 hx hy h; omega
  · have := cntE_two h2 h1 hy hx h; omega

def allV (N : List Nd) : List (List Nat × Spot) := treeV N 501 (rootP N) []

theorem root_in {N : List Nd} (g : Good N) : lookN N 1 ≠ none := fun h => by
  have := g.1
  unfold getN at this
  rw [h] at this
  simp [noNd] at this

theorem allV_mem {N : List Nd} (g : Good N) : ∀ e ∈ allV N, e.2.node ∈ N := by
  have key : ∀ n, ∀ e ∈ allV N, e.1.length = n → e.2.node ∈ N := by
    intro n
    induction n with
    | zero =>
      intro e he hl
      rcases treeV_parent N 501 (rootP N) [] e he with rfl | ⟨i, p, x, p1, p2, p3, p4, p5⟩
      · exact (getN_mem (root_in g)).1
      · rw [p2] at hl; simp at hl
    | succ n ih =>
      intro e he hl
      rcases treeV_parent N 501 (rootP N) [] e he with rfl | ⟨i, p, x, p1, p2, p3, p4, p5⟩
      · simp at hl
      · have := ih p p1 (by rw [p2] at hl; simpa using hl)
        rw [p5]
        exact (getN_mem (g.2.1 _ this p3 x (List.mem_of_getElem? p4))).1
  exact fun e he => key _ e he rfl

/-- a directory lies at one place -/
theorem dir_once {N : List Nd} (g : Good N) : ∀ (n : Nat) (e e' : List Nat × Spot), e ∈ allV N → e' ∈ allV N → e.1.length = n → e.2.node.kind = 2 → e.2.node = e'.2.node → e.1 = e'.1 := by
  have rid : (getN N 1).id = 1 := (getN_mem (root_in g)).2
  have zero : cntN N 1 = 0 := by
    have := (g.2.2 _ (getN_mem (root_in g)).1).1
    rw [rid] at this
    simpa using this
  have nameR : ∀ (p : List Nat × Spot) (i : Nat) (x : Ent), p ∈ allV N → p.2.node.kind = 2 → p.2.node.names[i]? = some x → x.node ≠ 1 := by
    intro p i x hp hk hx h1
    have := cntN_ge (allV_mem g p hp) hk 1
    have := cntE_one hx h1
    omega
  intro n
  induction n with
  | zero =>
    intro e e' he he' hl hk heq
    rcases treeV_parent N 501 (rootP N) [] e he with rfl | ⟨i, p, x, p1, p2, p3, p4, p5⟩
    · rcases treeV_parent N 501 (rootP N) [] e' he' with rfl | ⟨i, p, x, p1, p2, p3, p4, p5⟩
      · rfl
      · exfalso
        have hx := (getN_mem (g.2.1 _ (allV_mem g p p1) p3 x (List.mem_of_getElem? p4))).2
        rw [p5] at heq
        have h2 : getN N 1 = getN N x.node := heq
        rw [← h2, rid] at hx
        exact nameR p i x p1 p3 p4 hx.symm
    · rw [p2] at hl; simp at hl
  | succ n ih =>
    intro e e' he he' hl hk heq
    rcases treeV_parent N 501 (rootP N) [] e he with rfl | ⟨i, p, x, p1, p2, p3, p4, p5⟩
    · simp at hl
    · have hx := getN_mem (g.2.1 _ (allV_mem g p p1) p3 x (List.mem_of_getElem? p4))
      rcases treeV_parent N 501 (rootP N) [] e' he' with rfl | ⟨i', p', x', p1', p2', p3', p4', p5'⟩
      · exfalso
        rw [p5] at heq
        have h2 : getN N x.node = getN N 1 := heq
        rw [h2, rid] at hx
        exact nameR p i x p1 p3 p4 hx.2.symm
      · have hx' := getN_mem (g.2.1 _ (allV_mem g p' p1') p3' x' (List.mem_of_getElem? p4'))
        rw [p5, p5'] at heq
        have h2 : getN N x.node = getN N x'.node := heq
        have hxx : x'.node = x.node := by rw [← hx'.2, ← h2, hx.2]
        have one : cntN N x.node ≤ 1 := by
          have ok := g.2.2 _ hx.1
          rw [p5] at hk
          have hk2 : (getN N x.node).kind = 2 := hk
          have h1 := ok.1
          rw [ok.2.2 hk2, hx.2] at h1
          split at h1 <;> omega
        obtain ⟨hn, rfl⟩ := named_once (allV_mem g p p1) (allV_mem g p' p1') p3 p3' p4 p4' rfl hxx one
        have := ih p p' p1 p1' (by rw [p2] at hl; simpa using hl) p3 hn
        rw [p2, p2', this]
end Go.Proofs.Ytegagciipigkbaa
