/-
  FindSizes: the plain part's end.
-/
import Derived.Test.YtegagciipigkbaaFindR
set_option linter.all false
namespace Go.Proofs.Ytegagciipigkbaa
open Go Go.Eng

theorem reach_node {N : List Nd} (g : Good N) (fit : Fit N) {q : List Nat} {s : Spot} (h : Reach N q s) : s.node ∈ N :=
  allV_mem g _ (reach_short g fit h)

theorem come_reach {N : List Nd} (g : Good N) (fit : Fit N) : ∀ (F : Nat) (id : Int) (c : List Int) (q : List Nat) (s : Spot), Reach N q s → s.node = getN N id → s.node.id = id → ∀ k ∈ comeP N F id c, k ∈ c ∨ ∃ q s, Reach N q s ∧ s.node.id = k
  | 0, id, c, q, s, h, h1, h2, k, hk => .inl hk
  | F + 1, id, c, q, s, h, h1, h2, k, hk => by
    rw [comeP] at hk
    split at hk
    · exact .inl hk
    · have app : ∀ k ∈ c ++ [id], k ∈ c ∨ ∃ q s, Reach N q s ∧ s.node.id = k := by
        intro k hk
        simp only [List.mem_append, List.mem_singleton] at hk
        rcases hk with hk | rfl
        · exact .inl hk
        · exact .inr ⟨q, s, h, h2⟩
      split at hk
      · rename_i hd
        have fold : ∀ (l : List Ent) (c : List Int), (∀ x ∈ l, x ∈ s.node.names) → ∀ k ∈ l.foldl (fun c x => comeP N F x.node c) c, k ∈ c ∨ ∃ q s, Reach N q s ∧ s.node.id = k := by
          intro l
          induction l with
          | nil => intro c _ k hk; exact .inl hk
          | cons x l ih =>
            intro c hl k hk
            rcases ih _ (fun y hy => hl y (by simp [hy])) k hk with h3 | h3
            · have hx := hl x (by simp)
              obtain ⟨i, hi, hxi⟩ := List.mem_iff_getElem.1 hx
              have hd' : s.node.kind = 2 := by rw [h1]; exact hd
              have hm := getN_mem (g.2.1 _ (reach_node g fit h) hd' x hx)
              have hr : Reach N (i :: q) (childP N s x) := .down h hd' (by rw [List.getElem?_eq_getElem hi, hxi])
              exact come_reach g fit F x.node c _ _ hr rfl hm.2 k h3
            · exact .inr h3
        rw [← h1] at hk
        rcases fold _ _ (fun x hx => hx) k hk with h3 | h3
        · exact app k h3
        · exact .inr h3
      · exact app k hk

theorem spots_eq {N : List Nd} (g : Good N) (fit : Fit N) : spotsP N = (allV N).map (·.2) := by
  unfold spotsP
  rw [if_pos g]
  have := allV_few g fit
  rw [visitP_eq N 501 (rootP N) [] [] (by simp; change (allV N).length ≤ 500; omega)]
  rfl

theorem lookN_of_mem {N : List Nd} {n : Nd} (h : n ∈ N) : lookN N n.id ≠ none := by
  induction N with
  | nil => cases h
  | cons m N ih =>
    rw [lookN]
    simp only [List.mem_cons] at h
    split
    · simp
    · rename_i hne
      rcases h with rfl | h
      · exact absurd rfl hne
      · exact ih h

theorem getN_self {N : List Nd} (ap : Apart N) {n : Nd} (h : n ∈ N) : getN N n.id = n := by
  have := getN_mem (lookN_of_mem h)
  exact apart_eq ap this.1 h this.2

theorem total_sum {N : List Nd} (ap : Apart N) : totalP N = ((N.map (·.id)).map (valN N)).sum := by
  have key : ∀ l : List Nd, (∀ n ∈ l, n ∈ N) → totalP l = ((l.map (·.id)).map (valN N)).sum := by
    intro l
    induction l with
    | nil => intro _; rfl
    | cons n l ih =>
      intro h
      have := ih (fun x hx => h x (by simp [hx]))
      simp only [totalP, List.map_cons, List.sum_cons]
      rw [this]
      unfold valN
      rw [getN_self ap (h n (by simp))]
  exact key N fun _ h => h

theorem sizes_plain (N : List Nd) (fit : Fit N) : SizesOk N := by
  have ap := fit_apart fit
  have apN : (N.map (·.id)).Nodup := ap
  by_cases g : Good N
  · have sp := spots_eq g fit
    have hmem : ∀ s ∈ spotsP N, s.node ∈ N := by
      intro s hs
      rw [sp] at hs
      obtain ⟨e, he, rfl⟩ := List.mem_map.1 hs
      exact allV_mem g e he
    have hl : ∀ s ∈ spotsP N, s.node = getN N s.node.id := fun s hs => (getN_self ap (hmem s hs)).symm
    refine ⟨fun x hx => ?_, fun x hx y hy hlt he => ?_, .inr ?_⟩
    · rw [(sumP_is N x.path _ hl).there]
      exact List.any_eq_true.2 ⟨x, hx, by simp⟩
    · have X := sumP_is N x.path _ hl
      have Y := sumP_is N y.path _ hl
      rw [X.n, Y.n]
      refine sum_sub (valN_pos N) Y.nd fun k hk => ?_
      obtain ⟨s, hs, h1, h2⟩ := (Y.mem k).1 hk
      exact (X.mem k).2 ⟨s, hs, under_mono ((head_list _ _).1 he) h1, h2⟩
    · have R := sumP_is N ⟨#[47]⟩ _ hl
      have hroot : rootP N ∈ spotsP N := by
        rw [sp]
        exact List.mem_map.2 ⟨([], rootP N), reach_short g fit .top, rfl⟩
      have un : ∀ s ∈ spotsP N, under ⟨#[47]⟩ s = true := by
        intro s hs
        have := spots_paths N s hs
        unfold under
        rw [Bool.or_eq_true, headP_iff]
        right
        unfold headOf
        rw [if_pos rfl]
        exact this
      refine ⟨?_, ?_⟩
      · rw [R.there]
        exact List.any_eq_true.2 ⟨_, hroot, by simp [rootP]⟩
      · rw [R.n, total_sum ap]
        refine Int.le_antisymm (sum_sub (valN_pos N) R.nd fun k hk => ?_) (sum_sub (valN_pos N) apN fun k hk => ?_)
        · obtain ⟨s, hs, h1, h2⟩ := (R.mem k).1 hk
          exact List.mem_map.2 ⟨_, hmem s hs, h2⟩
        · obtain ⟨n, hn, rfl⟩ := List.mem_map.1 hk
          have hc := (g.2.2 n hn).2.1
          unfold allP at hc
          rcases come_reach g fit _ 1 [] [] (rootP N) .top rfl (getN_mem (root_in g)).2 n.id hc with h | ⟨q, s, h1, h2⟩
          · cases h
          · refine (R.mem _).2 ⟨s, ?_, un s ?_, h2⟩
            all_goals
              rw [sp]
              exact List.mem_map.2 ⟨(q, s), reach_short g fit h1, rfl⟩
  · have sp : spotsP N = [] := by unfold spotsP; rw [if_neg g]
    refine ⟨fun x hx => ?_, fun x hx => ?_, .inl ⟨?_, sp⟩⟩
    · rw [sp] at hx; cases hx
    · rw [sp] at hx; cases hx
    · rw [sp]; rfl
end Go.Proofs.Ytegagciipigkbaa
