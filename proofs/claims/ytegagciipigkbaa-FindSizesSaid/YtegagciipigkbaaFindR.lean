/-
  FindSizes: all nodes are found.
-/
import Derived.Test.YtegagciipigkbaaFindQ
set_option linter.all false
namespace Go.Proofs.Ytegagciipigkbaa
open Go Go.Eng

/-- what is come to -/
inductive Reach (N : List Nd) : List Nat → Spot → Prop
  | top : Reach N [] (rootP N)
  | down {q : List Nat} {s : Spot} {i : Nat} {x : Ent} : Reach N q s → s.node.kind = 2 → s.node.names[i]? = some x → Reach N (i :: q) (childP N s x)

theorem treeV_down (N : List Nd) : ∀ (F : Nat) (s : Spot) (q : List Nat) (p : List Nat) (t : Spot) (i : Nat) (x : Ent), (p, t) ∈ treeV N F s q → p.length < q.length + F - 1 → t.node.kind = 2 → t.node.names[i]? = some x → (i :: p, childP N t x) ∈ treeV N F s q
  | 0, s, q, p, t, i, x, h, _, _, _ => by simp [treeV] at h
  | F + 1, s, q, p, t, i, x, h, hl, hk, hx => by
    simp only [treeV, List.mem_cons] at h ⊢
    right
    rcases h with h | h
    · simp only [Prod.mk.injEq] at h
      obtain ⟨rfl, rfl⟩ := h
      rw [if_pos hk]
      refine (kids_mem N F _ _ _ 0 _).2 ⟨i, x, hx, ?_⟩
      rw [Nat.zero_add]
      cases F with
      | zero => omega
      | succ F => simp [treeV]
    · split at h
      · rename_i hs
        obtain ⟨j, y, h1, h2⟩ := (kids_mem N F s q _ 0 _).1 h
        rw [if_pos hs]
        refine (kids_mem N F s q _ 0 _).2 ⟨j, y, h1, treeV_down N F _ _ p t i x h2 ?_ hk hx⟩
        simp only [List.length_cons]; have := hl; omega
      · cases h

theorem reach_in {N : List Nd} {q : List Nat} {s : Spot} (h : Reach N q s) : q.length ≤ 490 → (q, s) ∈ allV N := by
  induction h with
  | top => intro _; unfold allV; simp [treeV]
  | down h hk hx ih =>
    intro hl
    simp at hl
    exact treeV_down N 501 _ _ _ _ _ _ (ih (by omega)) (by simp; omega) hk hx

theorem reach_part {N : List Nd} {q : List Nat} {s : Spot} (h : Reach N q s) : ∀ m, m ≤ q.length → ∃ q' s', Reach N q' s' ∧ q'.length = m := by
  induction h with
  | top => intro m hm; exact ⟨[], _, .top, by simp at hm; simp [hm]⟩
  | @down q s i x h hk hx ih =>
    intro m hm
    by_cases h1 : m ≤ q.length
    · exact ih m h1
    · exact ⟨_, _, .down h hk hx, by simp only [List.length_cons] at hm ⊢; omega⟩

theorem reach_short {N : List Nd} (g : Good N) (fit : Fit N) {q : List Nat} {s : Spot} (h : Reach N q s) : (q, s) ∈ allV N := by
  refine reach_in h (Classical.byContradiction fun hl => ?_)
  have := nodup_len (a := List.range 482) (b := (allV N).map (·.1.length)) List.nodup_range (fun m hm => by
    obtain ⟨q', s', h1, h2⟩ := reach_part h m (by simp at hm; omega)
    exact List.mem_map.2 ⟨(q', s'), reach_in h1 (by simp at hm; omega), h2⟩)
  have h2 := allV_few g fit
  simp at this
  omega
end Go.Proofs.Ytegagciipigkbaa
