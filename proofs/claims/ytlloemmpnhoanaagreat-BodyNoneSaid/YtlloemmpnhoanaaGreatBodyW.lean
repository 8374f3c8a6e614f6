/-
  The law of maps: its plain part.
-/
import Derived.Test.YtlloemmpnhoanaaGreatBodyV
set_option linter.all false
set_option maxRecDepth 100000
namespace Go.Proofs.YtlloemmpnhoanaaGreat
open Go Go.Eng

theorem rd_load (ws : List UInt64) : (⟨ws, [], [], 0, -1⟩ : MemS).read = rdR ws := by
  funext i
  unfold MemS.read rdR
  by_cases h : 0 ≤ i ∧ i < ws.length
  · have ht : MemS.there ⟨ws, [], [], 0, -1⟩ i = true := by
      simp only [MemS.there]; simp; omega
    rw [if_pos ht, if_pos h]
    simp only [lk, Option.getD_none]
  · have ht : MemS.there ⟨ws, [], [], 0, -1⟩ i = false := by
      rw [← Bool.not_eq_true]
      intro hx
      simp only [MemS.there] at hx
      simp at hx; omega
    rw [if_neg (by rw [ht]; decide), if_neg h]

theorem right_more {c : Crd} (h : rightC c = true) : c.more = -1 ∨ 0 ≤ c.more ∧ c.more < 96 := by
  unfold rightC at h
  split at h
  · have h' : c = noneC c.ver := of_decide_eq_true h
    left; rw [h']; rfl
  · simp [blockC] at h; omega

theorem any_conv (l : List UInt64) : (l.map convW).any usedB = l.any fun w => decide (0 < w.toNat) := by
  rw [List.any_map]
  congr 1
  funext w
  simp only [Function.comp, usedB, convW]
  exact decide_eq_decide.2 (by omega)

theorem map_ref (ws : List UInt64) (c : Crd) (h : c.more = -1 ∨ 0 ≤ c.more ∧ c.more < 96) :
    (∃ m, refMap ws c = some (m, true) ∧ mapOf (rdR ws) c = some m) ∨ mapOf (rdR ws) c = none ∧ (refMap ws c = none ∨ ∃ m, refMap ws c = some (m, false)) := by
  rcases h with h | h
  · left
    refine ⟨c.direct ++ List.replicate 16 (-1), ?_, ?_⟩
    · unfold refMap; rw [if_pos (by omega)]
    · unfold mapOf; rw [if_pos h]
  · have he : rdL (rdR ws) (1288 + 16 * c.more) 16 = moreL (rdR ws) c.more := by unfold moreL; rw [Int.mul_comm]
    unfold refMap mapOf
    rw [if_neg (by omega : ¬ c.more < 0), if_neg (by omega : ¬ c.more = -1), he]
    by_cases ha : (moreL (rdR ws) c.more).all (fun w => decide (w.toNat ≤ 96)) = true
    · rw [if_pos ha, any_conv]
      cases hb : (moreL (rdR ws) c.more).any fun w => decide (0 < w.toNat)
      · right
        exact ⟨if_neg (by simp), .inr ⟨_, rfl⟩⟩
      · left
        exact ⟨_, rfl, if_pos ⟨h.1, h.2, ha, rfl⟩⟩
    · right
      rw [if_neg ha]
      exact ⟨if_neg (fun x => ha x.2.2.1), .inl rfl⟩

theorem w64_small {n : Int} (h : -1 ≤ n ∧ n < 96) : convW (w64 (n + 1)) = n ∧ (w64 (n + 1)).toNat ≤ 96 := by
  have := w64_toNat (n + 1)
  unfold convW; omega

theorem more_put (f : Int → UInt64) (k : Int) {ws : List UInt64} (h : ws.length = 16) : moreL (putBlk f k ws) k = ws := by
  unfold moreL rdL putBlk fullB updL
  apply List.ext_getElem
  · simp [h]
  · intro i h1 h2
    simp only [List.length_map, List.length_range] at h1
    simp only [h, Nat.sub_self, List.replicate_zero, List.append_nil, List.getElem_map, List.getElem_range]
    rw [if_pos (by omega)]
    have : (1288 + k * 16 + (i : Int) - (1288 + k * 16)).toNat = i := by omega
    rw [this]
    simp [h2]

theorem conv_back : ∀ {l : List Int}, (∀ x ∈ l, -1 ≤ x ∧ x < 96) → (l.map fun n => w64 (n + 1)).map convW = l
  | [], _ => rfl
  | x :: l, h => by
    simp only [List.map_cons]
    rw [(w64_small (h x (by simp))).1, conv_back (fun y hy => h y (by simp [hy]))]

/-- what is kept is the card's -/
theorem keep_back (B : Int → UInt64) (X : VS) {m : List Int} (hl : m.length = 21) (hm : ∀ x ∈ m, -1 ≤ x ∧ x < 96) :
    (keepP B X 2 (freshC 1 1) m).2.1 = 9 ∨ (keepP B X 2 (freshC 1 1) m).2.1 = 0 ∧ (keepP B X 2 (freshC 1 1) m).1.ok ∧ mapOf (keepP B X 2 (freshC 1 1) m).2.2.now (keepP B X 2 (freshC 1 1) m).1 = some m ∧
      (decide (0 ≤ (keepP B X 2 (freshC 1 1) m).1.more)) = (m.drop 5).any fun x => decide (0 ≤ x) := by
  have ho : m.any oddB = false := by
    rw [List.any_eq_false]
    intro x hx
    have := hm x hx
    simp [oddB]; omega
  have hmor : (freshC 1 1).more = -1 := rfl
  have hu : (m.drop 5).any usedB = (m.drop 5).any fun x => decide (0 ≤ x) := by
    have key : ∀ l : List Int, (∀ x ∈ l, -1 ≤ x ∧ x < 96) → l.any usedB = l.any fun x => decide (0 ≤ x) := by
      intro l
      induction l with
      | nil => intro _; rfl
      | cons x l ih =>
        intro h
        simp only [List.any_cons]
        rw [ih (fun y hy => h y (by simp [hy]))]
        have := h x (by simp)
        congr 1
        simp only [usedB]
        exact decide_eq_decide.2 (by omega)
    exact key _ (fun x hx => hm x (List.mem_of_mem_drop hx))
  have okd : ∀ t : Int, inI64 t → ({ setD (freshC 1 1) m with more := t } : Crd).ok := by
    intro t ht
    obtain ⟨a, b, c, d, e, r, rfl, _⟩ := take5 hl
    refine ⟨(⟨by decide, by decide⟩ : inI64 1), (⟨by decide, by decide⟩ : inI64 1), (⟨by decide, by decide⟩ : inI64 0), ?_, ht⟩
    intro x hx
    have : x ∈ a :: b :: c :: d :: e :: r := by
      simp [Crd.direct, setD] at hx
      rcases hx with rfl | rfl | rfl | rfl | rfl <;> simp
    have := hm x this
    unfold inI64; omega
  have dir : ∀ t : Int, ({ setD (freshC 1 1) m with more := t } : Crd).direct ++ m.drop 5 = m := by
    intro t
    obtain ⟨a, b, c, d, e, r, rfl, _⟩ := take5 hl
    rfl
  unfold keepP
  rw [if_pos ⟨by decide, hl, ho⟩, hmor]
  by_cases hd : (m.drop 5).any usedB = false
  · rw [if_pos hd, if_pos rfl]
    right
    refine ⟨rfl, okd _ (by unfold inI64; omega), ?_, ?_⟩
    · unfold mapOf
      rw [if_pos rfl]
      have : m.drop 5 = List.replicate 16 (-1) := by
        rw [List.eq_replicate_iff]
        refine ⟨by simp [hl], fun x hx => ?_⟩
        have := List.any_eq_false.1 hd x hx
        simp [usedB] at this; exact this
      rw [← this]
      exact congrArg some (dir _)
    · rw [← hu, hd]; rfl
  · rw [if_neg hd]
    simp only [if_true]
    have hT : takeP B X 2 = (match firstF B X 96 0 with
      | some k => ((k : Int), 0, { X with now := putBlk (upd X.now (200 + (k : Int)) (w64 (2 + 1))) (k : Int) [] })
      | none => (0, 9, X)) := by
      unfold takeP; rw [if_pos (by decide)]; rfl
    rw [hT]
    cases hf : firstF B X 96 0 with
    | none =>
      left
      rfl
    | some k =>
      right
      have hk := firstF_is hf
      have hk2 : 0 ≤ (k : Int) ∧ (k : Int) < 96 := by omega
      simp only [if_true, if_pos hk2]
      refine ⟨trivial, okd _ (by unfold inI64; omega), ?_, ?_⟩
      · unfold mapOf
        have hw16 : ((m.drop 5).map fun n => w64 (n + 1)).length = 16 := by simp [hl]
        have hm5 : ∀ x ∈ m.drop 5, -1 ≤ x ∧ x < 96 := fun x hx => hm x (List.mem_of_mem_drop hx)
        show (if (k : Int) = -1 then _ else if 0 ≤ (k : Int) ∧ (k : Int) < 96 ∧ (moreL (putBlk _ (k : Int) _) (k : Int)).all _ = true ∧ ((moreL (putBlk _ (k : Int) _) (k : Int)).map convW).any usedB = true then some (_ ++ (moreL (putBlk _ (k : Int) _) (k : Int)).map convW) else none) = some m
        rw [if_neg (by omega), more_put _ _ hw16, conv_back hm5, if_pos]
        · exact congrArg some (dir _)
        · refine ⟨hk2.1, hk2.2, ?_, by simpa using hd⟩
          rw [List.all_map, List.all_eq_true]
          intro x hx
          simp only [Function.comp]
          exact decide_eq_true (w64_small (hm5 x hx)).2
      · rw [← hu]
        have : (m.drop 5).any usedB = true := by simpa using hd
        rw [this]
        exact decide_eq_true hk2.1
end Go.Proofs.YtlloemmpnhoanaaGreat
