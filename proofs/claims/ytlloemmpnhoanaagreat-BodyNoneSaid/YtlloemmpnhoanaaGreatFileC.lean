/-
  Plain laws of a file's blocks, further: blocks are taken and given back.
-/
import Derived.Test.YtlloemmpnhoanaaGreatFileB
set_option linter.all false
set_option maxRecDepth 100000
namespace Go.Proofs.YtlloemmpnhoanaaGreat
open Go Go.Eng

theorem put_nil (f : Int → UInt64) (k : Int) : putBlk f k [] = putBlk f k (textL [] 16) := by
  unfold putBlk
  have : fullB [] = fullB (textL [] 16) := by decide
  rw [this]

/-- words behind a taken block -/
def takeW (now : Int → UInt64) (node k : Int) : Int → UInt64 := putBlk (upd now (200 + k) (w64 (node + 1))) k []

theorem take_facts {B : Int → UInt64} {X : VS} {node : Int} (hn : 0 ≤ node ∧ node < 24) :
    ((takeP B X node).2.1 = 0 ∧ 0 ≤ (takeP B X node).1 ∧ (takeP B X node).1 < 96 ∧ X.now (200 + (takeP B X node).1) = 0 ∧ (takeP B X node).2.2 = { X with now := takeW X.now node (takeP B X node).1 }) ∨
    ((takeP B X node).2.1 = 9 ∧ (takeP B X node).2.2 = X ∧ firstF B X 96 0 = none) := by
  unfold takeP
  rw [if_pos hn]
  cases hf : firstF B X 96 0 with
  | none => right; exact ⟨rfl, rfl, rfl⟩
  | some k =>
    left
    have hk := firstF_is hf
    have h := hk.1
    unfold freshB at h
    simp at h
    refine ⟨rfl, by show 0 ≤ (k : Int); omega, by show (k : Int) < 96; omega, h.2.2.1, rfl⟩

theorem takeW_owner {now : Int → UInt64} {node k : Int} (hk : 0 ≤ k ∧ k < 96) {j : Int} (h0 : 0 ≤ j) (h1 : j < 96) : takeW now node k (200 + j) = if j = k then w64 (node + 1) else now (200 + j) := by
  unfold takeW
  rw [put_owner (by simp) hk.1 h1]
  unfold upd
  by_cases h : j = k
  · rw [if_pos (by omega), if_pos h]
  · rw [if_neg (by omega), if_neg h]
theorem takeW_rd {now : Int → UInt64} {node k : Int} (hk : 0 ≤ k ∧ k < 96) {j : Int} (h0 : 0 ≤ j) (hj : j ≠ k) : rdL (takeW now node k) (1288 + j * 16) 16 = rdL now (1288 + j * 16) 16 := by
  unfold takeW
  rw [put_rd_ne (by simp) (fun e => hj e.symm), upd_rd hk.2 h0]
theorem takeW_bytes {now : Int → UInt64} {node k : Int} (hk : 0 ≤ k ∧ k < 96) {j : Int} (hj : j = -1 ∨ 0 ≤ j) (hne : j ≠ k) : bytesB (takeW now node k) j = bytesB now j := by
  unfold bytesB
  split
  · rfl
  · rw [takeW_rd hk (by omega) hne]
theorem takeW_new {now : Int → UInt64} {node k : Int} (hk : 0 ≤ k ∧ k < 96) : bytesB (takeW now node k) k = zeros 128 := by
  unfold takeW
  rw [put_nil, bytes_text (by simp) (by omega)]
  rfl
theorem takeW_fr {now : Int → UInt64} {node k : Int} (hk : 0 ≤ k ∧ k < 96) (h : now (200 + k) = 0) : Fr node now (takeW now node k) := by
  constructor
  · intro j h0 h1 hf
    rw [takeW_owner hk h0 h1]
    by_cases e : j = k
    · subst e
      exact ⟨.inr ⟨h, if_pos rfl⟩, fun hx => absurd h hx⟩
    · exact ⟨.inl (if_neg e), fun _ => takeW_rd hk h0 e⟩
  · intro j h0 h1 hf
    rw [takeW_owner hk h0 h1]
    split
    · exact .inl rfl
    · exact .inl hf

theorem filter_set : ∀ {m : List Int} {i : Nat} {k : Int} (hi : i < m.length), m[i] = -1 → k ≠ -1 → ((m.set i k).filter usedB).Perm (k :: m.filter usedB)
  | [], i, k, hi, _, _ => by simp at hi
  | x :: m, 0, k, hi, h, hk => by
    simp only [List.getElem_cons_zero] at h
    subst h
    simp only [List.set_cons_zero]
    rw [List.filter_cons, if_pos (usedB_t.2 hk), List.filter_cons, if_neg (by decide)]
  | x :: m, i + 1, k, hi, h, hk => by
    simp only [List.getElem_cons_succ] at h
    have ih := filter_set (m := m) (i := i) (by simpa using hi) h hk
    simp only [List.set_cons_succ]
    rw [List.filter_cons, List.filter_cons]
    split
    · exact (List.Perm.cons x ih).trans (List.Perm.swap k x _)
    · exact ih
theorem filter_unset : ∀ {m : List Int} {i : Nat} (hi : i < m.length), m[i] ≠ -1 → (m.filter usedB).Perm (m[i] :: (m.set i (-1)).filter usedB)
  | [], i, hi, _ => by simp at hi
  | x :: m, 0, hi, h => by
    simp only [List.getElem_cons_zero] at h
    simp only [List.set_cons_zero, List.getElem_cons_zero]
    rw [List.filter_cons, if_pos (usedB_t.2 h), List.filter_cons, if_neg (by decide)]
  | x :: m, i + 1, hi, h => by
    simp only [List.getElem_cons_succ] at h
    have ih := filter_unset (m := m) (i := i) (by simpa using hi) h
    simp only [List.set_cons_succ, List.getElem_cons_succ]
    rw [List.filter_cons, List.filter_cons]
    split
    · exact (List.Perm.cons x ih).trans (List.Perm.swap _ x _)
    · exact ih

theorem usedL_cons (more : Int) (m : List Int) : usedL more m = if more = -1 then m.filter usedB else more :: m.filter usedB := by
  unfold usedL
  rw [List.filter_cons]
  by_cases h : more = -1
  · rw [if_neg (by rw [usedB_t]; exact fun x => x h), if_pos h]
  · rw [if_pos (usedB_t.2 h), if_neg h]
theorem usedL_perm {more : Int} {m m' : List Int} {k : Int} (h : (m'.filter usedB).Perm (k :: m.filter usedB)) : (usedL more m').Perm (k :: usedL more m) := by
  rw [usedL_cons, usedL_cons]
  split
  · exact h
  · exact (List.Perm.cons more h).trans (List.Perm.swap k more _)

/-- a file has one block more -/
theorem Wk.grow {now : Int → UInt64} {node more more' : Int} {m m' : List Int} (W : Wk now node more m) (hn : 0 ≤ node ∧ node < 24) {k : Int} (hk : 0 ≤ k ∧ k < 96) (h0 : now (200 + k) = 0) (hl : m'.length = 21) (hr : ∀ x ∈ more' :: m', blkOk x)
    (hp : (usedL more' m').Perm (k :: usedL more m)) : Wk (takeW now node k) node more' m' := by
  have hne := w64_ne hn
  have hknew : k ∉ usedL more m := fun h => hne ((W.own k hk.1 hk.2).1 h ▸ h0)
  refine ⟨hl, hr, hp.symm.nodup (List.nodup_cons.2 ⟨hknew, W.nod⟩), fun x x0 x1 => ?_⟩
  rw [hp.mem_iff, List.mem_cons, takeW_owner hk x0 x1, W.own x x0 x1]
  by_cases h : x = k
  · simp [h]
  · simp [h]

theorem Wk.take_at {now : Int → UInt64} {node more : Int} {m : List Int} (W : Wk now node more m) (hn : 0 ≤ node ∧ node < 24) {k : Int} (hk : 0 ≤ k ∧ k < 96) (h0 : now (200 + k) = 0) {i : Nat} (hi : i < 21) (hm : m[i]?.getD (-1) = -1) :
    Wk (takeW now node k) node more (m.set i k) ∧ Fr node now (takeW now node k) ∧ (more ≠ -1 → moreL (takeW now node k) more = moreL now more) ∧ ∀ p, p < 2688 → fb (takeW now node k) (m.set i k) p = fb now m p := by
  have hl := W.len
  have hne := w64_ne hn
  have hm' : m[i] = -1 := by rw [← W.at_ hi]; exact hm
  have hun : ∀ x, 0 ≤ x → x < 96 → x ∈ usedL more m → x ≠ k := by
    rintro x x0 x1 hx rfl
    exact hne ((W.own x x0 x1).1 hx ▸ h0)
  refine ⟨W.grow hn hk h0 (by simp [hl]) ?_ (usedL_perm (filter_set (by omega) hm' (by omega))), takeW_fr hk h0, fun hmo => ?_, fun p hp => ?_⟩
  · intro x hx
    rcases List.mem_cons.1 hx with rfl | hx
    · exact W.rng _ List.mem_cons_self
    · rcases List.mem_or_eq_of_mem_set hx with h | rfl
      · exact W.rng _ (List.mem_cons_of_mem _ h)
      · exact .inr hk
  · have hmr := W.rng more List.mem_cons_self
    have : 0 ≤ more ∧ more < 96 := by rcases hmr with h | h; exact absurd h hmo; exact h
    exact takeW_rd hk this.1 (hun more this.1 this.2 (usedL_mem.2 ⟨.inl rfl, hmo⟩))
  · unfold fb
    have hp2 : p / 128 < 21 := by omega
    by_cases h : p / 128 = i
    · subst h
      have e : (m.set (p / 128) k)[p / 128]?.getD (-1) = k := by simp [hl, hp2]
      rw [e, hm, takeW_new hk]
      rfl
    · have e : (m.set i k)[p / 128]?.getD (-1) = m[p / 128]?.getD (-1) := by rw [List.getElem?_set_ne (fun x => h x.symm)]
      rw [e, W.at_ hp2]
      have hx := W.rng m[p / 128] (List.mem_cons_of_mem _ (List.getElem_mem _))
      rw [takeW_bytes hk (hx.imp id And.left)]
      rcases hx with hx | hx
      · omega
      · exact hun _ hx.1 hx.2 (usedL_mem.2 ⟨.inr (List.getElem_mem _), by omega⟩)

theorem Wk.fb_keep {now g : Int → UInt64} {node more : Int} {m : List Int} (W : Wk now node more m) (h : ∀ x, x ∈ m → 0 ≤ x → x < 96 → rdL g (1288 + x * 16) 16 = rdL now (1288 + x * 16) 16) (p : Nat) (hp : p < 2688) : fb g m p = fb now m p := by
  have hp2 : p / 128 < 21 := by omega
  have hl := W.len
  unfold fb
  rw [W.at_ hp2]
  unfold bytesB
  split
  · rfl
  · rename_i hne
    rcases W.rng m[p / 128] (List.mem_cons_of_mem _ (List.getElem_mem _)) with hx | hx
    · exact absurd hx hne
    · rw [h _ (List.getElem_mem _) hx.1 hx.2]

theorem Wk.take_more {now : Int → UInt64} {node : Int} {m : List Int} (W : Wk now node (-1) m) (hn : 0 ≤ node ∧ node < 24) {k : Int} (hk : 0 ≤ k ∧ k < 96) (h0 : now (200 + k) = 0) :
    Wk (takeW now node k) node k m ∧ Fr node now (takeW now node k) ∧ ∀ p, p < 2688 → fb (takeW now node k) m p = fb now m p := by
  have hne := w64_ne hn
  refine ⟨W.grow hn hk h0 W.len ?_ ?_, takeW_fr hk h0, W.fb_keep fun x hx x0 x1 => takeW_rd hk x0 ?_⟩
  · intro x hx
    rcases List.mem_cons.1 hx with rfl | hx
    · exact .inr hk
    · exact W.rng _ (List.mem_cons_of_mem _ hx)
  · rw [usedL_cons, usedL_cons, if_neg (by omega), if_pos rfl]
  · rintro rfl
    exact hne ((W.own x x0 x1).1 (usedL_mem.2 ⟨.inr hx, by omega⟩) ▸ h0)

/-- words behind a block that is given back -/
theorem drop_fr {now : Int → UInt64} {node k : Int} (hk : 0 ≤ k ∧ k < 96) (h : now (200 + k) = w64 (node + 1)) : Fr node now (upd now (200 + k) 0) := by
  have ho : ∀ j, upd now (200 + k) 0 (200 + j) = if j = k then 0 else now (200 + j) := by
    intro j; unfold upd
    by_cases e : j = k
    · rw [if_pos (by omega), if_pos e]
    · rw [if_neg (by omega), if_neg e]
  constructor
  · intro j h0 h1 hf
    rw [ho]
    have e : j ≠ k := by rintro rfl; exact hf h
    exact ⟨.inl (if_neg e), fun _ => upd_rd hk.2 h0⟩
  · intro j h0 h1 hf
    rw [ho]
    split
    · exact .inr rfl
    · exact .inl hf

theorem Wk.shrink {now : Int → UInt64} {node more more' : Int} {m m' : List Int} (W : Wk now node more m) (hn : 0 ≤ node ∧ node < 24) {k : Int} (hk : 0 ≤ k ∧ k < 96) (hl : m'.length = 21) (hr : ∀ x ∈ more' :: m', blkOk x)
    (hp : (usedL more m).Perm (k :: usedL more' m')) : Wk (upd now (200 + k) 0) node more' m' ∧ now (200 + k) = w64 (node + 1) := by
  have hne := w64_ne hn
  have hnd := List.nodup_cons.1 (hp.nodup W.nod)
  refine ⟨⟨hl, hr, hnd.2, fun x x0 x1 => ?_⟩, (W.own k hk.1 hk.2).1 (hp.mem_iff.2 List.mem_cons_self)⟩
  have hw := W.own x x0 x1
  rw [hp.mem_iff, List.mem_cons] at hw
  unfold upd
  by_cases h : x = k
  · subst h
    rw [if_pos rfl]
    exact ⟨fun hx => absurd hx hnd.1, fun e => absurd e.symm hne⟩
  · rw [if_neg (by omega), ← hw]
    simp [h]

theorem Wk.drop_more {now : Int → UInt64} {node more : Int} {m : List Int} (W : Wk now node more m) (hn : 0 ≤ node ∧ node < 24) (hm : more ≠ -1) :
    (0 ≤ more ∧ more < 96) ∧ now (200 + more) = w64 (node + 1) ∧ Wk (upd now (200 + more) 0) node (-1) m ∧ Fr node now (upd now (200 + more) 0) ∧ ∀ p, p < 2688 → fb (upd now (200 + more) 0) m p = fb now m p := by
  have hk : 0 ≤ more ∧ more < 96 := by
    rcases W.rng more List.mem_cons_self with h | h
    · exact absurd h hm
    · exact h
  obtain ⟨W', ho⟩ := W.shrink (more' := -1) (m' := m) hn hk W.len (by
    intro x hx
    rcases List.mem_cons.1 hx with rfl | hx
    · exact .inl rfl
    · exact W.rng _ (List.mem_cons_of_mem _ hx)) (by rw [usedL_cons, usedL_cons, if_neg hm, if_pos rfl])
  exact ⟨hk, ho, W', drop_fr hk ho, W.fb_keep fun x _ x0 _ => upd_rd hk.2 x0⟩

theorem Wk.drop_at {now : Int → UInt64} {node more : Int} {m : List Int} (W : Wk now node more m) (hn : 0 ≤ node ∧ node < 24) {i : Nat} (hi : i < 21) {k : Int} (hx : m[i]?.getD (-1) = k) (hk1 : k ≠ -1) :
    (0 ≤ k ∧ k < 96) ∧ now (200 + k) = w64 (node + 1) ∧ Wk (upd now (200 + k) 0) node more (m.set i (-1)) ∧ Fr node now (upd now (200 + k) 0) ∧ (more ≠ -1 → moreL (upd now (200 + k) 0) more = moreL now more) ∧
      ∀ p, p < 2688 → fb (upd now (200 + k) 0) (m.set i (-1)) p = if p / 128 = i then 0 else fb now m p := by
  have hl := W.len
  have hmi : m[i] = k := by rw [← W.at_ hi]; exact hx
  have hk : 0 ≤ k ∧ k < 96 := by
    rcases W.rng m[i] (List.mem_cons_of_mem _ (List.getElem_mem _)) with h | h
    · exact absurd (hmi ▸ h) hk1
    · rw [hmi] at h; exact h
  obtain ⟨W', ho⟩ := W.shrink (more' := more) (m' := m.set i (-1)) hn hk (by simp [hl]) (by
    intro x hx
    rcases List.mem_cons.1 hx with rfl | hx
    · exact W.rng _ List.mem_cons_self
    · rcases List.mem_or_eq_of_mem_set hx with h | rfl
      · exact W.rng _ (List.mem_cons_of_mem _ h)
      · exact .inl rfl) (usedL_perm (by have := filter_unset (m := m) (i := i) (by omega) (by rw [hmi]; exact hk1); rwa [hmi] at this))
  refine ⟨hk, ho, W', drop_fr hk ho, fun hmo => ?_, fun p hp => ?_⟩
  · rcases W.rng more List.mem_cons_self with h | h
    · exact absurd h hmo
    · exact upd_rd hk.2 h.1
  · unfold fb
    have hp2 : p / 128 < 21 := by omega
    by_cases h : p / 128 = i
    · subst h
      rw [if_pos rfl]
      have e : (m.set (p / 128) (-1))[p / 128]?.getD (-1) = -1 := by simp [hl, hp2]
      rw [e]
      unfold bytesB zeros
      rw [if_pos rfl, List.getElem?_replicate]
      split <;> rfl
    · rw [if_neg h]
      have e : (m.set i (-1))[p / 128]?.getD (-1) = m[p / 128]?.getD (-1) := by rw [List.getElem?_set_ne (fun x => h x.symm)]
      rw [e, W.at_ hp2]
      have hx := W.rng m[p / 128] (List.mem_cons_of_mem _ (List.getElem_mem _))
      rw [bytes_upd hk.2 (hx.imp id And.left)]
end Go.Proofs.YtlloemmpnhoanaaGreat
