/-
  Joined texts: FileC, FileD, FileE, FolA, FolB, FolC, FolY, FolS, FolD, FolE.
-/
import Derived.Test.YtkjkdnphikendaaGreatDoorJLawCLinksf
import Derived.Lib.Bytealg
import Derived.Shelf.SlLaysF0
import Derived.Test.YtkjkdnphikendaaGreatDoorProg
import Derived.Shelf.SlSortCmp.NoneTotal
import Derived.Laws.Cover1
/-
  Plain laws of a file's blocks, further: blocks are taken and given back.
-/
set_option linter.all false
set_option maxRecDepth 100000
namespace Go.Proofs.YtkjkdnphikendaaGreatDoor
open Go Go.Eng

theorem put_nil (f : Int → UInt64) (k : Int) : putBlk f k [] = putBlk f k (textL [] 16) := by
  unfold putBlk
  have : fullB [] = fullB (textL [] 16) := by decide
  rw [this]

/-- words behind a taken block -/
def takeW (now : Int → UInt64) (node k : Int) : Int → UInt64 := putBlk (upd now (200 + k) (w64 (node + 1))) k []

theorem take_facts {B : Int → UInt64} {X : VS} {node : Int} (hn : 0 ≤ node ∧ node < 24) :
    ((takeP B X node).2.1 = 0 ∧ 0 ≤ (takeP B X node).1 ∧ (takeP B X node).1 < 96 ∧ X.now (200 + (takeP B X node).1) = 0 ∧ (takeP B X node).2.2 = { X with now := takeW X.now node (takeP B X node).1 }) ∨
    ((takeP B X node).2.1 = 9 ∧ (takeP B X node).2.2 = X ∧ firstF B X 96 0 = none) := by
  unfold takeP
  rw [if_pos hn]
  cases hf : firstF B X 96 0 with
  | none => right; exact ⟨rfl, rfl, rfl⟩
  | some k =>
    left
    have hk := firstF_is hf
    have h := hk.1
    unfold freshB at h
    simp at h
    refine ⟨rfl, by show 0 ≤ (k : Int); omega, by show (k : Int) < 96; omega, h.2.2.1, rfl⟩

theorem takeW_owner {now : Int → UInt64} {node k : Int} (hk : 0 ≤ k ∧ k < 96) {j : Int} (h0 : 0 ≤ j) (h1 : j < 96) : takeW now node k (200 + j) = if j = k then w64 (node + 1) else now (200 + j) := by
  unfold takeW
  rw [put_owner (by simp) hk.1 h1]
  unfold upd
  by_cases h : j = k
  · rw [if_pos (by omega), if_pos h]
  · rw [if_neg (by omega), if_neg h]
theorem takeW_rd {now : Int → UInt64} {node k : Int} (hk : 0 ≤ k ∧ k < 96) {j : Int} (h0 : 0 ≤ j) (hj : j ≠ k) : rdL (takeW now node k) (1288 + j * 16) 16 = rdL now (1288 + j * 16) 16 := by
  unfold takeW
  rw [put_rd_ne (by simp) (fun e => hj e.symm), upd_rd hk.2 h0]
theorem takeW_bytes {now : Int → UInt64} {node k : Int} (hk : 0 ≤ k ∧ k < 96) {j : Int} (hj : j = -1 ∨ 0 ≤ j) (hne : j ≠ k) : bytesB (takeW now node k) j = bytesB now j := by
  unfold bytesB
  split
  · rfl
  · rw [takeW_rd hk (by omega) hne]
theorem takeW_new {now : Int → UInt64} {node k : Int} (hk : 0 ≤ k ∧ k < 96) : bytesB (takeW now node k) k = zeros 128 := by
  unfold takeW
  rw [put_nil, bytes_text (by simp) (by omega)]
  rfl
theorem takeW_fr {now : Int → UInt64} {node k : Int} (hk : 0 ≤ k ∧ k < 96) (h : now (200 + k) = 0) : Fr node now (takeW now node k) := by
  constructor
  · intro j h0 h1 hf
    rw [takeW_owner hk h0 h1]
    by_cases e : j = k
    · subst e
      exact ⟨.inr ⟨h, if_pos rfl⟩, fun hx => absurd h hx⟩
    · exact ⟨.inl (if_neg e), fun _ => takeW_rd hk h0 e⟩
  · intro j h0 h1 hf
    rw [takeW_owner hk h0 h1]
    split
    · exact .inl rfl
    · exact .inl hf
  · intro a ha
    unfold takeW
    rw [put_low hk.1 ha]
    unfold upd
    rw [if_neg (by omega)]

theorem filter_set : ∀ {m : List Int} {i : Nat} {k : Int} (hi : i < m.length), m[i] = -1 → k ≠ -1 → ((m.set i k).filter usedB).Perm (k :: m.filter usedB)
  | [], i, k, hi, _, _ => by simp at hi
  | x :: m, 0, k, hi, h, hk => by
    simp only [List.getElem_cons_zero] at h
    subst h
    simp only [List.set_cons_zero]
    rw [List.filter_cons, if_pos (usedB_t.2 hk), List.filter_cons, if_neg (by decide)]
  | x :: m, i + 1, k, hi, h, hk => by
    simp only [List.getElem_cons_succ] at h
    have ih := filter_set (m := m) (i := i) (by simpa using hi) h hk
    simp only [List.set_cons_succ]
    rw [List.filter_cons, List.filter_cons]
    split
    · exact (List.Perm.cons x ih).trans (List.Perm.swap k x _)
    · exact ih
theorem filter_unset : ∀ {m : List Int} {i : Nat} (hi : i < m.length), m[i] ≠ -1 → (m.filter usedB).Perm (m[i] :: (m.set i (-1)).filter usedB)
  | [], i, hi, _ => by simp at hi
  | x :: m, 0, hi, h => by
    simp only [List.getElem_cons_zero] at h
    simp only [List.set_cons_zero, List.getElem_cons_zero]
    rw [List.filter_cons, if_pos (usedB_t.2 h), List.filter_cons, if_neg (by decide)]
  | x :: m, i + 1, hi, h => by
    simp only [List.getElem_cons_succ] at h
    have ih := filter_unset (m := m) (i := i) (by simpa using hi) h
    simp only [List.set_cons_succ, List.getElem_cons_succ]
    rw [List.filter_cons, List.filter_cons]
    split
    · exact (List.Perm.cons x ih).trans (List.Perm.swap _ x _)
    · exact ih

theorem usedL_cons (more : Int) (m : List Int) : usedL more m = if more = -1 then m.filter usedB else more :: m.filter usedB := by
  unfold usedL
  rw [List.filter_cons]
  by_cases h : more = -1
  · rw [if_neg (by rw [usedB_t]; exact fun x => x h), if_pos h]
  · rw [if_pos (usedB_t.2 h), if_neg h]
theorem usedL_perm {more : Int} {m m' : List Int} {k : Int} (h : (m'.filter usedB).Perm (k :: m.filter usedB)) : (usedL more m').Perm (k :: usedL more m) := by
  rw [usedL_cons, usedL_cons]
  split
  · exact h
  · exact (List.Perm.cons more h).trans (List.Perm.swap k more _)

/-- a file has one block more -/
theorem Wk.grow {now : Int → UInt64} {node more more' : Int} {m m' : List Int} (W : Wk now node more m) (hn : 0 ≤ node ∧ node < 24) {k : Int} (hk : 0 ≤ k ∧ k < 96) (h0 : now (200 + k) = 0) (hl : m'.length = 21) (hr : ∀ x ∈ more' :: m', blkOk x)
    (hp : (usedL more' m').Perm (k :: usedL more m)) : Wk (takeW now node k) node more' m' := by
  have hne := w64_ne hn
  have hknew : k ∉ usedL more m := fun h => hne ((W.own k hk.1 hk.2).1 h ▸ h0)
  refine ⟨hl, hr, hp.symm.nodup (List.nodup_cons.2 ⟨hknew, W.nod⟩), fun x x0 x1 => ?_⟩
  rw [hp.mem_iff, List.mem_cons, takeW_owner hk x0 x1, W.own x x0 x1]
  by_cases h : x = k
  · simp [h]
  · simp [h]

theorem Wk.take_at {now : Int → UInt64} {node more : Int} {m : List Int} (W : Wk now node more m) (hn : 0 ≤ node ∧ node < 24) {k : Int} (hk : 0 ≤ k ∧ k < 96) (h0 : now (200 + k) = 0) {i : Nat} (hi : i < 21) (hm : m[i]?.getD (-1) = -1) :
    Wk (takeW now node k) node more (m.set i k) ∧ Fr node now (takeW now node k) ∧ (more ≠ -1 → moreL (takeW now node k) more = moreL now more) ∧ ∀ p, p < 2688 → fb (takeW now node k) (m.set i k) p = fb now m p := by
  have hl := W.len
  have hne := w64_ne hn
  have hm' : m[i] = -1 := by rw [← W.at_ hi]; exact hm
  have hun : ∀ x, 0 ≤ x → x < 96 → x ∈ usedL more m → x ≠ k := by
    rintro x x0 x1 hx rfl
    exact hne ((W.own x x0 x1).1 hx ▸ h0)
  refine ⟨W.grow hn hk h0 (by simp [hl]) ?_ (usedL_perm (filter_set (by omega) hm' (by omega))), takeW_fr hk h0, fun hmo => ?_, fun p hp => ?_⟩
  · intro x hx
    rcases List.mem_cons.1 hx with rfl | hx
    · exact W.rng _ List.mem_cons_self
    · rcases List.mem_or_eq_of_mem_set hx with h | rfl
      · exact W.rng _ (List.mem_cons_of_mem _ h)
      · exact .inr hk
  · have hmr := W.rng more List.mem_cons_self
    have : 0 ≤ more ∧ more < 96 := by rcases hmr with h | h; exact absurd h hmo; exact h
    exact takeW_rd hk this.1 (hun more this.1 this.2 (usedL_mem.2 ⟨.inl rfl, hmo⟩))
  · unfold fb
    have hp2 : p / 128 < 21 := by omega
    by_cases h : p / 128 = i
    · subst h
      have e : (m.set (p / 128) k)[p / 128]?.getD (-1) = k := by simp [hl, hp2]
      rw [e, hm, takeW_new hk]
      rfl
    · have e : (m.set i k)[p / 128]?.getD (-1) = m[p / 128]?.getD (-1) := by rw [List.getElem?_set_ne (fun x => h x.symm)]
      rw [e, W.at_ hp2]
      have hx := W.rng m[p / 128] (List.mem_cons_of_mem _ (List.getElem_mem _))
      rw [takeW_bytes hk (hx.imp id And.left)]
      rcases hx with hx | hx
      · omega
      · exact hun _ hx.1 hx.2 (usedL_mem.2 ⟨.inr (List.getElem_mem _), by omega⟩)

theorem Wk.fb_keep {now g : Int → UInt64} {node more : Int} {m : List Int} (W : Wk now node more m) (h : ∀ x, x ∈ m → 0 ≤ x → x < 96 → rdL g (1288 + x * 16) 16 = rdL now (1288 + x * 16) 16) (p : Nat) (hp : p < 2688) : fb g m p = fb now m p := by
  have hp2 : p / 128 < 21 := by omega
  have hl := W.len
  unfold fb
  rw [W.at_ hp2]
  unfold bytesB
  split
  · rfl
  · rename_i hne
    rcases W.rng m[p / 128] (List.mem_cons_of_mem _ (List.getElem_mem _)) with hx | hx
    · exact absurd hx hne
    · rw [h _ (List.getElem_mem _) hx.1 hx.2]

theorem Wk.take_more {now : Int → UInt64} {node : Int} {m : List Int} (W : Wk now node (-1) m) (hn : 0 ≤ node ∧ node < 24) {k : Int} (hk : 0 ≤ k ∧ k < 96) (h0 : now (200 + k) = 0) :
    Wk (takeW now node k) node k m ∧ Fr node now (takeW now node k) ∧ ∀ p, p < 2688 → fb (takeW now node k) m p = fb now m p := by
  have hne := w64_ne hn
  refine ⟨W.grow hn hk h0 W.len ?_ ?_, takeW_fr hk h0, W.fb_keep fun x hx x0 x1 => takeW_rd hk x0 ?_⟩
  · intro x hx
    rcases List.mem_cons.1 hx with rfl | hx
    · exact .inr hk
    · exact W.rng _ (List.mem_cons_of_mem _ hx)
  · rw [usedL_cons, usedL_cons, if_neg (by omega), if_pos rfl]
  · rintro rfl
    exact hne ((W.own x x0 x1).1 (usedL_mem.2 ⟨.inr hx, by omega⟩) ▸ h0)

/-- words behind a block that is given back -/
theorem drop_fr {now : Int → UInt64} {node k : Int} (hk : 0 ≤ k ∧ k < 96) (h : now (200 + k) = w64 (node + 1)) : Fr node now (upd now (200 + k) 0) := by
  have ho : ∀ j, upd now (200 + k) 0 (200 + j) = if j = k then 0 else now (200 + j) := by
    intro j; unfold upd
    by_cases e : j = k
    · rw [if_pos (by omega), if_pos e]
    · rw [if_neg (by omega), if_neg e]
  constructor
  · intro j h0 h1 hf
    rw [ho]
    have e : j ≠ k := by rintro rfl; exact hf h
    exact ⟨.inl (if_neg e), fun _ => upd_rd hk.2 h0⟩
  · intro j h0 h1 hf
    rw [ho]
    split
    · exact .inr rfl
    · exact .inl hf
  · intro a ha
    unfold upd
    rw [if_neg (by omega)]

theorem Wk.shrink {now : Int → UInt64} {node more more' : Int} {m m' : List Int} (W : Wk now node more m) (hn : 0 ≤ node ∧ node < 24) {k : Int} (hk : 0 ≤ k ∧ k < 96) (hl : m'.length = 21) (hr : ∀ x ∈ more' :: m', blkOk x)
    (hp : (usedL more m).Perm (k :: usedL more' m')) : Wk (upd now (200 + k) 0) node more' m' ∧ now (200 + k) = w64 (node + 1) := by
  have hne := w64_ne hn
  have hnd := List.nodup_cons.1 (hp.nodup W.nod)
  refine ⟨⟨hl, hr, hnd.2, fun x x0 x1 => ?_⟩, (W.own k hk.1 hk.2).1 (hp.mem_iff.2 List.mem_cons_self)⟩
  have hw := W.own x x0 x1
  rw [hp.mem_iff, List.mem_cons] at hw
  unfold upd
  by_cases h : x = k
  · subst h
    rw [if_pos rfl]
    exact ⟨fun hx => absurd hx hnd.1, fun e => absurd e.symm hne⟩
  · rw [if_neg (by omega), ← hw]
    simp [h]

theorem Wk.drop_more {now : Int → UInt64} {node more : Int} {m : List Int} (W : Wk now node more m) (hn : 0 ≤ node ∧ node < 24) (hm : more ≠ -1) :
    (0 ≤ more ∧ more < 96) ∧ now (200 + more) = w64 (node + 1) ∧ Wk (upd now (200 + more) 0) node (-1) m ∧ Fr node now (upd now (200 + more) 0) ∧ ∀ p, p < 2688 → fb (upd now (200 + more) 0) m p = fb now m p := by
  have hk : 0 ≤ more ∧ more < 96 := by
    rcases W.rng more List.mem_cons_self with h | h
    · exact absurd h hm
    · exact h
  obtain ⟨W', ho⟩ := W.shrink (more' := -1) (m' := m) hn hk W.len (by
    intro x hx
    rcases List.mem_cons.1 hx with rfl | hx
    · exact .inl rfl
    · exact W.rng _ (List.mem_cons_of_mem _ hx)) (by rw [usedL_cons, usedL_cons, if_neg hm, if_pos rfl])
  exact ⟨hk, ho, W', drop_fr hk ho, W.fb_keep fun x _ x0 _ => upd_rd hk.2 x0⟩

theorem Wk.drop_at {now : Int → UInt64} {node more : Int} {m : List Int} (W : Wk now node more m) (hn : 0 ≤ node ∧ node < 24) {i : Nat} (hi : i < 21) {k : Int} (hx : m[i]?.getD (-1) = k) (hk1 : k ≠ -1) :
    (0 ≤ k ∧ k < 96) ∧ now (200 + k) = w64 (node + 1) ∧ Wk (upd now (200 + k) 0) node more (m.set i (-1)) ∧ Fr node now (upd now (200 + k) 0) ∧ (more ≠ -1 → moreL (upd now (200 + k) 0) more = moreL now more) ∧
      ∀ p, p < 2688 → fb (upd now (200 + k) 0) (m.set i (-1)) p = if p / 128 = i then 0 else fb now m p := by
  have hl := W.len
  have hmi : m[i] = k := by rw [← W.at_ hi]; exact hx
  have hk : 0 ≤ k ∧ k < 96 := by
    rcases W.rng m[i] (List.mem_cons_of_mem _ (List.getElem_mem _)) with h | h
    · exact absurd (hmi ▸ h) hk1
    · rw [hmi] at h; exact h
  obtain ⟨W', ho⟩ := W.shrink (more' := more) (m' := m.set i (-1)) hn hk (by simp [hl]) (by
    intro x hx
    rcases List.mem_cons.1 hx with rfl | hx
    · exact W.rng _ List.mem_cons_self
    · rcases List.mem_or_eq_of_mem_set hx with h | rfl
      · exact W.rng _ (List.mem_cons_of_mem _ h)
      · exact .inl rfl) (usedL_perm (by have := filter_unset (m := m) (i := i) (by omega) (by rw [hmi]; exact hk1); rwa [hmi] at this))
  refine ⟨hk, ho, W', drop_fr hk ho, fun hmo => ?_, fun p hp => ?_⟩
  · rcases W.rng more List.mem_cons_self with h | h
    · exact absurd h hmo
    · exact upd_rd hk.2 h.1
  · unfold fb
    have hp2 : p / 128 < 21 := by omega
    by_cases h : p / 128 = i
    · subst h
      rw [if_pos rfl]
      have e : (m.set (p / 128) (-1))[p / 128]?.getD (-1) = -1 := by simp [hl, hp2]
      rw [e]
      unfold bytesB zeros
      rw [if_pos rfl, List.getElem?_replicate]
      split <;> rfl
    · rw [if_neg h]
      have e : (m.set i (-1))[p / 128]?.getD (-1) = m[p / 128]?.getD (-1) := by rw [List.getElem?_set_ne (fun x => h x.symm)]
      rw [e, W.at_ hp2]
      have hx := W.rng m[p / 128] (List.mem_cons_of_mem _ (List.getElem_mem _))
      rw [bytes_upd hk.2 (hx.imp id And.left)]
end Go.Proofs.YtkjkdnphikendaaGreatDoor
/-
  Plain laws: a file's bytes are written, a card with a map.
-/
set_option linter.all false
set_option maxRecDepth 100000
namespace Go.Proofs.YtkjkdnphikendaaGreatDoor
open Go Go.Eng

theorem getD_21 {m : List Int} (hl : m.length = 21) {i : Nat} (hi : i < 21) : m[i]?.getD 0 = m[i]?.getD (-1) := by
  simp [show i < m.length by omega]

theorem wblk_get {old data : List UInt8} {a f : Nat} (ho : old.length = 128) (h1 : f < a + data.length) (h2 : a < f + 128) (q : Nat) (hq : q < 128) :
    (wblk old data a (a + data.length) f)[q]?.getD 0 = if a ≤ f + q ∧ f + q < a + data.length then data[f + q - a]?.getD 0 else old[q]?.getD 0 := by
  have ht : (old.take (a - f)).length = a - f := by rw [List.length_take]; omega
  have hd : ((data.drop (f + (a - f) - a)).take (min (a + data.length - f) 128 - (a - f))).length = min (a + data.length - f) 128 - (a - f) := by
    rw [List.length_take, List.length_drop]; omega
  unfold wblk
  by_cases c1 : q < a - f
  · rw [List.append_assoc, List.getElem?_append_left (by omega), List.getElem?_take, if_pos c1, if_neg (by omega)]
  · by_cases c2 : q < min (a + data.length - f) 128
    · rw [List.getElem?_append_left (by rw [List.length_append]; omega), List.getElem?_append_right (by omega), ht, List.getElem?_take, if_pos (by omega), List.getElem?_drop, if_pos (by omega)]
      congr 2; omega
    · rw [List.getElem?_append_right (by rw [List.length_append]; omega), List.length_append, ht, hd, List.getElem?_drop, if_neg (by omega)]
      congr 2; omega
theorem wblk_len {old data : List UInt8} {a f : Nat} (ho : old.length = 128) (h1 : f < a + data.length) (h2 : a < f + 128) : (wblk old data a (a + data.length) f).length = 128 := by
  unfold wblk
  rw [List.length_append, List.length_append, List.length_take, List.length_take, List.length_drop, List.length_drop]
  omega

/-- where no block of another's lies, one can be taken -/
def Alone (B : Int → UInt64) (node : Int) (X : VS) : Prop := ∀ k, 0 ≤ k → k < 96 → B (200 + k) = 0 ∧ (X.now (200 + k) = 0 ∨ X.now (200 + k) = w64 (node + 1)) ∧ k ∉ X.away

theorem firstF_none {B : Int → UInt64} {X : VS} : ∀ {f i : Nat}, firstF B X f i = none → ∀ k, i ≤ k → k < i + f → freshB B X (k : Int) = false
  | 0, i, _, k, h1, h2 => by omega
  | f + 1, i, h, k, h1, h2 => by
    unfold firstF at h
    split at h
    · cases h
    · rename_i hf
      by_cases e : k = i
      · subst e; simpa using hf
      · exact firstF_none h k (by omega) (by omega)

theorem take_alone {B : Int → UInt64} {X : VS} {node more : Int} {m : List Int} (hn : 0 ≤ node ∧ node < 24) (W : Wk X.now node more m) (A : Alone B node X) : firstF B X 96 0 ≠ none := by
  intro h
  have hall : ((List.range 96).map fun (i : Nat) => (i : Int)) ⊆ usedL more m := by
    intro x hx
    obtain ⟨k, hk, rfl⟩ := List.mem_map.1 hx
    have hk96 : k < 96 := by simpa using hk
    have hf := firstF_none h k (by omega) (by omega)
    obtain ⟨a1, a2, a3⟩ := A (k : Int) (by omega) (by omega)
    refine (W.own (k : Int) (by omega) (by omega)).2 ?_
    rcases a2 with a2 | a2
    · unfold freshB at hf
      simp [a1, a2, a3] at hf
      omega
    · exact a2
  have hnd : ((List.range 96).map fun (i : Nat) => (i : Int)).Nodup := by decide +kernel
  have h1 := hnd.length_le_of_subset hall
  have h2 : (usedL more m).length ≤ (more :: m).length := List.length_filter_le _ _
  have := W.len
  simp at h1 h2
  omega

/-- what a step of writing comes to -/
structure Wrt (B : Int → UInt64) (node more : Int) (X : VS) (m : List Int) (a : Nat) (data : List UInt8) (i f : Nat) (r : Int × VS × List Int) : Prop where
  e : r.1 = 0
  x : r.2.1 = { X with now := r.2.1.now }
  wk : Wk r.2.1.now node more r.2.2
  fr : Fr node X.now r.2.1.now
  more_ : more ≠ -1 → moreL r.2.1.now more = moreL X.now more
  by_ : ∀ p, p < 2688 → fb r.2.1.now r.2.2 p = if i ≤ p / 128 ∧ p / 128 < i + f ∧ a ≤ p ∧ p < a + data.length then data[p - a]?.getD 0 else fb X.now m p
  holes : ∀ j, j < 21 → (r.2.2[j]?.getD (-1) = -1 ↔ m[j]?.getD (-1) = -1 ∧ ¬ (i ≤ j ∧ j < i + f))

theorem wStep_plain {B : Int → UInt64} {node more : Int} (hn : 0 ≤ node ∧ node < 24) {X : VS} {m : List Int} (W : Wk X.now node more m) {a : Nat} {data : List UInt8} {i : Nat} (hi : i < 21) (h1 : 128 * i < a + data.length) (h2 : a < 128 * i + 128) :
    (wStep B node a data i X m).1 = 9 ∧ firstF B X 96 0 = none ∨ Wrt B node more X m a data i 1 (wStep B node a data i X m) := by
  have hl := W.len
  unfold wStep
  rw [getD_21 hl hi]
  by_cases hm : m[i]?.getD (-1) = -1
  · rw [if_pos hm]
    rcases take_facts (B := B) (X := X) hn with ⟨e0, k0, k1, kn, kx⟩ | ⟨e9, kx, kf⟩
    · right
      have hk : 0 ≤ (takeP B X node).1 ∧ (takeP B X node).1 < 96 := ⟨k0, k1⟩
      generalize (takeP B X node).1 = k at *
      obtain ⟨W1, F1, M1, B1⟩ := W.take_at hn hk kn hi hm
      have hmi : (m.set i k)[i]?.getD (-1) = k := by simp [hl, hi]
      have hkne : k ≠ -1 := by omega
      simp only [e0, kx, if_true]
      rw [getD_21 (by simp [hl]) hi, hmi]
      have hbl := bytesB_len (takeW X.now node k) k
      obtain ⟨W2, F2, M2, B2⟩ := W1.put hi (Nat.le_of_eq (wblk_len hbl h1 h2)) hmi hkne
      refine ⟨rfl, rfl, W2, F1.trans F2 (w64_ne hn), fun h => (M2 h).trans (M1 h), fun p hp => ?_, fun j hj => ?_⟩
      · simp only
        rw [B2 p hp]
        by_cases hpi : p / 128 = i
        · rw [if_pos hpi, wblk_get hbl h1 h2 _ (Nat.mod_lt _ (by decide))]
          have hpe : 128 * i + p % 128 = p := by omega
          rw [hpe]
          by_cases hc : a ≤ p ∧ p < a + data.length
          · rw [if_pos hc, if_pos ⟨by omega, by omega, hc⟩]
          · rw [if_neg hc, if_neg (fun h => hc h.2.2), ← B1 p hp]
            unfold fb
            rw [hpi, hmi]
        · rw [if_neg hpi, if_neg (by omega), B1 p hp]
      · simp only
        by_cases hji : j = i
        · subst hji
          rw [hmi]
          exact ⟨fun h => absurd h hkne, fun h => absurd h.2 (by omega)⟩
        · rw [List.getElem?_set_ne (fun x => hji x.symm)]
          exact ⟨fun h => ⟨h, by omega⟩, fun h => h.1⟩
    · left
      simp only [e9]
      exact ⟨rfl, kf⟩
  · right
    rw [if_neg hm]
    simp only [if_true]
    rw [getD_21 hl hi]
    have hbl := bytesB_len X.now (m[i]?.getD (-1))
    obtain ⟨W2, F2, M2, B2⟩ := W.put hi (Nat.le_of_eq (wblk_len hbl h1 h2)) rfl hm
    refine ⟨rfl, rfl, W2, F2, M2, fun p hp => ?_, fun j hj => ?_⟩
    · simp only
      rw [B2 p hp]
      by_cases hpi : p / 128 = i
      · rw [if_pos hpi, wblk_get hbl h1 h2 _ (Nat.mod_lt _ (by decide))]
        have hpe : 128 * i + p % 128 = p := by omega
        rw [hpe]
        by_cases hc : a ≤ p ∧ p < a + data.length
        · rw [if_pos hc, if_pos ⟨by omega, by omega, hc⟩]
        · rw [if_neg hc, if_neg (fun h => hc h.2.2)]
          unfold fb
          rw [hpi]
      · rw [if_neg hpi, if_neg (by omega)]
    · simp only
      by_cases hji : j = i
      · subst hji
        exact ⟨fun h => absurd h hm, fun h => absurd h.1 hm⟩
      · exact ⟨fun h => ⟨h, by omega⟩, fun h => h.1⟩

theorem Alone.on {B : Int → UInt64} {node : Int} {X Y : VS} (A : Alone B node X) (F : Fr node X.now Y.now) (hn : w64 (node + 1) ≠ 0) (ha : Y.away = X.away) : Alone B node Y := by
  intro k h0 h1
  obtain ⟨a1, a2, a3⟩ := A k h0 h1
  refine ⟨a1, ?_, by rw [ha]; exact a3⟩
  rcases a2 with a2 | a2
  · rcases (F.oth k h0 h1 (by rw [a2]; exact fun e => hn e.symm)).1 with r | ⟨_, r⟩
    · left; rw [r, a2]
    · exact .inr r
  · exact (F.mine k h0 h1 a2).symm

theorem writeL_plain {B : Int → UInt64} {node more : Int} (hn : 0 ≤ node ∧ node < 24) {a : Nat} {data : List UInt8} : ∀ (f i : Nat) (X : VS) (m : List Int), Wk X.now node more m → i + f ≤ 21 → (0 < f → 128 * (i + f - 1) < a + data.length) → a < 128 * i + 128 →
    ((writeL B node a data f i X m).1 = 9 ∧ ¬ Alone B node X) ∨ Wrt B node more X m a data i f (writeL B node a data f i X m)
  | 0, i, X, m, W, _, _, _ => by
    right
    unfold writeL
    refine ⟨rfl, rfl, W, Fr.refl _ _, fun _ => rfl, fun p hp => ?_, fun j hj => ⟨fun h => ⟨h, by omega⟩, fun h => h.1⟩⟩
    simp only
    rw [if_neg (by omega)]
  | f + 1, i, X, m, W, hf, h1, h2 => by
    unfold writeL
    have h1' := h1 (by omega)
    rcases wStep_plain (B := B) hn W (i := i) (a := a) (data := data) (by omega) (by omega) (by omega) with ⟨e, hno⟩ | S
    · rw [e]
      left
      refine ⟨by simp [e], fun A => take_alone hn W A hno⟩
    · rw [S.e]
      simp only [if_true]
      rcases writeL_plain (B := B) (a := a) (data := data) hn f (i + 1) (wStep B node a data i X m).2.1 (wStep B node a data i X m).2.2 S.wk (by omega) (fun _ => by omega) (by omega) with ⟨e, hno⟩ | R
      · left
        refine ⟨e, fun A => hno (A.on S.fr (w64_ne hn) (by rw [S.x]))⟩
      · right
        refine ⟨R.e, ?_, R.wk, S.fr.trans R.fr (w64_ne hn), fun h => (R.more_ h).trans (S.more_ h), fun p hp => ?_, fun j hj => ?_⟩
        · rw [R.x, S.x]
        · rw [R.by_ p hp, S.by_ p hp]
          by_cases c3 : i + 1 ≤ p / 128 ∧ p / 128 < i + 1 + f ∧ a ≤ p ∧ p < a + data.length
          · rw [if_pos c3, if_pos ⟨by omega, by omega, c3.2.2⟩]
          · rw [if_neg c3]
            by_cases c4 : i ≤ p / 128 ∧ p / 128 < i + 1 ∧ a ≤ p ∧ p < a + data.length
            · rw [if_pos c4, if_pos ⟨c4.1, by omega, c4.2.2⟩]
            · rw [if_neg c4, if_neg (by omega)]
        · rw [R.holes j hj, S.holes j hj]
          constructor
          · rintro ⟨⟨x1, x2⟩, x3⟩; exact ⟨x1, by omega⟩
          · rintro ⟨x1, x2⟩; exact ⟨⟨x1, by omega⟩, by omega⟩
end Go.Proofs.YtkjkdnphikendaaGreatDoor
/-
  Plain laws: a file, kept and written.
-/
set_option linter.all false
set_option maxRecDepth 100000
namespace Go.Proofs.YtkjkdnphikendaaGreatDoor
open Go Go.Eng

theorem Wk.putMore {now : Int → UInt64} {node more : Int} {m : List Int} (W : Wk now node more m) {ws : List UInt64} (hw : ws.length ≤ 16) (hm : more ≠ -1) :
    Wk (putBlk now more ws) node more m ∧ Fr node now (putBlk now more ws) ∧ ∀ p, p < 2688 → fb (putBlk now more ws) m p = fb now m p := by
  have hk : 0 ≤ more ∧ more < 96 := by
    rcases W.rng more List.mem_cons_self with h | h
    · exact absurd h hm
    · exact h
  have ho : ∀ k, 0 ≤ k → k < 96 → putBlk now more ws (200 + k) = now (200 + k) := fun k _ h => put_owner hw hk.1 h
  have hown : now (200 + more) = w64 (node + 1) := (W.own more hk.1 hk.2).1 (usedL_mem.2 ⟨.inl rfl, hm⟩)
  refine ⟨⟨W.len, W.rng, W.nod, fun k h0 h1 => by rw [ho k h0 h1]; exact W.own k h0 h1⟩, ⟨fun k h0 h1 hf => ⟨.inl (ho k h0 h1), fun _ => ?_⟩, fun k h0 h1 hf => .inl (by rw [ho k h0 h1]; exact hf), fun _ ha => put_low hk.1 ha⟩, W.fb_keep fun x hx x0 x1 => ?_⟩
  · refine put_rd_ne hw ?_
    rintro rfl
    exact hf hown
  · exact put_rd_ne hw (fun e => W.ne_more hx (by omega) e.symm)

theorem Wk.drops {now : Int → UInt64} {node more : Int} {m : List Int} (W : Wk now node more m) : m.any oddB = false := by
  rw [List.any_eq_false]
  intro x hx
  have := W.rng x (List.mem_cons_of_mem _ hx)
  unfold blkOk at this
  simp [oddB]; omega

theorem setD_dir (c : Crd) {m : List Int} (hl : m.length = 21) (t : Int) : ({ setD c m with more := t } : Crd).direct ++ m.drop 5 = m := by
  obtain ⟨a, b, c', d, e, r, rfl, _⟩ := take5 hl
  rfl

/-- what a card with a map comes to -/
structure Kep (node : Int) (X : VS) (c : Crd) (m : List Int) (r : Crd × Int × VS) : Prop where
  e : r.2.1 = 0
  c_ : r.1 = { setD c m with more := r.1.more }
  mor : r.1.more = -1 ↔ (m.drop 5).any usedB = false
  map : mapOf r.2.2.now r.1 = some m
  wk : Wk r.2.2.now node r.1.more m
  fr : Fr node X.now r.2.2.now
  by_ : ∀ p, p < 2688 → fb r.2.2.now m p = fb X.now m p
  x : r.2.2 = { X with now := r.2.2.now }

theorem keepP_plain {B : Int → UInt64} {node : Int} (hn : 0 ≤ node ∧ node < 24) {X : VS} {c : Crd} {m : List Int} (W : Wk X.now node c.more m) :
    ((keepP B X node c m).2.1 = 9 ∧ ¬ Alone B node X ∧ c.more = -1 ∧ (m.drop 5).any usedB = true) ∨ Kep node X c m (keepP B X node c m) := by
  have hl := W.len
  unfold keepP
  rw [if_pos ⟨hn, hl, W.drops⟩]
  by_cases hd : (m.drop 5).any usedB = false
  · rw [if_pos hd]
    have hmap : ∀ now, mapOf now { setD c m with more := -1 } = some m := by
      intro now
      unfold mapOf
      rw [if_pos rfl]
      have : m.drop 5 = List.replicate 16 (-1) := by
        rw [List.eq_replicate_iff]
        refine ⟨by simp [hl], fun x hx => ?_⟩
        have := List.any_eq_false.1 hd x hx
        simp [usedB] at this; exact this
      rw [← this]
      exact congrArg some (setD_dir c hl _)
    right
    by_cases hc : c.more = -1
    · rw [if_pos hc]
      rw [hc] at W
      exact ⟨rfl, rfl, ⟨fun _ => hd, fun _ => rfl⟩, hmap _, W, Fr.refl _ _, fun _ _ => rfl, rfl⟩
    · rw [if_neg hc]
      obtain ⟨hk, ho, W1, F1, B1⟩ := W.drop_more hn hc
      have hdr : dropP X c.more = (0, { X with now := upd X.now (200 + c.more) 0 }) := by
        unfold dropP
        rw [if_pos hk, if_neg (by rw [ho]; exact w64_ne hn)]
      rw [hdr]
      simp only [if_true]
      exact ⟨rfl, rfl, ⟨fun _ => hd, fun _ => rfl⟩, hmap _, W1, F1, B1, rfl⟩
  · rw [if_neg hd]
    have hw16 : ((m.drop 5).map fun n => w64 (n + 1)).length = 16 := by simp [hl]
    have hm5 : ∀ x ∈ m.drop 5, -1 ≤ x ∧ x < 96 := by
      intro x hx
      have := W.rng x (List.mem_cons_of_mem _ (List.mem_of_mem_drop hx))
      unfold blkOk at this; omega
    have hmap : ∀ now k, 0 ≤ k → k < 96 → mapOf (putBlk now k ((m.drop 5).map fun n => w64 (n + 1))) { setD c m with more := k } = some m := by
      intro now k k0 k1
      unfold mapOf
      show (if k = -1 then _ else if 0 ≤ k ∧ k < 96 ∧ (moreL (putBlk _ k _) k).all _ = true ∧ ((moreL (putBlk _ k _) k).map convW).any usedB = true then some (_ ++ (moreL (putBlk _ k _) k).map convW) else none) = some m
      rw [if_neg (by omega), more_put _ _ hw16, conv_back hm5, if_pos]
      · exact congrArg some (setD_dir c hl _)
      · refine ⟨k0, k1, ?_, by simpa using hd⟩
        rw [List.all_map, List.all_eq_true]
        intro x hx
        simp only [Function.comp]
        exact decide_eq_true (w64_small (hm5 x hx)).2
    by_cases hc : c.more = -1
    · rw [if_pos hc]
      rw [hc] at W
      rcases take_facts (B := B) (X := X) hn with ⟨e0, k0, k1, kn, kx⟩ | ⟨e9, kx, kf⟩
      · right
        have hk : 0 ≤ (takeP B X node).1 ∧ (takeP B X node).1 < 96 := ⟨k0, k1⟩
        obtain ⟨W1, F1, B1⟩ := W.take_more hn hk kn
        obtain ⟨W2, F2, B2⟩ := W1.putMore (ws := (m.drop 5).map fun n => w64 (n + 1)) (by omega) (by omega)
        simp only [e0, if_true, if_pos hk, kx]
        refine ⟨rfl, rfl, ⟨fun h => ?_, fun h => absurd h hd⟩, hmap _ _ k0 k1, W2, F1.trans F2 (w64_ne hn), fun p hp => (B2 p hp).trans (B1 p hp), rfl⟩
        have h' : (takeP B X node).1 = -1 := h
        omega
      · left
        simp only [e9]
        exact ⟨by simp, fun A => take_alone hn W A kf, hc, by simpa using hd⟩
    · rw [if_neg hc]
      right
      have hk : 0 ≤ c.more ∧ c.more < 96 := by
        rcases W.rng c.more List.mem_cons_self with h | h
        · exact absurd h hc
        · exact h
      obtain ⟨W2, F2, B2⟩ := W.putMore (ws := (m.drop 5).map fun n => w64 (n + 1)) (by omega) hc
      simp only [if_true, if_pos hk]
      exact ⟨rfl, rfl, ⟨fun h => absurd h hc, fun h => absurd h hd⟩, hmap _ _ hk.1 hk.2, W2, F2, B2, rfl⟩

/-- a file: its card over words has a map, and its bytes are these -/
structure FileI (now : Int → UInt64) (node : Int) (c : Crd) (m : List Int) (s : List UInt8) : Prop where
  map : mapOf now c = some m
  wk : Wk now node c.more m
  kind : (c.kind = 1 ∨ c.kind = 3) ∧ 0 ≤ c.links ∧ c.links ≤ 255
  size : c.size = (s.length : Int)
  fits : s.length ≤ 2688
  by_ : ∀ p, p < 2688 → fb now m p = s[p]?.getD 0
  hol : ∀ j, j < 21 → s.length ≤ 128 * j → m[j]?.getD (-1) = -1
  mor : c.more = -1 ↔ (m.drop 5).any usedB = false

theorem mapOf_direct {now : Int → UInt64} {c : Crd} {m : List Int} (h : mapOf now c = some m) : ∀ x ∈ c.direct, x ∈ m := by
  intro x hx
  unfold mapOf at h
  split at h
  · have := Option.some.inj h; subst this; exact List.mem_append_left _ hx
  · split at h
    · have := Option.some.inj h; subst this; exact List.mem_append_left _ hx
    · cases h

theorem FileI.right {now : Int → UInt64} {node : Int} {c : Crd} {m : List Int} {s : List UInt8} (F : FileI now node c m s) : rightC c = true := by
  have hb : ∀ x, blkOk x → blockC x = true := by
    intro x hx; unfold blkOk at hx; simp [blockC]; omega
  have hd : c.direct.all blockC = true := List.all_eq_true.2 fun x hx => hb x (F.wk.rng x (List.mem_cons_of_mem _ (mapOf_direct F.map x hx)))
  have hs := F.size
  have hf := F.fits
  obtain ⟨hk, hl⟩ := F.kind
  unfold rightC
  rw [if_neg (by omega), hd, hb c.more (F.wk.rng _ List.mem_cons_self)]
  simp; omega
theorem FileI.ok {now : Int → UInt64} {node : Int} {c : Crd} {m : List Int} {s : List UInt8} (F : FileI now node c m s) : c.ok := by
  have hs := F.size
  have hf := F.fits
  obtain ⟨hk, hl⟩ := F.kind
  refine ⟨by unfold inI64; omega, by unfold inI64; omega, by unfold inI64; omega, fun x hx => ?_, ?_⟩
  · have := F.wk.rng x (List.mem_cons_of_mem _ (mapOf_direct F.map x hx))
    unfold blkOk at this; unfold inI64; omega
  · have := F.wk.rng _ List.mem_cons_self
    unfold blkOk at this; unfold inI64; omega
theorem FileI.okMap {now : Int → UInt64} {node : Int} {c : Crd} {m : List Int} {s : List UInt8} (F : FileI now node c m s) : okMap now c := by
  intro m' hm x hx
  rw [F.map] at hm
  have := Option.some.inj hm
  subst this
  exact F.wk.rng x (List.mem_cons_of_mem _ hx)

/-- the document's answer: bytes are written -/
def refWriteL (s : List UInt8) (at_ : Int) (data : List UInt8) : List UInt8 × Int :=
  if at_ < 0 ∨ 400 < data.length then ([], 1)
  else if data = [] then (s, 0)
  else if 2688 - (data.length : Int) < at_ then ([], 10)
  else ((s ++ zeros (at_.toNat + data.length - s.length)).take at_.toNat ++ data ++ (s ++ zeros (at_.toNat + data.length - s.length)).drop (at_.toNat + data.length), 0)

theorem zeros_get (n i : Nat) : (zeros n)[i]?.getD 0 = 0 := by
  unfold zeros
  rw [List.getElem?_replicate]
  split <;> rfl
theorem pad_get (s : List UInt8) (n i : Nat) : (s ++ zeros n)[i]?.getD 0 = s[i]?.getD 0 := by
  by_cases h : i < s.length
  · rw [List.getElem?_append_left h]
  · rw [List.getElem?_append_right (by omega), zeros_get, List.getElem?_eq_none (by omega)]; rfl

theorem refWrite_get (s : List UInt8) (a : Nat) (data : List UInt8) (p : Nat) :
    ((s ++ zeros (a + data.length - s.length)).take a ++ data ++ (s ++ zeros (a + data.length - s.length)).drop (a + data.length))[p]?.getD 0 = if a ≤ p ∧ p < a + data.length then data[p - a]?.getD 0 else s[p]?.getD 0 := by
  have hz : (zeros (a + data.length - s.length)).length = a + data.length - s.length := by simp [zeros]
  have hL : (s ++ zeros (a + data.length - s.length)).length ≥ a + data.length := by rw [List.length_append, hz]; omega
  have ht : ((s ++ zeros (a + data.length - s.length)).take a).length = a := by rw [List.length_take]; omega
  by_cases c1 : p < a
  · rw [List.append_assoc, List.getElem?_append_left (by omega), List.getElem?_take, if_pos c1, pad_get, if_neg (by omega)]
  · by_cases c2 : p < a + data.length
    · rw [List.getElem?_append_left (by rw [List.length_append]; omega), List.getElem?_append_right (by omega), ht, if_pos ⟨by omega, c2⟩]
    · rw [List.getElem?_append_right (by rw [List.length_append]; omega), List.length_append, ht, List.getElem?_drop, if_neg (by omega), show a + data.length + (p - (a + data.length)) = p by omega, pad_get]
theorem refWrite_len (s : List UInt8) (a : Nat) (data : List UInt8) :
    ((s ++ zeros (a + data.length - s.length)).take a ++ data ++ (s ++ zeros (a + data.length - s.length)).drop (a + data.length)).length = max s.length (a + data.length) := by
  have hz : (zeros (a + data.length - s.length)).length = a + data.length - s.length := by simp [zeros]
  simp only [List.length_append, List.length_take, List.length_drop, hz]
  omega

/-- what writing comes to -/
structure Wrote (node : Int) (X : VS) (m : List Int) (at_ : Int) (data s' : List UInt8) (r : Crd × Int × VS) (m' : List Int) : Prop where
  file : FileI r.2.2.now node r.1 m' s'
  fr : Fr node X.now r.2.2.now
  x : r.2.2 = { X with now := r.2.2.now }
  holes : ∀ j, j < 21 → (m'[j]?.getD (-1) = -1 ↔ m[j]?.getD (-1) = -1 ∧ ¬ (data ≠ [] ∧ at_.toNat / 128 ≤ j ∧ j < (at_.toNat + data.length + 127) / 128))

theorem writeP_plain {B : Int → UInt64} {node : Int} (hn : 0 ≤ node ∧ node < 24) {X : VS} {c : Crd} {m : List Int} {s : List UInt8} (F : FileI X.now node c m s) (at_ : Int) (data : List UInt8) :
    ((writeP B X node c at_ data).2.1 = 9 ∧ (refWriteL s at_ data).2 = 0 ∧ ¬ Alone B node X) ∨
    ((writeP B X node c at_ data).2.1 = (refWriteL s at_ data).2 ∧ ((refWriteL s at_ data).2 = 0 → ∃ m', Wrote node X m at_ data (refWriteL s at_ data).1 (writeP B X node c at_ data) m')) := by
  unfold writeP refWriteL
  by_cases h1 : at_ < 0 ∨ 400 < data.length
  · rw [if_pos (.inr h1), if_pos h1]
    exact .inr ⟨rfl, fun h => by cases h⟩
  · rw [if_neg (by rintro (x | x); exact x hn; exact h1 x), if_neg h1]
    by_cases h2 : data = []
    · rw [if_pos h2, if_pos h2, F.map]
      refine .inr ⟨rfl, fun _ => ⟨m, F, Fr.refl _ _, rfl, fun j hj => ⟨fun h => ⟨h, fun x => x.1 h2⟩, fun h => h.1⟩⟩⟩
    · rw [if_neg h2, if_neg h2]
      have hdl : 0 < data.length := by
        cases data with
        | nil => exact absurd rfl h2
        | cons x l => simp
      by_cases h3 : 2688 - (data.length : Int) < at_
      · rw [if_pos h3, if_pos h3]
        exact .inr ⟨rfl, fun h => by cases h⟩
      · rw [if_neg h3, if_neg h3, F.map]
        simp only
        obtain ⟨a, rfl⟩ : ∃ a : Nat, at_ = (a : Int) := ⟨at_.toNat, by omega⟩
        have hfit : a + data.length ≤ 2688 := by omega
        simp only [Int.toNat_natCast]
        rcases writeL_plain (B := B) (a := a) (data := data) hn ((a + data.length + 127) / 128 - a / 128) (a / 128) X m F.wk (by omega) (fun _ => by omega) (by omega) with ⟨e, hno⟩ | R
        · left
          rw [e]
          exact ⟨by simp, trivial, hno⟩
        · rw [R.e]
          simp only [if_true]
          have hc : ({ c with size := max c.size ((a : Int) + data.length) } : Crd).more = c.more := rfl
          rcases keepP_plain (B := B) (c := { c with size := max c.size ((a : Int) + data.length) }) hn (hc ▸ R.wk) with ⟨e, hno, _⟩ | K
          · left
            exact ⟨e, trivial, fun A => hno (A.on R.fr (w64_ne hn) (by rw [R.x]))⟩
          · right
            refine ⟨K.e, fun _ => ⟨(writeL B node a data ((a + data.length + 127) / 128 - a / 128) (a / 128) X m).2.2, ?_, R.fr.trans K.fr (w64_ne hn), by rw [K.x, R.x], fun j hj => ?_⟩⟩
            · have hcc := K.c_
              refine ⟨K.map, K.wk, ?_, ?_, ?_, fun p hp => ?_, fun j hj hs => ?_, K.mor⟩
              · rw [hcc]; exact F.kind
              · rw [hcc, refWrite_len]
                have := F.size
                show max c.size ((a : Int) + data.length) = _
                rw [this]; omega
              · rw [refWrite_len]; have := F.fits; omega
              · rw [K.by_ p hp, R.by_ p hp, refWrite_get, F.by_ p hp]
                by_cases hc : a ≤ p ∧ p < a + data.length
                · rw [if_pos hc, if_pos ⟨by omega, by omega, hc⟩]
                · rw [if_neg hc, if_neg (fun h => hc h.2.2)]
              · rw [refWrite_len] at hs
                exact (R.holes j hj).2 ⟨F.hol j hj (by omega), by omega⟩
            · rw [R.holes j hj]
              constructor
              · rintro ⟨x, y⟩; exact ⟨x, fun z => y ⟨z.2.1, by omega⟩⟩
              · rintro ⟨x, y⟩; exact ⟨x, fun z => y ⟨h2, z.1, by omega⟩⟩
end Go.Proofs.YtkjkdnphikendaaGreatDoor
/-
  Layers 4 and 1: names; their hash; what of package strings they use.
-/
set_option linter.all false
set_option maxRecDepth 100000
set_option maxHeartbeats 1000000
namespace Go.Proofs.YtkjkdnphikendaaGreatDoor
open Go Go.Eng

theorem bs_eq (x y : List UInt8) : ((ByteArray.mk x.toArray).toList == (ByteArray.mk y.toArray).toList) = decide (x = y) := by
  rw [toList_beq]
  refine decide_eq_decide.2 ⟨fun e => ?_, fun e => by rw [e]⟩
  have := congrArg (fun b : ByteArray => b.data.toList) e
  simpa using this
theorem bs_size (l : List UInt8) : (ByteArray.mk l.toArray).size = l.length := by show l.toArray.size = _; simp
theorem bs_get (l : List UInt8) (i : Nat) : byteN ⟨l.toArray⟩ i = ((l[i]?.getD 0).toNat : Int) := by simp [byteN]

theorem slIndexByte_spec (l : List UInt8) (c : UInt8) (h : Heap) : CallH Tryz.prog 259 [.string ⟨l.toArray⟩, .int .u8 (c.toNat : Int)] h (fun v h' => Keeps [] h h' ∧ v = .int .i64 (Lib.indexByte l c)) := by
  refine call_of hmix Tryz.func259 rfl ok259 (by simp [Tryz.f259]) ?_
  conv => whnf
  refine SemR.ext rfl (by kernel_rfl) (by kernel_rfl) (by kernel_rfl) (e := Extern.BytealgIndexByte.indexByte) (by kernel_rfl) (SemR.pure (fun w _ => Lib.run_indexByteString (P := Tryz.prog) _ _ w) ?_)
  conv => whnf
  refine ⟨Keeps.refl _ _, ?_⟩
  simp
theorem indexByte_spec (l : List UInt8) (c : UInt8) (h : Heap) : CallH Tryz.prog 222 [.string ⟨l.toArray⟩, .int .u8 (c.toNat : Int)] h (fun v h' => Keeps [] h h' ∧ v = .int .i64 (Lib.indexByte l c)) := by
  refine call_of hmix Tryz.func222 rfl ok222 (by simp [Tryz.f222]) ?_
  conv => whnf
  refine CallR.i (slIndexByte_spec l c h) fun v h1 k1 hv => ?_
  subst hv
  conv => whnf
  exact ⟨k1, rfl⟩

def signB (c : UInt8) : Bool := (decide (97 ≤ c.toNat) && decide (c.toNat ≤ 122)) || (decide (48 ≤ c.toNat) && decide (c.toNat ≤ 57)) || (decide (c = 46) || (decide (c = 45) || decide (c = 95)))

theorem sign_idx : ∀ c : UInt8, decide (0 ≤ Lib.indexByte [46, 45, 95] c) = (decide (c = 46) || (decide (c = 45) || decide (c = 95))) := by
  intro c
  simp only [Lib.indexByte]
  by_cases h1 : (46 : UInt8) = c
  · subst h1; decide
  by_cases h2 : (45 : UInt8) = c
  · subst h2; decide
  by_cases h3 : (95 : UInt8) = c
  · subst h3; decide
  have g1 : ¬ c = 46 := fun e => h1 e.symm
  have g2 : ¬ c = 45 := fun e => h2 e.symm
  have g3 : ¬ c = 95 := fun e => h3 e.symm
  simp [h1, h2, h3, g1, g2, g3]

theorem sign_spec (c : UInt8) (h : Heap) : CallH Tryz.prog 186 [.int .u8 (c.toNat : Int)] h (fun v h' => Keeps [] h h' ∧ v = .bool (signB c)) := by
  refine call_of hmix Tryz.func186 rfl ok186 (by simp [Tryz.f186]) ?_
  conv => whnf
  refine MeetR.pass ?_
  conv => whnf
  first | refine IfR.i (fun h1 => ?_) (fun h1 => ?_) | (refine MeetR.pass ?_; (conv => whnf); refine IfR.i (fun h1 => ?_) (fun h1 => ?_))
  · conv => whnf
    refine IfR.t h1 ?_
    conv => whnf
    refine ⟨Keeps.refl _ _, ?_⟩
    have h2 : 97 ≤ c.toNat ∧ c.toNat ≤ 122 := by simp [bif_and] at h1; omega
    simp [signB, h2]
  · conv => whnf
    first | refine IfR.i (fun h3 => ?_) (fun h3 => ?_) | (refine MeetR.pass ?_; (conv => whnf); refine IfR.i (fun h3 => ?_) (fun h3 => ?_))
    · conv => whnf
      refine ⟨Keeps.refl _ _, ?_⟩
      have h2 : 48 ≤ c.toNat ∧ c.toNat ≤ 57 := by simp [bif_and] at h3; omega
      simp [signB, h2]
    · conv => whnf
      refine CallR.i (indexByte_spec [46, 45, 95] c h) fun v h4 k4 hv => ?_
      subst hv
      conv => whnf
      refine ⟨k4, ?_⟩
      have h2 : ¬ (97 ≤ c.toNat ∧ c.toNat ≤ 122) := by simp [bif_and] at h1; omega
      have h5 : ¬ (48 ≤ c.toNat ∧ c.toNat ≤ 57) := by simp [bif_and] at h3; omega
      have e : signB c = (decide (c = 46) || (decide (c = 45) || decide (c = 95))) := by
        unfold signB
        rw [← Bool.decide_and, ← Bool.decide_and, decide_eq_false h2, decide_eq_false h5]; rfl
      rw [e, ← sign_idx]

/-- may a name be? -/
def nameB (l : List UInt8) : Bool := l.all signB && (decide (l ≠ []) && decide (l.length ≤ 14) && decide (l ≠ [46]) && decide (l ≠ [46, 46]))

theorem right4_spec (l : List UInt8) (hl : l.length ≤ 140737488351232) (h : Heap) : CallH Tryz.prog 130 [.string ⟨l.toArray⟩] h (fun v h' => Keeps [] h h' ∧ v = .bool (nameB l)) := by
  refine call_of hmix Tryz.func130 rfl ok130 (by simp [Tryz.f130]) ?_
  conv => whnf
  refine LoopR.on [0, 5, 6] [] (fun i : Nat => [(0, .v (.string ⟨l.toArray⟩)), (5, .v (.int .i64 (l.length : Int))), (6, .v (.int .i64 (i : Int)))]) (fun _ => []) (fun i h' => i ≤ l.length ∧ Keeps [] h h' ∧ (l.take i).all signB = true) (fun i => l.length - i) 0 ?_ ?_
  · conv => whnf
    refine ⟨0, rfl, ?_, rfl, Nat.zero_le _, Keeps.refl _ _, by simp⟩
    rw [bs_size]; rfl
  · rintro i h1 ⟨hi, k1, ha⟩
    conv => whnf
    refine IfR.i (fun hd => ?_) (fun hd => ?_)
    · have hi1 : i < l.length := by simp at hd; omega
      conv => whnf
      refine IdxR.i i rfl (by rw [bs_size]; exact hi1) ?_
      conv => whnf
      rw [bs_get, List.getElem?_eq_getElem hi1, Option.getD_some]
      refine CallR.i (sign_spec l[i] h1) fun v h2 k2 hv => ?_
      subst hv
      have htk : (l.take (i + 1)).all signB = signB l[i] := by
        rw [List.take_succ_eq_append_getElem hi1, List.all_append, ha]; simp
      conv => whnf
      refine IfR.i (fun hs => ?_) (fun hs => ?_)
      · conv => whnf
        refine ⟨k1.trans k2, ?_⟩
        have hf : l.all signB = false := by
          have : signB l[i] = false := by simpa using hs
          rw [← Bool.not_eq_true, List.all_eq_true]
          intro hx
          rw [hx _ (List.getElem_mem hi1)] at this; cases this
        simp [nameB, hf]
      · conv => whnf
        refine ⟨l.length - (i + 1), by omega, ?_⟩
        conv => whnf
        refine ⟨i + 1, rfl, by rw [wrapN (n := i + 1) (by simp) (by omega)], rfl, by omega, k1.trans k2, ?_⟩
        rw [htk]; simpa using hs
    · have hi1 : i = l.length := by simp at hd; omega
      subst hi1
      rw [List.take_length] at ha
      conv => whnf
      refine ⟨k1, ?_⟩
      unfold nameB
      have hc : decide ((l.length : Int) ≤ 14) = decide (l.length ≤ 14) := decide_eq_decide.2 (by omega)
      have e0 : (ByteArray.mk #[]) = ⟨([] : List UInt8).toArray⟩ := rfl
      have e1 : (ByteArray.mk #[46]) = ⟨([46] : List UInt8).toArray⟩ := rfl
      have e2 : (ByteArray.mk #[46, 46]) = ⟨([46, 46] : List UInt8).toArray⟩ := rfl
      rw [ha, bs_size, hc, e0, e1, e2, bs_eq, bs_eq, bs_eq]
      simp only [bif_and]
      by_cases h0 : l = [] <;> by_cases h1 : l.length ≤ 14 <;> by_cases h2 : l = [46] <;> by_cases h3 : l = [46, 46] <;> simp_all

/-! ### Hash -/

def hashL (l : List UInt8) : UInt64 := l.foldl (fun h c => (h ^^^ c.toUInt64) * 1099511628211) 14695981039346656037

theorem hash_val (a : UInt64) (c : UInt8) : Value.int .u64 (IntKind.u64.wrap (IntKind.u64.wrap (((BitVec.ofInt IntKind.u64.bits (a.toNat : Int) ^^^ BitVec.ofInt IntKind.u64.bits (IntKind.u64.wrap (c.toNat : Int))).toNat : Nat)) * 1099511628211)) = wv ((a ^^^ c.toUInt64) * 1099511628211) := by
  have hc := c.toNat_lt
  have ha := a.toNat_lt
  have e1 : IntKind.u64.wrap (c.toNat : Int) = (c.toNat : Int) := by rw [wrap_u64']; omega
  have hx : (BitVec.ofInt IntKind.u64.bits (a.toNat : Int) ^^^ BitVec.ofInt IntKind.u64.bits (c.toNat : Int)).toNat = (a ^^^ c.toUInt64).toNat := by
    have e2 : BitVec.ofInt IntKind.u64.bits (a.toNat : Int) = a.toBitVec := by
      apply BitVec.eq_of_toNat_eq
      simp [IntKind.bits]
    have e3 : BitVec.ofInt IntKind.u64.bits (c.toNat : Int) = c.toUInt64.toBitVec := by
      apply BitVec.eq_of_toNat_eq
      simp [IntKind.bits]
    rw [e2, e3]; rfl
  rw [e1, hx]
  unfold wv
  refine congrArg (Value.int .u64) ?_
  have hl := (a ^^^ c.toUInt64).toNat_lt
  rw [wrap_u64', wrap_u64', UInt64.toNat_mul]
  have : (UInt64.toNat 1099511628211) = 1099511628211 := rfl
  rw [this]
  omega

theorem hash_spec (l : List UInt8) (hl : l.length ≤ 140737488351232) (h : Heap) : CallH Tryz.prog 227 [.string ⟨l.toArray⟩] h (fun v h' => Keeps [] h h' ∧ v = wv (hashL l)) := by
  refine call_of hmix Tryz.func227 rfl ok227 (by simp [Tryz.f227]) ?_
  conv => whnf
  refine SemR.bytesOf rfl rfl rfl fun b2 c2 h2 r2 fz2 e2 s2 hc2 o2 k2 => ?_
  conv => whnf
  refine LoopR.on [3, 7, 8, 9] [] (fun i : Nat => [(3, .v (wv (hashL (l.take i)))), (7, .v (.slice (some ⟨b2, 0, none⟩) l.length c2)), (8, .v (.int .i64 (l.length : Int))), (9, .v (.int .i64 (i : Int)))]) (fun _ => []) (fun i h' => i ≤ l.length ∧ Keeps [] h2 h') (fun i => l.length - i) 0 ?_ ?_
  · conv => whnf
    refine ⟨0, rfl, ?_, rfl, Nat.zero_le _, Keeps.refl _ _⟩
    rw [bs_size, List.take_zero]; rfl
  · rintro i h3 ⟨hi, k3⟩
    conv => whnf
    refine IfR.i (fun hd => ?_) (fun hd => ?_)
    · have hi1 : i < l.length := by simp at hd; omega
      conv => whnf
      refine IdxS.i i rfl hi1 rfl ?_
      conv => whnf
      refine LoadR.o (v := .int .u8 (l[i].toNat : Int)) (k3.obj o2 (by simp)) ?_ ?_
      · rw [nth_eq]
        show (bytesV ⟨l.toArray⟩ ++ r2)[0 + i * 1]? = _
        rw [show 0 + i * 1 = i by omega, List.getElem?_append_left (by rw [bytesV_len, bs_size]; exact hi1)]
        simp [bytesV, hi1]
      conv => whnf
      refine ⟨l.length - (i + 1), by omega, ?_⟩
      conv => whnf
      refine ⟨i + 1, rfl, ?_, rfl, by omega, k3⟩
      rw [wrapN (n := i + 1) (by simp) (by omega), hash_val]
      have e : hashL (l.take (i + 1)) = (hashL (l.take i) ^^^ l[i].toUInt64) * 1099511628211 := by
        unfold hashL
        rw [List.take_succ_eq_append_getElem hi1, List.foldl_append]; rfl
      rw [e]
    · have hi1 : i = l.length := by simp at hd; omega
      subst hi1
      conv => whnf
      rw [List.take_length]
      exact ⟨k2.trans k3, rfl⟩

def bucketL (l : List UInt8) : Nat := (hashL l).toNat % 8
theorem bucketL_lt (l : List UInt8) : bucketL l < 8 := Nat.mod_lt _ (by decide)

theorem bucket_spec (l : List UInt8) (hl : l.length ≤ 140737488351232) (h : Heap) : CallH Tryz.prog 202 [.string ⟨l.toArray⟩, .int .i64 8] h (fun v h' => Keeps [] h h' ∧ v = .int .i64 (bucketL l : Int)) := by
  refine call_of hmix Tryz.func202 rfl ok202 (by simp [Tryz.f202]) ?_
  conv => whnf
  refine IfR.f (by decide) ?_
  conv => whnf
  refine CallR.i (hash_spec l hl h) fun v h1 k1 hv => ?_
  subst hv
  conv => whnf
  refine Need.i (by decide) ?_
  conv => whnf
  refine ⟨k1, ?_⟩
  have hlt := (hashL l).toNat_lt
  have e8 : IntKind.u64.wrap 8 = 8 := by decide
  rw [e8, Int.tmod_eq_emod_of_nonneg (by omega)]
  unfold bucketL
  congr 1
  rw [wrapI (by omega) (by omega)]
  omega
end Go.Proofs.YtkjkdnphikendaaGreatDoor
/-
  Functions of package strings; a directory's entries.
-/
set_option linter.all false
set_option maxRecDepth 100000
set_option maxHeartbeats 1000000
namespace Go.Proofs.YtkjkdnphikendaaGreatDoor
open Go Go.Eng

/-! ### Cut -/

def nz (c : UInt8) : Bool := decide (c ≠ 0)
def cutA (l : List UInt8) : List UInt8 := l.takeWhile nz
def cutB (l : List UInt8) : List UInt8 := (l.dropWhile nz).drop 1

theorem idx_cut : ∀ l : List UInt8, (Lib.indexByte l 0 = -1 ∧ cutA l = l ∧ cutB l = []) ∨ (∃ i : Nat, i < l.length ∧ Lib.indexByte l 0 = (i : Int) ∧ l.take i = cutA l ∧ l.drop (i + 1) = cutB l)
  | [] => .inl ⟨rfl, rfl, rfl⟩
  | c :: l => by
    by_cases hc : c = 0
    · subst hc
      exact .inr ⟨0, by simp, by simp [Lib.indexByte], by simp [cutA, nz], by simp [cutB, nz]⟩
    · have hb : (c == 0) = false := by simpa using hc
      have hn : nz c = true := by simpa [nz] using hc
      rcases idx_cut l with ⟨h1, h2, h3⟩ | ⟨i, h1, h2, h3, h4⟩
      · refine .inl ⟨by simp [Lib.indexByte, hc, h1], ?_, ?_⟩
        · unfold cutA at h2 ⊢; rw [List.takeWhile_cons, if_pos hn, h2]
        · unfold cutB at h3 ⊢; rw [List.dropWhile_cons, if_pos hn]; exact h3
      · refine .inr ⟨i + 1, by simpa using h1, ?_, ?_, ?_⟩
        · have : ¬ ((i : Int) == -1) = true := by simp
          simp [Lib.indexByte, hc, h2]
        · unfold cutA at h3 ⊢; rw [List.takeWhile_cons, if_pos hn, List.take_succ_cons, h3]
        · unfold cutB at h4 ⊢; rw [List.dropWhile_cons, if_pos hn, List.drop_succ_cons]; exact h4

theorem cutA_len (l : List UInt8) : (cutA l).length ≤ l.length := (List.takeWhile_prefix _).length_le

theorem index_spec (l : List UInt8) (h : Heap) : CallH Tryz.prog 240 [.string ⟨l.toArray⟩, .string ⟨#[0]⟩] h (fun v h' => Keeps [] h h' ∧ v = .int .i64 (Lib.indexByte l 0)) := by
  refine call_of hmix Tryz.func240 rfl ok240 (by simp [Tryz.f240]) ?_
  conv => whnf
  have e0 : (ByteArray.mk #[0]) = ⟨([0] : List UInt8).toArray⟩ := rfl
  refine IfR.i (fun h1 => ?_) (fun h1 => ?_)
  · conv => whnf
    refine ⟨Keeps.refl _ _, ?_⟩
    have : l = [0] := by
      have h1 : ((ByteArray.mk #[0]).toList == (ByteArray.mk l.toArray).toList) = true := h1
      rw [e0, bs_eq] at h1
      simpa [eq_comm] using h1
    subst this; rfl
  · conv => whnf
    refine IfR.t rfl ?_
    conv => whnf
    refine IdxR.i 0 rfl (by decide) ?_
    conv => whnf
    refine CallR.i (slIndexByte_spec l 0 h) fun v h1 k1 hv => ?_
    subst hv
    conv => whnf
    exact ⟨k1, rfl⟩

theorem bs_extract (l : List UInt8) (i j : Nat) : (ByteArray.extract ⟨l.toArray⟩ i j) = ⟨((l.take j).drop i).toArray⟩ := ba_extract l i j

theorem slcut_spec (l : List UInt8) (hl : l.length ≤ 140737488351232) (h : Heap) : CallH Tryz.prog 243 [.string ⟨l.toArray⟩, .string ⟨#[0]⟩] h (fun v h' => Keeps [] h h' ∧ ∃ b, v = .tuple #[.string ⟨(cutA l).toArray⟩, .string ⟨(cutB l).toArray⟩, .bool b]) := by
  refine call_of hmix Tryz.func243 rfl ok243 (by simp [Tryz.f243]) ?_
  conv => whnf
  refine CallR.i (index_spec l h) fun v h1 k1 hv => ?_
  subst hv
  rcases idx_cut l with ⟨g1, g2, g3⟩ | ⟨i, g0, g1, g2, g3⟩
  · conv => whnf
    refine IfR.f (by rw [g1]; rfl) ?_
    conv => whnf
    rw [g2, g3]
    exact ⟨k1, _, rfl⟩
  · conv => whnf
    refine IfR.t (by rw [g1]; simp) ?_
    conv => whnf
    refine SliceR.i 0 i rfl (by rw [g1]) (Nat.zero_le _) (by rw [bs_size]; omega) ?_
    conv => whnf
    refine SliceR.i (i + 1) l.length (by rw [g1, wrapN (n := i + 1) (by simp [ByteArray.size]) (by omega)]) (by rw [bs_size]) (by omega) (by rw [bs_size]; omega) ?_
    conv => whnf
    refine ⟨k1, true, ?_⟩
    rw [bs_extract, bs_extract, List.drop_zero, List.take_length, g2, g3]
theorem cut0_spec (l : List UInt8) (hl : l.length ≤ 140737488351232) (h : Heap) : CallH Tryz.prog 218 [.string ⟨l.toArray⟩, .string ⟨#[0]⟩] h (fun v h' => Keeps [] h h' ∧ ∃ b, v = .tuple #[.string ⟨(cutA l).toArray⟩, .string ⟨(cutB l).toArray⟩, .bool b]) := by
  refine call_of hmix Tryz.func218 rfl ok218 (by simp [Tryz.f218]) ?_
  conv => whnf
  refine CallR.i (slcut_spec l hl h) fun v h1 k1 hv => ?_
  obtain ⟨b, rfl⟩ := hv
  conv => whnf
  exact ⟨k1, b, rfl⟩

/-! ### Trim -/

def ez (c : UInt8) : Bool := decide (c = 0)
def trimR (l : List UInt8) : List UInt8 := (l.reverse.dropWhile ez).reverse
def trimZ (l : List UInt8) : List UInt8 := (trimR l).dropWhile ez

theorem trimR_snoc (l : List UInt8) (c : UInt8) : trimR (l ++ [c]) = if c = 0 then trimR l else l ++ [c] := by
  unfold trimR
  rw [List.reverse_append]
  simp only [List.reverse_cons, List.reverse_nil, List.nil_append, List.singleton_append, List.dropWhile_cons]
  by_cases h : c = 0
  · simp [h, ez]
  · simp [h, ez]

theorem dw_nil {α : Type} (p : α → Bool) : ∀ l : List α, l.dropWhile p = [] ↔ l.all p = true
  | [] => by simp
  | x :: l => by
    rw [List.dropWhile_cons, List.all_cons]
    by_cases h : p x = true
    · rw [if_pos h, dw_nil p l, h]; simp
    · rw [if_neg h]; simp [h]

theorem trimZ_nil (l : List UInt8) : trimZ l = [] ↔ l.all ez = true := by
  unfold trimZ
  rw [dw_nil]
  unfold trimR
  rw [List.all_reverse]
  have : ∀ m : List UInt8, ((m.dropWhile ez).all ez = true) ↔ m.all ez = true := by
    intro m
    induction m with
    | nil => simp
    | cons x m ih =>
      rw [List.dropWhile_cons]
      split
      · rename_i h; rw [ih, List.all_cons, h]; simp
      · rfl
  rw [this, List.all_reverse]

theorem trimRight_spec (l : List UInt8) (hl : l.length ≤ 140737488351232) (h : Heap) : CallH Tryz.prog 245 [.string ⟨l.toArray⟩, .int .u8 0] h (fun v h' => Keeps [] h h' ∧ v = .string ⟨(trimR l).toArray⟩) := by
  refine call_of hmix Tryz.func245 rfl ok245 (by simp [Tryz.f245]) ?_
  conv => whnf
  refine LoopR.on [0, 1] [] (fun i : Nat => [(0, .v (.string ⟨(l.take i).toArray⟩)), (1, .v (.int .u8 0))]) (fun _ => []) (fun i h' => i ≤ l.length ∧ Keeps [] h h' ∧ trimR (l.take i) = trimR l) (fun i => i) l.length ?_ ?_
  · refine ⟨l.length, rfl, ?_, rfl, Nat.le_refl _, Keeps.refl _ _, by rw [List.take_length]⟩
    rw [List.take_length]
  · rintro i h1 ⟨hi, k1, ht⟩
    have hlen : (l.take i).length = i := by rw [List.length_take]; omega
    by_cases h0 : i = 0
    · subst h0
      conv => whnf
      refine IdxR.u 0 (fun hx => by simp [ByteArray.size] at hx) ?_
      conv => whnf
      refine IfR.f (by simp [ByteArray.size]) ?_
      conv => whnf
      refine ⟨k1, ?_⟩
      rw [← ht]; rfl
    · have hw : IntKind.i64.wrap (((ByteArray.mk (l.take i).toArray).size : Int) - 1) = ((i - 1 : Nat) : Int) := by
        rw [bs_size, hlen, wrapI (by omega) (by omega)]; omega
      have hg : l.take i = l.take (i - 1) ++ [l[i - 1]'(by omega)] := by
        rw [← List.take_succ_eq_append_getElem (by omega)]; congr 1; omega
      conv => whnf
      refine IdxR.u (i - 1) (fun _ => ⟨hw, by rw [bs_size]; omega⟩) ?_
      have hb : byteN ⟨(l.take i).toArray⟩ (i - 1) = ((l[i - 1]'(by omega)).toNat : Int) := by
        rw [bs_get, List.getElem?_eq_getElem (by omega), Option.getD_some, List.getElem_take]
      conv => whnf
      refine IfR.i (fun hd => ?_) (fun hd => ?_)
      · have hz : l[i - 1]'(by omega) = 0 := by
          have : byteN ⟨(l.take i).toArray⟩ (i - 1) = 0 := by simp [bif_and] at hd; exact hd.2
          rw [hb] at this
          exact UInt8.toNat_inj.1 (by have h2 : (UInt8.toNat 0) = 0 := rfl; omega)
        conv => whnf
        refine SliceR.i 0 (i - 1) rfl hw (Nat.zero_le _) (by rw [bs_size]; omega) ?_
        conv => whnf
        refine ⟨i - 1, by omega, ?_⟩
        conv => whnf
        refine ⟨i - 1, rfl, ?_, rfl, by omega, k1, ?_⟩
        · rw [bs_extract, List.drop_zero, List.take_take, Nat.min_eq_left (by omega)]
        · rw [← ht, hg, trimR_snoc, if_pos hz]
      · conv => whnf
        refine ⟨k1, ?_⟩
        have hz : ¬ l[i - 1]'(by omega) = 0 := by
          intro e
          have : byteN ⟨(l.take i).toArray⟩ (i - 1) = 0 := by rw [hb, e]; rfl
          have hpos : 0 < (ByteArray.mk (l.take i).toArray).size := by rw [bs_size, hlen]; omega
          have hp : decide (((ByteArray.mk (l.take i).toArray).size : Int) > 0) = true := decide_eq_true (by omega)
          rw [hp, this] at hd
          cases hd
        rw [← ht, hg, trimR_snoc, if_neg hz]

theorem trimLeft_spec (l : List UInt8) (hl : l.length ≤ 140737488351232) (h : Heap) : CallH Tryz.prog 244 [.string ⟨l.toArray⟩, .int .u8 0] h (fun v h' => Keeps [] h h' ∧ v = .string ⟨(l.dropWhile ez).toArray⟩) := by
  refine call_of hmix Tryz.func244 rfl ok244 (by simp [Tryz.f244]) ?_
  conv => whnf
  refine LoopR.on [0, 1] [] (fun i : Nat => [(0, .v (.string ⟨(l.drop i).toArray⟩)), (1, .v (.int .u8 0))]) (fun _ => []) (fun i h' => i ≤ l.length ∧ Keeps [] h h' ∧ (l.drop i).dropWhile ez = l.dropWhile ez) (fun i => l.length - i) 0 ?_ ?_
  · refine ⟨0, rfl, ?_, rfl, Nat.zero_le _, Keeps.refl _ _, by rw [List.drop_zero]⟩
    rw [List.drop_zero]
  · rintro i h1 ⟨hi, k1, ht⟩
    have hlen : (l.drop i).length = l.length - i := by rw [List.length_drop]
    by_cases h0 : i = l.length
    · have hnil : l.drop i = [] := List.drop_eq_nil_of_le (by omega)
      rw [hnil] at ht ⊢
      conv => whnf
      refine IdxR.u 0 (fun hx => by simp [ByteArray.size] at hx) ?_
      conv => whnf
      refine IfR.f (by simp [ByteArray.size]) ?_
      conv => whnf
      refine ⟨k1, ?_⟩
      rw [← ht]; rfl
    · have hg : l.drop i = l[i]'(by omega) :: l.drop (i + 1) := List.drop_eq_getElem_cons (by omega)
      conv => whnf
      refine IdxR.u 0 (fun _ => ⟨rfl, by rw [bs_size]; omega⟩) ?_
      have hb : byteN ⟨(l.drop i).toArray⟩ 0 = ((l[i]'(by omega)).toNat : Int) := by
        rw [bs_get, hg]; rfl
      conv => whnf
      refine IfR.i (fun hd => ?_) (fun hd => ?_)
      · have hz : l[i]'(by omega) = 0 := by
          have : byteN ⟨(l.drop i).toArray⟩ 0 = 0 := by simp [bif_and] at hd; exact hd.2
          rw [hb] at this
          exact UInt8.toNat_inj.1 (by have h2 : (UInt8.toNat 0) = 0 := rfl; omega)
        conv => whnf
        refine SliceR.i 1 (l.length - i) rfl (by rw [bs_size, hlen]) (by omega) (by rw [bs_size]; omega) ?_
        conv => whnf
        refine ⟨l.length - (i + 1), by omega, ?_⟩
        conv => whnf
        refine ⟨i + 1, rfl, ?_, rfl, by omega, k1, ?_⟩
        · rw [bs_extract, ← hlen, List.take_length, List.drop_drop]
        · rw [← ht, hg, List.dropWhile_cons, if_pos (by simp [ez, hz])]
      · conv => whnf
        refine ⟨k1, ?_⟩
        have hz : ¬ l[i]'(by omega) = 0 := by
          intro e
          have : byteN ⟨(l.drop i).toArray⟩ 0 = 0 := by rw [hb, e]; rfl
          have hpos : 0 < (ByteArray.mk (l.drop i).toArray).size := by rw [bs_size, hlen]; omega
          have hp : decide (((ByteArray.mk (l.drop i).toArray).size : Int) > 0) = true := decide_eq_true (by omega)
          rw [hp, this] at hd
          cases hd
        rw [← ht, hg, List.dropWhile_cons, if_neg (by simp [ez, hz])]

theorem trimR_len (l : List UInt8) : (trimR l).length ≤ l.length := by
  unfold trimR
  rw [List.length_reverse]
  exact Nat.le_trans (List.IsSuffix.length_le (List.dropWhile_suffix _)) (by simp)

theorem trim_spec (l : List UInt8) (hl : l.length ≤ 140737488351232) (h : Heap) : CallH Tryz.prog 219 [.string ⟨l.toArray⟩, .string ⟨#[0]⟩] h (fun v h' => Keeps [] h h' ∧ v = .string ⟨(trimZ l).toArray⟩) := by
  have e0 : (ByteArray.mk #[]) = ⟨([] : List UInt8).toArray⟩ := rfl
  refine call_of hmix Tryz.func219 rfl ok219 (by simp [Tryz.f219]) ?_
  conv => whnf
  refine IfR.i (fun h1 => ?_) (fun h1 => ?_)
  · conv => whnf
    refine ⟨Keeps.refl _ _, ?_⟩
    have : l = [] := by
      rw [e0, bs_eq] at h1
      by_cases h : l = []
      · exact h
      · simp [h] at h1
    subst this; rfl
  · conv => whnf
    refine IdxR.u 0 (fun _ => ⟨rfl, by decide⟩) ?_
    conv => whnf
    refine IfR.t (by decide) ?_
    conv => whnf
    refine IdxR.i 0 rfl (by decide) ?_
    conv => whnf
    refine IdxR.i 0 rfl (by decide) ?_
    conv => whnf
    refine CallR.i (trimRight_spec l hl h) fun v h2 k2 hv => ?_
    subst hv
    conv => whnf
    refine CallR.i (trimLeft_spec (trimR l) (Nat.le_trans (trimR_len l) hl) h2) fun v h3 k3 hv => ?_
    subst hv
    conv => whnf
    exact ⟨k2.trans k3, rfl⟩
end Go.Proofs.YtkjkdnphikendaaGreatDoor
/-
  A directory's entries, in a block's words.
-/
set_option linter.all false
set_option maxRecDepth 100000
set_option maxHeartbeats 1000000
namespace Go.Proofs.YtkjkdnphikendaaGreatDoor
open Go Go.Eng

/-- a name of a directory, and its file's number -/
structure Ent where
  name : List UInt8
  node : Int
deriving DecidableEq, Inhabited
def Ent.ok (e : Ent) : Prop := e.name.length ≤ 140737488351232 ∧ inI64 e.node
def Ent.cells (e : Ent) : List Value := [.string ⟨e.name.toArray⟩, .int .i64 e.node]
instance : Rp Ent where
  n := 2
  rep _ vs x := vs = x.cells ∧ x.ok
  len h := by rw [h.1]; rfl
  keep _ h := h
instance : Flat Ent := ⟨fun h => h⟩

theorem slot_spec (b k : Nat) (hk : k < 5) (h : Heap) : CallH Tryz.prog 176 [.slice (some ⟨b, 0, none⟩) 16 16, .int .i64 (k : Int)] h (fun v h' => Keeps [] h h' ∧ v = .slice (some ⟨b, 3 * k, none⟩) 3 3) := by
  have hk' : k = 0 ∨ k = 1 ∨ k = 2 ∨ k = 3 ∨ k = 4 := by omega
  rcases hk' with rfl | rfl | rfl | rfl | rfl
  all_goals
    refine call_of hmix Tryz.func176 rfl ok176 (by simp [Tryz.f176]) ?_
    conv => whnf
    refine PureR.i (fun w => rfl) ?_
    conv => whnf
    exact ⟨Keeps.refl _ _, rfl⟩

def wAt (ws : List UInt64) (i : Nat) : UInt64 := ws[i]?.getD 0
theorem nth_w {ws : List UInt64} {i : Nat} (hi : i < ws.length) : nth (ws.map wv) i = some (wv (wAt ws i)) := by
  rw [nth_eq]; simp [wAt, hi]

theorem slW {h : Heap} {b : Nat} {ws : List UInt64} {T : TypeId} {fz : Nat × Nat} (o : h[b]? = some (.cells ⟨ws.map wv⟩ T fz)) (off n : Nat) (hn : off + n ≤ ws.length) (hb : n ≤ 1000000) : Sl h (some ⟨b, off, none⟩) n n ((ws.drop off).take n) := by
  have hl : ((ws.drop off).take n).length = n := by simp; omega
  refine ⟨hl.symm, Nat.le_refl _, by omega, fun i hi => ⟨b, off, rfl, [wv _], rfl, fun j hj => ?_⟩⟩
  have : j = 0 := by simpa using hj
  subst this
  rw [hl] at hi
  show Heap.cell? h b (off + i * 1 + 0) = _
  rw [show off + i * 1 + 0 = off + i by omega]
  unfold Heap.cell?
  rw [o]
  simp
  refine ⟨_, ?_, rfl⟩
  rw [List.getElem?_eq_getElem (by omega)]

def emptyB (ws : List UInt64) (k : Nat) : Bool := decide (wAt ws (3 * k) = 0) && decide (wAt ws (3 * k + 1) = 0) && decide (wAt ws (3 * k + 2) = 0)

theorem empty_spec {h : Heap} {b : Nat} {ws : List UInt64} {T : TypeId} {fz : Nat × Nat} (o : h[b]? = some (.cells ⟨ws.map wv⟩ T fz)) (hl : ws.length = 16) (k : Nat) (hk : k < 5) : CallH Tryz.prog 175 [.slice (some ⟨b, 3 * k, none⟩) 3 3] h (fun v h' => Keeps [] h h' ∧ v = .bool (emptyB ws k)) := by
  refine call_of hmix Tryz.func175 rfl ok175 (by simp [Tryz.f175]) ?_
  conv => whnf
  refine IdxS.i 0 rfl (by decide) rfl ?_
  conv => whnf
  refine LoadR.o o (nth_w (i := 3 * k + 0 * 1) (by omega)) ?_
  conv => whnf
  refine IdxS.i 1 rfl (by decide) rfl ?_
  conv => whnf
  refine LoadR.o o (nth_w (i := 3 * k + 1 * 1) (by omega)) ?_
  conv => whnf
  refine IdxS.i 2 rfl (by decide) rfl ?_
  conv => whnf
  refine LoadR.o o (nth_w (i := 3 * k + 2 * 1) (by omega)) ?_
  conv => whnf
  refine ⟨Keeps.refl _ _, ?_⟩
  have e := wv_zero
  unfold emptyB
  rw [← e, ← e, ← e, bif_and, bif_and]
  rfl

/-- an entry's bytes, its name, its number -/
def entT (ws : List UInt64) (k : Nat) : List UInt8 := untextL [wAt ws (3 * k + 1), wAt ws (3 * k + 2)] 16
def entN (ws : List UInt64) (k : Nat) : List UInt8 := cutA (entT ws k)
def entV (ws : List UInt64) (k : Nat) : Int := IntKind.i64.wrap ((wAt ws (3 * k)).toNat : Int)
def entE (ws : List UInt64) (k : Nat) : Ent := ⟨entN ws k, entV ws k⟩
def entB (ws : List UInt64) (k place : Nat) : Bool := (cutB (entT ws k)).all ez && (nameB (entN ws k) && (decide (bucketL (entN ws k) = place % 8) && (decide (1 ≤ (wAt ws (3 * k)).toNat) && decide ((wAt ws (3 * k)).toNat < 24))))

theorem entT_len (ws : List UInt64) (k : Nat) : (entT ws k).length = 16 := by simp [entT, untextL]
theorem entN_len (ws : List UInt64) (k : Nat) : (entN ws k).length ≤ 16 := by
  have := cutA_len (entT ws k)
  rw [entT_len] at this; exact this
theorem cutB_len (l : List UInt8) : (cutB l).length ≤ l.length := by
  unfold cutB
  rw [List.length_drop]
  have := (List.dropWhile_suffix nz (l := l)).length_le
  omega

theorem entry_spec {h : Heap} {b : Nat} {ws : List UInt64} {T : TypeId} {fz : Nat × Nat} (o : h[b]? = some (.cells ⟨ws.map wv⟩ T fz)) (hl : ws.length = 16) (k place : Nat) (hk : k < 5) (hp : place < 1000000) :
    CallH Tryz.prog 177 [.slice (some ⟨b, 3 * k, none⟩) 3 3, .int .i64 (place : Int)] h (fun v h' => Keeps [] h h' ∧ v = .tuple #[.agg ⟨(entE ws k).cells⟩, .bool (entB ws k place)]) := by
  refine call_of hmix Tryz.func177 rfl ok177 (by simp [Tryz.f177]) ?_
  conv => whnf
  refine AllocR.i fun b1 h1 e1 s1 o1 k1 => ?_
  conv => whnf
  refine SliceR.i 1 3 rfl rfl (by decide) (by decide) ?_
  have S := slW (k1.obj o (by simp)) (3 * k + 1) 2 (by omega) (by decide)
  have hw2 : (ws.drop (3 * k + 1)).take 2 = [wAt ws (3 * k + 1), wAt ws (3 * k + 2)] := by
    apply List.ext_getElem
    · simp; omega
    · intro i i1 i2
      have : i = 0 ∨ i = 1 := by simp at i2; omega
      rcases this with rfl | rfl <;> simp [wAt]
      · rw [List.getElem?_eq_getElem (by omega)]; rfl
      · rw [List.getElem?_eq_getElem (by omega)]; rfl
  rw [hw2] at S
  conv => whnf
  refine CallR.i (untext_spec S 16 (by decide) (by decide)) fun v h2 k2 hv => ?_
  subst hv
  have ht : untextL [wAt ws (3 * k + 1), wAt ws (3 * k + 2)] 16 = entT ws k := rfl
  rw [ht]
  have hlen := entT_len ws k
  conv => whnf
  refine CallR.i (cut0_spec (entT ws k) (by omega) h2) fun v h3 k3 hv => ?_
  obtain ⟨bb, rfl⟩ := hv
  have hlb := cutB_len (entT ws k)
  have hla := entN_len ws k
  have hn : cutA (entT ws k) = entN ws k := rfl
  rw [hn]
  have o3 := ((k1.trans k2).trans k3).obj o (by simp)
  conv => whnf
  refine IfR.t rfl ?_
  conv => whnf
  refine CallR.i (trim_spec (cutB (entT ws k)) (by omega) h3) fun v h4 k4 hv => ?_
  subst hv
  have e0 : (ByteArray.mk #[]) = ⟨([] : List UInt8).toArray⟩ := rfl
  have hz : ((ByteArray.mk (trimZ (cutB (entT ws k))).toArray).toList == (ByteArray.mk #[]).toList) = (cutB (entT ws k)).all ez := by
    rw [e0, bs_eq]
    have := trimZ_nil (cutB (entT ws k))
    cases hx : (cutB (entT ws k)).all ez
    · rw [hx] at this; simp at this; exact decide_eq_false this
    · rw [hx] at this; simp at this; exact decide_eq_true this
  have k14 := ((k1.trans k2).trans k3).trans k4
  have o4 := k14.obj o (by simp)
  have n0 : nth (ws.map wv) (3 * k + 0 * 1) = some (wv (wAt ws (3 * k))) := nth_w (i := 3 * k + 0 * 1) (by omega)
  have hrem : (place : Int).tmod 8 = ((place % 8 : Nat) : Int) := by rw [Int.tmod_eq_emod_of_nonneg (by omega)]; omega
  have fin : ∀ (h' : Heap) (x : Bool), Keeps [] h h' → x = ((cutB (entT ws k)).all ez && (nameB (entN ws k) && decide (bucketL (entN ws k) = place % 8))) →
      Keeps [] h h' ∧ (Value.tuple #[.agg ⟨[.string ⟨(entN ws k).toArray⟩, .int .i64 (IntKind.i64.wrap ((wAt ws (3 * k)).toNat : Int))]⟩, .bool (bif (bif x then decide (((wAt ws (3 * k)).toNat : Int) ≥ 1) else false) then decide (((wAt ws (3 * k)).toNat : Int) < 24) else false)]) = .tuple #[.agg ⟨(entE ws k).cells⟩, .bool (entB ws k place)] := by
    intro h' x kk hx
    refine ⟨kk, ?_⟩
    have e1 : decide (((wAt ws (3 * k)).toNat : Int) ≥ 1) = decide (1 ≤ (wAt ws (3 * k)).toNat) := decide_eq_decide.2 (by omega)
    have e2 : decide (((wAt ws (3 * k)).toNat : Int) < 24) = decide ((wAt ws (3 * k)).toNat < 24) := decide_eq_decide.2 (by omega)
    rw [e1, e2, hx, bif_and, bif_and]
    unfold entB
    simp only [Bool.and_assoc]
    rfl
  have nb : b ∉ [b1] := by have := obj_lt o; simp; omega
  have z4 := ((k2.trans k3).trans k4).size
  conv => whnf
  refine IfR.i (fun h5 => ?_) (fun h5 => ?_)
  · have g5 : (cutB (entT ws k)).all ez = true := by rw [← hz]; exact h5
    conv => whnf
    refine CallR.i (right4_spec (entN ws k) (by omega) h4) fun v h6 k6 hv => ?_
    subst hv
    have o6 := k6.obj o4 (by simp)
    conv => whnf
    refine IfR.i (fun h7 => ?_) (fun h7 => ?_)
    · have g7 : nameB (entN ws k) = true := by rw [bif_and] at h7; simpa using (Bool.and_eq_true _ _ ▸ h7).2
      conv => whnf
      refine CallR.i (bucket_spec (entN ws k) (by omega) h6) fun v h8 k8 hv => ?_
      subst hv
      have o8 := k8.obj o6 (by simp)
      have z6 := k6.size
      have z8 := k8.size
      conv => whnf
      refine Need.i (by decide) ?_
      repeat' ((conv => whnf); first | refine IdxS.i 0 rfl (by decide) rfl ?_ | refine LoadR.o o8 n0 ?_ | refine LoadR.o ((by assumption : Keeps [b1] h8 _).obj o8 nb) n0 ?_ | refine BothR.i ?_ ?_ | refine BoxR.i fun h9 s9 k9 => ?_)
      all_goals
        conv => whnf
        refine fin _ _ (((k14.trans k6).trans k8).new1 k9 (by omega)) ?_
        rw [hz, g5, g7, hrem]
        simp
        rw [Bool.eq_iff_iff]; simp; omega
    · have g7 : nameB (entN ws k) = false := by rw [h5] at h7; simpa using h7
      repeat' ((conv => whnf); first | refine Need.i (by decide) ?_ | refine IdxS.i 0 rfl (by decide) rfl ?_ | refine LoadR.o o6 n0 ?_ | refine LoadR.o ((by assumption : Keeps [b1] h6 _).obj o6 nb) n0 ?_ | refine BothR.i ?_ ?_ | refine BoxR.i fun h9 s9 k9 => ?_)
      all_goals
        conv => whnf
        have z6 := k6.size
        refine fin _ _ ((k14.trans k6).new1 k9 (by omega)) ?_
        rw [hz, g5, g7]
        simp
  · have g5 : (cutB (entT ws k)).all ez = false := by rw [← hz]; exact h5
    conv => whnf
    refine IfR.f ?_ ?_
    · rw [h5]; rfl
    repeat' ((conv => whnf); first | refine Need.i (by decide) ?_ | refine IdxS.i 0 rfl (by decide) rfl ?_ | refine LoadR.o o4 n0 ?_ | refine LoadR.o ((by assumption : Keeps [b1] h4 _).obj o4 nb) n0 ?_ | refine BothR.i ?_ ?_ | refine BoxR.i fun h9 s9 k9 => ?_)
    all_goals
      conv => whnf
      refine fin _ _ (k14.new1 k9 (by omega)) ?_
      rw [hz, g5]
      simp
end Go.Proofs.YtkjkdnphikendaaGreatDoor
/-
  The library's sort of entries, laid at this program (made by wip/tools/laysrt.py).
-/
set_option linter.all false
namespace Go.Proofs.YtkjkdnphikendaaGreatDoor
open Go Go.Shelf
def srtE_ren : Go.Shelf.Ren := ⟨fun | 6 => 178 | 15 => 206 | 14 => 220 | 28 => 236 | 29 => 212 | 20 => 251 | 21 => 252 | 22 => 253 | 23 => 254 | 24 => 255 | 25 => 256 | 26 => 257 | 27 => 258 | 46 => 282 | 47 => 262 | 48 => 263 | 49 => 283 | 50 => 284 | 57 => 294 | n => n, fun | 22 => 50 | 24 => 92 | 25 => 246 | 3 => 3 | 39 => 258 | 0 => 0 | 53 => 281 | 55 => 56 | 4 => 4 | 46 => 291 | 45 => 290 | 50 => 192 | 5 => 5 | 9 => 9 | 66 => 315 | 70 => 319 | 76 => 330 | 77 => 331 | n => n, fun n => n⟩
theorem srtE : SlLaysF0.n6 Tryz.prog srtE_ren := {
  mixed := by kernel_rfl,
  f6 := ⟨Tryz.f178.name, by decide, Tryz.func178.trans (congrArg some (by kernel_rfl))⟩,
  f14 := ⟨Tryz.f220.name, by decide, Tryz.func220.trans (congrArg some (by kernel_rfl))⟩,
  f15 := Tryz.func206.trans (congrArg some (by kernel_rfl)),
  f20 := ⟨Tryz.f251.name, by decide, Tryz.func251.trans (congrArg some (by kernel_rfl))⟩,
  f21 := ⟨Tryz.f252.name, by decide, Tryz.func252.trans (congrArg some (by kernel_rfl))⟩,
  f22 := ⟨Tryz.f253.name, by decide, Tryz.func253.trans (congrArg some (by kernel_rfl))⟩,
  f23 := ⟨Tryz.f254.name, by decide, Tryz.func254.trans (congrArg some (by kernel_rfl))⟩,
  f24 := ⟨Tryz.f255.name, by decide, Tryz.func255.trans (congrArg some (by kernel_rfl))⟩,
  f25 := ⟨Tryz.f256.name, by decide, Tryz.func256.trans (congrArg some (by kernel_rfl))⟩,
  f26 := ⟨Tryz.f257.name, by decide, Tryz.func257.trans (congrArg some (by kernel_rfl))⟩,
  f27 := ⟨Tryz.f258.name, by decide, Tryz.func258.trans (congrArg some (by kernel_rfl))⟩,
  f28 := Tryz.func236.trans (congrArg some (by kernel_rfl)),
  f29 := Tryz.func212.trans (congrArg some (by kernel_rfl)),
  f46 := ⟨Tryz.f282.name, by decide, Tryz.func282.trans (congrArg some (by kernel_rfl))⟩,
  f47 := Tryz.func262.trans (congrArg some (by kernel_rfl)),
  f48 := Tryz.func263.trans (congrArg some (by kernel_rfl)),
  f49 := ⟨Tryz.f283.name, by decide, Tryz.func283.trans (congrArg some (by kernel_rfl))⟩,
  f50 := ⟨Tryz.f284.name, by decide, Tryz.func284.trans (congrArg some (by kernel_rfl))⟩,
  f57 := ⟨Tryz.f294.name, by decide, Tryz.func294.trans (congrArg some (by kernel_rfl))⟩,
  t0 := Tryz.underlying0,
  a0 := Tryz.isAgg0,
  z0 := Tryz.sizeOf0,
  v0 := Tryz.zeroValue0,
  t3 := Tryz.underlying3,
  a3 := Tryz.isAgg3,
  z3 := Tryz.sizeOf3,
  v3 := Tryz.zeroValue3,
  t4 := Tryz.underlying4,
  a4 := Tryz.isAgg4,
  z4 := Tryz.sizeOf4,
  v4 := Tryz.zeroValue4,
  t5 := Tryz.underlying5,
  a5 := Tryz.isAgg5,
  z5 := Tryz.sizeOf5,
  v5 := Tryz.zeroValue5,
  t9 := Tryz.underlying9,
  a9 := Tryz.isAgg9,
  z9 := Tryz.sizeOf9,
  v9 := Tryz.zeroValue9,
  t22 := Tryz.underlying50,
  a22 := Tryz.isAgg50,
  z22 := Tryz.sizeOf50,
  v22 := Tryz.zeroValue50,
  t25 := Tryz.underlying246,
  a25 := Tryz.isAgg246,
  z25 := Tryz.sizeOf246,
  v25 := Tryz.zeroValue246,
  t39 := Tryz.underlying258,
  a39 := Tryz.isAgg258,
  z39 := Tryz.sizeOf258,
  v39 := Tryz.zeroValue258,
  t45 := Tryz.underlying290,
  a45 := Tryz.isAgg290,
  z45 := Tryz.sizeOf290,
  v45 := Tryz.zeroValue290,
  t46 := Tryz.underlying291,
  a46 := Tryz.isAgg291,
  z46 := Tryz.sizeOf291,
  v46 := Tryz.zeroValue291,
  t50 := Tryz.underlying192,
  a50 := Tryz.isAgg192,
  z50 := Tryz.sizeOf192,
  v50 := Tryz.zeroValue192,
  t53 := Tryz.underlying281,
  a53 := Tryz.isAgg281,
  z53 := Tryz.sizeOf281,
  v53 := Tryz.zeroValue281,
  t55 := Tryz.underlying56,
  a55 := Tryz.isAgg56,
  z55 := Tryz.sizeOf56,
  v55 := Tryz.zeroValue56,
  t66 := Tryz.underlying315,
  a66 := Tryz.isAgg315,
  z66 := Tryz.sizeOf315,
  v66 := Tryz.zeroValue315,
  t70 := Tryz.underlying319,
  a70 := Tryz.isAgg319,
  z70 := Tryz.sizeOf319,
  v70 := Tryz.zeroValue319,
  t76 := Tryz.underlying330,
  a76 := Tryz.isAgg330,
  z76 := Tryz.sizeOf330,
  v76 := Tryz.zeroValue330,
  t77 := Tryz.underlying331,
  a77 := Tryz.isAgg331,
  z77 := Tryz.sizeOf331,
  v77 := Tryz.zeroValue331 }
end Go.Proofs.YtkjkdnphikendaaGreatDoor
/-
  What the library's sort does to a directory's entries.
-/
set_option linter.all false
set_option maxRecDepth 100000
set_option maxHeartbeats 2000000
namespace Go.Proofs.YtkjkdnphikendaaGreatDoor
open Go Go.Eng Go.Shelf Go.RowKit Go.Sort

/-! ### The order of texts -/

def blt (a b : List UInt8) : Bool := Op.bytesLess a b
theorem blt_irr : ∀ a : List UInt8, blt a a = false
  | [] => rfl
  | x :: a => by
    have := blt_irr a
    unfold blt at this ⊢
    simp [Op.bytesLess, this]
theorem blt_nil (a : List UInt8) : blt a [] = false := by cases a <;> rfl
theorem blt_cons (x y : UInt8) (a b : List UInt8) : blt (x :: a) (y :: b) = true ↔ x < y ∨ (x = y ∧ blt a b = true) := by
  unfold blt
  simp [Op.bytesLess]
theorem blt_trans : ∀ {a b c : List UInt8}, blt a b = true → blt b c = true → blt a c = true
  | a, [], _, h, _ => by rw [blt_nil] at h; cases h
  | _, _ :: _, [], _, h => by rw [blt_nil] at h; cases h
  | [], _ :: _, _ :: _, _, _ => rfl
  | x :: a, y :: b, z :: c, h, h' => by
    rw [blt_cons] at h h' ⊢
    rcases h with h | ⟨rfl, h⟩
    · rcases h' with h' | ⟨rfl, h'⟩
      · exact .inl (UInt8.lt_trans h h')
      · exact .inl h
    · rcases h' with h' | ⟨rfl, h'⟩
      · exact .inl h'
      · exact .inr ⟨rfl, blt_trans h h'⟩
theorem blt_tri : ∀ a b : List UInt8, blt a b = true ∨ a = b ∨ blt b a = true
  | [], [] => .inr (.inl rfl)
  | [], _ :: _ => .inl rfl
  | _ :: _, [] => .inr (.inr rfl)
  | x :: a, y :: b => by
    rw [blt_cons, blt_cons]
    by_cases h1 : x < y
    · exact .inl (.inl h1)
    by_cases h2 : y < x
    · exact .inr (.inr (.inl h2))
    have h : x = y := by
      apply UInt8.toNat_inj.1
      have g1 : ¬ x.toNat < y.toNat := h1
      have g2 : ¬ y.toNat < x.toNat := h2
      omega
    subst h
    rcases blt_tri a b with h | rfl | h
    · exact .inl (.inr ⟨rfl, h⟩)
    · exact .inr (.inl rfl)
    · exact .inr (.inr (.inr ⟨rfl, h⟩))
theorem blt_asym {a b : List UInt8} (h : blt a b = true) : blt b a = false := by
  rw [← Bool.not_eq_true]
  intro h'
  have := blt_trans h h'
  rw [blt_irr] at this; cases this

def cmpT (a b : List UInt8) : Int := if blt a b = true then -1 else if blt b a = true then 1 else 0
theorem cmpT_lt (a b : List UInt8) : decide (cmpT a b < 0) = blt a b := by
  unfold cmpT
  split
  · rename_i h; rw [h]; rfl
  · rename_i h
    have : blt a b = false := by simpa using h
    rw [this]
    split <;> rfl

theorem isNaN_calls (a : ByteArray) (W : World) : Calls Tryz.prog 221 #[.string a] W fun e w' => e = .returned (.bool false) ∧ w' = W := by
  go_enter Tryz.func221, Tryz.ntmps221
  go_wp2
  go_ret
  simp

theorem compare_calls (a b : List UInt8) (W : World) : Calls Tryz.prog 180 #[.string ⟨a.toArray⟩, .string ⟨b.toArray⟩] W fun e w' => e = .returned (.int .i64 (cmpT a b)) ∧ w' = W := by
  have hcon := fun x W' => isNaN_calls x W'
  have hlt : Op.bytesLess (ByteArray.mk a.toArray).toList (ByteArray.mk b.toArray).toList = blt a b := by
    rw [ByteArray.toList_mk, ByteArray.toList_mk]; rfl
  have heq : ((ByteArray.mk a.toArray).toList == (ByteArray.mk b.toArray).toList) = decide (a = b) := bs_eq a b
  have hc : cmpT a b = if blt a b = true then -1 else if (!(blt a b || decide (a = b))) = true then 1 else 0 := by
    unfold cmpT
    rcases blt_tri a b with h | rfl | h
    · rw [if_pos h, if_pos h]
    · simp [blt_irr]
    · have h1 := blt_asym h
      have h2 : ¬ a = b := by rintro rfl; rw [blt_irr] at h; cases h
      simp [h, h1, h2]
  rw [hc]
  go_enter Tryz.func180, Tryz.ntmps180
  go_wp2_with (go_at_call 221; refine (hcon _ _).mono ?_; rintro e w' ⟨rfl, rfl⟩)
  all_goals go_ret
  all_goals refine ⟨?_, rfl⟩
  all_goals first | rfl | (exfalso; unfold blt at *; simp_all)

/-! ### The sort -/

def cfE (x y : Ent) : Int := cmpT x.name y.name

theorem closureE (x y : Ent) (W : World) : Calls Tryz.prog 179 #[.agg ⟨x.cells⟩, .agg ⟨y.cells⟩] W fun e w' => e = .returned (.int .i64 (cfE x y)) ∧ ∃ q os', w' = grow (W.drewN q) os' := by
  obtain ⟨x, v⟩ := x
  obtain ⟨y, u⟩ := y
  unfold cfE Ent.cells
  simp only
  have hcon := fun W' => compare_calls x y W'
  generalize cmpT x y = r at hcon ⊢
  go_enter Tryz.func179, Tryz.ntmps179
  go_wp2_with (go_at_call 180; refine (hcon _).mono ?_; rintro e w' ⟨rfl, rfl⟩)
  go_ret
  exact ⟨rfl, 0, _, by rw [alloc_eq_grow, alloc_eq_grow, grow_grow]; rfl⟩

theorem ltE (x y : Ent) : ltOf cfE x y = blt x.name y.name := cmpT_lt _ _
theorem swoE : SWO (ltOf cfE) where
  irrefl x := by rw [ltE, blt_irr]
  trans x y z h1 h2 := by
    rw [ltE] at *
    exact blt_trans h1 h2
  ntrans x y z h1 h2 := by
    rw [ltE] at *
    rcases blt_tri x.name y.name with h | h | h
    · rw [h] at h1; cases h1
    · rw [h]; exact h2
    · rcases blt_tri y.name z.name with g | g | g
      · rw [g] at h2; cases h2
      · rw [← g]; exact h1
      · exact blt_asym (blt_trans g h)

def entC (l : List Ent) : List Value := l.flatMap Ent.cells
theorem entC_len (l : List Ent) : (entC l).length = l.length * 2 := by
  induction l with
  | nil => rfl
  | cons x l ih => simp only [entC, List.flatMap_cons, List.length_append, Ent.cells, List.length_cons, List.length_nil] at ih ⊢; omega
theorem entC_app (l m : List Ent) : entC (l ++ m) = entC l ++ entC m := by simp [entC]
theorem entC_get : ∀ (l : List Ent) (j : Nat) (h : j < l.length * 2), (entC l)[j]? = ((l[j / 2]'(by omega)).cells)[j % 2]?
  | [], j, h => by simp at h
  | x :: l, 0, h => rfl
  | x :: l, 1, h => rfl
  | x :: l, j + 2, h => by
    have h' : j < l.length * 2 := by simp at h; omega
    have ih := entC_get l j h'
    have e1 : (j + 2) / 2 = j / 2 + 1 := by omega
    have e2 : (j + 2) % 2 = j % 2 := by omega
    simp only [e1, e2, List.getElem_cons_succ]
    rw [← ih]
    rfl

theorem flat_ent (d : Array Ent) : flatK Ent.cells 2 d = ⟨entC d.toList⟩ := by
  have hl := entC_len d.toList
  simp at hl
  apply Array.ext
  · rw [size_flatK]
    show d.size * 2 = (entC d.toList).length
    omega
  · intro j h1 h2
    have hj : j < d.size * 2 := by rw [size_flatK] at h1; exact h1
    have g := entC_get d.toList j (by simpa using hj)
    have hd : j / 2 < d.size := by omega
    have hm : j % 2 < (Ent.cells d[j / 2]).length := by unfold Ent.cells; simp; omega
    have e1 := get_flatK Ent.cells 2 d j hj
    rw [getElem!_pos (flatK Ent.cells 2 d) j h1, getElem!_pos d (j / 2) hd, getElem!_pos (Ent.cells d[j / 2]) (j % 2) hm] at e1
    rw [e1]
    show _ = (entC d.toList)[j]
    have h3 : j < (entC d.toList).length := by omega
    rw [List.getElem?_eq_getElem h3] at g
    have g2 : (Ent.cells (d.toList[j / 2]'(by simpa using hd)))[j % 2]? = some (Ent.cells d[j / 2])[j % 2] := by
      rw [Array.getElem_toList]
      exact List.getElem?_eq_getElem hm
    rw [g2] at g
    exact (Option.some.inj g).symm

theorem sortE_spec {h : Heap} {a : Option Addr} {n c : Nat} {l : List Ent} (O : Own h 92 2 a n c (entC l)) (hlen : l.length ≤ 100000) :
    CallH Tryz.prog 178 [.slice a n c, .func (.func 179) #[] #[]] h (fun v h' => Keeps (blkA a) h h' ∧ v = .tuple #[] ∧ ∃ l', l'.Perm l ∧ l'.Pairwise (fun x y => blt y.name x.name = false) ∧ Own h' 92 2 a n c (entC l')) := by
  intro w hw
  subst hw
  have eg : ∀ args w, (callFunc 179 args).run Tryz.prog w = .ok (.enter 179 args) w := enters_of Tryz.func179 (by kernel_rfl) rfl
  have hcl := entC_len l
  rcases O with ⟨rfl, rfl, rfl, hl⟩ | ⟨b, cs, rfl, ho, ht, h1, h2, h3⟩
  · have : l = [] := List.eq_nil_of_length_eq_zero (by rw [hl] at hcl; simp at hcl; omega)
    subst this
    refine (AnyF.slices_SortFunc_none srtE none 0 (.func (.func 179) #[] #[]) w).mono fun e w' ⟨he, hw⟩ => ?_
    subst hw
    exact ⟨_, he, SameOut.refl _, Keeps.refl _ _, rfl, [], List.Perm.refl _, List.Pairwise.nil, .inl ⟨rfl, rfl, rfl, rfl⟩⟩
  · let d : Array Ent := l.toArray
    have hds : d.size = l.length := by simp [d]
    have hn : n = d.size := by omega
    subst hn
    have hfl : flatK Ent.cells 2 d = ⟨entC l⟩ := by rw [flat_ent]
    have hH : HoldsK Ent.cells 2 w b 0 d := by
      intro j hj
      rw [size_flatK] at hj
      have hjl : j < (entC l).length := by omega
      have hjc : j < cs.length := by
        have : d.size * 2 ≤ c * 2 := by omega
        omega
      constructor
      · have e : (flatK Ent.cells 2 d)[j]! = (entC l)[j] := by
          rw [hfl, getElem!_pos _ j (by simpa using hjl)]; rfl
        show w.cell? ⟨b, 0 + j, none⟩ = some (flatK Ent.cells 2 d)[j]!
        rw [e]
        have e2 : (entC l)[j] = cs[j] := by
          have : (cs.take (entC l).length)[j]? = (entC l)[j]? := by rw [ht]
          rw [List.getElem?_take, if_pos hjl, List.getElem?_eq_getElem hjc, List.getElem?_eq_getElem hjl] at this
          exact (Option.some.inj this).symm
        rw [e2]
        simp only [World.cell?, ho, Nat.zero_add]
        simp [hjc]
      · simp [World.frozen?, ho]
    have hblk : b < w.heap.size := obj_lt ho
    have hcmp : CmpLays Tryz.prog 179 #[] Ent.cells 2 cfE b 0 d.size w := fun _ _ _ _ x y => closureE x y _
    refine (AnyQ.slices_SortFunc srtE 2 Tryz.isAgg92 Tryz.sizeOf92 Ent.cells (fun _ => rfl) (fun x v hv => by simp [Ent.cells] at hv; rcases hv with rfl | rfl <;> rfl) cfE swoE 179 #[] b 0 c d w eg hcmp hH hblk (by omega)).mono fun e w' ⟨he, d', m, os, hp, hs, hw⟩ => ?_
    subst hw
    have hds' : d'.size = d.size := hp.1
    have hperm : d'.toList.Perm d.toList := by
      have := hp.2.2
      rw [Array.extract_eq_self_of_le (Nat.le_refl _)] at this
      rwa [← hds', Array.extract_eq_self_of_le (Nat.le_refl _)] at this
    have hheap : (sortWorldK Ent.cells 2 w b 0 m d' os).heap = w.heap.modify b (onCells (putCells id 0 (flatK Ent.cells 2 d'))) ++ os := rfl
    refine ⟨_, he, ⟨rfl, rfl, rfl⟩, ⟨?_, ?_⟩, rfl, d'.toList, ?_, ?_, ?_⟩
    · rw [hheap]; simp
    · intro x hx hxb
      rw [hheap, Array.getElem?_append_left (by simpa using hx), Array.getElem?_modify]
      simp [blkA] at hxb
      rw [if_neg (fun e => hxb e.symm)]
    · exact hperm
    · rw [List.pairwise_iff_getElem]
      intro i j hi hj hij
      have hj2 : j < d'.size := by simpa using hj
      have hi2 : i < d'.size := by omega
      have := hs i j (Nat.zero_le _) hij (by omega)
      rw [getElem!_pos d' i hi2, getElem!_pos d' j hj2, ltE] at this
      simpa only [Array.getElem_toList] using this
    · refine .inr ⟨b, (putCells id 0 (flatK Ent.cells 2 d') ⟨cs⟩).toList, rfl, ?_, ?_, ?_, ?_, h3⟩
      · rw [hheap, Array.getElem?_append_left (by simpa using hblk), Array.getElem?_modify, if_pos rfl, ho]
        rfl
      · have hl2 := entC_len d'.toList
        simp at hl2
        rw [flat_ent]
        apply List.ext_getElem
        · simp [putCells]; omega
        · intro j hj1 hj2
          have hjc : j < cs.length := by simp [putCells] at hj1; omega
          simp only [List.getElem_take, putCells, Array.toList_mapIdx, List.getElem_mapIdx]
          rw [if_pos ⟨Nat.zero_le _, by simpa using hj2⟩]
          simp only [id, Nat.sub_zero]
          rw [getElem!_pos _ j (by simpa using hj2)]
          rfl
      · simp [putCells]; exact h1
      · rw [entC_len]; simp [hds']
end Go.Proofs.YtkjkdnphikendaaGreatDoor
/-
  A directory's entries: finding, copying, leaving out what is the same.
-/
set_option linter.all false
set_option maxRecDepth 100000
set_option maxHeartbeats 1000000
namespace Go.Proofs.YtkjkdnphikendaaGreatDoor
open Go Go.Eng

theorem allOne_repL (l : List Value) (h : allOne l = true) : ∀ n, allOne (repL n l) = true
  | 0 => rfl
  | n + 1 => by
    have app : ∀ a b : List Value, allOne a = true → allOne b = true → allOne (a ++ b) = true := by
      intro a b ha hb
      induction a with
      | nil => exact hb
      | cons x a ih =>
        simp only [List.cons_append, allOne] at ha ⊢
        split
        · rename_i hx; rw [hx] at ha; exact ih ha
        · rename_i hx; rw [hx] at ha; cases ha
    exact app _ _ h (allOne_repL l h n)

theorem _root_.Go.Eng.SemR.clear {P : Program} {t e ty : TypeId} {zl : List Value} {s : Nat} (ht : P.underlying t = some (.slice e)) (hz : zeroCellsL P e = some zl) (hs : zl.length = s) (hp : 0 < s) (h1 : allOne zl = true)
    {h : Heap} {b off n cap : Nat} {L : List Value} {T : TypeId} (o : h[b]? = some (.cells ⟨L⟩ T (0, 0))) (hn : 0 < n) (hl : off + n * s ≤ L.length) {bs : List Nat} (hb : b ∉ bs) {K : Value → Heap → Prop}
    (H : ∀ h' L', L'.length = L.length → h'.size = h.size → h'[b]? = some (.cells ⟨L'⟩ T (0, 0)) → Keeps [b] h h' → K (.tuple #[]) h') :
    SemR P (Builtin.clear_ #[t] ty ⟨[.slice (some ⟨b, off, none⟩) n cap]⟩) bs h K := by
  unfold SemR
  intro hlt w hw
  subst hw
  obtain ⟨z, hzr, hzc⟩ := zeroCellsL_run hz w
  have hzz : (Builtin.zeroCells z.cells n).toList = repL n zl := by
    rw [hzc]
    unfold Builtin.zeroCells
    have e2 : (⟨zl⟩ : Array Value).size = s := hs
    have := congrArg Array.toList (repL_eq n s zl hs hp)
    rw [e2] at this ⊢
    exact this
  have hlen : (repL n zl).length = n * s := repL_length n s zl hs
  obtain ⟨w', r1, r2, r3, r4, r5⟩ := store_cells (P := P) (b := b) (T := T) (repL n zl) 0 off L w (allOne_one' (allOne_repL zl h1 n)) (by rw [hlen]; omega) o
  refine ⟨.tuple #[], w', ?_, r2, fun x hx => r5 x (fun e => hb (e ▸ hx)), H _ _ ?_ r3 r4 ⟨by omega, fun x _ hx => r5 x (by simpa using hx)⟩⟩
  · obtain ⟨m, rfl⟩ : ∃ m, n = m + 1 := ⟨n - 1, by omega⟩
    simp [Builtin.clear_, run_underlying ht, hzr, hzz, r1]
  · rw [spliceL_length]

/-! ### Find -/

def findE (l : List Ent) (name : List UInt8) : Option Ent := l.find? fun e => decide (e.name = name)
def idxE (name : List UInt8) : List Ent → Nat → Int
  | [], _ => -1
  | x :: l, i => if x.name = name then (i : Int) else idxE name l (i + 1)

theorem idxE_find (name : List UInt8) : ∀ (l : List Ent) (i : Nat), (idxE name l i = -1 ∧ findE l name = none) ∨ (∃ j : Nat, ∃ hj : j < l.length, idxE name l i = ((i + j : Nat) : Int) ∧ findE l name = some l[j])
  | [], i => .inl ⟨rfl, rfl⟩
  | x :: l, i => by
    unfold idxE findE
    by_cases hx : x.name = name
    · rw [if_pos hx]
      exact .inr ⟨0, by simp, by simp, by simp [hx]⟩
    · rw [if_neg hx]
      rcases idxE_find name l (i + 1) with ⟨h1, h2⟩ | ⟨j, hj, h1, h2⟩
      · refine .inl ⟨h1, ?_⟩
        rw [List.find?_cons, decide_eq_false hx]
        exact h2
      · refine .inr ⟨j + 1, by simpa using hj, by rw [h1]; congr 1; omega, ?_⟩
        rw [List.find?_cons, decide_eq_false hx]
        exact h2

theorem findC_spec (x : Ent) {q : Nat} {name : List UInt8} {h : Heap} (hq : h[q]? = some (.cells ⟨[.string ⟨name.toArray⟩]⟩ 9 (0, 0))) : CallH Tryz.prog 185 [.agg ⟨x.cells⟩, .pointer (some ⟨q, 0, none⟩)] h (fun v h' => Keeps [] h h' ∧ v = .bool (decide (x.name = name))) := by
  refine call_of hmix Tryz.func185 rfl ok185 (by simp [Tryz.f185]) ?_
  conv => whnf
  refine AllocR.i fun b1 h1 e1 s1 o1 k1 => ?_
  conv => whnf
  refine LoadR.o (k1.obj hq (by simp)) rfl ?_
  conv => whnf
  refine ⟨k1, ?_⟩
  rw [bs_eq]

theorem indexE_spec {q : Nat} {name : List UInt8} {h : Heap} (hq : h[q]? = some (.cells ⟨[.string ⟨name.toArray⟩]⟩ 9 (0, 0))) {a : Option Addr} {n c : Nat} {xs : List Ent} (S : Sl h a n c xs) (hn : n ≤ 1000000000) :
    CallH Tryz.prog 184 [.slice a n c, .func (.func 185) #[] #[.pointer (some ⟨q, 0, none⟩)]] h (fun v h' => Keeps [] h h' ∧ v = .int .i64 (idxE name xs 0)) := by
  have hl := S.hlen
  refine call_of hmix Tryz.func184 rfl ok184 (by simp [Tryz.f184]) ?_
  conv => whnf
  refine LoopR.on [0, 1, 7, 8] [] (fun i : Nat => [(0, .v (.slice a n c)), (1, .v (.func (.func 185) #[] #[.pointer (some ⟨q, 0, none⟩)])), (7, .v (.int .i64 (n : Int))), (8, .v (.int .i64 (i : Int)))]) (fun _ => [])
    (fun i h' => i ≤ n ∧ Keeps [] h h' ∧ idxE name xs 0 = idxE name (xs.drop i) i) (fun i => n - i) 0 ?_ ?_
  · conv => whnf
    exact ⟨0, rfl, rfl, rfl, Nat.zero_le _, Keeps.refl _ _, rfl⟩
  · rintro i h2 ⟨hi, k2, hI⟩
    conv => whnf
    refine IfR.i (fun hc => ?_) (fun hc => ?_)
    · have hi1 : i < xs.length := by simp at hc; omega
      obtain ⟨b, off, hb, cs, ⟨hcs, hok⟩, hcell⟩ := (S.keep k2).at_ i hi1
      subst hcs
      rw [List.drop_eq_getElem_cons hi1] at hI
      have hx : idxE name (xs[i] :: xs.drop (i + 1)) i = if xs[i].name = name then (i : Int) else idxE name (xs.drop (i + 1)) (i + 1) := rfl
      rw [hx] at hI
      conv => whnf
      refine IdxS.i i rfl (by omega) hb ?_
      conv => whnf
      refine LoadN.i (vs := xs[i].cells) rfl hcell ?_
      conv => whnf
      refine CallR.i (findC_spec xs[i] (k2.obj hq (by simp))) fun v h3 k3 hv => ?_
      subst hv
      conv => whnf
      refine IfR.i (fun hd => ?_) (fun hd => ?_)
      · conv => whnf
        rw [if_pos (by simpa using hd)] at hI
        exact ⟨k2.trans k3, by rw [hI]⟩
      · rw [if_neg (by simpa using hd)] at hI
        conv => whnf
        refine ⟨n - (i + 1), by omega, ?_⟩
        conv => whnf
        refine ⟨i + 1, rfl, by rw [wrapN (n := i + 1) (by simp) (by omega)], rfl, by omega, k2.trans k3, hI⟩
    · have hi1 : i = xs.length := by simp at hc; omega
      conv => whnf
      refine ⟨k2, ?_⟩
      rw [hI, hi1, List.drop_length]; rfl

/-- what 'find' tells -/
def findR (l : List Ent) (name : List UInt8) : Int × Bool := match findE l name with | some e => (e.node, true) | none => (0, false)

theorem find_spec {h : Heap} {a : Option Addr} {n c : Nat} {xs : List Ent} (S : Sl h a n c xs) (hn : n ≤ 1000000000) (name : List UInt8) :
    CallH Tryz.prog 129 [.slice a n c, .string ⟨name.toArray⟩] h (fun v h' => Keeps [] h h' ∧ v = .tuple #[.int .i64 (findR xs name).1, .bool (findR xs name).2]) := by
  have hl := S.hlen
  refine call_of hmix Tryz.func129 rfl ok129 (by simp [Tryz.f129]) ?_
  conv => whnf
  refine AllocR.i fun b1 h1 e1 s1 o1 k1 => ?_
  conv => whnf
  refine CallR.i (indexE_spec o1 (S.keep k1) hn) fun v h2 k2 hv => ?_
  subst hv
  have k02 := k1.trans k2
  rcases idxE_find name xs 0 with ⟨g1, g2⟩ | ⟨j, hj, g1, g2⟩
  · conv => whnf
    refine IfR.t (by rw [g1]; rfl) ?_
    conv => whnf
    refine ⟨k02, ?_⟩
    unfold findR; rw [g2]
  · conv => whnf
    refine IfR.f (by rw [g1]; simp) ?_
    obtain ⟨b, off, hb, cs, ⟨hcs, hok⟩, hcell⟩ := (S.keep k02).at_ j hj
    subst hcs
    conv => whnf
    refine IdxS.i j (by rw [g1]; simp) (by omega) hb ?_
    conv => whnf
    refine LoadR.i (v := .int .i64 xs[j].node) (hcell 1 (by simp [Ent.cells])) ?_
    conv => whnf
    refine ⟨k02, ?_⟩
    unfold findR; rw [g2]
end Go.Proofs.YtkjkdnphikendaaGreatDoor
/-
  A directory's entries: a copy; what is the same next to one another.
-/
set_option linter.all false
set_option maxRecDepth 100000
set_option maxHeartbeats 1000000
namespace Go.Proofs.YtkjkdnphikendaaGreatDoor
open Go Go.Eng

theorem reps_ent {h : Heap} : ∀ l : List Ent, (∀ e ∈ l, e.ok) → Reps h (entC l) l
  | [], _ => rfl
  | e :: l, hok => ⟨e.cells, entC l, rfl, ⟨rfl, hok e (by simp)⟩, reps_ent l fun x hx => hok x (by simp [hx])⟩
theorem own_ents {h : Heap} {a : Option Addr} {n c : Nat} {l : List Ent} (O : Own h 92 2 a n c (entC l)) (hok : ∀ e ∈ l, e.ok) (hb : l.length ≤ 1000000) : Sl h a n c l := O.sl (reps_ent l hok) rfl (by decide) (by omega)
theorem own_len' {h : Heap} {a : Option Addr} {n c : Nat} {l : List Ent} (O : Own h 92 2 a n c (entC l)) : n = l.length := by
  have := entC_len l
  rcases O with ⟨_, rfl, _, hl⟩ | ⟨b, cs, _, _, _, _, h2, _⟩
  · rw [hl] at this; simp at this; omega
  · omega
theorem allOne_ent : ∀ l : List Ent, allOne (entC l) = true
  | [] => rfl
  | e :: l => allOne_ent l

theorem cloneE_spec {h : Heap} {a : Option Addr} {n c : Nat} {l : List Ent} (O : Own h 92 2 a n c (entC l)) (hok : ∀ e ∈ l, e.ok) (hlen : l.length ≤ 100000) :
    CallH Tryz.prog 182 [.slice a n c] h (fun v h' => Keeps [] h h' ∧ ∃ a' c', v = .slice a' n c' ∧ Own h' 92 2 a' n c' (entC l) ∧ ∀ b ∈ blkA a', h.size ≤ b) := by
  have hn := own_len' O
  have S := own_ents O hok (by omega)
  refine call_of hmix Tryz.func182 rfl ok182 (by simp [Tryz.f182]) ?_
  conv => whnf
  rcases O with ⟨rfl, rfl, rfl, hl⟩ | ⟨b, cs, rfl, ho, ht, h1, h2, h3⟩
  · refine IfR.t rfl ?_
    conv => whnf
    exact ⟨Keeps.refl _ _, none, 0, rfl, .inl ⟨rfl, rfl, rfl, hl⟩, by simp [blkA]⟩
  · refine IfR.f rfl ?_
    conv => whnf
    refine AllocR.i fun b1 hh1 e1 s1 o1 k1 => ?_
    have O1 : Own hh1 92 2 (some ⟨b1, 0, none⟩) 0 0 [] := .inr ⟨b1, [], rfl, o1, rfl, rfl, rfl, Nat.le_refl _⟩
    conv => whnf
    rcases Nat.eq_zero_or_pos n with h0 | h0
    · subst h0
      refine SemR.append0 rfl rfl rfl (Nat.le_refl _) ?_
      conv => whnf
      have : l = [] := List.eq_nil_of_length_eq_zero hn.symm
      subst this
      exact ⟨k1, _, _, rfl, O1, fun x hx => by simp [blkA] at hx; omega⟩
    · refine append_own (e := 92) (sz := 2) (by_ := 24) (new := entC l) rfl rfl rfl rfl rfl rfl rfl O1 (by rw [entC_len]; omega) ?_ (allOne_ent l) (by omega) (by omega) (by simp [blocksOf]) ?_
      · intro j hj
        have oc := k1.obj ho (by simp)
        unfold Heap.cell?
        rw [oc]
        have : (cs.take (entC l).length)[j]? = (entC l)[j]? := by rw [ht]
        rw [List.getElem?_take, if_pos hj] at this
        rw [← this]
        simp
      · intro a' c' h5 O5 k5 n5
        conv => whnf
        refine ⟨k1.nil_of k5 (fun x hx => by simp [blkA] at hx; omega), a', c', by rw [Nat.zero_add], by rw [Nat.zero_add, List.nil_append] at O5; exact O5, fun x hx => ?_⟩
        rcases n5 x hx with h | h
        · simp [blkA] at h; omega
        · omega

theorem sameC_spec (x y : Ent) (h : Heap) : CallH Tryz.prog 183 [.agg ⟨x.cells⟩, .agg ⟨y.cells⟩] h (fun v h' => Keeps [] h h' ∧ v = .bool (decide (x.name = y.name))) := by
  refine call_of hmix Tryz.func183 rfl ok183 (by simp [Tryz.f183]) ?_
  conv => whnf
  refine AllocR.i fun b1 h1 e1 s1 o1 k1 => ?_
  conv => whnf
  refine AllocR.i fun b2 h2 e2 s2 o2 k2 => ?_
  conv => whnf
  refine ⟨k1.trans k2, ?_⟩
  rw [bs_eq]

/-- no two next to one another have one name -/
def noAdj (l : List Ent) : Prop := ∀ j (hj : j + 1 < l.length), l[j + 1].name ≠ l[j].name

theorem entC_cell {h : Heap} {b : Nat} {ys : List Ent} {rest : List Value} {T : TypeId} {fz : Nat × Nat} (o : h[b]? = some (.cells ⟨entC ys ++ rest⟩ T fz)) (j : Nat) (hj : j < ys.length) : ∀ i, i < 2 → Heap.cell? h b (j * 2 + i) = (ys[j].cells)[i]? := by
  intro i hi
  unfold Heap.cell?
  rw [o]
  have hl := entC_len ys
  have g := entC_get ys (j * 2 + i) (by omega)
  have e1 : (j * 2 + i) / 2 = j := by omega
  have e2 : (j * 2 + i) % 2 = i := by omega
  simp only [e1, e2] at g
  have e3 : (entC ys ++ rest)[j * 2 + i]? = (entC ys)[j * 2 + i]? := List.getElem?_append_left (by omega)
  rw [← g, ← e3]
  simp

theorem entC_cell2 {h : Heap} {b : Nat} {ys : List Ent} {rest : List Value} {T : TypeId} {fz : Nat × Nat} (o : h[b]? = some (.cells ⟨entC ys ++ rest⟩ T fz)) (k j : Nat) (hj : k + j < ys.length) : ∀ i, i < 2 → Heap.cell? h b (k * 2 + j * 2 + i) = (ys[k + j].cells)[i]? := by
  rw [← Nat.add_mul]; exact entC_cell o (k + j) hj

theorem ent_splice : ∀ (ys : List Ent) (k : Nat) (x : Ent) (rest : List Value), k < ys.length → spliceL (k * 2) x.cells (entC ys ++ rest) = entC (ys.set k x) ++ rest
  | [], k, x, rest, h => by simp at h
  | y :: ys, 0, x, rest, _ => by
    show spliceL 0 x.cells (_ :: _ :: (entC ys ++ rest)) = _
    cases hr : entC ys ++ rest with
    | nil => show _ = _ :: _ :: (entC ys ++ rest); rw [hr]; rfl
    | cons v r => show _ = _ :: _ :: (entC ys ++ rest); rw [hr]; rfl
  | y :: ys, k + 1, x, rest, h => by
    have ih := ent_splice ys k x rest (by simpa using h)
    rw [show (k + 1) * 2 = k * 2 + 2 by omega, List.set_cons_succ]
    show spliceL (k * 2 + 2) x.cells (.string ⟨y.name.toArray⟩ :: .int .i64 y.node :: (entC ys ++ rest)) = .string ⟨y.name.toArray⟩ :: .int .i64 y.node :: (entC (ys.set k x) ++ rest)
    rw [← ih]
    rfl

theorem compact_spec {h : Heap} {a : Option Addr} {n c : Nat} {l : List Ent} (O : Own h 92 2 a n c (entC l)) (hok : ∀ e ∈ l, e.ok) (hlen : l.length ≤ 100000) :
    CallH Tryz.prog 181 [.slice a n c, .func (.func 183) #[] #[]] h (fun v h' => Keeps (blkA a) h h' ∧ ∃ a' m c', v = .slice a' m c' ∧ ((m = n ∧ noAdj l) ∨ (m < n ∧ ¬ noAdj l))) := by
  have hn := own_len' O
  refine call_of hmix Tryz.func181 rfl ok181 (by simp [Tryz.f181]) ?_
  conv => whnf
  refine IfR.i (fun hs => ?_) (fun hs => ?_)
  · conv => whnf
    refine ⟨Keeps.refl _ _, _, _, _, rfl, .inl ⟨rfl, ?_⟩⟩
    intro j hj
    have : n < 2 := by simp at hs; omega
    omega
  have hn2 : 2 ≤ n := by simp at hs; omega
  rcases O with ⟨rfl, rfl, rfl, hl⟩ | ⟨b, cs, rfl, ho, ht, h1, h2, h3⟩
  · omega
  obtain ⟨rest, rfl⟩ : ∃ rest, cs = entC l ++ rest := ⟨cs.drop (entC l).length, by
    conv => lhs; rw [← List.take_append_drop (entC l).length cs]
    rw [ht]⟩
  have hel := entC_len l
  conv => whnf
  refine LoopR.on [0, 1, 5] [] (fun k : Nat => [(0, .v (.slice (some ⟨b, 0, none⟩) n c)), (1, .v (.func (.func 183) #[] #[])), (5, .v (.int .i64 (k : Int)))]) (fun _ => []) (fun k h' => 1 ≤ k ∧ k ≤ n ∧ Keeps [] h h' ∧ ∀ j (hj : j + 1 < l.length), j + 1 < k → l[j + 1].name ≠ l[j].name) (fun k => n - k) 1 ?_ ?_
  · conv => whnf
    exact ⟨1, rfl, rfl, rfl, Nat.le_refl _, by omega, Keeps.refl _ _, fun j hj hk => by omega⟩
  · rintro k hh ⟨hk1, hkn, kk, hno⟩
    conv => whnf
    refine IfR.i (fun hc => ?_) (fun hc => ?_)
    · have hk : k < l.length := by simp at hc; omega
      have o1 := kk.obj ho (by simp)
      conv => whnf
      refine IdxS.i k rfl (by omega) rfl ?_
      conv => whnf
      refine LoadN.i (vs := l[k].cells) rfl (by rw [Nat.zero_add]; exact entC_cell o1 k hk) ?_
      conv => whnf
      refine IdxS.i (k - 1) (by rw [wrapI (by omega) (by omega)]; omega) (by omega) rfl ?_
      conv => whnf
      refine LoadN.i (vs := (l[k - 1]'(by omega)).cells) rfl (by rw [Nat.zero_add]; exact entC_cell o1 (k - 1) (by omega)) ?_
      conv => whnf
      refine CallR.i (sameC_spec l[k] (l[k - 1]'(by omega)) hh) fun v h4 k4 hv => ?_
      subst hv
      conv => whnf
      refine IfR.i (fun hd => ?_) (fun hd => ?_)
      · have hdup : l[k].name = (l[k - 1]'(by omega)).name := by simpa using hd
        have hnot : ¬ noAdj l := fun hx => hx (k - 1) (by omega) (by simpa only [show k - 1 + 1 = k by omega] using hdup)
        have o4 := k4.obj o1 (by simp)
        conv => whnf
        refine SliceR.i k n rfl rfl (by omega) (by omega) ?_
        have hsl : slA (some ⟨b, 0, none⟩) c k 2 = some ⟨b, k * 2, none⟩ := by
          unfold slA
          rw [if_neg (by omega)]
          show some (Addr.add _ _) = _
          rw [addr_add, Nat.zero_add]
        conv => whnf
        refine LoopR.on [0, 1, 5, 6, 7] [] (fun q : Nat × Nat => [(0, .v (.slice (some ⟨b, 0, none⟩) n c)), (1, .v (.func (.func 183) #[] #[])), (5, .v (.int .i64 (q.1 : Int))), (6, .v (.slice (some ⟨b, k * 2, none⟩) (n - k) (c - k))), (7, .v (.int .i64 (q.2 : Int)))]) (fun _ => [])
          (fun q h' => 1 ≤ q.2 ∧ q.2 ≤ n - k ∧ q.1 + 1 ≤ k + q.2 ∧ k ≤ q.1 ∧ Keeps [b] h h' ∧ ∃ ys : List Ent, ys.length = n ∧ h'[b]? = some (.cells ⟨entC ys ++ rest⟩ 92 (0, 0))) (fun q => n - q.2) (k, 1) ?_ ?_
        · conv => whnf
          refine ⟨(k, 1), rfl, by simp only; rw [← hsl]; rfl, rfl, Nat.le_refl _, by simp only; omega, by simp only; omega, Nat.le_refl _, (kk.trans k4).mono (by simp), l, hn.symm, o4⟩
        · rintro ⟨kq, k2⟩ h5 ⟨q1, q2, q3, q4, kk5, ys, hys, o5⟩
          simp only at q1 q2 q3 q4
          conv => whnf
          refine IfR.i (fun hc2 => ?_) (fun hc2 => ?_)
          · have hk2 : k2 < n - k := by simp at hc2; omega
            conv => whnf
            first | refine IdxS.i k2 rfl (by omega) rfl ?_ | (refine MeetR.pass ?_; (conv => whnf); refine IdxS.i k2 rfl (by omega) rfl ?_)
            conv => whnf
            refine LoadN.i (vs := (ys[k + k2]'(by omega)).cells) rfl (entC_cell2 o5 k k2 (by omega)) ?_
            conv => whnf
            refine IdxS.i (k2 - 1) (by rw [wrapI (by omega) (by omega)]; omega) (by omega) rfl ?_
            conv => whnf
            refine LoadN.i (vs := (ys[k + (k2 - 1)]'(by omega)).cells) rfl (entC_cell2 o5 k (k2 - 1) (by omega)) ?_
            conv => whnf
            refine CallR.i (sameC_spec (ys[k + k2]'(by omega)) (ys[k + (k2 - 1)]'(by omega)) h5) fun v h6 k6 hv => ?_
            subst hv
            have o6 := k6.obj o5 (by simp)
            have kk6 := kk5.trans_nil k6
            conv => whnf
            first | refine IfR.i (fun hd2 => ?_) (fun hd2 => ?_) | (refine MeetR.pass ?_; (conv => whnf); refine IfR.i (fun hd2 => ?_) (fun hd2 => ?_))
            · conv => whnf
              refine IdxS.i k2 rfl (by omega) rfl ?_
              conv => whnf
              refine LoadN.i (vs := (ys[k + k2]'(by omega)).cells) rfl (entC_cell2 o6 k k2 (by omega)) ?_
              conv => whnf
              refine IdxS.i kq rfl (by omega) rfl ?_
              have hll := entC_len ys
              conv => whnf
              refine StoreR.i o6 (by show 0 + kq * 2 + 2 ≤ _; simp; omega) (by simp [blocksOf]) fun h7 s7 o7 k7 => ?_
              have e7 : spliceL (0 + kq * 2) (ys[k + k2]'(by omega)).cells (entC ys ++ rest) = entC (ys.set kq (ys[k + k2]'(by omega))) ++ rest := by
                rw [Nat.zero_add]; exact ent_splice ys kq _ rest (by omega)
              conv => whnf
              refine ⟨n - (k2 + 1), by simp only; omega, ?_⟩
              conv => whnf
              refine ⟨(kq + 1, k2 + 1), rfl, ?_, rfl, by simp only; omega, by simp only; omega, by simp only; omega, by simp only; omega, kk6.trans k7, ys.set kq (ys[k + k2]'(by omega)), by simp [hys], ?_⟩
              · rw [wrapN (n := kq + 1) (by simp) (by omega), wrapN (n := k2 + 1) (by simp) (by omega)]
              · rw [← e7]; exact o7
            · conv => whnf
              refine ⟨n - (k2 + 1), by simp only; omega, ?_⟩
              conv => whnf
              refine ⟨(kq, k2 + 1), rfl, ?_, rfl, by simp only; omega, by simp only; omega, by simp only; omega, q4, kk6, ys, hys, o6⟩
              rw [wrapN (n := k2 + 1) (by simp) (by omega)]
          · have hk2 : k2 = n - k := by simp at hc2; omega
            have hll := entC_len ys
            have hsk : slA (some ⟨b, 0, none⟩) c kq 2 = some ⟨b, kq * 2, none⟩ := by
              unfold slA
              rw [if_neg (by omega)]
              show some (Addr.add _ _) = _
              rw [addr_add, Nat.zero_add]
            conv => whnf
            refine SliceR.i kq n rfl rfl (by omega) (by omega) ?_
            conv => whnf
            change SemR _ (Builtin.clear_ _ _ ⟨[.slice (slA (some ⟨b, 0, none⟩) c kq 2) (n - kq) (c - kq)]⟩) _ _ _
            rw [hsk]
            refine SemR.clear (zl := [.string ⟨#[]⟩, .int .i64 0]) (s := 2) rfl rfl rfl (by decide) rfl o5 (by omega) (by simp; omega) (by simp [blocksOf]) fun h7 L' s6 s7 o7 k7 => ?_
            conv => whnf
            refine SliceR.i 0 kq rfl rfl (Nat.zero_le _) (by omega) ?_
            conv => whnf
            exact ⟨(kk5.trans k7).mono (by simp [blkA]), _, _, _, rfl, .inr ⟨by omega, hnot⟩⟩
      · conv => whnf
        refine ⟨n - (k + 1), by omega, ?_⟩
        conv => whnf
        refine ⟨k + 1, rfl, by rw [wrapN (n := k + 1) (by simp) (by omega)], rfl, by omega, by omega, kk.trans k4, fun j hj hjk => ?_⟩
        by_cases e : j + 1 = k
        · subst e
          simpa using hd
        · exact hno j hj (by omega)
    · have hk : k = n := by simp at hc; omega
      conv => whnf
      exact ⟨kk.mono (by simp), _, _, _, rfl, .inl ⟨rfl, fun j hj => hno j hj (by omega)⟩⟩
end Go.Proofs.YtkjkdnphikendaaGreatDoor
