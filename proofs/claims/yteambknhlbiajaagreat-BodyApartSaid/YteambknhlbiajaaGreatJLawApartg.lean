/-
  Joined texts: FileC, FileD, FileE, ChgB, BodyY, ChgA, FileF, FileG, FileH, FileJ.
-/
import Derived.Test.YteambknhlbiajaaGreatJLawApartf
import Derived.Shelf.SlLaysF0
import Derived.Test.YteambknhlbiajaaGreatProg
import Derived.Shelf.SlSortCmp.NoneTotal
/-
  Plain laws of a file's blocks, further: blocks are taken and given back.
-/
set_option linter.all false
set_option maxRecDepth 100000
namespace Go.Proofs.YteambknhlbiajaaGreat
open Go Go.Eng

theorem put_nil (f : Int → UInt64) (k : Int) : putBlk f k [] = putBlk f k (textL [] 16) := by
  unfold putBlk
  have : fullB [] = fullB (textL [] 16) := by decide
  rw [this]

/-- words behind a taken block -/
def takeW (now : Int → UInt64) (node k : Int) : Int → UInt64 := putBlk (upd now (200 + k) (w64 (node + 1))) k []

theorem take_facts {B : Int → UInt64} {X : VS} {node : Int} (hn : 0 ≤ node ∧ node < 24) :
    ((takeP B X node).2.1 = 0 ∧ 0 ≤ (takeP B X node).1 ∧ (takeP B X node).1 < 96 ∧ X.now (200 + (takeP B X node).1) = 0 ∧ (takeP B X node).2.2 = { X with now := takeW X.now node (takeP B X node).1 }) ∨
    ((takeP B X node).2.1 = 9 ∧ (takeP B X node).2.2 = X ∧ firstF B X 96 0 = none) := by
  unfold takeP
  rw [if_pos hn]
  cases hf : firstF B X 96 0 with
  | none => right; exact ⟨rfl, rfl, rfl⟩
  | some k =>
    left
    have hk := firstF_is hf
    have h := hk.1
    unfold freshB at h
    simp at h
    refine ⟨rfl, by show 0 ≤ (k : Int); omega, by show (k : Int) < 96; omega, h.2.2.1, rfl⟩

theorem takeW_owner {now : Int → UInt64} {node k : Int} (hk : 0 ≤ k ∧ k < 96) {j : Int} (h0 : 0 ≤ j) (h1 : j < 96) : takeW now node k (200 + j) = if j = k then w64 (node + 1) else now (200 + j) := by
  unfold takeW
  rw [put_owner (by simp) hk.1 h1]
  unfold upd
  by_cases h : j = k
  · rw [if_pos (by omega), if_pos h]
  · rw [if_neg (by omega), if_neg h]
theorem takeW_rd {now : Int → UInt64} {node k : Int} (hk : 0 ≤ k ∧ k < 96) {j : Int} (h0 : 0 ≤ j) (hj : j ≠ k) : rdL (takeW now node k) (1288 + j * 16) 16 = rdL now (1288 + j * 16) 16 := by
  unfold takeW
  rw [put_rd_ne (by simp) (fun e => hj e.symm), upd_rd hk.2 h0]
theorem takeW_bytes {now : Int → UInt64} {node k : Int} (hk : 0 ≤ k ∧ k < 96) {j : Int} (hj : j = -1 ∨ 0 ≤ j) (hne : j ≠ k) : bytesB (takeW now node k) j = bytesB now j := by
  unfold bytesB
  split
  · rfl
  · rw [takeW_rd hk (by omega) hne]
theorem takeW_new {now : Int → UInt64} {node k : Int} (hk : 0 ≤ k ∧ k < 96) : bytesB (takeW now node k) k = zeros 128 := by
  unfold takeW
  rw [put_nil, bytes_text (by simp) (by omega)]
  rfl
theorem takeW_fr {now : Int → UInt64} {node k : Int} (hk : 0 ≤ k ∧ k < 96) (h : now (200 + k) = 0) : Fr node now (takeW now node k) := by
  constructor
  · intro j h0 h1 hf
    rw [takeW_owner hk h0 h1]
    by_cases e : j = k
    · subst e
      exact ⟨.inr ⟨h, if_pos rfl⟩, fun hx => absurd h hx⟩
    · exact ⟨.inl (if_neg e), fun _ => takeW_rd hk h0 e⟩
  · intro j h0 h1 hf
    rw [takeW_owner hk h0 h1]
    split
    · exact .inl rfl
    · exact .inl hf

theorem filter_set : ∀ {m : List Int} {i : Nat} {k : Int} (hi : i < m.length), m[i] = -1 → k ≠ -1 → ((m.set i k).filter usedB).Perm (k :: m.filter usedB)
  | [], i, k, hi, _, _ => by simp at hi
  | x :: m, 0, k, hi, h, hk => by
    simp only [List.getElem_cons_zero] at h
    subst h
    simp only [List.set_cons_zero]
    rw [List.filter_cons, if_pos (usedB_t.2 hk), List.filter_cons, if_neg (by decide)]
  | x :: m, i + 1, k, hi, h, hk => by
    simp only [List.getElem_cons_succ] at h
    have ih := filter_set (m := m) (i := i) (by simpa using hi) h hk
    simp only [List.set_cons_succ]
    rw [List.filter_cons, List.filter_cons]
    split
    · exact (List.Perm.cons x ih).trans (List.Perm.swap k x _)
    · exact ih
theorem filter_unset : ∀ {m : List Int} {i : Nat} (hi : i < m.length), m[i] ≠ -1 → (m.filter usedB).Perm (m[i] :: (m.set i (-1)).filter usedB)
  | [], i, hi, _ => by simp at hi
  | x :: m, 0, hi, h => by
    simp only [List.getElem_cons_zero] at h
    simp only [List.set_cons_zero, List.getElem_cons_zero]
    rw [List.filter_cons, if_pos (usedB_t.2 h), List.filter_cons, if_neg (by decide)]
  | x :: m, i + 1, hi, h => by
    simp only [List.getElem_cons_succ] at h
    have ih := filter_unset (m := m) (i := i) (by simpa using hi) h
    simp only [List.set_cons_succ, List.getElem_cons_succ]
    rw [List.filter_cons, List.filter_cons]
    split
    · exact (List.Perm.cons x ih).trans (List.Perm.swap _ x _)
    · exact ih

theorem usedL_cons (more : Int) (m : List Int) : usedL more m = if more = -1 then m.filter usedB else more :: m.filter usedB := by
  unfold usedL
  rw [List.filter_cons]
  by_cases h : more = -1
  · rw [if_neg (by rw [usedB_t]; exact fun x => x h), if_pos h]
  · rw [if_pos (usedB_t.2 h), if_neg h]
theorem usedL_perm {more : Int} {m m' : List Int} {k : Int} (h : (m'.filter usedB).Perm (k :: m.filter usedB)) : (usedL more m').Perm (k :: usedL more m) := by
  rw [usedL_cons, usedL_cons]
  split
  · exact h
  · exact (List.Perm.cons more h).trans (List.Perm.swap k more _)

/-- a file has one block more -/
theorem Wk.grow {now : Int → UInt64} {node more more' : Int} {m m' : List Int} (W : Wk now node more m) (hn : 0 ≤ node ∧ node < 24) {k : Int} (hk : 0 ≤ k ∧ k < 96) (h0 : now (200 + k) = 0) (hl : m'.length = 21) (hr : ∀ x ∈ more' :: m', blkOk x)
    (hp : (usedL more' m').Perm (k :: usedL more m)) : Wk (takeW now node k) node more' m' := by
  have hne := w64_ne hn
  have hknew : k ∉ usedL more m := fun h => hne ((W.own k hk.1 hk.2).1 h ▸ h0)
  refine ⟨hl, hr, hp.symm.nodup (List.nodup_cons.2 ⟨hknew, W.nod⟩), fun x x0 x1 => ?_⟩
  rw [hp.mem_iff, List.mem_cons, takeW_owner hk x0 x1, W.own x x0 x1]
  by_cases h : x = k
  · simp [h]
  · simp [h]

theorem Wk.take_at {now : Int → UInt64} {node more : Int} {m : List Int} (W : Wk now node more m) (hn : 0 ≤ node ∧ node < 24) {k : Int} (hk : 0 ≤ k ∧ k < 96) (h0 : now (200 + k) = 0) {i : Nat} (hi : i < 21) (hm : m[i]?.getD (-1) = -1) :
    Wk (takeW now node k) node more (m.set i k) ∧ Fr node now (takeW now node k) ∧ (more ≠ -1 → moreL (takeW now node k) more = moreL now more) ∧ ∀ p, p < 2688 → fb (takeW now node k) (m.set i k) p = fb now m p := by
  have hl := W.len
  have hne := w64_ne hn
  have hm' : m[i] = -1 := by rw [← W.at_ hi]; exact hm
  have hun : ∀ x, 0 ≤ x → x < 96 → x ∈ usedL more m → x ≠ k := by
    rintro x x0 x1 hx rfl
    exact hne ((W.own x x0 x1).1 hx ▸ h0)
  refine ⟨W.grow hn hk h0 (by simp [hl]) ?_ (usedL_perm (filter_set (by omega) hm' (by omega))), takeW_fr hk h0, fun hmo => ?_, fun p hp => ?_⟩
  · intro x hx
    rcases List.mem_cons.1 hx with rfl | hx
    · exact W.rng _ List.mem_cons_self
    · rcases List.mem_or_eq_of_mem_set hx with h | rfl
      · exact W.rng _ (List.mem_cons_of_mem _ h)
      · exact .inr hk
  · have hmr := W.rng more List.mem_cons_self
    have : 0 ≤ more ∧ more < 96 := by rcases hmr with h | h; exact absurd h hmo; exact h
    exact takeW_rd hk this.1 (hun more this.1 this.2 (usedL_mem.2 ⟨.inl rfl, hmo⟩))
  · unfold fb
    have hp2 : p / 128 < 21 := by omega
    by_cases h : p / 128 = i
    · subst h
      have e : (m.set (p / 128) k)[p / 128]?.getD (-1) = k := by simp [hl, hp2]
      rw [e, hm, takeW_new hk]
      rfl
    · have e : (m.set i k)[p / 128]?.getD (-1) = m[p / 128]?.getD (-1) := by rw [List.getElem?_set_ne (fun x => h x.symm)]
      rw [e, W.at_ hp2]
      have hx := W.rng m[p / 128] (List.mem_cons_of_mem _ (List.getElem_mem _))
      rw [takeW_bytes hk (hx.imp id And.left)]
      rcases hx with hx | hx
      · omega
      · exact hun _ hx.1 hx.2 (usedL_mem.2 ⟨.inr (List.getElem_mem _), by omega⟩)

theorem Wk.fb_keep {now g : Int → UInt64} {node more : Int} {m : List Int} (W : Wk now node more m) (h : ∀ x, x ∈ m → 0 ≤ x → x < 96 → rdL g (1288 + x * 16) 16 = rdL now (1288 + x * 16) 16) (p : Nat) (hp : p < 2688) : fb g m p = fb now m p := by
  have hp2 : p / 128 < 21 := by omega
  have hl := W.len
  unfold fb
  rw [W.at_ hp2]
  unfold bytesB
  split
  · rfl
  · rename_i hne
    rcases W.rng m[p / 128] (List.mem_cons_of_mem _ (List.getElem_mem _)) with hx | hx
    · exact absurd hx hne
    · rw [h _ (List.getElem_mem _) hx.1 hx.2]

theorem Wk.take_more {now : Int → UInt64} {node : Int} {m : List Int} (W : Wk now node (-1) m) (hn : 0 ≤ node ∧ node < 24) {k : Int} (hk : 0 ≤ k ∧ k < 96) (h0 : now (200 + k) = 0) :
    Wk (takeW now node k) node k m ∧ Fr node now (takeW now node k) ∧ ∀ p, p < 2688 → fb (takeW now node k) m p = fb now m p := by
  have hne := w64_ne hn
  refine ⟨W.grow hn hk h0 W.len ?_ ?_, takeW_fr hk h0, W.fb_keep fun x hx x0 x1 => takeW_rd hk x0 ?_⟩
  · intro x hx
    rcases List.mem_cons.1 hx with rfl | hx
    · exact .inr hk
    · exact W.rng _ (List.mem_cons_of_mem _ hx)
  · rw [usedL_cons, usedL_cons, if_neg (by omega), if_pos rfl]
  · rintro rfl
    exact hne ((W.own x x0 x1).1 (usedL_mem.2 ⟨.inr hx, by omega⟩) ▸ h0)

/-- words behind a block that is given back -/
theorem drop_fr {now : Int → UInt64} {node k : Int} (hk : 0 ≤ k ∧ k < 96) (h : now (200 + k) = w64 (node + 1)) : Fr node now (upd now (200 + k) 0) := by
  have ho : ∀ j, upd now (200 + k) 0 (200 + j) = if j = k then 0 else now (200 + j) := by
    intro j; unfold upd
    by_cases e : j = k
    · rw [if_pos (by omega), if_pos e]
    · rw [if_neg (by omega), if_neg e]
  constructor
  · intro j h0 h1 hf
    rw [ho]
    have e : j ≠ k := by rintro rfl; exact hf h
    exact ⟨.inl (if_neg e), fun _ => upd_rd hk.2 h0⟩
  · intro j h0 h1 hf
    rw [ho]
    split
    · exact .inr rfl
    · exact .inl hf

theorem Wk.shrink {now : Int → UInt64} {node more more' : Int} {m m' : List Int} (W : Wk now node more m) (hn : 0 ≤ node ∧ node < 24) {k : Int} (hk : 0 ≤ k ∧ k < 96) (hl : m'.length = 21) (hr : ∀ x ∈ more' :: m', blkOk x)
    (hp : (usedL more m).Perm (k :: usedL more' m')) : Wk (upd now (200 + k) 0) node more' m' ∧ now (200 + k) = w64 (node + 1) := by
  have hne := w64_ne hn
  have hnd := List.nodup_cons.1 (hp.nodup W.nod)
  refine ⟨⟨hl, hr, hnd.2, fun x x0 x1 => ?_⟩, (W.own k hk.1 hk.2).1 (hp.mem_iff.2 List.mem_cons_self)⟩
  have hw := W.own x x0 x1
  rw [hp.mem_iff, List.mem_cons] at hw
  unfold upd
  by_cases h : x = k
  · subst h
    rw [if_pos rfl]
    exact ⟨fun hx => absurd hx hnd.1, fun e => absurd e.symm hne⟩
  · rw [if_neg (by omega), ← hw]
    simp [h]

theorem Wk.drop_more {now : Int → UInt64} {node more : Int} {m : List Int} (W : Wk now node more m) (hn : 0 ≤ node ∧ node < 24) (hm : more ≠ -1) :
    (0 ≤ more ∧ more < 96) ∧ now (200 + more) = w64 (node + 1) ∧ Wk (upd now (200 + more) 0) node (-1) m ∧ Fr node now (upd now (200 + more) 0) ∧ ∀ p, p < 2688 → fb (upd now (200 + more) 0) m p = fb now m p := by
  have hk : 0 ≤ more ∧ more < 96 := by
    rcases W.rng more List.mem_cons_self with h | h
    · exact absurd h hm
    · exact h
  obtain ⟨W', ho⟩ := W.shrink (more' := -1) (m' := m) hn hk W.len (by
    intro x hx
    rcases List.mem_cons.1 hx with rfl | hx
    · exact .inl rfl
    · exact W.rng _ (List.mem_cons_of_mem _ hx)) (by rw [usedL_cons, usedL_cons, if_neg hm, if_pos rfl])
  exact ⟨hk, ho, W', drop_fr hk ho, W.fb_keep fun x _ x0 _ => upd_rd hk.2 x0⟩

theorem Wk.drop_at {now : Int → UInt64} {node more : Int} {m : List Int} (W : Wk now node more m) (hn : 0 ≤ node ∧ node < 24) {i : Nat} (hi : i < 21) {k : Int} (hx : m[i]?.getD (-1) = k) (hk1 : k ≠ -1) :
    (0 ≤ k ∧ k < 96) ∧ now (200 + k) = w64 (node + 1) ∧ Wk (upd now (200 + k) 0) node more (m.set i (-1)) ∧ Fr node now (upd now (200 + k) 0) ∧ (more ≠ -1 → moreL (upd now (200 + k) 0) more = moreL now more) ∧
      ∀ p, p < 2688 → fb (upd now (200 + k) 0) (m.set i (-1)) p = if p / 128 = i then 0 else fb now m p := by
  have hl := W.len
  have hmi : m[i] = k := by rw [← W.at_ hi]; exact hx
  have hk : 0 ≤ k ∧ k < 96 := by
    rcases W.rng m[i] (List.mem_cons_of_mem _ (List.getElem_mem _)) with h | h
    · exact absurd (hmi ▸ h) hk1
    · rw [hmi] at h; exact h
  obtain ⟨W', ho⟩ := W.shrink (more' := more) (m' := m.set i (-1)) hn hk (by simp [hl]) (by
    intro x hx
    rcases List.mem_cons.1 hx with rfl | hx
    · exact W.rng _ List.mem_cons_self
    · rcases List.mem_or_eq_of_mem_set hx with h | rfl
      · exact W.rng _ (List.mem_cons_of_mem _ h)
      · exact .inl rfl) (usedL_perm (by have := filter_unset (m := m) (i := i) (by omega) (by rw [hmi]; exact hk1); rwa [hmi] at this))
  refine ⟨hk, ho, W', drop_fr hk ho, fun hmo => ?_, fun p hp => ?_⟩
  · rcases W.rng more List.mem_cons_self with h | h
    · exact absurd h hmo
    · exact upd_rd hk.2 h.1
  · unfold fb
    have hp2 : p / 128 < 21 := by omega
    by_cases h : p / 128 = i
    · subst h
      rw [if_pos rfl]
      have e : (m.set (p / 128) (-1))[p / 128]?.getD (-1) = -1 := by simp [hl, hp2]
      rw [e]
      unfold bytesB zeros
      rw [if_pos rfl, List.getElem?_replicate]
      split <;> rfl
    · rw [if_neg h]
      have e : (m.set i (-1))[p / 128]?.getD (-1) = m[p / 128]?.getD (-1) := by rw [List.getElem?_set_ne (fun x => h x.symm)]
      rw [e, W.at_ hp2]
      have hx := W.rng m[p / 128] (List.mem_cons_of_mem _ (List.getElem_mem _))
      rw [bytes_upd hk.2 (hx.imp id And.left)]
end Go.Proofs.YteambknhlbiajaaGreat
/-
  Plain laws: a file's bytes are written, a card with a map.
-/
set_option linter.all false
set_option maxRecDepth 100000
namespace Go.Proofs.YteambknhlbiajaaGreat
open Go Go.Eng

theorem getD_21 {m : List Int} (hl : m.length = 21) {i : Nat} (hi : i < 21) : m[i]?.getD 0 = m[i]?.getD (-1) := by
  simp [show i < m.length by omega]

theorem wblk_get {old data : List UInt8} {a f : Nat} (ho : old.length = 128) (h1 : f < a + data.length) (h2 : a < f + 128) (q : Nat) (hq : q < 128) :
    (wblk old data a (a + data.length) f)[q]?.getD 0 = if a ≤ f + q ∧ f + q < a + data.length then data[f + q - a]?.getD 0 else old[q]?.getD 0 := by
  have ht : (old.take (a - f)).length = a - f := by rw [List.length_take]; omega
  have hd : ((data.drop (f + (a - f) - a)).take (min (a + data.length - f) 128 - (a - f))).length = min (a + data.length - f) 128 - (a - f) := by
    rw [List.length_take, List.length_drop]; omega
  unfold wblk
  by_cases c1 : q < a - f
  · rw [List.append_assoc, List.getElem?_append_left (by omega), List.getElem?_take, if_pos c1, if_neg (by omega)]
  · by_cases c2 : q < min (a + data.length - f) 128
    · rw [List.getElem?_append_left (by rw [List.length_append]; omega), List.getElem?_append_right (by omega), ht, List.getElem?_take, if_pos (by omega), List.getElem?_drop, if_pos (by omega)]
      congr 2; omega
    · rw [List.getElem?_append_right (by rw [List.length_append]; omega), List.length_append, ht, hd, List.getElem?_drop, if_neg (by omega)]
      congr 2; omega
theorem wblk_len {old data : List UInt8} {a f : Nat} (ho : old.length = 128) (h1 : f < a + data.length) (h2 : a < f + 128) : (wblk old data a (a + data.length) f).length = 128 := by
  unfold wblk
  rw [List.length_append, List.length_append, List.length_take, List.length_take, List.length_drop, List.length_drop]
  omega

/-- where no block of another's lies, one can be taken -/
def Alone (B : Int → UInt64) (node : Int) (X : VS) : Prop := ∀ k, 0 ≤ k → k < 96 → B (200 + k) = 0 ∧ (X.now (200 + k) = 0 ∨ X.now (200 + k) = w64 (node + 1)) ∧ k ∉ X.away

theorem firstF_none {B : Int → UInt64} {X : VS} : ∀ {f i : Nat}, firstF B X f i = none → ∀ k, i ≤ k → k < i + f → freshB B X (k : Int) = false
  | 0, i, _, k, h1, h2 => by omega
  | f + 1, i, h, k, h1, h2 => by
    unfold firstF at h
    split at h
    · cases h
    · rename_i hf
      by_cases e : k = i
      · subst e; simpa using hf
      · exact firstF_none h k (by omega) (by omega)

theorem take_alone {B : Int → UInt64} {X : VS} {node more : Int} {m : List Int} (hn : 0 ≤ node ∧ node < 24) (W : Wk X.now node more m) (A : Alone B node X) : firstF B X 96 0 ≠ none := by
  intro h
  have hall : ((List.range 96).map fun (i : Nat) => (i : Int)) ⊆ usedL more m := by
    intro x hx
    obtain ⟨k, hk, rfl⟩ := List.mem_map.1 hx
    have hk96 : k < 96 := by simpa using hk
    have hf := firstF_none h k (by omega) (by omega)
    obtain ⟨a1, a2, a3⟩ := A (k : Int) (by omega) (by omega)
    refine (W.own (k : Int) (by omega) (by omega)).2 ?_
    rcases a2 with a2 | a2
    · unfold freshB at hf
      simp [a1, a2, a3] at hf
      omega
    · exact a2
  have hnd : ((List.range 96).map fun (i : Nat) => (i : Int)).Nodup := by decide +kernel
  have h1 := hnd.length_le_of_subset hall
  have h2 : (usedL more m).length ≤ (more :: m).length := List.length_filter_le _ _
  have := W.len
  simp at h1 h2
  omega

/-- what a step of writing comes to -/
structure Wrt (B : Int → UInt64) (node more : Int) (X : VS) (m : List Int) (a : Nat) (data : List UInt8) (i f : Nat) (r : Int × VS × List Int) : Prop where
  e : r.1 = 0
  x : r.2.1 = { X with now := r.2.1.now }
  wk : Wk r.2.1.now node more r.2.2
  fr : Fr node X.now r.2.1.now
  more_ : more ≠ -1 → moreL r.2.1.now more = moreL X.now more
  by_ : ∀ p, p < 2688 → fb r.2.1.now r.2.2 p = if i ≤ p / 128 ∧ p / 128 < i + f ∧ a ≤ p ∧ p < a + data.length then data[p - a]?.getD 0 else fb X.now m p
  holes : ∀ j, j < 21 → (r.2.2[j]?.getD (-1) = -1 ↔ m[j]?.getD (-1) = -1 ∧ ¬ (i ≤ j ∧ j < i + f))

theorem wStep_plain {B : Int → UInt64} {node more : Int} (hn : 0 ≤ node ∧ node < 24) {X : VS} {m : List Int} (W : Wk X.now node more m) {a : Nat} {data : List UInt8} {i : Nat} (hi : i < 21) (h1 : 128 * i < a + data.length) (h2 : a < 128 * i + 128) :
    (wStep B node a data i X m).1 = 9 ∧ firstF B X 96 0 = none ∨ Wrt B node more X m a data i 1 (wStep B node a data i X m) := by
  have hl := W.len
  unfold wStep
  rw [getD_21 hl hi]
  by_cases hm : m[i]?.getD (-1) = -1
  · rw [if_pos hm]
    rcases take_facts (B := B) (X := X) hn with ⟨e0, k0, k1, kn, kx⟩ | ⟨e9, kx, kf⟩
    · right
      have hk : 0 ≤ (takeP B X node).1 ∧ (takeP B X node).1 < 96 := ⟨k0, k1⟩
      generalize (takeP B X node).1 = k at *
      obtain ⟨W1, F1, M1, B1⟩ := W.take_at hn hk kn hi hm
      have hmi : (m.set i k)[i]?.getD (-1) = k := by simp [hl, hi]
      have hkne : k ≠ -1 := by omega
      simp only [e0, kx, if_true]
      rw [getD_21 (by simp [hl]) hi, hmi]
      have hbl := bytesB_len (takeW X.now node k) k
      obtain ⟨W2, F2, M2, B2⟩ := W1.put hi (Nat.le_of_eq (wblk_len hbl h1 h2)) hmi hkne
      refine ⟨rfl, rfl, W2, F1.trans F2 (w64_ne hn), fun h => (M2 h).trans (M1 h), fun p hp => ?_, fun j hj => ?_⟩
      · simp only
        rw [B2 p hp]
        by_cases hpi : p / 128 = i
        · rw [if_pos hpi, wblk_get hbl h1 h2 _ (Nat.mod_lt _ (by decide))]
          have hpe : 128 * i + p % 128 = p := by omega
          rw [hpe]
          by_cases hc : a ≤ p ∧ p < a + data.length
          · rw [if_pos hc, if_pos ⟨by omega, by omega, hc⟩]
          · rw [if_neg hc, if_neg (fun h => hc h.2.2), ← B1 p hp]
            unfold fb
            rw [hpi, hmi]
        · rw [if_neg hpi, if_neg (by omega), B1 p hp]
      · simp only
        by_cases hji : j = i
        · subst hji
          rw [hmi]
          exact ⟨fun h => absurd h hkne, fun h => absurd h.2 (by omega)⟩
        · rw [List.getElem?_set_ne (fun x => hji x.symm)]
          exact ⟨fun h => ⟨h, by omega⟩, fun h => h.1⟩
    · left
      simp only [e9]
      exact ⟨rfl, kf⟩
  · right
    rw [if_neg hm]
    simp only [if_true]
    rw [getD_21 hl hi]
    have hbl := bytesB_len X.now (m[i]?.getD (-1))
    obtain ⟨W2, F2, M2, B2⟩ := W.put hi (Nat.le_of_eq (wblk_len hbl h1 h2)) rfl hm
    refine ⟨rfl, rfl, W2, F2, M2, fun p hp => ?_, fun j hj => ?_⟩
    · simp only
      rw [B2 p hp]
      by_cases hpi : p / 128 = i
      · rw [if_pos hpi, wblk_get hbl h1 h2 _ (Nat.mod_lt _ (by decide))]
        have hpe : 128 * i + p % 128 = p := by omega
        rw [hpe]
        by_cases hc : a ≤ p ∧ p < a + data.length
        · rw [if_pos hc, if_pos ⟨by omega, by omega, hc⟩]
        · rw [if_neg hc, if_neg (fun h => hc h.2.2)]
          unfold fb
          rw [hpi]
      · rw [if_neg hpi, if_neg (by omega)]
    · simp only
      by_cases hji : j = i
      · subst hji
        exact ⟨fun h => absurd h hm, fun h => absurd h.1 hm⟩
      · exact ⟨fun h => ⟨h, by omega⟩, fun h => h.1⟩

theorem Alone.on {B : Int → UInt64} {node : Int} {X Y : VS} (A : Alone B node X) (F : Fr node X.now Y.now) (hn : w64 (node + 1) ≠ 0) (ha : Y.away = X.away) : Alone B node Y := by
  intro k h0 h1
  obtain ⟨a1, a2, a3⟩ := A k h0 h1
  refine ⟨a1, ?_, by rw [ha]; exact a3⟩
  rcases a2 with a2 | a2
  · rcases (F.oth k h0 h1 (by rw [a2]; exact fun e => hn e.symm)).1 with r | ⟨_, r⟩
    · left; rw [r, a2]
    · exact .inr r
  · exact (F.mine k h0 h1 a2).symm

theorem writeL_plain {B : Int → UInt64} {node more : Int} (hn : 0 ≤ node ∧ node < 24) {a : Nat} {data : List UInt8} : ∀ (f i : Nat) (X : VS) (m : List Int), Wk X.now node more m → i + f ≤ 21 → (0 < f → 128 * (i + f - 1) < a + data.length) → a < 128 * i + 128 →
    ((writeL B node a data f i X m).1 = 9 ∧ ¬ Alone B node X) ∨ Wrt B node more X m a data i f (writeL B node a data f i X m)
  | 0, i, X, m, W, _, _, _ => by
    right
    unfold writeL
    refine ⟨rfl, rfl, W, Fr.refl _ _, fun _ => rfl, fun p hp => ?_, fun j hj => ⟨fun h => ⟨h, by omega⟩, fun h => h.1⟩⟩
    simp only
    rw [if_neg (by omega)]
  | f + 1, i, X, m, W, hf, h1, h2 => by
    unfold writeL
    have h1' := h1 (by omega)
    rcases wStep_plain (B := B) hn W (i := i) (a := a) (data := data) (by omega) (by omega) (by omega) with ⟨e, hno⟩ | S
    · rw [e]
      left
      refine ⟨by simp [e], fun A => take_alone hn W A hno⟩
    · rw [S.e]
      simp only [if_true]
      rcases writeL_plain (B := B) (a := a) (data := data) hn f (i + 1) (wStep B node a data i X m).2.1 (wStep B node a data i X m).2.2 S.wk (by omega) (fun _ => by omega) (by omega) with ⟨e, hno⟩ | R
      · left
        refine ⟨e, fun A => hno (A.on S.fr (w64_ne hn) (by rw [S.x]))⟩
      · right
        refine ⟨R.e, ?_, R.wk, S.fr.trans R.fr (w64_ne hn), fun h => (R.more_ h).trans (S.more_ h), fun p hp => ?_, fun j hj => ?_⟩
        · rw [R.x, S.x]
        · rw [R.by_ p hp, S.by_ p hp]
          by_cases c3 : i + 1 ≤ p / 128 ∧ p / 128 < i + 1 + f ∧ a ≤ p ∧ p < a + data.length
          · rw [if_pos c3, if_pos ⟨by omega, by omega, c3.2.2⟩]
          · rw [if_neg c3]
            by_cases c4 : i ≤ p / 128 ∧ p / 128 < i + 1 ∧ a ≤ p ∧ p < a + data.length
            · rw [if_pos c4, if_pos ⟨c4.1, by omega, c4.2.2⟩]
            · rw [if_neg c4, if_neg (by omega)]
        · rw [R.holes j hj, S.holes j hj]
          constructor
          · rintro ⟨⟨x1, x2⟩, x3⟩; exact ⟨x1, by omega⟩
          · rintro ⟨x1, x2⟩; exact ⟨⟨x1, by omega⟩, by omega⟩
end Go.Proofs.YteambknhlbiajaaGreat
/-
  Plain laws: a file, kept and written.
-/
set_option linter.all false
set_option maxRecDepth 100000
namespace Go.Proofs.YteambknhlbiajaaGreat
open Go Go.Eng

theorem Wk.putMore {now : Int → UInt64} {node more : Int} {m : List Int} (W : Wk now node more m) {ws : List UInt64} (hw : ws.length ≤ 16) (hm : more ≠ -1) :
    Wk (putBlk now more ws) node more m ∧ Fr node now (putBlk now more ws) ∧ ∀ p, p < 2688 → fb (putBlk now more ws) m p = fb now m p := by
  have hk : 0 ≤ more ∧ more < 96 := by
    rcases W.rng more List.mem_cons_self with h | h
    · exact absurd h hm
    · exact h
  have ho : ∀ k, 0 ≤ k → k < 96 → putBlk now more ws (200 + k) = now (200 + k) := fun k _ h => put_owner hw hk.1 h
  have hown : now (200 + more) = w64 (node + 1) := (W.own more hk.1 hk.2).1 (usedL_mem.2 ⟨.inl rfl, hm⟩)
  refine ⟨⟨W.len, W.rng, W.nod, fun k h0 h1 => by rw [ho k h0 h1]; exact W.own k h0 h1⟩, ⟨fun k h0 h1 hf => ⟨.inl (ho k h0 h1), fun _ => ?_⟩, fun k h0 h1 hf => .inl (by rw [ho k h0 h1]; exact hf)⟩, W.fb_keep fun x hx x0 x1 => ?_⟩
  · refine put_rd_ne hw ?_
    rintro rfl
    exact hf hown
  · exact put_rd_ne hw (fun e => W.ne_more hx (by omega) e.symm)

theorem Wk.drops {now : Int → UInt64} {node more : Int} {m : List Int} (W : Wk now node more m) : m.any oddB = false := by
  rw [List.any_eq_false]
  intro x hx
  have := W.rng x (List.mem_cons_of_mem _ hx)
  unfold blkOk at this
  simp [oddB]; omega

theorem setD_dir (c : Crd) {m : List Int} (hl : m.length = 21) (t : Int) : ({ setD c m with more := t } : Crd).direct ++ m.drop 5 = m := by
  obtain ⟨a, b, c', d, e, r, rfl, _⟩ := take5 hl
  rfl

/-- what a card with a map comes to -/
structure Kep (node : Int) (X : VS) (c : Crd) (m : List Int) (r : Crd × Int × VS) : Prop where
  e : r.2.1 = 0
  c_ : r.1 = { setD c m with more := r.1.more }
  mor : r.1.more = -1 ↔ (m.drop 5).any usedB = false
  map : mapOf r.2.2.now r.1 = some m
  wk : Wk r.2.2.now node r.1.more m
  fr : Fr node X.now r.2.2.now
  by_ : ∀ p, p < 2688 → fb r.2.2.now m p = fb X.now m p
  x : r.2.2 = { X with now := r.2.2.now }

theorem keepP_plain {B : Int → UInt64} {node : Int} (hn : 0 ≤ node ∧ node < 24) {X : VS} {c : Crd} {m : List Int} (W : Wk X.now node c.more m) :
    ((keepP B X node c m).2.1 = 9 ∧ ¬ Alone B node X ∧ c.more = -1 ∧ (m.drop 5).any usedB = true) ∨ Kep node X c m (keepP B X node c m) := by
  have hl := W.len
  unfold keepP
  rw [if_pos ⟨hn, hl, W.drops⟩]
  by_cases hd : (m.drop 5).any usedB = false
  · rw [if_pos hd]
    have hmap : ∀ now, mapOf now { setD c m with more := -1 } = some m := by
      intro now
      unfold mapOf
      rw [if_pos rfl]
      have : m.drop 5 = List.replicate 16 (-1) := by
        rw [List.eq_replicate_iff]
        refine ⟨by simp [hl], fun x hx => ?_⟩
        have := List.any_eq_false.1 hd x hx
        simp [usedB] at this; exact this
      rw [← this]
      exact congrArg some (setD_dir c hl _)
    right
    by_cases hc : c.more = -1
    · rw [if_pos hc]
      rw [hc] at W
      exact ⟨rfl, rfl, ⟨fun _ => hd, fun _ => rfl⟩, hmap _, W, Fr.refl _ _, fun _ _ => rfl, rfl⟩
    · rw [if_neg hc]
      obtain ⟨hk, ho, W1, F1, B1⟩ := W.drop_more hn hc
      have hdr : dropP X c.more = (0, { X with now := upd X.now (200 + c.more) 0 }) := by
        unfold dropP
        rw [if_pos hk, if_neg (by rw [ho]; exact w64_ne hn)]
      rw [hdr]
      simp only [if_true]
      exact ⟨rfl, rfl, ⟨fun _ => hd, fun _ => rfl⟩, hmap _, W1, F1, B1, rfl⟩
  · rw [if_neg hd]
    have hw16 : ((m.drop 5).map fun n => w64 (n + 1)).length = 16 := by simp [hl]
    have hm5 : ∀ x ∈ m.drop 5, -1 ≤ x ∧ x < 96 := by
      intro x hx
      have := W.rng x (List.mem_cons_of_mem _ (List.mem_of_mem_drop hx))
      unfold blkOk at this; omega
    have hmap : ∀ now k, 0 ≤ k → k < 96 → mapOf (putBlk now k ((m.drop 5).map fun n => w64 (n + 1))) { setD c m with more := k } = some m := by
      intro now k k0 k1
      unfold mapOf
      show (if k = -1 then _ else if 0 ≤ k ∧ k < 96 ∧ (moreL (putBlk _ k _) k).all _ = true ∧ ((moreL (putBlk _ k _) k).map convW).any usedB = true then some (_ ++ (moreL (putBlk _ k _) k).map convW) else none) = some m
      rw [if_neg (by omega), more_put _ _ hw16, conv_back hm5, if_pos]
      · exact congrArg some (setD_dir c hl _)
      · refine ⟨k0, k1, ?_, by simpa using hd⟩
        rw [List.all_map, List.all_eq_true]
        intro x hx
        simp only [Function.comp]
        exact decide_eq_true (w64_small (hm5 x hx)).2
    by_cases hc : c.more = -1
    · rw [if_pos hc]
      rw [hc] at W
      rcases take_facts (B := B) (X := X) hn with ⟨e0, k0, k1, kn, kx⟩ | ⟨e9, kx, kf⟩
      · right
        have hk : 0 ≤ (takeP B X node).1 ∧ (takeP B X node).1 < 96 := ⟨k0, k1⟩
        obtain ⟨W1, F1, B1⟩ := W.take_more hn hk kn
        obtain ⟨W2, F2, B2⟩ := W1.putMore (ws := (m.drop 5).map fun n => w64 (n + 1)) (by omega) (by omega)
        simp only [e0, if_true, if_pos hk, kx]
        refine ⟨rfl, rfl, ⟨fun h => ?_, fun h => absurd h hd⟩, hmap _ _ k0 k1, W2, F1.trans F2 (w64_ne hn), fun p hp => (B2 p hp).trans (B1 p hp), rfl⟩
        have h' : (takeP B X node).1 = -1 := h
        omega
      · left
        simp only [e9]
        exact ⟨by simp, fun A => take_alone hn W A kf, hc, by simpa using hd⟩
    · rw [if_neg hc]
      right
      have hk : 0 ≤ c.more ∧ c.more < 96 := by
        rcases W.rng c.more List.mem_cons_self with h | h
        · exact absurd h hc
        · exact h
      obtain ⟨W2, F2, B2⟩ := W.putMore (ws := (m.drop 5).map fun n => w64 (n + 1)) (by omega) hc
      simp only [if_true, if_pos hk]
      exact ⟨rfl, rfl, ⟨fun h => absurd h hc, fun h => absurd h hd⟩, hmap _ _ hk.1 hk.2, W2, F2, B2, rfl⟩

/-- a file: its card over words has a map, and its bytes are these -/
structure FileI (now : Int → UInt64) (node : Int) (c : Crd) (m : List Int) (s : List UInt8) : Prop where
  map : mapOf now c = some m
  wk : Wk now node c.more m
  kind : c.kind = 1 ∧ c.links = 1
  size : c.size = (s.length : Int)
  fits : s.length ≤ 2688
  by_ : ∀ p, p < 2688 → fb now m p = s[p]?.getD 0
  hol : ∀ j, j < 21 → s.length ≤ 128 * j → m[j]?.getD (-1) = -1
  mor : c.more = -1 ↔ (m.drop 5).any usedB = false

theorem mapOf_direct {now : Int → UInt64} {c : Crd} {m : List Int} (h : mapOf now c = some m) : ∀ x ∈ c.direct, x ∈ m := by
  intro x hx
  unfold mapOf at h
  split at h
  · have := Option.some.inj h; subst this; exact List.mem_append_left _ hx
  · split at h
    · have := Option.some.inj h; subst this; exact List.mem_append_left _ hx
    · cases h

theorem FileI.right {now : Int → UInt64} {node : Int} {c : Crd} {m : List Int} {s : List UInt8} (F : FileI now node c m s) : rightC c = true := by
  have hb : ∀ x, blkOk x → blockC x = true := by
    intro x hx; unfold blkOk at hx; simp [blockC]; omega
  have hd : c.direct.all blockC = true := List.all_eq_true.2 fun x hx => hb x (F.wk.rng x (List.mem_cons_of_mem _ (mapOf_direct F.map x hx)))
  have hs := F.size
  have hf := F.fits
  unfold rightC
  rw [if_neg (by rw [F.kind.1]; decide), hd, hb c.more (F.wk.rng _ List.mem_cons_self), F.kind.1, F.kind.2]
  simp; omega
theorem FileI.ok {now : Int → UInt64} {node : Int} {c : Crd} {m : List Int} {s : List UInt8} (F : FileI now node c m s) : c.ok := by
  have hs := F.size
  have hf := F.fits
  refine ⟨by rw [F.kind.1]; exact ⟨by decide, by decide⟩, by rw [F.kind.2]; exact ⟨by decide, by decide⟩, by unfold inI64; omega, fun x hx => ?_, ?_⟩
  · have := F.wk.rng x (List.mem_cons_of_mem _ (mapOf_direct F.map x hx))
    unfold blkOk at this; unfold inI64; omega
  · have := F.wk.rng _ List.mem_cons_self
    unfold blkOk at this; unfold inI64; omega
theorem FileI.okMap {now : Int → UInt64} {node : Int} {c : Crd} {m : List Int} {s : List UInt8} (F : FileI now node c m s) : okMap now c := by
  intro m' hm x hx
  rw [F.map] at hm
  have := Option.some.inj hm
  subst this
  exact F.wk.rng x (List.mem_cons_of_mem _ hx)

/-- the document's answer: bytes are written -/
def refWriteL (s : List UInt8) (at_ : Int) (data : List UInt8) : List UInt8 × Int :=
  if at_ < 0 ∨ 400 < data.length then ([], 1)
  else if data = [] then (s, 0)
  else if 2688 - (data.length : Int) < at_ then ([], 10)
  else ((s ++ zeros (at_.toNat + data.length - s.length)).take at_.toNat ++ data ++ (s ++ zeros (at_.toNat + data.length - s.length)).drop (at_.toNat + data.length), 0)

theorem zeros_get (n i : Nat) : (zeros n)[i]?.getD 0 = 0 := by
  unfold zeros
  rw [List.getElem?_replicate]
  split <;> rfl
theorem pad_get (s : List UInt8) (n i : Nat) : (s ++ zeros n)[i]?.getD 0 = s[i]?.getD 0 := by
  by_cases h : i < s.length
  · rw [List.getElem?_append_left h]
  · rw [List.getElem?_append_right (by omega), zeros_get, List.getElem?_eq_none (by omega)]; rfl

theorem refWrite_get (s : List UInt8) (a : Nat) (data : List UInt8) (p : Nat) :
    ((s ++ zeros (a + data.length - s.length)).take a ++ data ++ (s ++ zeros (a + data.length - s.length)).drop (a + data.length))[p]?.getD 0 = if a ≤ p ∧ p < a + data.length then data[p - a]?.getD 0 else s[p]?.getD 0 := by
  have hz : (zeros (a + data.length - s.length)).length = a + data.length - s.length := by simp [zeros]
  have hL : (s ++ zeros (a + data.length - s.length)).length ≥ a + data.length := by rw [List.length_append, hz]; omega
  have ht : ((s ++ zeros (a + data.length - s.length)).take a).length = a := by rw [List.length_take]; omega
  by_cases c1 : p < a
  · rw [List.append_assoc, List.getElem?_append_left (by omega), List.getElem?_take, if_pos c1, pad_get, if_neg (by omega)]
  · by_cases c2 : p < a + data.length
    · rw [List.getElem?_append_left (by rw [List.length_append]; omega), List.getElem?_append_right (by omega), ht, if_pos ⟨by omega, c2⟩]
    · rw [List.getElem?_append_right (by rw [List.length_append]; omega), List.length_append, ht, List.getElem?_drop, if_neg (by omega), show a + data.length + (p - (a + data.length)) = p by omega, pad_get]
theorem refWrite_len (s : List UInt8) (a : Nat) (data : List UInt8) :
    ((s ++ zeros (a + data.length - s.length)).take a ++ data ++ (s ++ zeros (a + data.length - s.length)).drop (a + data.length)).length = max s.length (a + data.length) := by
  have hz : (zeros (a + data.length - s.length)).length = a + data.length - s.length := by simp [zeros]
  simp only [List.length_append, List.length_take, List.length_drop, hz]
  omega

/-- what writing comes to -/
structure Wrote (node : Int) (X : VS) (m : List Int) (at_ : Int) (data s' : List UInt8) (r : Crd × Int × VS) (m' : List Int) : Prop where
  file : FileI r.2.2.now node r.1 m' s'
  fr : Fr node X.now r.2.2.now
  x : r.2.2 = { X with now := r.2.2.now }
  holes : ∀ j, j < 21 → (m'[j]?.getD (-1) = -1 ↔ m[j]?.getD (-1) = -1 ∧ ¬ (data ≠ [] ∧ at_.toNat / 128 ≤ j ∧ j < (at_.toNat + data.length + 127) / 128))

theorem writeP_plain {B : Int → UInt64} {node : Int} (hn : 0 ≤ node ∧ node < 24) {X : VS} {c : Crd} {m : List Int} {s : List UInt8} (F : FileI X.now node c m s) (at_ : Int) (data : List UInt8) :
    ((writeP B X node c at_ data).2.1 = 9 ∧ (refWriteL s at_ data).2 = 0 ∧ ¬ Alone B node X) ∨
    ((writeP B X node c at_ data).2.1 = (refWriteL s at_ data).2 ∧ ((refWriteL s at_ data).2 = 0 → ∃ m', Wrote node X m at_ data (refWriteL s at_ data).1 (writeP B X node c at_ data) m')) := by
  unfold writeP refWriteL
  by_cases h1 : at_ < 0 ∨ 400 < data.length
  · rw [if_pos (.inr h1), if_pos h1]
    exact .inr ⟨rfl, fun h => by cases h⟩
  · rw [if_neg (by rintro (x | x); exact x hn; exact h1 x), if_neg h1]
    by_cases h2 : data = []
    · rw [if_pos h2, if_pos h2, F.map]
      refine .inr ⟨rfl, fun _ => ⟨m, F, Fr.refl _ _, rfl, fun j hj => ⟨fun h => ⟨h, fun x => x.1 h2⟩, fun h => h.1⟩⟩⟩
    · rw [if_neg h2, if_neg h2]
      have hdl : 0 < data.length := by
        cases data with
        | nil => exact absurd rfl h2
        | cons x l => simp
      by_cases h3 : 2688 - (data.length : Int) < at_
      · rw [if_pos h3, if_pos h3]
        exact .inr ⟨rfl, fun h => by cases h⟩
      · rw [if_neg h3, if_neg h3, F.map]
        simp only
        obtain ⟨a, rfl⟩ : ∃ a : Nat, at_ = (a : Int) := ⟨at_.toNat, by omega⟩
        have hfit : a + data.length ≤ 2688 := by omega
        simp only [Int.toNat_natCast]
        rcases writeL_plain (B := B) (a := a) (data := data) hn ((a + data.length + 127) / 128 - a / 128) (a / 128) X m F.wk (by omega) (fun _ => by omega) (by omega) with ⟨e, hno⟩ | R
        · left
          rw [e]
          exact ⟨by simp, trivial, hno⟩
        · rw [R.e]
          simp only [if_true]
          have hc : ({ c with size := max c.size ((a : Int) + data.length) } : Crd).more = c.more := rfl
          rcases keepP_plain (B := B) (c := { c with size := max c.size ((a : Int) + data.length) }) hn (hc ▸ R.wk) with ⟨e, hno, _⟩ | K
          · left
            exact ⟨e, trivial, fun A => hno (A.on R.fr (w64_ne hn) (by rw [R.x]))⟩
          · right
            refine ⟨K.e, fun _ => ⟨(writeL B node a data ((a + data.length + 127) / 128 - a / 128) (a / 128) X m).2.2, ?_, R.fr.trans K.fr (w64_ne hn), by rw [K.x, R.x], fun j hj => ?_⟩⟩
            · have hcc := K.c_
              refine ⟨K.map, K.wk, ?_, ?_, ?_, fun p hp => ?_, fun j hj hs => ?_, K.mor⟩
              · rw [hcc]; exact F.kind
              · rw [hcc, refWrite_len]
                have := F.size
                show max c.size ((a : Int) + data.length) = _
                rw [this]; omega
              · rw [refWrite_len]; have := F.fits; omega
              · rw [K.by_ p hp, R.by_ p hp, refWrite_get, F.by_ p hp]
                by_cases hc : a ≤ p ∧ p < a + data.length
                · rw [if_pos hc, if_pos ⟨by omega, by omega, hc⟩]
                · rw [if_neg hc, if_neg (fun h => hc h.2.2)]
              · rw [refWrite_len] at hs
                exact (R.holes j hj).2 ⟨F.hol j hj (by omega), by omega⟩
            · rw [R.holes j hj]
              constructor
              · rintro ⟨x, y⟩; exact ⟨x, fun z => y ⟨z.2.1, by omega⟩⟩
              · rintro ⟨x, y⟩; exact ⟨x, fun z => y ⟨h2, z.1, by omega⟩⟩
end Go.Proofs.YteambknhlbiajaaGreat
/-
  Layer 8: a view's changes.
-/
set_option linter.all false
set_option maxRecDepth 100000
set_option maxHeartbeats 1000000
namespace Go.Proofs.YteambknhlbiajaaGreat
open Go Go.Eng

/-- changes as cells -/
def chgC (l : List (Int × UInt64)) : List Value := l.flatMap fun p => [.int .i64 p.1, wv p.2]
theorem chgC_len (l : List (Int × UInt64)) : (chgC l).length = l.length * 2 := by
  induction l with
  | nil => rfl
  | cons x l ih => simp only [chgC, List.flatMap_cons, List.length_append, List.length_cons, List.length_nil] at ih ⊢; omega
theorem chgC_app (l m : List (Int × UInt64)) : chgC (l ++ m) = chgC l ++ chgC m := by simp [chgC]

/-- what the library's sort does to changes -/
def SortS : Prop := ∀ (h : Heap) (a : Option Addr) (n c : Nat) (l : List (Int × UInt64)), Own h 76 2 a n c (chgC l) → l.length ≤ 2824 → (∀ p ∈ l, 0 ≤ p.1 ∧ p.1 < 4096) →
  CallH Tryz.prog 67 [.slice a n c, .func (.func 68) #[] #[]] h (fun v h' => Keeps (blkA a) h h' ∧ v = .tuple #[] ∧ ∃ l', l'.Perm l ∧ l'.Pairwise (fun x y => x.1 ≤ y.1) ∧ Own h' 76 2 a n c (chgC l'))

/-- the words that are changed, by their places -/
def chgL (now old : Int → UInt64) : List (Int × UInt64) := ((List.range 2824).filter fun (i : Nat) => decide (now (i : Int) ≠ old (i : Int))).map fun (i : Nat) => ((i : Int), now (i : Int))

theorem openW_lt {a : Int} (h : openW a = true) : 0 ≤ a ∧ a < 2824 := by
  simp [openW] at h; omega

theorem lk_of_mem : ∀ {l : List (Int × UInt64)} {p : Int × UInt64}, (l.map (·.1)).Nodup → p ∈ l → lk l p.1 = some p.2
  | [], p, _, h => nomatch h
  | (k, v) :: l, p, hn, h => by
    simp only [List.map_cons, List.nodup_cons] at hn
    unfold lk
    rcases List.mem_cons.1 h with rfl | h
    · rw [if_pos rfl]
    · rw [if_neg (fun e => hn.1 (by rw [← e]; exact List.mem_map_of_mem h))]
      exact lk_of_mem hn.2 h
theorem mem_of_lk : ∀ {l : List (Int × UInt64)} {k : Int} {w : UInt64}, lk l k = some w → (k, w) ∈ l
  | [], k, w, h => by cases h
  | (k', v) :: l, k, w, h => by
    unfold lk at h
    split at h
    · rename_i e; subst e; cases h; exact List.mem_cons_self
    · exact List.mem_cons_of_mem _ (mem_of_lk h)

theorem nodup_of_map {α β : Type} (f : α → β) : ∀ {l : List α}, (l.map f).Nodup → l.Nodup
  | [], _ => List.nodup_nil
  | x :: l, h => by
    simp only [List.map_cons, List.nodup_cons] at h
    exact List.nodup_cons.2 ⟨fun hx => h.1 (List.mem_map_of_mem hx), nodup_of_map f h.2⟩

/-- keys that are open are few -/
theorem own_len {l : List (Int × UInt64)} (hn : (l.map (·.1)).Nodup) (ho : ∀ p ∈ l, openW p.1 = true) : l.length ≤ 2824 := by
  have h1 : (l.map (·.1)) ⊆ (List.range 2824).map fun (i : Nat) => (i : Int) := by
    intro x hx
    obtain ⟨p, hp, rfl⟩ := List.mem_map.1 hx
    have := openW_lt (ho p hp)
    exact List.mem_map.2 ⟨p.1.toNat, by simp; omega, by omega⟩
  have := hn.length_le_of_subset h1
  simpa using this

theorem chgL_sorted (now old : Int → UInt64) : (chgL now old).Pairwise (fun x y => x.1 < y.1) := by
  unfold chgL
  rw [List.pairwise_map]
  exact (List.pairwise_lt_range.filter _).imp fun h => by simpa using h

/-- what a view's words come to, sorted -/
theorem chgL_of {own l : List (Int × UInt64)} {now old : Int → UInt64} (hn : (own.map (·.1)).Nodup) (ho : ∀ a, lk own a ≠ none → openW a = true) (hx : ∀ a, now a = (lk own a).getD (old a))
    (hp : l.Perm (own.filter fun p => decide (p.2 ≠ old p.1))) (hs : l.Pairwise (fun x y => x.1 ≤ y.1)) : l = chgL now old := by
  have hmem : ∀ p, p ∈ l ↔ p ∈ chgL now old := by
    intro p
    rw [hp.mem_iff, List.mem_filter]
    unfold chgL
    simp only [List.mem_map, List.mem_filter, List.mem_range, decide_eq_true_eq]
    constructor
    · rintro ⟨h1, h2⟩
      have hl := lk_of_mem hn h1
      have hr := openW_lt (ho p.1 (by rw [hl]; simp))
      have hw := hx p.1
      rw [hl] at hw
      have e : ((p.1.toNat : Nat) : Int) = p.1 := by omega
      refine ⟨p.1.toNat, ⟨by omega, ?_⟩, ?_⟩
      · rw [e, hw]; exact h2
      · rw [e, hw]; rfl
    · rintro ⟨i, ⟨_, h1⟩, rfl⟩
      have hw := hx (i : Int)
      cases hl : lk own (i : Int) with
      | none => rw [hl] at hw; exact absurd hw h1
      | some w =>
        rw [hl] at hw
        have hw' : now (i : Int) = w := hw
        rw [hw'] at h1 ⊢
        exact ⟨mem_of_lk hl, h1⟩
  have hnl : l.Nodup := hp.symm.nodup (nodup_of_map (·.1) hn |>.sublist List.filter_sublist)
  have hnc : (chgL now old).Nodup := (chgL_sorted now old).imp fun h e => by rw [e] at h; omega
  refine List.Perm.eq_of_pairwise (le := fun x y => x.1 ≤ y.1) ?_ hs ((chgL_sorted now old).imp fun h => Int.le_of_lt h) ((List.perm_ext_iff_of_nodup hnl hnc).2 hmem)
  intro x y h1 h2 h3 h4
  have e : x.1 = y.1 := by omega
  have k1 : x ∈ own := (List.mem_filter.1 (hp.mem_iff.1 h1)).1
  have k2 : y ∈ own := (List.mem_filter.1 (hp.mem_iff.1 ((hmem y).2 h2))).1
  have l1 := lk_of_mem hn k1
  have l2 := lk_of_mem hn k2
  rw [e, l2] at l1
  exact Prod.ext e (Option.some.inj l1).symm

theorem mapW_split {m : List (Int × UInt64)} {R1 R2 : List (Int × Value)} {p : Int × Value} (h : mapW m = R1 ++ p :: R2) : ∃ m1 q m2, m = m1 ++ q :: m2 ∧ R1 = mapW m1 ∧ R2 = mapW m2 ∧ p = (q.1, wv q.2) := by
  unfold mapW at h
  obtain ⟨m1, m', rfl, h1, h2⟩ := List.map_eq_append_iff.1 h
  obtain ⟨q, m2, rfl, h3, h4⟩ := List.map_eq_cons_iff.1 h2
  exact ⟨m1, q, m2, rfl, h1.symm, h4.symm, h3.symm⟩

theorem changes_spec (hsort : SortS) {h : Heap} {V : VL} {M : MemS} {X : VS} (A : At h V M X) : CallH Tryz.prog 43 [.pointer (some ⟨V.v, 0, none⟩)] h (fun v h' => Keeps [] h h' ∧
    ∃ a c, v = .slice a (chgL X.now M.read).length c ∧ (∀ b ∈ blkA a, h.size ≤ b) ∧ Own h' 76 2 a (chgL X.now M.read).length c (chgC (chgL X.now M.read))) := by
  obtain ⟨own, O, hx, ho⟩ := A.own
  have hn : (own.map (·.1)).Nodup := by
    obtain ⟨es, cl, _, _, g, _⟩ := O
    have : (mapW own).map (·.1) = own.map (·.1) := by simp [mapW]
    rw [this] at g; exact g
  have hop : ∀ p ∈ own, openW p.1 = true := fun p hp => ho p.1 (by rw [lk_of_mem hn hp]; simp)
  have hlen := own_len hn hop
  have holt := A.blt V.ob (by simp [VL.blocks])
  refine call_of hmix Tryz.func43 rfl ok43 (by simp [Tryz.f43]) ?_
  conv => whnf
  refine IfR.f rfl ?_
  conv => whnf
  refine LoadR.o A.obj rfl ?_
  conv => whnf
  refine SemR.range rfl O fun it hR ei si ki IR => ?_
  have AR := A.on ki
  conv => whnf
  refine LoopR.on [0, 3, 12] [] (fun q : List (Int × UInt64) × List (Int × UInt64) × Option Addr × Nat => [(0, .v (.pointer (some ⟨V.v, 0, none⟩))), (3, .v (.slice q.2.2.1 (q.2.1.filter fun p => decide (p.2 ≠ M.read p.1)).length q.2.2.2)), (12, .v (.pointer (some ⟨it, 0, none⟩)))])
    (fun _ => []) (fun q h' => Keeps [it] hR h' ∧ (∃ last, IterL h' it V.ob (mapW q.1) last) ∧ (q.2.1 ++ q.1).Perm own ∧ Own h' 76 2 q.2.2.1 (q.2.1.filter fun p => decide (p.2 ≠ M.read p.1)).length q.2.2.2 (chgC (q.2.1.filter fun p => decide (p.2 ≠ M.read p.1))) ∧ ∀ b ∈ blkA q.2.2.1, hR.size ≤ b) (fun q => q.1.length) (own, [], none, 0) ?_ ?_
  · conv => whnf
    exact ⟨(own, [], none, 0), rfl, rfl, rfl, Keeps.refl _ _, ⟨none, IR⟩, List.Perm.refl _, Own.nil _ _ _, by simp [blkA]⟩
  · rintro ⟨R, D, a, ca⟩ h2 ⟨k2, ⟨last, I2⟩, pm, O2, n2⟩
    simp only at I2 pm O2 n2
    have A2 := AR.keep k2 (by intro b hb hx; have := A.blt b hb; simp at hx; omega)
    conv => whnf
    refine SemR.next I2 (by simp [blocksOf]) (by omega) (fun hR0 => ?_) (fun R1 p R2 h3 hRR s3 k3 I3 => ?_)
    · have hR1 : R = [] := by simpa [mapW] using hR0
      subst hR1
      rw [List.append_nil] at pm
      conv => whnf
      refine IfR.f rfl ?_
      have pf := pm.filter fun p => decide (p.2 ≠ M.read p.1)
      have hpl := pf.length_eq
      have hfl : (own.filter fun p => decide (p.2 ≠ M.read p.1)).length ≤ own.length := List.length_filter_le _ _
      conv => whnf
      refine CallR.m (hsort h2 a _ ca _ O2 (by omega) (fun p hp => ?_)) (by simp [blocksOf]) fun v h4 k4 hv => ?_
      · have := openW_lt (hop p (List.mem_filter.1 (pf.mem_iff.1 hp)).1)
        omega
      obtain ⟨rfl, l', q1, q2, O4⟩ := hv
      conv => whnf
      have hl' : l' = chgL X.now M.read := chgL_of hn ho hx (q1.trans pf) q2
      have hll : (D.filter fun p => decide (p.2 ≠ M.read p.1)).length = (chgL X.now M.read).length := by rw [← hl']; exact q1.length_eq.symm
      rw [hl', hll] at O4
      rw [hll]
      have k04 : Keeps [] h h4 := (ki.new1 k2 (by omega)).nil_of k4 (fun x hx => by have := n2 x hx; omega)
      exact ⟨k04, a, ca, rfl, fun b hb => by have := n2 b hb; omega, O4⟩
    · obtain ⟨m1, q, m2, rfl, rfl, rfl, rfl⟩ := mapW_split hRR
      conv => whnf
      refine IfR.t rfl ?_
      conv => whnf
      refine SemR.entry I3 ?_
      have A3 := A2.keep k3 (by intro b hb hx; have := A.blt b hb; simp at hx; omega)
      conv => whnf
      refine LoadR.o A3.obj rfl ?_
      conv => whnf
      refine CallR.i (mread_spec A3.mem q.1) fun v h4 k4 hv => ?_
      subst hv
      have k24 := k3.trans_nil k4
      have z3 := k2.size
      have z4 := k4.size
      have I4 := I3.keep k4 (by simp) (by simp)
      have O4 := (O2.keep k3 (by intro b hb hx; have := n2 b hb; simp at hx; omega)).keep k4 (by simp)
      have pm' : ((D ++ [q]) ++ (m1 ++ m2)).Perm own := by
        refine List.Perm.trans ?_ pm
        rw [List.append_assoc]
        exact List.Perm.append_left D (show (q :: (m1 ++ m2)).Perm (m1 ++ q :: m2) from List.perm_middle.symm)
      have hmw : mapW m1 ++ mapW m2 = mapW (m1 ++ m2) := List.map_append.symm
      rw [hmw] at I4
      conv => whnf
      first | refine IfR.i (fun hc => ?_) (fun hc => ?_) | (refine MeetR.pass ?_; (conv => whnf); refine IfR.i (fun hc => ?_) (fun hc => ?_))
      · have hne : q.2 ≠ M.read q.1 := by
          intro e
          rw [e] at hc
          simp at hc
        conv => whnf
        refine AllocR.i fun b5 h5 e5 s5 o5 k5 => ?_
        have hlD : (D.filter fun p => decide (p.2 ≠ M.read p.1)).length ≤ 2824 := by
          have h1 := List.length_filter_le (fun p : Int × UInt64 => decide (p.2 ≠ M.read p.1)) D
          have h2 := pm.length_eq
          simp only [List.length_append] at h2
          omega
        conv => whnf
        refine append_own (e := 76) (sz := 2) (by_ := 16) (new := [.int .i64 q.1, wv q.2]) rfl rfl rfl rfl rfl rfl rfl (O4.keep k5 (by simp)) rfl ?_ rfl (by omega) (by omega) ?_ ?_
        · intro j hj
          have o5' : h5[b5]? = some (.cells ⟨[.int .i64 q.1, wv q.2]⟩ 76 (0, 0)) := o5
          simp only [Heap.cell?, o5', Nat.zero_add]
          simp
        · intro b hb hx
          cases hx
        intro a6 c6 h6 O6 k6 n6
        conv => whnf
        refine ⟨(m1 ++ m2).length, by simp, ?_⟩
        conv => whnf
        have hf : ((D ++ [q]).filter fun p => decide (p.2 ≠ M.read p.1)) = (D.filter fun p => decide (p.2 ≠ M.read p.1)) ++ [q] := by simp [List.filter_append, hne]
        refine ⟨(m1 ++ m2, D ++ [q], a6, c6), rfl, ?_, rfl, ?_, ⟨_, (I4.keep k5 (by simp) (by simp)).keep k6 (fun hx => by have := n2 _ hx; omega) (fun hx => by have := n2 _ hx; omega)⟩, pm', ?_, ?_⟩
        · simp only [hf, List.length_append, List.length_cons, List.length_nil]
        · exact ((k2.trans k24).trans_nil k5).trans_new k6 (fun x hx => .inr (n2 x hx))
        · simp only [hf, List.length_append, List.length_cons, List.length_nil, chgC_app]
          exact O6
        · intro b hb
          have z5 := k5.size
          rcases n6 b hb with h | h
          · exact n2 b h
          · omega
      · have he : q.2 = M.read q.1 := by
          simp at hc
          exact UInt64.toNat_inj.1 (by omega)
        conv => whnf
        refine ⟨(m1 ++ m2).length, by simp, ?_⟩
        conv => whnf
        have hf : ((D ++ [q]).filter fun p => decide (p.2 ≠ M.read p.1)) = D.filter fun p => decide (p.2 ≠ M.read p.1) := by simp [List.filter_append, he]
        refine ⟨(m1 ++ m2, D ++ [q], a, ca), rfl, ?_, rfl, k2.trans k24, ⟨_, I4⟩, pm', ?_, n2⟩
        · simp only [hf]
        · simp only [hf]; exact O4
end Go.Proofs.YteambknhlbiajaaGreat
/-
  The library's sort of changes, laid at this program (made by wip/tools/laysrt.py).
-/
set_option linter.all false
namespace Go.Proofs.YteambknhlbiajaaGreat
open Go Go.Shelf
def srt_ren : Go.Shelf.Ren := ⟨fun | 6 => 67 | 15 => 85 | 14 => 84 | 28 => 99 | 29 => 100 | 20 => 91 | 21 => 92 | 22 => 93 | 23 => 94 | 24 => 95 | 25 => 96 | 26 => 97 | 27 => 98 | 46 => 102 | 47 => 103 | 48 => 104 | 49 => 105 | 50 => 106 | 57 => 107 | n => n, fun | 22 => 73 | 24 => 76 | 25 => 113 | 3 => 3 | 39 => 77 | 0 => 0 | 53 => 131 | 55 => 35 | 4 => 4 | 46 => 140 | 45 => 139 | 50 => 144 | 5 => 5 | 9 => 9 | 66 => 149 | 70 => 153 | 76 => 155 | 77 => 156 | n => n, fun n => n⟩
theorem srt : SlLaysF0.n6 Tryz.prog srt_ren := {
  mixed := by kernel_rfl,
  f6 := ⟨Tryz.f67.name, by decide, Tryz.func67.trans (congrArg some (by kernel_rfl))⟩,
  f14 := ⟨Tryz.f84.name, by decide, Tryz.func84.trans (congrArg some (by kernel_rfl))⟩,
  f15 := Tryz.func85.trans (congrArg some (by kernel_rfl)),
  f20 := ⟨Tryz.f91.name, by decide, Tryz.func91.trans (congrArg some (by kernel_rfl))⟩,
  f21 := ⟨Tryz.f92.name, by decide, Tryz.func92.trans (congrArg some (by kernel_rfl))⟩,
  f22 := ⟨Tryz.f93.name, by decide, Tryz.func93.trans (congrArg some (by kernel_rfl))⟩,
  f23 := ⟨Tryz.f94.name, by decide, Tryz.func94.trans (congrArg some (by kernel_rfl))⟩,
  f24 := ⟨Tryz.f95.name, by decide, Tryz.func95.trans (congrArg some (by kernel_rfl))⟩,
  f25 := ⟨Tryz.f96.name, by decide, Tryz.func96.trans (congrArg some (by kernel_rfl))⟩,
  f26 := ⟨Tryz.f97.name, by decide, Tryz.func97.trans (congrArg some (by kernel_rfl))⟩,
  f27 := ⟨Tryz.f98.name, by decide, Tryz.func98.trans (congrArg some (by kernel_rfl))⟩,
  f28 := Tryz.func99.trans (congrArg some (by kernel_rfl)),
  f29 := Tryz.func100.trans (congrArg some (by kernel_rfl)),
  f46 := ⟨Tryz.f102.name, by decide, Tryz.func102.trans (congrArg some (by kernel_rfl))⟩,
  f47 := Tryz.func103.trans (congrArg some (by kernel_rfl)),
  f48 := Tryz.func104.trans (congrArg some (by kernel_rfl)),
  f49 := ⟨Tryz.f105.name, by decide, Tryz.func105.trans (congrArg some (by kernel_rfl))⟩,
  f50 := ⟨Tryz.f106.name, by decide, Tryz.func106.trans (congrArg some (by kernel_rfl))⟩,
  f57 := ⟨Tryz.f107.name, by decide, Tryz.func107.trans (congrArg some (by kernel_rfl))⟩,
  t0 := Tryz.underlying0,
  a0 := Tryz.isAgg0,
  z0 := Tryz.sizeOf0,
  v0 := Tryz.zeroValue0,
  t3 := Tryz.underlying3,
  a3 := Tryz.isAgg3,
  z3 := Tryz.sizeOf3,
  v3 := Tryz.zeroValue3,
  t4 := Tryz.underlying4,
  a4 := Tryz.isAgg4,
  z4 := Tryz.sizeOf4,
  v4 := Tryz.zeroValue4,
  t5 := Tryz.underlying5,
  a5 := Tryz.isAgg5,
  z5 := Tryz.sizeOf5,
  v5 := Tryz.zeroValue5,
  t9 := Tryz.underlying9,
  a9 := Tryz.isAgg9,
  z9 := Tryz.sizeOf9,
  v9 := Tryz.zeroValue9,
  t22 := Tryz.underlying73,
  a22 := Tryz.isAgg73,
  z22 := Tryz.sizeOf73,
  v22 := Tryz.zeroValue73,
  t25 := Tryz.underlying113,
  a25 := Tryz.isAgg113,
  z25 := Tryz.sizeOf113,
  v25 := Tryz.zeroValue113,
  t39 := Tryz.underlying77,
  a39 := Tryz.isAgg77,
  z39 := Tryz.sizeOf77,
  v39 := Tryz.zeroValue77,
  t45 := Tryz.underlying139,
  a45 := Tryz.isAgg139,
  z45 := Tryz.sizeOf139,
  v45 := Tryz.zeroValue139,
  t46 := Tryz.underlying140,
  a46 := Tryz.isAgg140,
  z46 := Tryz.sizeOf140,
  v46 := Tryz.zeroValue140,
  t50 := Tryz.underlying144,
  a50 := Tryz.isAgg144,
  z50 := Tryz.sizeOf144,
  v50 := Tryz.zeroValue144,
  t53 := Tryz.underlying131,
  a53 := Tryz.isAgg131,
  z53 := Tryz.sizeOf131,
  v53 := Tryz.zeroValue131,
  t55 := Tryz.underlying35,
  a55 := Tryz.isAgg35,
  z55 := Tryz.sizeOf35,
  v55 := Tryz.zeroValue35,
  t66 := Tryz.underlying149,
  a66 := Tryz.isAgg149,
  z66 := Tryz.sizeOf149,
  v66 := Tryz.zeroValue149,
  t70 := Tryz.underlying153,
  a70 := Tryz.isAgg153,
  z70 := Tryz.sizeOf153,
  v70 := Tryz.zeroValue153,
  t76 := Tryz.underlying155,
  a76 := Tryz.isAgg155,
  z76 := Tryz.sizeOf155,
  v76 := Tryz.zeroValue155,
  t77 := Tryz.underlying156,
  a77 := Tryz.isAgg156,
  z77 := Tryz.sizeOf156,
  v77 := Tryz.zeroValue156 }
end Go.Proofs.YteambknhlbiajaaGreat
/-
  What the library's sort does to a view's changes.
-/
set_option linter.all false
set_option maxRecDepth 100000
set_option maxHeartbeats 2000000
namespace Go.Proofs.YteambknhlbiajaaGreat
open Go Go.Eng Go.Shelf Go.RowKit Go.Sort

/-- a change, its place known to be small -/
def encS (x : Fin 4096 × UInt64) : List Value := [.int .i64 (x.1.val : Int), wv x.2]
def cfS (x y : Fin 4096 × UInt64) : Int := (x.1.val : Int) - y.1.val

theorem closureS (x y : Fin 4096 × UInt64) (W : World) : Calls Tryz.prog 68 #[.agg #[.int .i64 (x.1.val : Int), wv x.2], .agg #[.int .i64 (y.1.val : Int), wv y.2]] W fun e w' => e = .returned (.int .i64 (cfS x y)) ∧ ∃ q os', w' = grow (W.drewN q) os' := by
  obtain ⟨x, v⟩ := x
  obtain ⟨y, u⟩ := y
  have hw : IntKind.i64.wrap ((x.val : Int) - y.val) = (x.val : Int) - y.val := by
    have := x.isLt
    have := y.isLt
    exact wrapI (by omega) (by omega)
  unfold cfS wv
  simp only
  generalize (v.toNat : Int) = v at *
  generalize (u.toNat : Int) = u at *
  generalize (x.val : Int) = x at *
  generalize (y.val : Int) = y at *
  go_enter Tryz.func68, Tryz.ntmps68
  go_wp2
  go_ret
  exact ⟨rfl, 0, _, by rw [alloc_eq_grow, alloc_eq_grow, grow_grow]; rfl⟩

theorem swoS : SWO (ltOf cfS) where
  irrefl x := decide_eq_false (by unfold cfS; omega)
  trans x y z h1 h2 := by
    have a := of_decide_eq_true h1
    have b := of_decide_eq_true h2
    unfold cfS at a b
    exact decide_eq_true (by unfold cfS; omega)
  ntrans x y z h1 h2 := by
    have a := of_decide_eq_false h1
    have b := of_decide_eq_false h2
    unfold cfS at a b
    exact decide_eq_false (by unfold cfS; omega)

def unS (x : Fin 4096 × UInt64) : Int × UInt64 := ((x.1.val : Int), x.2)
def toS (p : Int × UInt64) : Fin 4096 × UInt64 := (⟨p.1.toNat % 4096, Nat.mod_lt _ (by decide)⟩, p.2)
theorem un_to {p : Int × UInt64} (h : 0 ≤ p.1 ∧ p.1 < 4096) : unS (toS p) = p := by
  unfold unS toS
  have : (((p.1.toNat % 4096 : Nat)) : Int) = p.1 := by omega
  exact Prod.ext this rfl

theorem chgC_get : ∀ (l : List (Fin 4096 × UInt64)) (j : Nat) (h : j < l.length * 2), (chgC (l.map unS))[j]? = (encS (l[j / 2]'(by omega)))[j % 2]?
  | [], j, h => by simp at h
  | x :: l, 0, h => rfl
  | x :: l, 1, h => rfl
  | x :: l, j + 2, h => by
    have h' : j < l.length * 2 := by simp at h; omega
    have ih := chgC_get l j h'
    have e1 : (j + 2) / 2 = j / 2 + 1 := by omega
    have e2 : (j + 2) % 2 = j % 2 := by omega
    simp only [e1, e2, List.getElem_cons_succ]
    rw [← ih]
    rfl

theorem flat_chg (d : Array (Fin 4096 × UInt64)) : flatK encS 2 d = ⟨chgC (d.toList.map unS)⟩ := by
  have hl := chgC_len (d.toList.map unS)
  simp at hl
  apply Array.ext
  · rw [size_flatK]
    show d.size * 2 = (chgC (d.toList.map unS)).length
    omega
  · intro j h1 h2
    have hj : j < d.size * 2 := by rw [size_flatK] at h1; exact h1
    have g := chgC_get d.toList j (by simpa using hj)
    have hd : j / 2 < d.size := by omega
    have hm : j % 2 < (encS d[j / 2]).length := by unfold encS; simp; omega
    have e1 := get_flatK encS 2 d j hj
    rw [getElem!_pos (flatK encS 2 d) j h1, getElem!_pos d (j / 2) hd, getElem!_pos (encS d[j / 2]) (j % 2) hm] at e1
    rw [e1]
    show _ = (chgC (d.toList.map unS))[j]
    have h3 : j < (chgC (d.toList.map unS)).length := by omega
    rw [List.getElem?_eq_getElem h3] at g
    have g2 : (encS (d.toList[j / 2]'(by simpa using hd)))[j % 2]? = some (encS d[j / 2])[j % 2] := by
      rw [Array.getElem_toList]
      exact List.getElem?_eq_getElem hm
    rw [g2] at g
    exact (Option.some.inj g).symm

theorem sort_spec : SortS := by
  intro h a n c l O hlen hr w hw
  subst hw
  have eg : ∀ args w, (callFunc 68 args).run Tryz.prog w = .ok (.enter 68 args) w := enters_of Tryz.func68 (by kernel_rfl) rfl
  have hcl := chgC_len l
  rcases O with ⟨rfl, rfl, rfl, hl⟩ | ⟨b, cs, rfl, ho, ht, h1, h2, h3⟩
  · have : l = [] := List.eq_nil_of_length_eq_zero (by rw [hl] at hcl; simp at hcl; omega)
    subst this
    refine (AnyF.slices_SortFunc_none srt none 0 (.func (.func 68) #[] #[]) w).mono fun e w' ⟨he, hw⟩ => ?_
    subst hw
    exact ⟨_, he, SameOut.refl _, Keeps.refl _ _, rfl, [], List.Perm.refl _, List.Pairwise.nil, .inl ⟨rfl, rfl, rfl, rfl⟩⟩
  · let d : Array (Fin 4096 × UInt64) := (l.map toS).toArray
    have hds : d.size = l.length := by simp [d]
    have hmap : d.toList.map unS = l := by
      simp only [d, List.map_map]
      conv => rhs; rw [← List.map_id l]
      exact List.map_congr_left fun p hp => un_to (hr p hp)
    have hn : n = d.size := by omega
    subst hn
    have hfl : flatK encS 2 d = ⟨chgC l⟩ := by rw [flat_chg, hmap]
    have hH : HoldsK encS 2 w b 0 d := by
      intro j hj
      rw [size_flatK] at hj
      have hjl : j < (chgC l).length := by omega
      have hjc : j < cs.length := by
        have : d.size * 2 ≤ c * 2 := by omega
        omega
      constructor
      · have e : (flatK encS 2 d)[j]! = (chgC l)[j] := by
          rw [hfl, getElem!_pos _ j (by simpa using hjl)]; rfl
        show w.cell? ⟨b, 0 + j, none⟩ = some (flatK encS 2 d)[j]!
        rw [e]
        have e2 : (chgC l)[j] = cs[j] := by
          have : (cs.take (chgC l).length)[j]? = (chgC l)[j]? := by rw [ht]
          rw [List.getElem?_take, if_pos hjl, List.getElem?_eq_getElem hjc, List.getElem?_eq_getElem hjl] at this
          exact (Option.some.inj this).symm
        rw [e2]
        simp only [World.cell?, ho, Nat.zero_add]
        simp [hjc]
      · simp [World.frozen?, ho]
    have hblk : b < w.heap.size := obj_lt ho
    have hcmp : CmpLays Tryz.prog 68 #[] encS 2 cfS b 0 d.size w := fun _ _ _ _ x y => closureS x y _
    refine (AnyQ.slices_SortFunc srt 2 Tryz.isAgg76 Tryz.sizeOf76 encS (fun _ => rfl) (fun x v hv => by simp [encS] at hv; rcases hv with rfl | rfl <;> rfl) cfS swoS 68 #[] b 0 c d w eg hcmp hH hblk (by omega)).mono fun e w' ⟨he, d', m, os, hp, hs, hw⟩ => ?_
    subst hw
    have hds' : d'.size = d.size := hp.1
    have hperm : d'.toList.Perm d.toList := by
      have := hp.2.2
      rw [Array.extract_eq_self_of_le (Nat.le_refl _)] at this
      rwa [← hds', Array.extract_eq_self_of_le (Nat.le_refl _)] at this
    have hheap : (sortWorldK encS 2 w b 0 m d' os).heap = w.heap.modify b (onCells (putCells id 0 (flatK encS 2 d'))) ++ os := rfl
    refine ⟨_, he, ⟨rfl, rfl, rfl⟩, ⟨?_, ?_⟩, rfl, d'.toList.map unS, ?_, ?_, ?_⟩
    · rw [hheap]; simp
    · intro x hx hxb
      rw [hheap, Array.getElem?_append_left (by simpa using hx), Array.getElem?_modify]
      simp [blkA] at hxb
      rw [if_neg (fun e => hxb e.symm)]
    · rw [← hmap]; exact hperm.map unS
    · rw [List.pairwise_map, List.pairwise_iff_getElem]
      intro i j hi hj hij
      have hj2 : j < d'.size := by simpa using hj
      have hi2 : i < d'.size := by omega
      have := hs i j (Nat.zero_le _) hij (by omega)
      rw [getElem!_pos d' i hi2, getElem!_pos d' j hj2] at this
      have h := of_decide_eq_false this
      unfold cfS at h
      simp only [Array.getElem_toList, unS]
      omega
    · refine .inr ⟨b, (putCells id 0 (flatK encS 2 d') ⟨cs⟩).toList, rfl, ?_, ?_, ?_, ?_, h3⟩
      · rw [hheap, Array.getElem?_append_left (by simpa using hblk), Array.getElem?_modify, if_pos rfl, ho]
        rfl
      · have hl2 := chgC_len (d'.toList.map unS)
        simp at hl2
        rw [flat_chg]
        apply List.ext_getElem
        · simp [putCells]; omega
        · intro j hj1 hj2
          have hjc : j < cs.length := by simp [putCells] at hj1; omega
          simp only [List.getElem_take, putCells, Array.toList_mapIdx, List.getElem_mapIdx]
          rw [if_pos ⟨Nat.zero_le _, by simpa using hj2⟩]
          simp only [id, Nat.sub_zero]
          rw [getElem!_pos _ j (by simpa using hj2)]
          rfl
      · simp [putCells]; exact h1
      · rw [chgC_len]; simp [hds']
end Go.Proofs.YteambknhlbiajaaGreat
/-
  Layer 10's law: what a step leaves is made in the memory, or undone.
-/
set_option linter.all false
set_option maxRecDepth 100000
set_option maxHeartbeats 1000000
namespace Go.Proofs.YteambknhlbiajaaGreat
open Go Go.Eng

theorem store_calm {M : MemS} (hu : M.until_ = -1) {i : Int} (hi : M.there i = true) (w : UInt64) : (M.store i w).2 = { M with calls := IntKind.i64.wrap (M.calls + 1), loose := putW M.loose i w } := by
  unfold MemS.store MemS.call
  rw [hi, hu]
  rfl

/-- words are stored one by one -/
def storeL (M : MemS) (l : List (Int × UInt64)) : MemS := l.foldl (fun M p => (M.store p.1 p.2).2) M

theorem storeL_calm (now : Int → UInt64) : ∀ (l : List (Int × UInt64)) (M : MemS), M.until_ = -1 → M.sure.length = 2824 → (∀ p ∈ l, (0 ≤ p.1 ∧ p.1 < 2824) ∧ p.2 = now p.1) →
    (storeL M l).until_ = -1 ∧ (storeL M l).sure.length = 2824 ∧ ∀ a, (storeL M l).read a = if a ∈ l.map (·.1) then now a else M.read a
  | [], M, hu, hs, _ => ⟨hu, hs, fun a => by simp [storeL]⟩
  | p :: l, M, hu, hs, h => by
    obtain ⟨hp, hw⟩ := h p List.mem_cons_self
    have ht : M.there p.1 = true := by unfold MemS.there; rw [hs]; simp; omega
    have e := store_calm hu ht p.2
    obtain ⟨i1, i2, i3⟩ := storeL_calm now l (M.store p.1 p.2).2 (by rw [e]; exact hu) (by rw [e]; exact hs) (fun q hq => h q (List.mem_cons_of_mem _ hq))
    refine ⟨i1, i2, fun a => ?_⟩
    show (storeL (M.store p.1 p.2).2 l).read a = _
    rw [i3 a]
    have hr : (M.store p.1 p.2).2.read a = if a = p.1 then p.2 else M.read a := by
      rw [e]
      have hth : ∀ x, MemS.there { M with calls := IntKind.i64.wrap (M.calls + 1), loose := putW M.loose p.1 p.2 } x = M.there x := fun _ => rfl
      unfold MemS.read
      rw [hth]
      simp only [lk_put]
      by_cases ha : a = p.1
      · subst ha; simp [ht]
      · simp [ha]
    by_cases h1 : a ∈ l.map (·.1)
    · rw [if_pos h1, if_pos (by simp only [List.map_cons, List.mem_cons]; exact .inr h1)]
    · rw [if_neg h1, hr]
      by_cases h2 : a = p.1
      · rw [if_pos h2, if_pos (by simp only [List.map_cons, List.mem_cons]; exact .inl h2), h2, hw]
      · rw [if_neg h2, if_neg (by simp only [List.map_cons, List.mem_cons]; rintro (x | x); exact h2 x; exact h1 x)]

theorem chgL_mem {now old : Int → UInt64} {p : Int × UInt64} (h : p ∈ chgL now old) : (0 ≤ p.1 ∧ p.1 < 2824) ∧ p.2 = now p.1 := by
  unfold chgL at h
  simp only [List.mem_map, List.mem_filter, List.mem_range] at h
  obtain ⟨i, ⟨h1, _⟩, rfl⟩ := h
  exact ⟨⟨by simp, by simp; omega⟩, rfl⟩
theorem chgL_keys {now old : Int → UInt64} {a : Int} : a ∈ (chgL now old).map (·.1) ↔ (0 ≤ a ∧ a < 2824) ∧ now a ≠ old a := by
  unfold chgL
  simp only [List.map_map, List.mem_map, List.mem_filter, List.mem_range, decide_eq_true_eq, Function.comp]
  constructor
  · rintro ⟨i, ⟨h1, h2⟩, rfl⟩; exact ⟨⟨by omega, by omega⟩, h2⟩
  · rintro ⟨⟨h0, h1⟩, h2⟩
    refine ⟨a.toNat, ⟨by omega, ?_⟩, by omega⟩
    rwa [show ((a.toNat : Nat) : Int) = a by omega]

/-- what a view changes, made in the memory -/
theorem storeL_now {h : Heap} {V : VL} {M : MemS} {X : VS} (A : At h V M X) (hu : M.until_ = -1) (hs : M.sure.length = 2824) :
    (storeL M (chgL X.now M.read)).until_ = -1 ∧ (storeL M (chgL X.now M.read)).sure.length = 2824 ∧ (storeL M (chgL X.now M.read)).read = X.now := by
  obtain ⟨i1, i2, i3⟩ := storeL_calm X.now (chgL X.now M.read) M hu hs fun p hp => chgL_mem hp
  refine ⟨i1, i2, funext fun a => ?_⟩
  rw [i3 a]
  by_cases h1 : a ∈ (chgL X.now M.read).map (·.1)
  · rw [if_pos h1]
  · rw [if_neg h1]
    obtain ⟨own, _, hx, ho⟩ := A.own
    cases hl : lk own a with
    | none => rw [hx a, hl]; rfl
    | some w =>
      have hr := openW_lt (ho a (by rw [hl]; simp))
      rw [chgL_keys] at h1
      exact (Classical.byContradiction fun h => h1 ⟨hr, fun e => h e.symm⟩)

theorem At.store {h h' : Heap} {V : VL} {M M' : MemS} {X : VS} (A : At h V M X) (hab : V.ab = none) (hanb : V.anb = none) (k : Keeps [V.mem.m, V.mem.lb] h h') (R : MemAt h' V.mem M') : ∃ now, At h' V M' { X with now := now } := by
  obtain ⟨own, O, hx, ho⟩ := A.own
  have nb : ∀ b ∈ [V.v, V.ob, V.sb, V.mb], b ∉ [V.mem.m, V.mem.lb] := by
    intro b hb hm
    refine A.ap2 b hb ?_
    simp only [ML.blocks]
    simp at hm ⊢
    rcases hm with h | h <;> simp [h]
  exact ⟨fun a => (lk own a).getD (M'.read a), {
    mem := R
    obj := k.obj A.obj (nb V.v (by simp))
    own := ⟨own, O.keep k (nb V.ob (by simp)), fun a => rfl, ho⟩
    seen := A.seen.keep k (nb V.sb (by simp))
    mine := A.mine.keep k (nb V.mb (by simp))
    away := A.away.keep k (by rw [hab]; simp)
    awayN := A.awayN.keep k (by rw [hanb]; simp)
    ap1 := A.ap1
    ap2 := A.ap2
    ap3 := A.ap3 }⟩

theorem reps_chg (h : Heap) : ∀ l : List (Int × UInt64), (∀ p ∈ l, inI64 p.1) → Reps h (chgC l) (l.map fun p => (⟨p.1, p.2⟩ : Chg))
  | [], _ => rfl
  | p :: l, hl => ⟨[.int .i64 p.1, wv p.2], chgC l, rfl, ⟨rfl, hl p List.mem_cons_self⟩, reps_chg h l fun q hq => hl q (List.mem_cons_of_mem _ hq)⟩

theorem storeL_take (M : MemS) (l : List (Int × UInt64)) (i : Nat) (hi : i < l.length) : storeL M (l.take (i + 1)) = ((storeL M (l.take i)).store l[i].1 l[i].2).2 := by
  unfold storeL
  rw [List.take_succ_eq_append_getElem hi, List.foldl_append]
  rfl

/-- a file of the law's -/
def fileC (V : VL) (node : Int) (c : Crd) (s : ByteArray) : List Value := [.pointer (some ⟨V.v, 0, none⟩), .pointer (some ⟨V.mem.m, 0, none⟩), .int .i64 node] ++ c.cells ++ [.string s]

theorem fend_spec {h : Heap} {V : VL} {M : MemS} {X : VS} (A : At h V M X) (hab : V.ab = none) (hanb : V.anb = none) (hu : M.until_ = -1) (hs : M.sure.length = 2824) {f : Nat} {node : Int} {c0 : Crd} {s0 : ByteArray}
    (hf : h[f]? = some (.cells ⟨fileC V node c0 s0⟩ 40 (0, 0))) (hd : f ∉ V.blocks) (c1 : Crd) (s1 : ByteArray) (e g : Int) :
    CallH Tryz.prog 19 [.pointer (some ⟨f, 0, none⟩), .agg ⟨c1.cells⟩, .string s1, .int .i64 e, .int .i64 g] h (fun v h' => Keeps [f, V.v, V.mem.m, V.mem.lb] h h' ∧ v = .bool (decide (e = g) || (decide (e = 9) && decide (g = 0))) ∧
      ∃ ob sb mb M', h.size ≤ ob ∧ h.size ≤ sb ∧ h.size ≤ mb ∧ M'.until_ = -1 ∧ M'.sure.length = 2824 ∧ M'.read = (if e = 0 ∧ g = 0 then X.now else M.read) ∧ At h' { V with ob := ob, sb := sb, mb := mb } M' { X with now := M'.read, seen := [], mine := [] } ∧
        h'[f]? = some (.cells ⟨fileC V node (if e = 0 ∧ g = 0 then c1 else c0) (if e = 0 ∧ g = 0 then s1 else s0)⟩ 40 (0, 0))) := by
  have hfl := obj_lt hf
  have hfv : ∀ b ∈ V.blocks, b ≠ f := fun b hb e => hd (e ▸ hb)
  refine call_of hmix Tryz.func19 rfl ok19 (by simp [Tryz.f19]) ?_
  conv => whnf
  refine AllocR.i fun b1 h1 e1 s1' o1 k1 => ?_
  have A1 := A.on k1
  have hf1 := k1.obj hf (by simp)
  conv => whnf
  first | refine IfR.i (fun hc => ?_) (fun hc => ?_) | (refine MeetR.pass ?_; (conv => whnf); refine IfR.i (fun hc => ?_) (fun hc => ?_))
  · have hok : e = 0 ∧ g = 0 := by simp [bif_and] at hc; omega
    conv => whnf
    refine LoadR.o hf1 rfl ?_
    conv => whnf
    refine CallR.i (changes_spec sort_spec A1) fun v h2 k2 hv => ?_
    obtain ⟨a, ca, rfl, n2, O2⟩ := hv
    have A2 := A1.on k2
    have z1 := k1.size
    have z2 := k2.size
    have hin : ∀ p ∈ chgL X.now M.read, inI64 p.1 := fun p hp => by have := (chgL_mem hp).1; unfold inI64; omega
    have hcl : (chgL X.now M.read).length ≤ 2824 := by
      unfold chgL
      rw [List.length_map]
      exact Nat.le_trans (List.length_filter_le _ _) (by simp)
    have S2 : Sl h2 a (chgL X.now M.read).length ca ((chgL X.now M.read).map fun p => (⟨p.1, p.2⟩ : Chg)) := O2.sl (reps_chg h2 _ hin) rfl (by decide) (by rw [List.length_map]; omega)
    obtain ⟨N1, N2, N3⟩ := storeL_now A hu hs
    generalize hL : chgL X.now M.read = L at *
    conv => whnf
    refine LoopR.on [0, 2, 3, 4, 6, 11, 12] [6] (fun i : Nat => [(0, .v (.pointer (some ⟨f, 0, none⟩))), (2, .v (.string s1)), (3, .v (.int .i64 e)), (4, .v (.int .i64 g)), (6, .lp 6 0), (11, .v (.slice a L.length ca)), (12, .v (.int .i64 (i : Int)))]) (fun _ => [(6, b1, c1.cells)])
      (fun i h' => i ≤ L.length ∧ Keeps [V.mem.m, V.mem.lb] h2 h' ∧ ∃ now, At h' V (storeL M (L.take i)) { X with now := now }) (fun i => L.length - i) 0 ?_ ?_
    · conv => whnf
      exact ⟨0, rfl, rfl, rfl, Nat.zero_le _, Keeps.refl _ _, X.now, A2⟩
    · rintro i h3 ⟨hi, k3, nw, A3⟩
      have hml : V.mem.m < h.size ∧ V.mem.lb < h.size := ⟨A.blt _ (by simp [VL.blocks, ML.blocks]), A.blt _ (by simp [VL.blocks, ML.blocks])⟩
      have hf3 := k3.obj (k2.obj hf1 (by simp)) (by simp; exact ⟨fun e => hfv _ (by simp [VL.blocks, ML.blocks]) e.symm, fun e => hfv _ (by simp [VL.blocks, ML.blocks]) e.symm⟩)
      conv => whnf
      refine IfR.i (fun hd => ?_) (fun hd => ?_)
      · have hi1 : i < L.length := by simp at hd; omega
        have S3 := S2.keepM k3 (fun b hb hx => by have := n2 b hb; simp at hx; omega)
        obtain ⟨b4, o4, hb4, cs, ⟨rfl, _⟩, hc4⟩ := S3.at_ i (by simpa using hi1)
        simp only [List.getElem_map] at hc4
        conv => whnf
        refine LoadR.o hf3 rfl ?_
        conv => whnf
        refine IdxS.i i rfl (by omega) hb4 ?_
        conv => whnf
        refine LoadR.i (hc4 0 (by simp)) ?_
        conv => whnf
        refine IdxS.i i rfl (by omega) hb4 ?_
        conv => whnf
        refine LoadR.i (hc4 1 (by simp)) ?_
        conv => whnf
        refine CallR.m (store_spec A3.mem L[i].1 L[i].2) ?_ fun v h4 k4 hv => ?_
        · intro y hy hx
          have hy2 : y ∈ [b1] := hy
          simp at hy2 hx; omega
        obtain ⟨rfl, R4⟩ := hv
        conv => whnf
        refine ⟨L.length - (i + 1), by omega, ?_⟩
        conv => whnf
        obtain ⟨nw', A4⟩ := A3.store hab hanb k4 R4
        refine ⟨i + 1, rfl, by rw [wrapN (n := i + 1) (by simp) (by omega)], rfl, by omega, k3.trans k4, nw', ?_⟩
        rw [storeL_take M L i hi1]; exact A4
      · have hi1 : i = L.length := by simp at hd; omega
        subst hi1
        rw [List.take_length] at A3
        have hz3 := k3.size
        have nbf : ∀ b ∈ V.blocks, b ∉ [f] := fun b hb => by simpa using hfv b hb
        conv => whnf
        refine StoreR.i hf3 (Nat.le_of_ble_eq_true rfl) (by simp [blocksOf, setB]; omega) fun h4 s4 o4 k4 => ?_
        conv => whnf
        refine StoreR.i o4 (Nat.le_of_ble_eq_true rfl) (by simp [blocksOf, setB]; omega) fun h5 s5 o5 k5 => ?_
        have o5' : h5[f]? = some (.cells ⟨fileC V node c1 s1⟩ 40 (0, 0)) := o5
        have A5 := (A3.keep k4 nbf).keep k5 nbf
        conv => whnf
        refine LoadR.o o5' rfl ?_
        conv => whnf
        refine CallR.m (reset_spec A5) (by intro y hy hx; have hy2 : y ∈ [b1] := hy; have := A.blt V.v (by simp [VL.blocks]); simp at hy2 hx; omega) fun v h6 k6 hv => ?_
        obtain ⟨ob, sb, mb, g1, g2, g3, A6⟩ := hv
        conv => whnf
        have kk : Keeps [f, V.v, V.mem.m, V.mem.lb] h h6 := ((k1.trans k2).mono (by simp)).trans ((k3.mono (by simp)).trans ((k4.mono (by simp)).trans ((k5.mono (by simp)).trans (k6.mono (by simp)))))
        refine ⟨kk, ?_, ob, sb, mb, storeL M L, by omega, by omega, by omega, N1, N2, by rw [if_pos hok, N3], A6, ?_⟩
        · rw [hok.1, hok.2]; rfl
        · rw [if_pos hok, if_pos hok]
          exact k6.obj o5' (by simp; exact fun e => hfv V.v (by simp [VL.blocks]) e.symm)
  · have hno : ¬ (e = 0 ∧ g = 0) := by simp [bif_and] at hc; omega
    conv => whnf
    refine LoadR.o hf1 rfl ?_
    conv => whnf
    refine CallR.m (reset_spec A1) (by intro y hy hx; have hy2 : y ∈ [b1] := hy; have := A.blt V.v (by simp [VL.blocks]); simp at hy2 hx; omega) fun v h6 k6 hv => ?_
    obtain ⟨ob, sb, mb, g1, g2, g3, A6⟩ := hv
    conv => whnf
    refine ⟨(k1.mono (by simp)).trans (k6.mono (by simp)), ?_, ob, sb, mb, M, by omega, by omega, by omega, hu, hs, by rw [if_neg hno], A6, ?_⟩
    · congr 1
      rw [Bool.eq_iff_iff]
      simp [bif_and, bif_or]
    · rw [if_neg hno, if_neg hno]
      exact k6.obj hf1 (by simp; exact fun e => hfv V.v (by simp [VL.blocks]) e.symm)
end Go.Proofs.YteambknhlbiajaaGreat
/-
  Layer 10's law: a file's own blocks; whole; two files.
-/
set_option linter.all false
set_option maxRecDepth 100000
set_option maxHeartbeats 1000000
namespace Go.Proofs.YteambknhlbiajaaGreat
open Go Go.Eng

theorem has_spec {h : Heap} {a : Option Addr} {n c : Nat} {xs : List Int} (S : Sl h a n c xs) (hn : n ≤ 1000000) (x : Int) : CallH Tryz.prog 25 [.slice a n c, .int .i64 x] h (fun v h' => Keeps [] h h' ∧ v = .bool (decide (x ∈ xs))) := by
  have hl := S.hlen
  refine call_of hmix Tryz.func25 rfl ok25 (by simp [Tryz.f25]) ?_
  conv => whnf
  refine LoopR.on [0, 1, 5] [] (fun i : Nat => [(0, .v (.slice a n c)), (1, .v (.int .i64 x)), (5, .v (.int .i64 (i : Int)))]) (fun _ => []) (fun i h' => i ≤ n ∧ Keeps [] h h' ∧ x ∉ xs.take i) (fun i => n - i) 0 ?_ ?_
  · conv => whnf
    exact ⟨0, rfl, rfl, rfl, Nat.zero_le _, Keeps.refl _ _, by simp⟩
  · rintro i h2 ⟨hi, k2, ht⟩
    conv => whnf
    refine IfR.i (fun hd => ?_) (fun hd => ?_)
    · have hi1 : i < xs.length := by simp at hd; omega
      obtain ⟨b1, o1, hb1, _, hc1⟩ := (S.keep k2).at1 i hi1
      conv => whnf
      first | refine IdxS.i i rfl (by omega) hb1 ?_ | (refine MeetR.pass ?_; (conv => whnf); refine IdxS.i i rfl (by omega) hb1 ?_)
      conv => whnf
      refine LoadR.i hc1 ?_
      conv => whnf
      refine IfR.i (fun he => ?_) (fun he => ?_)
      · have hx : xs[i] = x := by simpa using he
        conv => whnf
        refine ⟨k2, ?_⟩
        have hm : x ∈ xs := hx ▸ List.getElem_mem hi1
        rw [decide_eq_true hm]
      · have hx : ¬ xs[i] = x := by simpa using he
        conv => whnf
        refine ⟨n - (i + 1), by omega, ?_⟩
        conv => whnf
        refine ⟨i + 1, rfl, by rw [wrapN (n := i + 1) (by simp) (by omega)], rfl, by omega, k2, ?_⟩
        rw [List.take_succ_eq_append_getElem hi1, List.mem_append]
        rintro (h | h)
        · exact ht h
        · exact hx (List.mem_singleton.1 h).symm
    · have hi1 : i = n := by simp at hd; omega
      conv => whnf
      refine ⟨k2, ?_⟩
      rw [List.take_of_length_le (by omega)] at ht
      rw [decide_eq_false ht]

/-- a view and its memory, between steps: the memory calm, the view as new -/
structure Idle (h : Heap) (V : VL) (M : MemS) : Prop where
  at_ : At h V M ⟨M.read, [], [], [], []⟩
  ab : V.ab = none
  anb : V.anb = none
  calm : M.until_ = -1
  size : M.sure.length = 2824

theorem Idle.on {h h' : Heap} {V : VL} {M : MemS} (I : Idle h V M) (k : Keeps [] h h') : Idle h' V M := ⟨I.at_.on k, I.ab, I.anb, I.calm, I.size⟩

/-- where a file of the law's lies -/
def FileO (h : Heap) (f : Nat) (V : VL) (node : Int) (c : Crd) (s : List UInt8) : Prop := h[f]? = some (.cells ⟨fileC V node c ⟨s.toArray⟩⟩ 40 (0, 0))

theorem two_spec (h : Heap) : CallH Tryz.prog 5 [] h (fun v h' => Keeps [] h h' ∧ ∃ V f g, v = .agg ⟨[.pointer (some ⟨f, 0, none⟩), .pointer (some ⟨g, 0, none⟩)]⟩ ∧ Idle h' V M0 ∧ FileO h' f V 2 (freshC 1 1) [] ∧ FileO h' g V 3 (freshC 1 1) [] ∧
    f ≠ g ∧ f ∉ V.blocks ∧ g ∉ V.blocks ∧ h.size ≤ f ∧ h.size ≤ g ∧ ∀ b ∈ V.blocks, h.size ≤ b) := by
  refine call_of hmix Tryz.func5 rfl ok5 (by simp [Tryz.f5]) ?_
  conv => whnf
  refine AllocR.i fun b0 h0 e0 s0 o0 k0 => ?_
  conv => whnf
  refine CallR.i (newView_spec h0 [] (Sl.nil (a := none) (cap := 0))) fun v h1 k1 hv => ?_
  obtain ⟨b, rfl, q1, q2, S1⟩ := hv
  conv => whnf
  refine CallR.i (load_spec S1 (by decide)) fun v h2 k2 hv => ?_
  obtain ⟨L, rfl, A2, n2⟩ := hv
  have hM : (⟨imgW [], [], [], 0, -1⟩ : MemS) = M0 := rfl
  rw [hM] at A2
  conv => whnf
  refine CallR.i (new_spec A2) fun v h3 k3 hv => ?_
  have hsz : M0.sure.length = 2824 := by simp [M0, img0]
  rw [if_pos hsz] at hv
  obtain ⟨V, rfl, rfl, ab, anb, n3, A3⟩ := hv
  conv => whnf
  refine CallR.i (refFresh_spec 1 1 h3) fun v h4 k4 hv => ?_
  rw [if_pos (by decide)] at hv
  subst hv
  conv => whnf
  refine AllocR.i fun b5 h5 e5 s5 o5 k5 => ?_
  conv => whnf
  refine BoxR.i fun h6 s6 k6 => ?_
  have z1 := k1.size
  have z2 := k2.size
  have z3 := k3.size
  have z4 := k4.size
  conv => whnf
  refine AllocR.i fun f h7 e7 s7 o7 k7 => ?_
  conv => whnf
  refine AllocR.i fun g h8 e8 s8 o8 k8 => ?_
  conv => whnf
  refine BoxR.i fun h9 s9 k9 => ?_
  conv => whnf
  have k36 : Keeps [] h3 h6 := (k4.trans k5).new1 k6 (by omega)
  have k02 : Keeps [] h h2 := k0.trans (k1.trans k2)
  have k69 : Keeps [b0] h6 h9 := ((k7.trans k8).mono (by simp)).trans k9
  have k09 : Keeps [] h h9 := (k02.trans (k3.trans k36)).new1 k69 (by omega)
  have hvb : ∀ y ∈ V.blocks, y < h3.size := A3.blt
  have hnb : ∀ y ∈ V.blocks, h0.size ≤ y := by
    intro y hy
    simp only [VL.blocks, ab, anb, Option.toList, List.append_nil] at hy
    simp only [List.mem_cons, List.mem_append] at hy
    rcases hy with rfl | rfl | rfl | rfl | hy
    · have := n3 V.v (by simp); omega
    · have := n3 V.ob (by simp); omega
    · have := n3 V.sb (by simp); omega
    · have := n3 V.mb (by simp); omega
    · have := n2 y hy; omega
  have A9 := (A3.on k36).keep k69 (fun y hy hx => by have := hnb y hy; simp at hx; omega)
  refine ⟨k09, V, f, g, rfl, ⟨A9, ab, anb, rfl, hsz⟩, ?_, ?_, by omega, fun hx => by have := hvb _ hx; omega, fun hx => by have := hvb _ hx; omega, by omega, by omega, fun y hy => by have := hnb y hy; omega⟩
  · exact k9.obj (k8.obj o7 (by simp)) (by simp; omega)
  · exact k9.obj o8 (by simp; omega)
end Go.Proofs.YteambknhlbiajaaGreat
/-
  Layer 10's law: a file's own blocks; whole.
-/
set_option linter.all false
set_option maxRecDepth 100000
set_option maxHeartbeats 1000000
namespace Go.Proofs.YteambknhlbiajaaGreat
open Go Go.Eng

theorem own_cells {V : VL} {node : Int} {c : Crd} {s : ByteArray} : fileC V node c s = [.pointer (some ⟨V.v, 0, none⟩), .pointer (some ⟨V.mem.m, 0, none⟩), .int .i64 node, .int .i64 c.kind, .int .i64 c.links, .int .i64 c.size, wv c.ver, .int .i64 c.d0, .int .i64 c.d1, .int .i64 c.d2, .int .i64 c.d3, .int .i64 c.d4, .int .i64 c.more, .string s] := rfl

/-- a file's map, and its block behind -/
def ownL (c : Crd) (m : List Int) : List Int := if 0 ≤ c.more then m ++ [c.more] else m

theorem ownL_used {now : Int → UInt64} {node : Int} {c : Crd} {m : List Int} {s : List UInt8} (F : FileI now node c m s) : ((ownL c m).filter usedB).Perm (usedL c.more m) := by
  unfold ownL
  rw [usedL_cons]
  have hr := F.wk.rng c.more List.mem_cons_self
  unfold blkOk at hr
  by_cases h : c.more = -1
  · rw [if_neg (by omega), if_pos h]
  · rw [if_pos (by omega), if_neg h, List.filter_append, List.filter_cons, if_pos (usedB_t.2 h), List.filter_nil]
    exact List.perm_append_comm

theorem nodup_filter_before : ∀ {l : List Int} {i : Nat} (hi : i < l.length), (l.filter usedB).Nodup → l[i] ≠ -1 → l[i] ∉ l.take i
  | [], i, hi, _, _ => by simp at hi
  | x :: l, 0, _, _, _ => by simp
  | x :: l, i + 1, hi, h, hu => by
    simp only [List.getElem_cons_succ] at hu ⊢
    have h' : (l.filter usedB).Nodup := by
      rw [List.filter_cons] at h
      split at h
      · exact (List.nodup_cons.1 h).2
      · exact h
    rw [List.take_succ_cons, List.mem_cons]
    rintro (e | e)
    · rw [List.filter_cons, if_pos (usedB_t.2 (by rw [← e]; exact hu))] at h
      exact (List.nodup_cons.1 h).1 (List.mem_filter.2 ⟨by rw [← e]; exact List.getElem_mem _, usedB_t.2 (by rw [← e]; exact hu)⟩)
    · exact nodup_filter_before (by simpa using hi) h' hu e

theorem own_spec {h : Heap} {V : VL} {M : MemS} (I : Idle h V M) {f : Nat} {node : Int} (hn : 0 ≤ node ∧ node < 24) {c : Crd} {m : List Int} {s s0 : List UInt8} (hf : FileO h f V node c s0) (F : FileI M.read node c m s) :
    CallH Tryz.prog 8 [.pointer (some ⟨f, 0, none⟩)] h (fun v h' => Keeps [] h h' ∧ v = .int .i64 (((usedL c.more m).length : Nat) : Int)) := by
  have hrng : ∀ x ∈ ownL c m, blkOk x := by
    intro x hx
    unfold ownL at hx
    split at hx
    · rcases List.mem_append.1 hx with h | h
      · exact F.wk.rng x (List.mem_cons_of_mem _ h)
      · exact F.wk.rng x (by rw [List.mem_singleton.1 h]; exact List.mem_cons_self)
    · exact F.wk.rng x (List.mem_cons_of_mem _ hx)
  have hper := ownL_used F
  have hnd : ((ownL c m).filter usedB).Nodup := hper.symm.nodup F.wk.nod
  have hown : ∀ x ∈ ownL c m, x ≠ -1 → M.read (200 + x) = w64 (node + 1) := by
    intro x hx hu
    have hb := hrng x hx
    unfold blkOk at hb
    exact (F.wk.own x (by omega) (by omega)).1 (hper.mem_iff.1 (List.mem_filter.2 ⟨hx, usedB_t.2 hu⟩))
  have hl := F.wk.len
  have hol : (ownL c m).length = if 0 ≤ c.more then 22 else 21 := by
    unfold ownL; split <;> simp [hl]
  have hole : (ownL c m).length ≤ 22 := by rw [hol]; split <;> omega
  have hint : ∀ x ∈ ownL c m, inI64 x := fun x hx => by have := hrng x hx; unfold blkOk at this; unfold inI64; omega
  refine call_of hmix Tryz.func8 rfl ok8 (by simp [Tryz.f8]) ?_
  conv => whnf
  unfold FileO at hf
  rw [own_cells] at hf
  refine LoadR.o hf rfl ?_
  conv => whnf
  refine LoadN.o hf rfl ?_
  conv => whnf
  refine CallR.i (map_full I.at_ c F.ok) fun v h1 k1 hv => ?_
  rw [F.map] at hv
  obtain ⟨b, cap, sp, rfl, I1, n1, c1, hcap⟩ := hv
  have hf1 := k1.obj hf (by simp)
  have hinm : ∀ x ∈ m, inI64 x := fun x hx => by have := F.wk.rng x (List.mem_cons_of_mem _ hx); unfold blkOk at this; unfold inI64; omega
  have O1 : Own h1 3 1 (some ⟨b, 0, none⟩) 21 cap (m.map fun x => .int .i64 x) := .inr ⟨b, _, rfl, I1, by simp, by simp [hl]; omega, by simp [hl], c1⟩
  conv => whnf
  refine IfR.f rfl ?_
  conv => whnf
  refine MeetR.pass ?_
  conv => whnf
  refine LoadR.o hf1 rfl ?_
  conv => whnf
  refine IfR.i (fun hd => ?c1) (fun hd => ?c2)
  case' c1 =>
    have hm : 0 ≤ c.more := by simpa using hd
    have hoe : ownL c m = m ++ [c.more] := by unfold ownL; rw [if_pos hm]
    conv => whnf
    refine LoadR.o hf1 rfl ?_
    conv => whnf
    refine AllocR.i fun b2 h2 e2 s2 o2 k2 => ?_
    conv => whnf
    refine one_append (O1.keep k2 (by simp)) (by simp [hl]) (by omega) o2 (by simp [blocksOf]) fun aa cc h3 O3 k3 n3 => ?_
    have hz1 := k1.size
    have k03 : Keeps [] h h3 := (k1.trans k2).nil_of k3 (by intro x hx; simp [blkA] at hx; omega)
    rw [← hoe] at O3
    obtain ⟨nn, hnn⟩ : ∃ x, x = 21 + 1 := ⟨_, rfl⟩
    rw [← hnn] at O3 ⊢
    have hn3 : nn = (ownL c m).length := by rw [hnn, hol, if_pos hm]
  case' c2 =>
    have hm : ¬ 0 ≤ c.more := by simpa using hd
    have hoe : ownL c m = m := by unfold ownL; rw [if_neg hm]
    obtain ⟨h3, rfl⟩ : ∃ x, x = h1 := ⟨_, rfl⟩
    have k03 := k1
    obtain ⟨aa, haa⟩ : ∃ x, x = (some ⟨b, 0, none⟩ : Option Addr) := ⟨_, rfl⟩
    obtain ⟨nn, hnn⟩ : ∃ x, x = 21 := ⟨_, rfl⟩
    obtain ⟨cc, hcc⟩ : ∃ x, x = cap := ⟨_, rfl⟩
    have O3 : Own h3 3 1 aa nn cc ((ownL c m).map fun x => .int .i64 x) := by rw [haa, hnn, hcc, hoe]; exact O1
    have hsl : Value.slice (some ⟨b, 0, none⟩) 21 cap = .slice aa nn cc := by rw [haa, hnn, hcc]
    rw [hsl]
    have hn3 : nn = (ownL c m).length := by rw [hnn, hol, if_neg hm]
  all_goals
    have hf3 := k03.obj hf (by simp)
    have S3 : Sl h3 aa nn cc (ownL c m) := O3.sl (reps_ints h3 _ hint) rfl (by decide) (by omega)
    have I3 := I.on k03
    conv => whnf
    refine LoopR.on [0, 3, 5, 6] [] (fun i : Nat => [(0, .v (.pointer (some ⟨f, 0, none⟩))), (3, .v (.slice aa nn cc)), (5, .v (.int .i64 ((((ownL c m).take i).filter usedB).length : Nat))), (6, .v (.int .i64 (i : Int)))]) (fun _ => []) (fun i h' => i ≤ (ownL c m).length ∧ Keeps [] h3 h') (fun i => (ownL c m).length - i) 0 ?_ ?_
    · conv => whnf
      exact ⟨0, rfl, rfl, rfl, Nat.zero_le _, Keeps.refl _ _⟩
    · rintro i h4 ⟨hi, k4⟩
      have hf4 := k4.obj hf3 (by simp)
      conv => whnf
      refine IfR.i (fun hd => ?_) (fun hd => ?_)
      · have hi1 : i < (ownL c m).length := by simp at hd; omega
        obtain ⟨b5, o5, hb5, _, hc5⟩ := (S3.keep k4).at1 i hi1
        have hb := hrng _ (List.getElem_mem hi1)
        unfold blkOk at hb
        have htk := List.take_succ_eq_append_getElem hi1
        conv => whnf
        first | refine IdxS.i i rfl (by omega) hb5 ?_ | (refine MeetR.pass ?_; (conv => whnf); refine IdxS.i i rfl (by omega) hb5 ?_)
        conv => whnf
        refine LoadR.i hc5 ?_
        conv => whnf
        refine IfR.i (fun he => ?_) (fun he => ?_)
        · have hx : (ownL c m)[i] = -1 := by simp at he; omega
          conv => whnf
          refine ⟨(ownL c m).length - (i + 1), by omega, ?_⟩
          conv => whnf
          refine ⟨i + 1, rfl, ?_, rfl, by omega, k4⟩
          rw [wrapN (n := i + 1) (by simp) (by omega), htk, List.filter_append, List.filter_cons, if_neg (by rw [hx]; decide), List.filter_nil, List.append_nil]
        · have hx : (ownL c m)[i] ≠ -1 := by simp at he; omega
          have hox := hown _ (List.getElem_mem hi1) hx
          have hnin := nodup_filter_before hi1 hnd hx
          have hop : ownerP ⟨M.read, [], [], [], []⟩ (ownL c m)[i] = (node, 0) := by
            have hw := w64_toNat (node + 1)
            unfold ownerP
            simp only [hox]
            rw [if_pos (by omega), if_neg (by omega)]
            refine Prod.ext ?_ rfl
            show ((w64 (node + 1)).toNat : Int) - 1 = node
            omega
          conv => whnf
          refine LoadR.o hf4 rfl ?_
          conv => whnf
          refine IdxS.i i rfl (by omega) hb5 ?_
          conv => whnf
          refine LoadR.i hc5 ?_
          conv => whnf
          refine CallR.i (owner_spec (I3.on k4).at_ _) fun v h6 k6 hv => ?_
          rw [hop] at hv
          subst hv
          have k36 := k4.trans k6
          have hf6 := k6.obj hf4 (by simp)
          have S6 := S3.keep k36
          obtain ⟨b7, o7, hb7, _, hc7⟩ := S6.at1 i hi1
          conv => whnf
          refine LoadR.o hf6 rfl ?_
          have hcp := S3.hcap
          have hln := S3.hlen
          conv => whnf
          refine SliceR.i 0 i rfl rfl (Nat.zero_le _) (by omega) ?_
          conv => whnf
          refine IdxS.i i rfl (by omega) hb7 ?_
          conv => whnf
          refine LoadR.i hc7 ?_
          conv => whnf
          refine IfR.t (by simp) ?_
          have S7 := S6.part (l := 0) (r := i) (Nat.zero_le _) (by omega)
          rw [List.drop_zero] at S7
          conv => whnf
          refine CallR.i (has_spec S7 (by omega) _) fun v h8 k8 hv => ?_
          rw [decide_eq_false hnin] at hv
          subst hv
          conv => whnf
          first | refine IfR.f (by simp) ?_ | (refine MeetR.pass ?_; (conv => whnf); refine IfR.f (by simp) ?_)
          conv => whnf
          refine ⟨(ownL c m).length - (i + 1), by omega, ?_⟩
          conv => whnf
          refine ⟨i + 1, rfl, ?_, rfl, by omega, k36.trans k8⟩
          have hle : ((ownL c m).take i |>.filter usedB).length ≤ 22 := Nat.le_trans (List.length_filter_le _ _) (Nat.le_trans (by rw [List.length_take]; exact Nat.min_le_right _ _) hole)
          have hfl : ((ownL c m).take (i + 1) |>.filter usedB).length = ((ownL c m).take i |>.filter usedB).length + 1 := by
            rw [htk, List.filter_append, List.filter_cons, if_pos (usedB_t.2 hx), List.filter_nil, List.length_append]; rfl
          rw [wrapN (x := (i : Int) + 1) (n := i + 1) (by simp) (by omega), hfl, wrapN (x := ((((ownL c m).take i |>.filter usedB).length : Nat) : Int) + 1) (n := ((ownL c m).take i |>.filter usedB).length + 1) (by simp) (by omega)]
      · have hi1 : i = (ownL c m).length := by simp at hd; omega
        subst hi1
        conv => whnf
        refine ⟨k03.trans k4, ?_⟩
        rw [List.take_length, hper.length_eq]
end Go.Proofs.YteambknhlbiajaaGreat
/-
  Layer 10's law: a file is whole.
-/
set_option linter.all false
set_option maxRecDepth 100000
set_option maxHeartbeats 1000000
namespace Go.Proofs.YteambknhlbiajaaGreat
open Go Go.Eng

/-- the document's answer: bytes are read -/
def refReadL (s : List UInt8) (at_ n : Int) : List UInt8 × Int :=
  if at_ < 0 ∨ n < 0 ∨ 4096 < n then ([], 1)
  else if (s.length : Int) ≤ at_ then ([], 0) else ((s.take (min (s.length : Int) (at_ + n)).toNat).drop at_.toNat, 0)

theorem FileI.bytes {now : Int → UInt64} {node : Int} {c : Crd} {m : List Int} {s : List UInt8} (F : FileI now node c m s) : (fileB now m).take s.length = s := by
  have hl := flat_len (now := now) m
  have hm := F.wk.len
  have hf := F.fits
  apply List.ext_getElem?
  intro p
  rw [List.getElem?_take]
  by_cases h : p < s.length
  · rw [if_pos h, fileB_get m p (by omega), F.by_ p (by omega)]
    simp [h]
  · rw [if_neg h, List.getElem?_eq_none (by omega)]

theorem readP_plain {now : Int → UInt64} {node : Int} {c : Crd} {m : List Int} {s : List UInt8} (F : FileI now node c m s) (at_ n : Int) : readP now c at_ n = refReadL s at_ n := by
  unfold readP refReadL
  split
  · rfl
  · rename_i h
    rw [F.map, F.size]
    simp only
    split
    · rfl
    · rename_i h2
      have hb := F.bytes
      congr 2
      have e : (fileB now m).take (min (s.length : Int) (at_ + n)).toNat = s.take (min (s.length : Int) (at_ + n)).toNat := by
        generalize hX : (min (s.length : Int) (at_ + n)).toNat = x
        have e2 : s.take x = ((fileB now m).take s.length).take x := by rw [hb]
        rw [e2, List.take_take]
        congr 1; omega
      exact e

theorem FileI.szr {now : Int → UInt64} {node : Int} {c : Crd} {m : List Int} {s : List UInt8} (F : FileI now node c m s) : 0 ≤ c.size ∧ c.size ≤ 2688 := by
  have := F.size
  have := F.fits
  omega

theorem fread_spec {h : Heap} {V : VL} {M : MemS} (I : Idle h V M) {node : Int} {c : Crd} {m : List Int} {s : List UInt8} (F : FileI M.read node c m s) (at_ n : Int) :
    CallH Tryz.prog 16 [.pointer (some ⟨V.v, 0, none⟩), .agg ⟨c.cells⟩, .int .i64 at_, .int .i64 n] h (fun v h' => Keeps [] h h' ∧ v = .tuple #[.string ⟨(refReadL s at_ n).1.toArray⟩, .int .i64 (refReadL s at_ n).2]) := by
  have := bread_spec I.at_ c F.ok F.szr F.okMap at_ n
  rw [readP_plain F] at this
  exact this

theorem ref_whole {s : List UInt8} (h : s.length ≤ 2688) : refReadL s 0 4096 = (s, 0) := by
  unfold refReadL
  rw [if_neg (by omega)]
  split
  · have : s = [] := List.eq_nil_of_length_eq_zero (by omega)
    rw [this]
  · congr 1
    rw [List.take_of_length_le (by omega)]; rfl

theorem whole_spec {h : Heap} {V : VL} {M : MemS} (I : Idle h V M) {f : Nat} {node : Int} {c : Crd} {m : List Int} {s : List UInt8} (hf : FileO h f V node c s) (F : FileI M.read node c m s) :
    CallH Tryz.prog 9 [.pointer (some ⟨f, 0, none⟩)] h (fun v h' => Keeps [] h h' ∧ v = .bool true) := by
  have hsz := F.size
  refine call_of hmix Tryz.func9 rfl ok9 (by simp [Tryz.f9]) ?_
  conv => whnf
  unfold FileO at hf
  rw [own_cells] at hf
  refine LoadR.o hf rfl ?_
  conv => whnf
  refine LoadN.o hf rfl ?_
  conv => whnf
  refine CallR.i (fread_spec I F 0 4096) fun v h1 k1 hv => ?_
  rw [ref_whole F.fits] at hv
  subst hv
  have hf1 := k1.obj hf (by simp)
  conv => whnf
  refine LoadR.o hf1 rfl ?_
  conv => whnf
  refine LoadR.o hf1 rfl ?_
  conv => whnf
  refine LoadR.o hf1 rfl ?_
  conv => whnf
  refine LoadN.o hf1 rfl ?_
  have hba := ba_size s
  conv => whnf
  refine IfR.t (by simp [toList_beq, hsz, bif_and]; exact congrArg (fun x : Nat => (x : Int)) hba.symm) ?_
  conv => whnf
  refine CallR.i (right_spec c h1) fun v h2 k2 hv => ?_
  subst hv
  conv => whnf
  refine ⟨k1.trans k2, ?_⟩
  rw [F.right]
  simp [toList_beq, hsz, bif_and]; exact congrArg (fun x : Nat => (x : Int)) hba.symm
end Go.Proofs.YteambknhlbiajaaGreat
