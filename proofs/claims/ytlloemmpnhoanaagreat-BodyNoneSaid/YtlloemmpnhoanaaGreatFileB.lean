/-
  Plain laws of a file's blocks.
-/
import Derived.Test.YtlloemmpnhoanaaGreatFileA
set_option linter.all false
set_option maxRecDepth 100000
namespace Go.Proofs.YtlloemmpnhoanaaGreat
open Go Go.Eng

/-- a file's byte -/
def fb (now : Int → UInt64) (m : List Int) (p : Nat) : UInt8 := ((bytesB now (m[p / 128]?.getD (-1)))[p % 128]?).getD 0

theorem fileB_get {now : Int → UInt64} : ∀ (m : List Int) (p : Nat), p < 128 * m.length → (fileB now m)[p]? = some (fb now m p)
  | [], p, h => by simp at h
  | x :: m, p, h => by
    have hl := bytesB_len now x
    unfold fileB
    rw [List.flatMap_cons]
    by_cases hp : p < 128
    · rw [List.getElem?_append_left (by omega)]
      unfold fb
      have e1 : p / 128 = 0 := by omega
      have e2 : p % 128 = p := by omega
      have h1 : p < (bytesB now x).length := by omega
      rw [e1, e2]
      simp [h1]
    · rw [List.getElem?_append_right (by omega)]
      have ih := fileB_get (now := now) m (p - 128) (by simp at h; omega)
      rw [hl]
      unfold fileB at ih
      rw [ih]
      unfold fb
      have e1 : p / 128 = (p - 128) / 128 + 1 := by omega
      have e2 : p % 128 = (p - 128) % 128 := by omega
      rw [e1, e2]; rfl

/-- the blocks that a file has -/
def usedL (more : Int) (m : List Int) : List Int := (more :: m).filter usedB

def blkOk (x : Int) : Prop := x = -1 ∨ (0 ≤ x ∧ x < 96)

/-- a file's blocks over words -/
structure Wk (now : Int → UInt64) (node more : Int) (m : List Int) : Prop where
  len : m.length = 21
  rng : ∀ x ∈ more :: m, blkOk x
  nod : (usedL more m).Nodup
  own : ∀ x, 0 ≤ x → x < 96 → (x ∈ usedL more m ↔ now (200 + x) = w64 (node + 1))

/-- what others have stays -/
structure Fr (node : Int) (f g : Int → UInt64) : Prop where
  oth : ∀ k, 0 ≤ k → k < 96 → f (200 + k) ≠ w64 (node + 1) → (g (200 + k) = f (200 + k) ∨ f (200 + k) = 0 ∧ g (200 + k) = w64 (node + 1)) ∧ (f (200 + k) ≠ 0 → rdL g (1288 + k * 16) 16 = rdL f (1288 + k * 16) 16)
  mine : ∀ k, 0 ≤ k → k < 96 → f (200 + k) = w64 (node + 1) → g (200 + k) = w64 (node + 1) ∨ g (200 + k) = 0

theorem Fr.refl (node : Int) (f : Int → UInt64) : Fr node f f := ⟨fun k _ _ _ => ⟨.inl rfl, fun _ => rfl⟩, fun k _ _ h => .inl h⟩
theorem Fr.trans {node : Int} {f g h : Int → UInt64} (a : Fr node f g) (b : Fr node g h) (hn : w64 (node + 1) ≠ 0) : Fr node f h := by
  constructor
  · intro k h0 h1 hf
    obtain ⟨p, q⟩ := a.oth k h0 h1 hf
    rcases p with p | ⟨p1, p2⟩
    · have hg : g (200 + k) ≠ w64 (node + 1) := by rw [p]; exact hf
      obtain ⟨r, s⟩ := b.oth k h0 h1 hg
      rw [p] at r s
      exact ⟨r, fun h => (s h).trans (q h)⟩
    · refine ⟨?_, fun h => absurd p1 h⟩
      rcases b.mine k h0 h1 p2 with r | r
      · exact .inr ⟨p1, r⟩
      · left; rw [r, p1]
  · intro k h0 h1 hf
    rcases a.mine k h0 h1 hf with p | p
    · exact b.mine k h0 h1 p
    · have hg : g (200 + k) ≠ w64 (node + 1) := by rw [p]; exact fun e => hn e.symm
      rcases (b.oth k h0 h1 hg).1 with r | ⟨_, r⟩
      · right; rw [r, p]
      · exact .inl r

theorem usedL_mem {more : Int} {m : List Int} {x : Int} : x ∈ usedL more m ↔ (x = more ∨ x ∈ m) ∧ x ≠ -1 := by
  unfold usedL
  rw [List.mem_filter, List.mem_cons]
  constructor
  · rintro ⟨a, b⟩; exact ⟨a, usedB_t.1 b⟩
  · rintro ⟨a, b⟩; exact ⟨a, usedB_t.2 b⟩

theorem Wk.at_ {now : Int → UInt64} {node more : Int} {m : List Int} (W : Wk now node more m) {i : Nat} (hi : i < 21) : m[i]?.getD (-1) = m[i]'(by rw [W.len]; exact hi) := by
  have := W.len
  simp [show i < m.length by omega]

theorem Wk.ne_more {now : Int → UInt64} {node more : Int} {m : List Int} (W : Wk now node more m) {x : Int} (hx : x ∈ m) (hu : x ≠ -1) : x ≠ more := by
  rintro rfl
  have h := W.nod
  unfold usedL at h
  rw [List.filter_cons, if_pos (usedB_t.2 hu), List.nodup_cons] at h
  exact h.1 (List.mem_filter.2 ⟨hx, usedB_t.2 hu⟩)

theorem nodup_used_inj : ∀ {m : List Int} {i j : Nat} (hi : i < m.length) (hj : j < m.length), (m.filter usedB).Nodup → m[i] = m[j] → m[i] ≠ -1 → i = j
  | [], i, j, hi, _, _, _, _ => by simp at hi
  | x :: m, 0, 0, _, _, _, _, _ => rfl
  | x :: m, 0, j + 1, hi, hj, h, e, hu => by
    simp only [List.getElem_cons_zero, List.getElem_cons_succ] at e hu
    rw [List.filter_cons, if_pos (usedB_t.2 hu), List.nodup_cons] at h
    exact absurd (List.mem_filter.2 ⟨by rw [e]; exact List.getElem_mem _, usedB_t.2 hu⟩) h.1
  | x :: m, i + 1, 0, hi, hj, h, e, hu => by
    simp only [List.getElem_cons_zero, List.getElem_cons_succ] at e hu
    rw [e] at hu
    rw [List.filter_cons, if_pos (usedB_t.2 hu), List.nodup_cons] at h
    exact absurd (List.mem_filter.2 ⟨by rw [← e]; exact List.getElem_mem _, usedB_t.2 hu⟩) h.1
  | x :: m, i + 1, j + 1, hi, hj, h, e, hu => by
    simp only [List.getElem_cons_succ] at e hu
    have h' : (m.filter usedB).Nodup := by
      rw [List.filter_cons] at h
      split at h
      · exact (List.nodup_cons.1 h).2
      · exact h
    rw [nodup_used_inj (by simpa using hi) (by simpa using hj) h' e hu]

theorem Wk.inj {now : Int → UInt64} {node more : Int} {m : List Int} (W : Wk now node more m) {i j : Nat} (hi : i < 21) (hj : j < 21) (e : m[i]?.getD (-1) = m[j]?.getD (-1)) (hu : m[i]?.getD (-1) ≠ -1) : i = j := by
  have hl := W.len
  rw [W.at_ hi] at e hu
  rw [W.at_ hj] at e
  refine nodup_used_inj (by omega) (by omega) ?_ e hu
  have h := W.nod
  unfold usedL at h
  rw [List.filter_cons] at h
  split at h
  · exact (List.nodup_cons.1 h).2
  · exact h

theorem w64_ne {node : Int} (h : 0 ≤ node ∧ node < 24) : w64 (node + 1) ≠ 0 := by
  intro e
  have h1 := w64_toNat (node + 1)
  rw [e] at h1
  simp at h1; omega

/-- a block's bytes are set -/
theorem Wk.put {now : Int → UInt64} {node more : Int} {m : List Int} (W : Wk now node more m) {i : Nat} (hi : i < 21) {l : List UInt8} (hl : l.length ≤ 128) {x : Int} (hx : m[i]?.getD (-1) = x) (hu : x ≠ -1) :
    Wk (putBlk now x (textL l 16)) node more m ∧ Fr node now (putBlk now x (textL l 16)) ∧ (more ≠ -1 → moreL (putBlk now x (textL l 16)) more = moreL now more) ∧
    ∀ p, p < 2688 → fb (putBlk now x (textL l 16)) m p = if p / 128 = i then l[p % 128]?.getD 0 else fb now m p := by
  have ht : (textL l 16).length ≤ 16 := by rw [textL_len]; omega
  have hxm : x ∈ m := by rw [← hx, W.at_ hi]; exact List.getElem_mem _
  have hxr : 0 ≤ x ∧ x < 96 := by
    rcases W.rng x (List.mem_cons_of_mem _ hxm) with h | h
    · exact absurd h hu
    · exact h
  have ho : ∀ k, 0 ≤ k → k < 96 → putBlk now x (textL l 16) (200 + k) = now (200 + k) := fun k _ h => put_owner ht hxr.1 h
  have hown : now (200 + x) = w64 (node + 1) := (W.own x hxr.1 hxr.2).1 (usedL_mem.2 ⟨.inr hxm, hu⟩)
  refine ⟨⟨W.len, W.rng, W.nod, fun k h0 h1 => by rw [ho k h0 h1]; exact W.own k h0 h1⟩, ⟨fun k h0 h1 hf => ⟨.inl (ho k h0 h1), fun _ => ?_⟩, fun k h0 h1 hf => .inl (by rw [ho k h0 h1]; exact hf)⟩, fun hm => more_put_ne ht (W.ne_more hxm hu), fun p hp => ?_⟩
  · refine put_rd_ne ht ?_
    rintro rfl
    exact hf hown
  · have hp2 : p / 128 < 21 := by omega
    unfold fb
    by_cases h : p / 128 = i
    · rw [if_pos h, h, hx, bytes_text hl hu]
      by_cases h2 : p % 128 < l.length
      · rw [List.getElem?_append_left h2]
      · rw [List.getElem?_append_right (by omega)]
        have h3 : l.length ≤ p % 128 := by omega
        simp only [zeros, List.getElem?_eq_none h3, Option.getD_none]
        rw [List.getElem?_replicate]
        split <;> rfl
    · rw [if_neg h, bytes_put ht]
      intro e
      exact h (W.inj hp2 hi (by rw [← e, hx]) (by rw [← e]; exact hu))
end Go.Proofs.YtlloemmpnhoanaaGreat
