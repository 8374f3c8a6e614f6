/-
  Layer 10's law: only the blocks that are touched are taken.
-/
import Derived.Test.YtlloemmpnhoanaaFileJ
set_option linter.all false
set_option maxRecDepth 100000
set_option maxHeartbeats 1000000
namespace Go.Proofs.Ytlloemmpnhoanaa
open Go Go.Eng

def m0 : List Int := List.replicate 21 (-1)
theorem b0_owner {x : Int} (h0 : 0 ≤ x) (h1 : x < 96) : b0 (200 + x) = 0 := by
  unfold b0
  rw [if_pos (by omega), if_neg (by omega), if_neg (by omega)]

/-- a new file -/
theorem fresh_file {now : Int → UInt64} {node : Int} (hn : 0 ≤ node ∧ node < 24) (h : ∀ x, 0 ≤ x → x < 96 → now (200 + x) ≠ w64 (node + 1)) : FileI now node (freshC 1 1) m0 [] := by
  have hu : usedL (freshC 1 1).more m0 = [] := by decide
  refine ⟨rfl, ⟨rfl, ?_, by rw [hu]; exact List.nodup_nil, fun x x0 x1 => by rw [hu]; exact ⟨fun h => (nomatch h), fun e => absurd e (h x x0 x1)⟩⟩, ⟨rfl, rfl⟩, rfl, by simp, fun p hp => ?_, fun j hj _ => ?_, by decide⟩
  · intro x hx
    left
    have : x ∈ List.replicate 22 (-1 : Int) := hx
    exact (List.mem_replicate.1 this).2
  · unfold fb
    have : m0[p / 128]?.getD (-1) = -1 := by
      unfold m0
      rw [List.getElem?_replicate]
      split <;> rfl
    rw [this]
    unfold bytesB
    rw [if_pos rfl, zeros_get]
    rfl
  · unfold m0
    rw [List.getElem?_replicate]
    split <;> rfl

theorem filter_idx (l : List Int) : (l.filter usedB).length = ((List.range l.length).filter fun j => usedB (l[j]?.getD (-1))).length := by
  have h : l = (List.range l.length).map fun j => l[j]?.getD (-1) := by
    apply List.ext_getElem
    · simp
    · intro i h1 h2
      simp [h1]
  conv => lhs; rw [h]
  rw [List.filter_map, List.length_map]
  rfl
theorem range_between : ∀ a, a < 22 → ∀ b, b < 22 → a ≤ b → ((List.range 21).filter fun j => decide (a ≤ j ∧ j < b)).length = b - a := by decide +kernel

theorem wrote_used {node : Int} {X : VS} {at_ : Nat} {data s' : List UInt8} {r : Crd × Int × VS} {m' : List Int} (W : Wrote node X m0 (at_ : Int) data s' r m') (hd : data ≠ []) (hf : at_ + data.length ≤ 2688) :
    (usedL r.1.more m').length = (if 5 ≤ (at_ + data.length - 1) / 128 then 1 else 0) + ((at_ + data.length - 1) / 128 - at_ / 128 + 1) := by
  have hl := W.file.wk.len
  have hdl : 0 < data.length := by
    cases data with
    | nil => exact absurd rfl hd
    | cons x l => simp
  have hu : ∀ j, j < 21 → (usedB (m'[j]?.getD (-1)) = true ↔ at_ / 128 ≤ j ∧ j < (at_ + data.length + 127) / 128) := by
    intro j hj
    have h := W.holes j hj
    have h0 : m0[j]?.getD (-1) = -1 := by
      unfold m0
      rw [List.getElem?_replicate]
      split <;> rfl
    rw [Int.toNat_natCast] at h
    rw [usedB_t, h]
    constructor
    · intro x
      exact Classical.byContradiction fun y => x ⟨h0, fun z => y z.2⟩
    · rintro x ⟨_, y⟩
      exact y ⟨hd, x⟩
  have hfl : (m'.filter usedB).length = (at_ + data.length + 127) / 128 - at_ / 128 := by
    rw [filter_idx, hl, ← range_between (at_ / 128) (by omega) ((at_ + data.length + 127) / 128) (by omega) (by omega)]
    congr 1
    apply List.filter_congr
    intro j hj
    have hj' : j < 21 := by simpa using hj
    rw [Bool.eq_iff_iff, hu j hj']
    simp
  have hmor : r.1.more = -1 ↔ (at_ + data.length + 127) / 128 ≤ 5 := by
    rw [W.file.mor, List.any_eq_false]
    constructor
    · intro h
      refine Classical.byContradiction fun hc => ?_
      have h5 : 5 ≤ (at_ + data.length + 127) / 128 - 1 := by omega
      have hj : (at_ + data.length + 127) / 128 - 1 < 21 := by omega
      have := (hu ((at_ + data.length + 127) / 128 - 1) hj).2 ⟨by omega, by omega⟩
      refine h m'[(at_ + data.length + 127) / 128 - 1] ?_ ?_
      · rw [List.mem_drop_iff_getElem]
        refine ⟨(at_ + data.length + 127) / 128 - 1 - 5, by omega, ?_⟩
        congr 1; omega
      · have e : m'[(at_ + data.length + 127) / 128 - 1]?.getD (-1) = m'[(at_ + data.length + 127) / 128 - 1] := W.file.wk.at_ hj
        rw [← e]; exact this
    · intro h x hx
      rw [List.mem_drop_iff_getElem] at hx
      obtain ⟨j, hj, rfl⟩ := hx
      have h2 := hu (5 + j) (by omega)
      rw [W.file.wk.at_ (by omega)] at h2
      intro hu2
      have := h2.1 hu2
      omega
  rw [usedL_cons]
  by_cases h : r.1.more = -1
  · rw [if_pos h, hfl, if_neg (by have := hmor.1 h; omega)]
    omega
  · rw [if_neg h, List.length_cons, hfl, if_pos (by
      have : ¬ (at_ + data.length + 127) / 128 ≤ 5 := fun x => h (hmor.2 x)
      omega)]
    omega

theorem touch_plain (at_ : Nat) (data : List UInt8) (hd : data.length ≤ 400) (ha : at_ + data.length ≤ 2688) :
    (writeP b0 X0 2 (freshC 1 1) (at_ : Int) data).2.1 = 0 ∧ (if data = [] then (writeP b0 X0 2 (freshC 1 1) (at_ : Int) data).1 = freshC 1 1 ∧ (writeP b0 X0 2 (freshC 1 1) (at_ : Int) data).2.2 = X0 else
      ∃ m', Wrote 2 X0 m0 (at_ : Int) data (zeros at_ ++ data) (writeP b0 X0 2 (freshC 1 1) (at_ : Int) data) m') := by
  have hne : ∀ x, 0 ≤ x → x < 96 → X0.now (200 + x) ≠ w64 (2 + 1) := by
    intro x h0 h1
    show b0 (200 + x) ≠ _
    rw [b0_owner h0 h1]; decide
  have F := fresh_file (now := X0.now) (node := 2) (by decide) hne
  have hal : Alone b0 2 X0 := fun k h0 h1 => ⟨b0_owner h0 h1, .inl (b0_owner h0 h1), by simp [X0]⟩
  have href : (refWriteL [] (at_ : Int) data).2 = 0 := by
    unfold refWriteL
    rw [if_neg (by omega)]
    split
    · rfl
    · rw [if_neg (by omega)]
  rcases writeP_plain (B := b0) (by decide) F (at_ : Int) data with ⟨_, _, h⟩ | ⟨h1, h2⟩
  · exact absurd hal h
  · refine ⟨by rw [h1, href], ?_⟩
    by_cases hnil : data = []
    · rw [if_pos hnil]
      subst hnil
      have : writeP b0 X0 2 (freshC 1 1) (at_ : Int) [] = (freshC 1 1, 0, X0) := by
        unfold writeP
        rw [if_neg (by simp), if_pos rfl, F.map]
      rw [this]; exact ⟨rfl, rfl⟩
    · rw [if_neg hnil]
      obtain ⟨m', W⟩ := h2 href
      have : (refWriteL [] (at_ : Int) data).1 = zeros at_ ++ data := by
        unfold refWriteL
        rw [if_neg (by omega), if_neg hnil, if_neg (by omega)]
        simp only [Int.toNat_natCast, List.nil_append, List.length_nil, Nat.sub_zero, zeros]
        rw [List.take_replicate, List.drop_replicate, Nat.sub_self, Nat.min_eq_left (by omega)]
        simp
      rw [this] at W
      exact ⟨m', W⟩
end Go.Proofs.Ytlloemmpnhoanaa
