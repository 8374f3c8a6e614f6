/-
  Plain laws: a file's bytes are written, a card with a map.
-/
import Derived.Test.YtlloemmpnhoanaaGreatFileC
import Derived.Test.YtlloemmpnhoanaaGreatBodyN
set_option linter.all false
set_option maxRecDepth 100000
namespace Go.Proofs.YtlloemmpnhoanaaGreat
open Go Go.Eng

theorem getD_21 {m : List Int} (hl : m.length = 21) {i : Nat} (hi : i < 21) : m[i]?.getD 0 = m[i]?.getD (-1) := by
  simp [show i < m.length by omega]

theorem wblk_get {old data : List UInt8} {a f : Nat} (ho : old.length = 128) (h1 : f < a + data.length) (h2 : a < f + 128) (q : Nat) (hq : q < 128) :
    (wblk old data a (a + data.length) f)[q]?.getD 0 = if a ≤ f + q ∧ f + q < a + data.length then data[f + q - a]?.getD 0 else old[q]?.getD 0 := by
  have ht : (old.take (a - f)).length = a - f := by rw [List.length_take]; omega
  have hd : ((data.drop (f + (a - f) - a)).take (min (a + data.length - f) 128 - (a - f))).length = min (a + data.length - f) 128 - (a - f) := by
    rw [List.length_take, List.length_drop]; omega
  unfold wblk
  by_cases c1 : q < a - f
  · rw [List.append_assoc, List.getElem?_append_left (by omega), List.getElem?_take, if_pos c1, if_neg (by omega)]
  · by_cases c2 : q < min (a + data.length - f) 128
    · rw [List.getElem?_append_left (by rw [List.length_append]; omega), List.getElem?_append_right (by omega), ht, List.getElem?_take, if_pos (by omega), List.getElem?_drop, if_pos (by omega)]
      congr 2; omega
    · rw [List.getElem?_append_right (by rw [List.length_append]; omega), List.length_append, ht, hd, List.getElem?_drop, if_neg (by omega)]
      congr 2; omega
theorem wblk_len {old data : List UInt8} {a f : Nat} (ho : old.length = 128) (h1 : f < a + data.length) (h2 : a < f + 128) : (wblk old data a (a + data.length) f).length = 128 := by
  unfold wblk
  rw [List.length_append, List.length_append, List.length_take, List.length_take, List.length_drop, List.length_drop]
  omega

/-- where no block of another's lies, one can be taken -/
def Alone (B : Int → UInt64) (node : Int) (X : VS) : Prop := ∀ k, 0 ≤ k → k < 96 → B (200 + k) = 0 ∧ (X.now (200 + k) = 0 ∨ X.now (200 + k) = w64 (node + 1)) ∧ k ∉ X.away

theorem firstF_none {B : Int → UInt64} {X : VS} : ∀ {f i : Nat}, firstF B X f i = none → ∀ k, i ≤ k → k < i + f → freshB B X (k : Int) = false
  | 0, i, _, k, h1, h2 => by omega
  | f + 1, i, h, k, h1, h2 => by
    unfold firstF at h
    split at h
    · cases h
    · rename_i hf
      by_cases e : k = i
      · subst e; simpa using hf
      · exact firstF_none h k (by omega) (by omega)

theorem take_alone {B : Int → UInt64} {X : VS} {node more : Int} {m : List Int} (hn : 0 ≤ node ∧ node < 24) (W : Wk X.now node more m) (A : Alone B node X) : firstF B X 96 0 ≠ none := by
  intro h
  have hall : ((List.range 96).map fun (i : Nat) => (i : Int)) ⊆ usedL more m := by
    intro x hx
    obtain ⟨k, hk, rfl⟩ := List.mem_map.1 hx
    have hk96 : k < 96 := by simpa using hk
    have hf := firstF_none h k (by omega) (by omega)
    obtain ⟨a1, a2, a3⟩ := A (k : Int) (by omega) (by omega)
    refine (W.own (k : Int) (by omega) (by omega)).2 ?_
    rcases a2 with a2 | a2
    · unfold freshB at hf
      simp [a1, a2, a3] at hf
      omega
    · exact a2
  have hnd : ((List.range 96).map fun (i : Nat) => (i : Int)).Nodup := by decide +kernel
  have h1 := hnd.length_le_of_subset hall
  have h2 : (usedL more m).length ≤ (more :: m).length := List.length_filter_le _ _
  have := W.len
  simp at h1 h2
  omega

/-- what a step of writing comes to -/
structure Wrt (B : Int → UInt64) (node more : Int) (X : VS) (m : List Int) (a : Nat) (data : List UInt8) (i f : Nat) (r : Int × VS × List Int) : Prop where
  e : r.1 = 0
  x : r.2.1 = { X with now := r.2.1.now }
  wk : Wk r.2.1.now node more r.2.2
  fr : Fr node X.now r.2.1.now
  more_ : more ≠ -1 → moreL r.2.1.now more = moreL X.now more
  by_ : ∀ p, p < 2688 → fb r.2.1.now r.2.2 p = if i ≤ p / 128 ∧ p / 128 < i + f ∧ a ≤ p ∧ p < a + data.length then data[p - a]?.getD 0 else fb X.now m p
  holes : ∀ j, j < 21 → (r.2.2[j]?.getD (-1) = -1 ↔ m[j]?.getD (-1) = -1 ∧ ¬ (i ≤ j ∧ j < i + f))

theorem wStep_plain {B : Int → UInt64} {node more : Int} (hn : 0 ≤ node ∧ node < 24) {X : VS} {m : List Int} (W : Wk X.now node more m) {a : Nat} {data : List UInt8} {i : Nat} (hi : i < 21) (h1 : 128 * i < a + data.length) (h2 : a < 128 * i + 128) :
    (wStep B node a data i X m).1 = 9 ∧ firstF B X 96 0 = none ∨ Wrt B node more X m a data i 1 (wStep B node a data i X m) := by
  have hl := W.len
  unfold wStep
  rw [getD_21 hl hi]
  by_cases hm : m[i]?.getD (-1) = -1
  · rw [if_pos hm]
    rcases take_facts (B := B) (X := X) hn with ⟨e0, k0, k1, kn, kx⟩ | ⟨e9, kx, kf⟩
    · right
      have hk : 0 ≤ (takeP B X node).1 ∧ (takeP B X node).1 < 96 := ⟨k0, k1⟩
      generalize (takeP B X node).1 = k at *
      obtain ⟨W1, F1, M1, B1⟩ := W.take_at hn hk kn hi hm
      have hmi : (m.set i k)[i]?.getD (-1) = k := by simp [hl, hi]
      have hkne : k ≠ -1 := by omega
      simp only [e0, kx, if_true]
      rw [getD_21 (by simp [hl]) hi, hmi]
      have hbl := bytesB_len (takeW X.now node k) k
      obtain ⟨W2, F2, M2, B2⟩ := W1.put hi (Nat.le_of_eq (wblk_len hbl h1 h2)) hmi hkne
      refine ⟨rfl, rfl, W2, F1.trans F2 (w64_ne hn), fun h => (M2 h).trans (M1 h), fun p hp => ?_, fun j hj => ?_⟩
      · simp only
        rw [B2 p hp]
        by_cases hpi : p / 128 = i
        · rw [if_pos hpi, wblk_get hbl h1 h2 _ (Nat.mod_lt _ (by decide))]
          have hpe : 128 * i + p % 128 = p := by omega
          rw [hpe]
          by_cases hc : a ≤ p ∧ p < a + data.length
          · rw [if_pos hc, if_pos ⟨by omega, by omega, hc⟩]
          · rw [if_neg hc, if_neg (fun h => hc h.2.2), ← B1 p hp]
            unfold fb
            rw [hpi, hmi]
        · rw [if_neg hpi, if_neg (by omega), B1 p hp]
      · simp only
        by_cases hji : j = i
        · subst hji
          rw [hmi]
          exact ⟨fun h => absurd h hkne, fun h => absurd h.2 (by omega)⟩
        · rw [List.getElem?_set_ne (fun x => hji x.symm)]
          exact ⟨fun h => ⟨h, by omega⟩, fun h => h.1⟩
    · left
      simp only [e9]
      exact ⟨rfl, kf⟩
  · right
    rw [if_neg hm]
    simp only [if_true]
    rw [getD_21 hl hi]
    have hbl := bytesB_len X.now (m[i]?.getD (-1))
    obtain ⟨W2, F2, M2, B2⟩ := W.put hi (Nat.le_of_eq (wblk_len hbl h1 h2)) rfl hm
    refine ⟨rfl, rfl, W2, F2, M2, fun p hp => ?_, fun j hj => ?_⟩
    · simp only
      rw [B2 p hp]
      by_cases hpi : p / 128 = i
      · rw [if_pos hpi, wblk_get hbl h1 h2 _ (Nat.mod_lt _ (by decide))]
        have hpe : 128 * i + p % 128 = p := by omega
        rw [hpe]
        by_cases hc : a ≤ p ∧ p < a + data.length
        · rw [if_pos hc, if_pos ⟨by omega, by omega, hc⟩]
        · rw [if_neg hc, if_neg (fun h => hc h.2.2)]
          unfold fb
          rw [hpi]
      · rw [if_neg hpi, if_neg (by omega)]
    · simp only
      by_cases hji : j = i
      · subst hji
        exact ⟨fun h => absurd h hm, fun h => absurd h.1 hm⟩
      · exact ⟨fun h => ⟨h, by omega⟩, fun h => h.1⟩

theorem Alone.on {B : Int → UInt64} {node : Int} {X Y : VS} (A : Alone B node X) (F : Fr node X.now Y.now) (hn : w64 (node + 1) ≠ 0) (ha : Y.away = X.away) : Alone B node Y := by
  intro k h0 h1
  obtain ⟨a1, a2, a3⟩ := A k h0 h1
  refine ⟨a1, ?_, by rw [ha]; exact a3⟩
  rcases a2 with a2 | a2
  · rcases (F.oth k h0 h1 (by rw [a2]; exact fun e => hn e.symm)).1 with r | ⟨_, r⟩
    · left; rw [r, a2]
    · exact .inr r
  · exact (F.mine k h0 h1 a2).symm

theorem writeL_plain {B : Int → UInt64} {node more : Int} (hn : 0 ≤ node ∧ node < 24) {a : Nat} {data : List UInt8} : ∀ (f i : Nat) (X : VS) (m : List Int), Wk X.now node more m → i + f ≤ 21 → (0 < f → 128 * (i + f - 1) < a + data.length) → a < 128 * i + 128 →
    ((writeL B node a data f i X m).1 = 9 ∧ ¬ Alone B node X) ∨ Wrt B node more X m a data i f (writeL B node a data f i X m)
  | 0, i, X, m, W, _, _, _ => by
    right
    unfold writeL
    refine ⟨rfl, rfl, W, Fr.refl _ _, fun _ => rfl, fun p hp => ?_, fun j hj => ⟨fun h => ⟨h, by omega⟩, fun h => h.1⟩⟩
    simp only
    rw [if_neg (by omega)]
  | f + 1, i, X, m, W, hf, h1, h2 => by
    unfold writeL
    have h1' := h1 (by omega)
    rcases wStep_plain (B := B) hn W (i := i) (a := a) (data := data) (by omega) (by omega) (by omega) with ⟨e, hno⟩ | S
    · rw [e]
      left
      refine ⟨by simp [e], fun A => take_alone hn W A hno⟩
    · rw [S.e]
      simp only [if_true]
      rcases writeL_plain (B := B) (a := a) (data := data) hn f (i + 1) (wStep B node a data i X m).2.1 (wStep B node a data i X m).2.2 S.wk (by omega) (fun _ => by omega) (by omega) with ⟨e, hno⟩ | R
      · left
        refine ⟨e, fun A => hno (A.on S.fr (w64_ne hn) (by rw [S.x]))⟩
      · right
        refine ⟨R.e, ?_, R.wk, S.fr.trans R.fr (w64_ne hn), fun h => (R.more_ h).trans (S.more_ h), fun p hp => ?_, fun j hj => ?_⟩
        · rw [R.x, S.x]
        · rw [R.by_ p hp, S.by_ p hp]
          by_cases c3 : i + 1 ≤ p / 128 ∧ p / 128 < i + 1 + f ∧ a ≤ p ∧ p < a + data.length
          · rw [if_pos c3, if_pos ⟨by omega, by omega, c3.2.2⟩]
          · rw [if_neg c3]
            by_cases c4 : i ≤ p / 128 ∧ p / 128 < i + 1 ∧ a ≤ p ∧ p < a + data.length
            · rw [if_pos c4, if_pos ⟨c4.1, by omega, c4.2.2⟩]
            · rw [if_neg c4, if_neg (by omega)]
        · rw [R.holes j hj, S.holes j hj]
          constructor
          · rintro ⟨⟨x1, x2⟩, x3⟩; exact ⟨x1, by omega⟩
          · rintro ⟨x1, x2⟩; exact ⟨⟨x1, by omega⟩, by omega⟩
end Go.Proofs.YtlloemmpnhoanaaGreat
