/-
  Plain laws: new files, a file is cut; two files don't touch one another; what is free.
-/
import Derived.Test.YtlloemmpnhoanaaGreatFileJ
set_option linter.all false
set_option maxRecDepth 100000
set_option maxHeartbeats 1000000
namespace Go.Proofs.YtlloemmpnhoanaaGreat
open Go Go.Eng

def m0 : List Int := List.replicate 21 (-1)
theorem b0_owner {x : Int} (h0 : 0 ≤ x) (h1 : x < 96) : b0 (200 + x) = 0 := by
  unfold b0
  rw [if_pos (by omega), if_neg (by omega), if_neg (by omega)]

/-- a new file -/
theorem fresh_file {now : Int → UInt64} {node : Int} (hn : 0 ≤ node ∧ node < 24) (h : ∀ x, 0 ≤ x → x < 96 → now (200 + x) ≠ w64 (node + 1)) : FileI now node (freshC 1 1) m0 [] := by
  have hu : usedL (freshC 1 1).more m0 = [] := by decide
  refine ⟨rfl, ⟨rfl, ?_, by rw [hu]; exact List.nodup_nil, fun x x0 x1 => by rw [hu]; exact ⟨fun h => (nomatch h), fun e => absurd e (h x x0 x1)⟩⟩, ⟨rfl, rfl⟩, rfl, by simp, fun p hp => ?_, fun j hj _ => ?_, by decide⟩
  · intro x hx
    left
    have : x ∈ List.replicate 22 (-1 : Int) := hx
    exact (List.mem_replicate.1 this).2
  · unfold fb
    have : m0[p / 128]?.getD (-1) = -1 := by
      unfold m0
      rw [List.getElem?_replicate]
      split <;> rfl
    rw [this]
    unfold bytesB
    rw [if_pos rfl, zeros_get]
    rfl
  · unfold m0
    rw [List.getElem?_replicate]
    split <;> rfl

theorem filter_idx (l : List Int) : (l.filter usedB).length = ((List.range l.length).filter fun j => usedB (l[j]?.getD (-1))).length := by
  have h : l = (List.range l.length).map fun j => l[j]?.getD (-1) := by
    apply List.ext_getElem
    · simp
    · intro i h1 h2
      simp [h1]
  conv => lhs; rw [h]
  rw [List.filter_map, List.length_map]
  rfl
theorem range_between : ∀ a, a < 22 → ∀ b, b < 22 → a ≤ b → ((List.range 21).filter fun j => decide (a ≤ j ∧ j < b)).length = b - a := by decide +kernel

theorem wrote_used {node : Int} {X : VS} {at_ : Nat} {data s' : List UInt8} {r : Crd × Int × VS} {m' : List Int} (W : Wrote node X m0 (at_ : Int) data s' r m') (hd : data ≠ []) (hf : at_ + data.length ≤ 2688) :
    (usedL r.1.more m').length = (if 5 ≤ (at_ + data.length - 1) / 128 then 1 else 0) + ((at_ + data.length - 1) / 128 - at_ / 128 + 1) := by
  have hl := W.file.wk.len
  have hdl : 0 < data.length := by
    cases data with
    | nil => exact absurd rfl hd
    | cons x l => simp
  have hu : ∀ j, j < 21 → (usedB (m'[j]?.getD (-1)) = true ↔ at_ / 128 ≤ j ∧ j < (at_ + data.length + 127) / 128) := by
    intro j hj
    have h := W.holes j hj
    have h0 : m0[j]?.getD (-1) = -1 := by
      unfold m0
      rw [List.getElem?_replicate]
      split <;> rfl
    rw [Int.toNat_natCast] at h
    rw [usedB_t, h]
    constructor
    · intro x
      exact Classical.byContradiction fun y => x ⟨h0, fun z => y z.2⟩
    · rintro x ⟨_, y⟩
      exact y ⟨hd, x⟩
  have hfl : (m'.filter usedB).length = (at_ + data.length + 127) / 128 - at_ / 128 := by
    rw [filter_idx, hl, ← range_between (at_ / 128) (by omega) ((at_ + data.length + 127) / 128) (by omega) (by omega)]
    congr 1
    apply List.filter_congr
    intro j hj
    have hj' : j < 21 := by simpa using hj
    rw [Bool.eq_iff_iff, hu j hj']
    simp
  have hmor : r.1.more = -1 ↔ (at_ + data.length + 127) / 128 ≤ 5 := by
    rw [W.file.mor, List.any_eq_false]
    constructor
    · intro h
      refine Classical.byContradiction fun hc => ?_
      have h5 : 5 ≤ (at_ + data.length + 127) / 128 - 1 := by omega
      have hj : (at_ + data.length + 127) / 128 - 1 < 21 := by omega
      have := (hu ((at_ + data.length + 127) / 128 - 1) hj).2 ⟨by omega, by omega⟩
      refine h m'[(at_ + data.length + 127) / 128 - 1] ?_ ?_
      · rw [List.mem_drop_iff_getElem]
        refine ⟨(at_ + data.length + 127) / 128 - 1 - 5, by omega, ?_⟩
        congr 1; omega
      · have e : m'[(at_ + data.length + 127) / 128 - 1]?.getD (-1) = m'[(at_ + data.length + 127) / 128 - 1] := W.file.wk.at_ hj
        rw [← e]; exact this
    · intro h x hx
      rw [List.mem_drop_iff_getElem] at hx
      obtain ⟨j, hj, rfl⟩ := hx
      have h2 := hu (5 + j) (by omega)
      rw [W.file.wk.at_ (by omega)] at h2
      intro hu2
      have := h2.1 hu2
      omega
  rw [usedL_cons]
  by_cases h : r.1.more = -1
  · rw [if_pos h, hfl, if_neg (by have := hmor.1 h; omega)]
    omega
  · rw [if_neg h, List.length_cons, hfl, if_pos (by
      have : ¬ (at_ + data.length + 127) / 128 ≤ 5 := fun x => h (hmor.2 x)
      omega)]
    omega

theorem touch_plain (at_ : Nat) (data : List UInt8) (hd : data.length ≤ 400) (ha : at_ + data.length ≤ 2688) :
    (writeP b0 X0 2 (freshC 1 1) (at_ : Int) data).2.1 = 0 ∧ (if data = [] then (writeP b0 X0 2 (freshC 1 1) (at_ : Int) data).1 = freshC 1 1 ∧ (writeP b0 X0 2 (freshC 1 1) (at_ : Int) data).2.2 = X0 else
      ∃ m', Wrote 2 X0 m0 (at_ : Int) data (zeros at_ ++ data) (writeP b0 X0 2 (freshC 1 1) (at_ : Int) data) m') := by
  have hne : ∀ x, 0 ≤ x → x < 96 → X0.now (200 + x) ≠ w64 (2 + 1) := by
    intro x h0 h1
    show b0 (200 + x) ≠ _
    rw [b0_owner h0 h1]; decide
  have F := fresh_file (now := X0.now) (node := 2) (by decide) hne
  have hal : Alone b0 2 X0 := fun k h0 h1 => ⟨b0_owner h0 h1, .inl (b0_owner h0 h1), by simp [X0]⟩
  have href : (refWriteL [] (at_ : Int) data).2 = 0 := by
    unfold refWriteL
    rw [if_neg (by omega)]
    split
    · rfl
    · rw [if_neg (by omega)]
  rcases writeP_plain (B := b0) (by decide) F (at_ : Int) data with ⟨_, _, h⟩ | ⟨h1, h2⟩
  · exact absurd hal h
  · refine ⟨by rw [h1, href], ?_⟩
    by_cases hnil : data = []
    · rw [if_pos hnil]
      subst hnil
      have : writeP b0 X0 2 (freshC 1 1) (at_ : Int) [] = (freshC 1 1, 0, X0) := by
        unfold writeP
        rw [if_neg (by simp), if_pos rfl, F.map]
      rw [this]; exact ⟨rfl, rfl⟩
    · rw [if_neg hnil]
      obtain ⟨m', W⟩ := h2 href
      have : (refWriteL [] (at_ : Int) data).1 = zeros at_ ++ data := by
        unfold refWriteL
        rw [if_neg (by omega), if_neg hnil, if_neg (by omega)]
        simp only [Int.toNat_natCast, List.nil_append, List.length_nil, Nat.sub_zero, zeros]
        rw [List.take_replicate, List.drop_replicate, Nat.sub_self, Nat.min_eq_left (by omega)]
        simp
      rw [this] at W
      exact ⟨m', W⟩

/-- what a step of cutting comes to -/
structure Cutt (node more : Int) (X : VS) (m : List Int) (z : Nat) (size : Int) (i f : Nat) (r : Int × VS × List Int) : Prop where
  e : r.1 = 0
  x : r.2.1 = { X with now := r.2.1.now }
  wk : Wk r.2.1.now node more r.2.2
  fr : Fr node X.now r.2.1.now
  more_ : more ≠ -1 → moreL r.2.1.now more = moreL X.now more
  by_ : ∀ p, p < 2688 → fb r.2.1.now r.2.2 p = if ((z : Int) < size) ∧ i ≤ p / 128 ∧ p / 128 < i + f ∧ z ≤ p then 0 else fb X.now m p
  holes : ∀ j, j < 21 → (r.2.2[j]?.getD (-1) = -1 ↔ m[j]?.getD (-1) = -1 ∨ ((z : Int) < size ∧ i ≤ j ∧ j < i + f ∧ z ≤ 128 * j))

theorem cutStep_plain {node more : Int} (hn : 0 ≤ node ∧ node < 24) {X : VS} {m : List Int} (W : Wk X.now node more m) {z : Nat} {size : Int} {i : Nat} (hi : i < 21) : Cutt node more X m z size i 1 (cutStep z size i X m) := by
  have hl := W.len
  unfold cutStep
  rw [getD_21 hl hi]
  by_cases h1 : m[i]?.getD (-1) = -1 ∨ size ≤ (z : Int) ∨ 128 * i + 128 ≤ z
  · rw [if_pos h1]
    refine ⟨rfl, rfl, W, Fr.refl _ _, fun _ => rfl, fun p hp => ?_, fun j hj => ⟨.inl, fun h => ?_⟩⟩
    · simp only
      split
      · rename_i hc
        have hpi : p / 128 = i := by omega
        rcases h1 with h1 | h1 | h1
        · unfold fb
          rw [hpi, h1]
          unfold bytesB
          rw [if_pos rfl, zeros_get]
        · omega
        · omega
      · rfl
    · rcases h with h | h
      · exact h
      · have : j = i := by omega
        subst this
        rcases h1 with h1 | h1 | h1
        · exact h1
        · omega
        · omega
  · rw [if_neg h1]
    have hm : m[i]?.getD (-1) ≠ -1 := fun h => h1 (.inl h)
    have hs : (z : Int) < size := by
      refine Classical.byContradiction fun h => h1 (.inr (.inl (by omega)))
    have hz : ¬ 128 * i + 128 ≤ z := fun h => h1 (.inr (.inr h))
    by_cases h2 : z ≤ 128 * i
    · rw [if_pos h2]
      obtain ⟨hk, ho, W1, F1, M1, B1⟩ := W.drop_at hn hi rfl hm
      have hdr : dropP X (m[i]?.getD (-1)) = (0, { X with now := upd X.now (200 + m[i]?.getD (-1)) 0 }) := by
        unfold dropP
        rw [if_pos hk, if_neg (by rw [ho]; exact w64_ne hn)]
      rw [hdr]
      refine ⟨rfl, rfl, W1, F1, M1, fun p hp => ?_, fun j hj => ?_⟩
      · simp only
        rw [B1 p hp]
        by_cases hpi : p / 128 = i
        · rw [if_pos hpi, if_pos ⟨hs, by omega, by omega, by omega⟩]
        · rw [if_neg hpi, if_neg (by omega)]
      · simp only
        by_cases hji : j = i
        · subst hji
          have : (m.set j (-1))[j]?.getD (-1) = -1 := by simp [hl, hj]
          rw [this]
          exact ⟨fun _ => .inr ⟨hs, by omega, by omega, h2⟩, fun _ => rfl⟩
        · rw [List.getElem?_set_ne (fun x => hji x.symm)]
          exact ⟨.inl, fun h => by rcases h with h | h; exact h; omega⟩
    · rw [if_neg h2]
      have hbl := bytesB_len X.now (m[i]?.getD (-1))
      obtain ⟨W2, F2, M2, B2⟩ := W.put hi (l := (bytesB X.now (m[i]?.getD (-1))).take (z - 128 * i)) (by rw [List.length_take]; omega) rfl hm
      refine ⟨rfl, rfl, W2, F2, M2, fun p hp => ?_, fun j hj => ?_⟩
      · simp only
        rw [B2 p hp]
        by_cases hpi : p / 128 = i
        · rw [if_pos hpi, List.getElem?_take]
          by_cases hpz : z ≤ p
          · rw [if_neg (by omega), if_pos ⟨hs, by omega, by omega, hpz⟩]; rfl
          · rw [if_pos (by omega), if_neg (by omega)]
            unfold fb
            rw [hpi]
        · rw [if_neg hpi, if_neg (by omega)]
      · simp only
        exact ⟨.inl, fun h => by rcases h with h | h; exact h; omega⟩

theorem cutL_plain {node more : Int} (hn : 0 ≤ node ∧ node < 24) {z : Nat} {size : Int} : ∀ (f i : Nat) (X : VS) (m : List Int), Wk X.now node more m → i + f ≤ 21 → Cutt node more X m z size i f (cutL z size f i X m)
  | 0, i, X, m, W, _ => by
    unfold cutL
    refine ⟨rfl, rfl, W, Fr.refl _ _, fun _ => rfl, fun p hp => ?_, fun j hj => ⟨.inl, fun h => by rcases h with h | h; exact h; omega⟩⟩
    simp only
    rw [if_neg (by omega)]
  | f + 1, i, X, m, W, hf => by
    unfold cutL
    have S := cutStep_plain hn W (z := z) (size := size) (i := i) (by omega)
    rw [S.e]
    simp only [if_true]
    have R := cutL_plain (z := z) (size := size) hn f (i + 1) (cutStep z size i X m).2.1 (cutStep z size i X m).2.2 S.wk (by omega)
    refine ⟨R.e, ?_, R.wk, S.fr.trans R.fr (w64_ne hn), fun h => (R.more_ h).trans (S.more_ h), fun p hp => ?_, fun j hj => ?_⟩
    · rw [R.x, S.x]
    · rw [R.by_ p hp, S.by_ p hp]
      by_cases c3 : (z : Int) < size ∧ i + 1 ≤ p / 128 ∧ p / 128 < i + 1 + f ∧ z ≤ p
      · rw [if_pos c3, if_pos ⟨c3.1, by omega, by omega, c3.2.2.2⟩]
      · rw [if_neg c3]
        by_cases c4 : (z : Int) < size ∧ i ≤ p / 128 ∧ p / 128 < i + 1 ∧ z ≤ p
        · rw [if_pos c4, if_pos ⟨c4.1, c4.2.1, by omega, c4.2.2.2⟩]
        · rw [if_neg c4, if_neg (by omega)]
    · rw [R.holes j hj, S.holes j hj]
      constructor
      · rintro ((h | h) | h)
        · exact .inl h
        · exact .inr ⟨h.1, by omega, by omega, h.2.2.2⟩
        · exact .inr ⟨h.1, by omega, by omega, h.2.2.2⟩
      · rintro (h | h)
        · exact .inl (.inl h)
        · by_cases hji : j = i
          · exact .inl (.inr ⟨h.1, by omega, by omega, h.2.2.2⟩)
          · exact .inr ⟨h.1, by omega, by omega, h.2.2.2⟩

/-- the document's answer: a file is cut -/
def refCutL (s : List UInt8) (size : Int) : List UInt8 × Int :=
  if size < 0 then ([], 1)
  else if 2688 < size then ([], 10)
  else if size ≤ (s.length : Int) then (s.take size.toNat, 0) else (s ++ zeros (size.toNat - s.length), 0)

theorem refCut_get (s : List UInt8) (z : Nat) (p : Nat) : (if (z : Int) ≤ (s.length : Int) then s.take z else s ++ zeros (z - s.length))[p]?.getD 0 = if (z : Int) < (s.length : Int) ∧ z ≤ p then 0 else s[p]?.getD 0 := by
  split
  · rw [List.getElem?_take]
    by_cases h : p < z
    · rw [if_pos h, if_neg (by omega)]
    · rw [if_neg h]
      split
      · rfl
      · rw [List.getElem?_eq_none (by omega)]
  · rw [pad_get, if_neg (by omega)]
theorem refCut_len (s : List UInt8) (z : Nat) : (if (z : Int) ≤ (s.length : Int) then s.take z else s ++ zeros (z - s.length)).length = z := by
  split
  · rw [List.length_take]; omega
  · simp [zeros]; omega

theorem cutP_plain {B : Int → UInt64} {node : Int} (hn : 0 ≤ node ∧ node < 24) {X : VS} {c : Crd} {m : List Int} {s : List UInt8} (F : FileI X.now node c m s) (size : Int) :
    (cutP B X node c size).2.1 = (refCutL s size).2 ∧ ((refCutL s size).2 = 0 → ∃ m', FileI (cutP B X node c size).2.2.now node (cutP B X node c size).1 m' (refCutL s size).1 ∧ Fr node X.now (cutP B X node c size).2.2.now ∧ (cutP B X node c size).2.2 = { X with now := (cutP B X node c size).2.2.now } ∧
      ∀ j : Nat, j < 21 → (m'[j]?.getD (-1) = -1 ↔ m[j]?.getD (-1) = -1 ∨ (size < s.length ∧ size ≤ 128 * (j : Int)))) := by
  unfold cutP refCutL
  by_cases h1 : size < 0
  · rw [if_pos (.inr h1), if_pos h1]
    exact ⟨rfl, fun h => by cases h⟩
  · rw [if_neg (by rintro (x | x); exact x hn; exact h1 x), if_neg h1]
    by_cases h2 : 2688 < size
    · rw [if_pos h2, if_pos h2]
      exact ⟨rfl, fun h => by cases h⟩
    · rw [if_neg h2, if_neg h2, F.map]
      simp only
      obtain ⟨z, rfl⟩ : ∃ z : Nat, size = (z : Int) := ⟨size.toNat, by omega⟩
      simp only [Int.toNat_natCast]
      have R := cutL_plain (z := z) (size := c.size) hn 21 0 X m F.wk (by omega)
      rw [R.e]
      simp only [if_true]
      have hsz := F.size
      have hfit := F.fits
      have hlr := R.wk.len
      have hc : ({ c with size := (z : Int) } : Crd).more = c.more := rfl
      have hmono : (((cutL z c.size 21 0 X m).2.2).drop 5).any usedB = true → (m.drop 5).any usedB = true := by
        intro h
        rw [List.any_eq_true] at h ⊢
        obtain ⟨x, hx, hu⟩ := h
        rw [List.mem_drop_iff_getElem] at hx
        obtain ⟨j, hj, rfl⟩ := hx
        have h5 : 5 + j < 21 := by omega
        have hh := R.holes (5 + j) h5
        rw [R.wk.at_ h5, F.wk.at_ h5] at hh
        have hne := usedB_t.1 hu
        have hml := F.wk.len
        refine ⟨m[5 + j], ?_, usedB_t.2 fun e => hne (hh.2 (.inl e))⟩
        rw [List.mem_drop_iff_getElem]
        exact ⟨j, by omega, rfl⟩
      have hpair : (if (z : Int) ≤ (s.length : Int) then (s.take z, (0 : Int)) else (s ++ zeros (z - s.length), 0)) = (if (z : Int) ≤ (s.length : Int) then s.take z else s ++ zeros (z - s.length), 0) := by split <;> rfl
      rw [hpair]
      rcases keepP_plain (B := B) (c := { c with size := (z : Int) }) hn (hc ▸ R.wk) with ⟨_, _, hmo, hus⟩ | K
      · exact absurd (F.mor.1 hmo) (by rw [hmono hus]; decide)
      · refine ⟨K.e, fun _ => ⟨(cutL z c.size 21 0 X m).2.2, ?_, R.fr.trans K.fr (w64_ne hn), by rw [K.x, R.x], fun j hj => ?_⟩⟩
        · have hcc := K.c_
          refine ⟨K.map, K.wk, ?_, ?_, ?_, fun p hp => ?_, fun j hj hs => ?_, K.mor⟩
          · rw [hcc]; exact F.kind
          · rw [hcc, refCut_len]; rfl
          · rw [refCut_len]; omega
          · rw [K.by_ p hp, R.by_ p hp, refCut_get, F.by_ p hp, hsz]
            by_cases hq : (z : Int) < (s.length : Int) ∧ z ≤ p
            · rw [if_pos ⟨hq.1, by omega, by omega, hq.2⟩, if_pos hq]
            · rw [if_neg (fun h => hq ⟨h.1, h.2.2.2⟩), if_neg hq]
          · rw [refCut_len] at hs
            refine (R.holes j hj).2 ?_
            rw [hsz]
            by_cases hq : (z : Int) < (s.length : Int)
            · exact .inr ⟨hq, by omega, by omega, hs⟩
            · exact .inl (F.hol j hj (by omega))
        · rw [R.holes j hj, hsz]
          constructor
          · rintro (h | h)
            · exact .inl h
            · exact .inr ⟨h.1, by omega⟩
          · rintro (h | h)
            · exact .inl h
            · exact .inr ⟨h.1, by omega, by omega, by omega⟩

theorem w64_inj {a b : Int} (ha : 0 ≤ a ∧ a < 24) (hb : 0 ≤ b ∧ b < 24) (h : w64 (a + 1) = w64 (b + 1)) : a = b := by
  have h1 := w64_toNat (a + 1)
  have h2 := w64_toNat (b + 1)
  rw [h] at h1
  omega

/-- a file of another node stays as it was -/
theorem FileI.other {now g : Int → UInt64} {x y : Int} (hx : 0 ≤ x ∧ x < 24) (hy : 0 ≤ y ∧ y < 24) (hne : x ≠ y) {c : Crd} {m : List Int} {s : List UInt8} (F : FileI now y c m s) (R : Fr x now g) : FileI g y c m s := by
  have hxy : w64 (y + 1) ≠ w64 (x + 1) := fun e => hne (w64_inj hx hy e.symm)
  have hy0 := w64_ne hy
  have key : ∀ k, 0 ≤ k → k < 96 → now (200 + k) = w64 (y + 1) → g (200 + k) = w64 (y + 1) ∧ rdL g (1288 + k * 16) 16 = rdL now (1288 + k * 16) 16 := by
    intro k h0 h1 h
    obtain ⟨p, q⟩ := R.oth k h0 h1 (by rw [h]; exact hxy)
    refine ⟨?_, q (by rw [h]; exact hy0)⟩
    rcases p with p | ⟨p, _⟩
    · rw [p, h]
    · exact absurd (h ▸ p) hy0
  have back : ∀ k, 0 ≤ k → k < 96 → g (200 + k) = w64 (y + 1) → now (200 + k) = w64 (y + 1) := by
    intro k h0 h1 h
    by_cases hm : now (200 + k) = w64 (x + 1)
    · rcases R.mine k h0 h1 hm with p | p
      · exact absurd (h.symm.trans p) hxy
      · exact absurd (h.symm.trans p) hy0
    · rcases (R.oth k h0 h1 hm).1 with p | ⟨_, p⟩
      · rw [← p, h]
      · exact absurd (h.symm.trans p) hxy
  have hown : ∀ k, k ∈ usedL c.more m → 0 ≤ k ∧ k < 96 ∧ now (200 + k) = w64 (y + 1) := by
    intro k hk
    obtain ⟨h1, h2⟩ := usedL_mem.1 hk
    have hb := F.wk.rng k (by rcases h1 with rfl | h1; exact List.mem_cons_self; exact List.mem_cons_of_mem _ h1)
    unfold blkOk at hb
    exact ⟨by omega, by omega, (F.wk.own k (by omega) (by omega)).1 hk⟩
  refine ⟨?_, ⟨F.wk.len, F.wk.rng, F.wk.nod, fun k h0 h1 => ?_⟩, F.kind, F.size, F.fits, fun p hp => ?_, F.hol, F.mor⟩
  · have h := F.map
    unfold mapOf at h ⊢
    by_cases hm : c.more = -1
    · rw [if_pos hm] at h ⊢; exact h
    · obtain ⟨k0, k1, ko⟩ := hown c.more (usedL_mem.2 ⟨.inl rfl, hm⟩)
      have e : moreL g c.more = moreL now c.more := (key _ k0 k1 ko).2
      rw [e]; exact h
  · rw [F.wk.own k h0 h1]
    exact ⟨fun h => (key k h0 h1 h).1, back k h0 h1⟩
  · rw [F.wk.fb_keep (fun k hk h0 h1 => ?_) p hp, F.by_ p hp]
    exact (key k h0 h1 (hown k (usedL_mem.2 ⟨.inr hk, by omega⟩)).2.2).2

theorem count_filter_range (p : Nat → Bool) (l : List Int) (hn : l.Nodup) (h : ∀ k : Nat, k < 96 → (p k = true ↔ (k : Int) ∈ l)) (hl : ∀ x ∈ l, 0 ≤ x ∧ x < 96) : ((List.range 96).filter p).length = l.length := by
  have hp : (((List.range 96).filter p).map fun (k : Nat) => (k : Int)).Perm l := by
    rw [List.perm_ext_iff_of_nodup ?_ hn]
    · intro x
      simp only [List.mem_map, List.mem_filter, List.mem_range]
      constructor
      · rintro ⟨k, ⟨h1, h2⟩, rfl⟩; exact (h k h1).1 h2
      · intro hx
        have := hl x hx
        refine ⟨x.toNat, ⟨by omega, (h _ (by omega)).2 (by rwa [show ((x.toNat : Nat) : Int) = x by omega])⟩, by omega⟩
    · have : (((List.range 96).filter p).map fun (k : Nat) => (k : Int)).Pairwise (fun a b => a < b) := by
        rw [List.pairwise_map]
        exact (List.pairwise_lt_range.filter _).imp fun h => by simpa using h
      exact this.imp fun h e => by omega
  rw [← hp.length_eq, List.length_map]

theorem filter_three {α : Type} (p q r : α → Bool) : ∀ l : List α, (∀ x ∈ l, (p x = true ∧ q x = false ∧ r x = false) ∨ (p x = false ∧ q x = true ∧ r x = false) ∨ (p x = false ∧ q x = false ∧ r x = true)) → (l.filter p).length + (l.filter q).length + (l.filter r).length = l.length
  | [], _ => rfl
  | x :: l, h => by
    have ih := filter_three p q r l fun y hy => h y (List.mem_cons_of_mem _ hy)
    rcases h x List.mem_cons_self with ⟨a, b, c⟩ | ⟨a, b, c⟩ | ⟨a, b, c⟩ <;> simp only [List.filter_cons, a, b, c, List.length_cons, if_true] <;> simp <;> omega

/-- what is free beside two files -/
theorem free_two {now : Int → UInt64} {x y : Int} (hx : 0 ≤ x ∧ x < 24) (hy : 0 ≤ y ∧ y < 24) (hne : x ≠ y) {c d : Crd} {m n : List Int} {s t : List UInt8} (F : FileI now x c m s) (G : FileI now y d n t)
    (h : ∀ k, 0 ≤ k → k < 96 → now (200 + k) = 0 ∨ now (200 + k) = w64 (x + 1) ∨ now (200 + k) = w64 (y + 1)) :
    freeN now ⟨now, [], [], [], []⟩ 96 + (usedL c.more m).length + (usedL d.more n).length = 96 := by
  have hxy : w64 (y + 1) ≠ w64 (x + 1) := fun e => hne (w64_inj hx hy e.symm)
  have hx0 := w64_ne hx
  have hy0 := w64_ne hy
  have rng : ∀ {z : Int} {c : Crd} {m : List Int} {s : List UInt8}, FileI now z c m s → ∀ k ∈ usedL c.more m, 0 ≤ k ∧ k < 96 := by
    intro z c m s F k hk
    obtain ⟨h1, h2⟩ := usedL_mem.1 hk
    have hb := F.wk.rng k (by rcases h1 with rfl | h1; exact List.mem_cons_self; exact List.mem_cons_of_mem _ h1)
    unfold blkOk at hb
    omega
  rw [← count_filter_range (fun k => decide (now (200 + (k : Int)) = w64 (x + 1))) (usedL c.more m) F.wk.nod (fun k hk => by rw [decide_eq_true_iff, F.wk.own (k : Int) (by omega) (by omega)]) (rng F),
    ← count_filter_range (fun k => decide (now (200 + (k : Int)) = w64 (y + 1))) (usedL d.more n) G.wk.nod (fun k hk => by rw [decide_eq_true_iff, G.wk.own (k : Int) (by omega) (by omega)]) (rng G)]
  unfold freeN
  have := filter_three (fun (i : Nat) => freshB now ⟨now, [], [], [], []⟩ (i : Int)) (fun k => decide (now (200 + (k : Int)) = w64 (x + 1))) (fun k => decide (now (200 + (k : Int)) = w64 (y + 1))) (List.range 96) (fun k hk => by
    have hk' : k < 96 := by simpa using hk
    have hf : freshB now ⟨now, [], [], [], []⟩ (k : Int) = decide (now (200 + (k : Int)) = 0) := by
      unfold freshB
      rw [decide_eq_true (by omega : 0 ≤ (k : Int)), decide_eq_true (by omega : (k : Int) < 96)]
      simp
    rw [hf]
    rcases h (k : Int) (by omega) (by omega) with e | e | e
    · left; rw [e]; exact ⟨rfl, decide_eq_false fun z => hx0 z.symm, decide_eq_false fun z => hy0 z.symm⟩
    · right; left; rw [e]; exact ⟨decide_eq_false hx0, decide_eq_true rfl, decide_eq_false fun z => hxy z.symm⟩
    · right; right; rw [e]; exact ⟨decide_eq_false hy0, decide_eq_false hxy, decide_eq_true rfl⟩)
  simpa using this
end Go.Proofs.YtlloemmpnhoanaaGreat
