/-
  Joined texts: FileN, FileP, FileQ, FileT.
-/
import Derived.Test.YteambknhlbiajaaGreatJLawApartg
/-
  Plain laws: new files, a file is cut; two files don't touch one another; what is free.
-/
set_option linter.all false
set_option maxRecDepth 100000
set_option maxHeartbeats 1000000
namespace Go.Proofs.YteambknhlbiajaaGreat
open Go Go.Eng

def m0 : List Int := List.replicate 21 (-1)
theorem b0_owner {x : Int} (h0 : 0 ≤ x) (h1 : x < 96) : b0 (200 + x) = 0 := by
  unfold b0
  rw [if_pos (by omega), if_neg (by omega), if_neg (by omega)]

/-- a new file -/
theorem fresh_file {now : Int → UInt64} {node : Int} (hn : 0 ≤ node ∧ node < 24) (h : ∀ x, 0 ≤ x → x < 96 → now (200 + x) ≠ w64 (node + 1)) : FileI now node (freshC 1 1) m0 [] := by
  have hu : usedL (freshC 1 1).more m0 = [] := by decide
  refine ⟨rfl, ⟨rfl, ?_, by rw [hu]; exact List.nodup_nil, fun x x0 x1 => by rw [hu]; exact ⟨fun h => (nomatch h), fun e => absurd e (h x x0 x1)⟩⟩, ⟨rfl, rfl⟩, rfl, by simp, fun p hp => ?_, fun j hj _ => ?_, by decide⟩
  · intro x hx
    left
    have : x ∈ List.replicate 22 (-1 : Int) := hx
    exact (List.mem_replicate.1 this).2
  · unfold fb
    have : m0[p / 128]?.getD (-1) = -1 := by
      unfold m0
      rw [List.getElem?_replicate]
      split <;> rfl
    rw [this]
    unfold bytesB
    rw [if_pos rfl, zeros_get]
    rfl
  · unfold m0
    rw [List.getElem?_replicate]
    split <;> rfl

theorem filter_idx (l : List Int) : (l.filter usedB).length = ((List.range l.length).filter fun j => usedB (l[j]?.getD (-1))).length := by
  have h : l = (List.range l.length).map fun j => l[j]?.getD (-1) := by
    apply List.ext_getElem
    · simp
    · intro i h1 h2
      simp [h1]
  conv => lhs; rw [h]
  rw [List.filter_map, List.length_map]
  rfl
theorem range_between : ∀ a, a < 22 → ∀ b, b < 22 → a ≤ b → ((List.range 21).filter fun j => decide (a ≤ j ∧ j < b)).length = b - a := by decide +kernel

theorem wrote_used {node : Int} {X : VS} {at_ : Nat} {data s' : List UInt8} {r : Crd × Int × VS} {m' : List Int} (W : Wrote node X m0 (at_ : Int) data s' r m') (hd : data ≠ []) (hf : at_ + data.length ≤ 2688) :
    (usedL r.1.more m').length = (if 5 ≤ (at_ + data.length - 1) / 128 then 1 else 0) + ((at_ + data.length - 1) / 128 - at_ / 128 + 1) := by
  have hl := W.file.wk.len
  have hdl : 0 < data.length := by
    cases data with
    | nil => exact absurd rfl hd
    | cons x l => simp
  have hu : ∀ j, j < 21 → (usedB (m'[j]?.getD (-1)) = true ↔ at_ / 128 ≤ j ∧ j < (at_ + data.length + 127) / 128) := by
    intro j hj
    have h := W.holes j hj
    have h0 : m0[j]?.getD (-1) = -1 := by
      unfold m0
      rw [List.getElem?_replicate]
      split <;> rfl
    rw [Int.toNat_natCast] at h
    rw [usedB_t, h]
    constructor
    · intro x
      exact Classical.byContradiction fun y => x ⟨h0, fun z => y z.2⟩
    · rintro x ⟨_, y⟩
      exact y ⟨hd, x⟩
  have hfl : (m'.filter usedB).length = (at_ + data.length + 127) / 128 - at_ / 128 := by
    rw [filter_idx, hl, ← range_between (at_ / 128) (by omega) ((at_ + data.length + 127) / 128) (by omega) (by omega)]
    congr 1
    apply List.filter_congr
    intro j hj
    have hj' : j < 21 := by simpa using hj
    rw [Bool.eq_iff_iff, hu j hj']
    simp
  have hmor : r.1.more = -1 ↔ (at_ + data.length + 127) / 128 ≤ 5 := by
    rw [W.file.mor, List.any_eq_false]
    constructor
    · intro h
      refine Classical.byContradiction fun hc => ?_
      have h5 : 5 ≤ (at_ + data.length + 127) / 128 - 1 := by omega
      have hj : (at_ + data.length + 127) / 128 - 1 < 21 := by omega
      have := (hu ((at_ + data.length + 127) / 128 - 1) hj).2 ⟨by omega, by omega⟩
      refine h m'[(at_ + data.length + 127) / 128 - 1] ?_ ?_
      · rw [List.mem_drop_iff_getElem]
        refine ⟨(at_ + data.length + 127) / 128 - 1 - 5, by omega, ?_⟩
        congr 1; omega
      · have e : m'[(at_ + data.length + 127) / 128 - 1]?.getD (-1) = m'[(at_ + data.length + 127) / 128 - 1] := W.file.wk.at_ hj
        rw [← e]; exact this
    · intro h x hx
      rw [List.mem_drop_iff_getElem] at hx
      obtain ⟨j, hj, rfl⟩ := hx
      have h2 := hu (5 + j) (by omega)
      rw [W.file.wk.at_ (by omega)] at h2
      intro hu2
      have := h2.1 hu2
      omega
  rw [usedL_cons]
  by_cases h : r.1.more = -1
  · rw [if_pos h, hfl, if_neg (by have := hmor.1 h; omega)]
    omega
  · rw [if_neg h, List.length_cons, hfl, if_pos (by
      have : ¬ (at_ + data.length + 127) / 128 ≤ 5 := fun x => h (hmor.2 x)
      omega)]
    omega

theorem touch_plain (at_ : Nat) (data : List UInt8) (hd : data.length ≤ 400) (ha : at_ + data.length ≤ 2688) :
    (writeP b0 X0 2 (freshC 1 1) (at_ : Int) data).2.1 = 0 ∧ (if data = [] then (writeP b0 X0 2 (freshC 1 1) (at_ : Int) data).1 = freshC 1 1 ∧ (writeP b0 X0 2 (freshC 1 1) (at_ : Int) data).2.2 = X0 else
      ∃ m', Wrote 2 X0 m0 (at_ : Int) data (zeros at_ ++ data) (writeP b0 X0 2 (freshC 1 1) (at_ : Int) data) m') := by
  have hne : ∀ x, 0 ≤ x → x < 96 → X0.now (200 + x) ≠ w64 (2 + 1) := by
    intro x h0 h1
    show b0 (200 + x) ≠ _
    rw [b0_owner h0 h1]; decide
  have F := fresh_file (now := X0.now) (node := 2) (by decide) hne
  have hal : Alone b0 2 X0 := fun k h0 h1 => ⟨b0_owner h0 h1, .inl (b0_owner h0 h1), by simp [X0]⟩
  have href : (refWriteL [] (at_ : Int) data).2 = 0 := by
    unfold refWriteL
    rw [if_neg (by omega)]
    split
    · rfl
    · rw [if_neg (by omega)]
  rcases writeP_plain (B := b0) (by decide) F (at_ : Int) data with ⟨_, _, h⟩ | ⟨h1, h2⟩
  · exact absurd hal h
  · refine ⟨by rw [h1, href], ?_⟩
    by_cases hnil : data = []
    · rw [if_pos hnil]
      subst hnil
      have : writeP b0 X0 2 (freshC 1 1) (at_ : Int) [] = (freshC 1 1, 0, X0) := by
        unfold writeP
        rw [if_neg (by simp), if_pos rfl, F.map]
      rw [this]; exact ⟨rfl, rfl⟩
    · rw [if_neg hnil]
      obtain ⟨m', W⟩ := h2 href
      have : (refWriteL [] (at_ : Int) data).1 = zeros at_ ++ data := by
        unfold refWriteL
        rw [if_neg (by omega), if_neg hnil, if_neg (by omega)]
        simp only [Int.toNat_natCast, List.nil_append, List.length_nil, Nat.sub_zero, zeros]
        rw [List.take_replicate, List.drop_replicate, Nat.sub_self, Nat.min_eq_left (by omega)]
        simp
      rw [this] at W
      exact ⟨m', W⟩

/-- what a step of cutting comes to -/
structure Cutt (node more : Int) (X : VS) (m : List Int) (z : Nat) (size : Int) (i f : Nat) (r : Int × VS × List Int) : Prop where
  e : r.1 = 0
  x : r.2.1 = { X with now := r.2.1.now }
  wk : Wk r.2.1.now node more r.2.2
  fr : Fr node X.now r.2.1.now
  more_ : more ≠ -1 → moreL r.2.1.now more = moreL X.now more
  by_ : ∀ p, p < 2688 → fb r.2.1.now r.2.2 p = if ((z : Int) < size) ∧ i ≤ p / 128 ∧ p / 128 < i + f ∧ z ≤ p then 0 else fb X.now m p
  holes : ∀ j, j < 21 → (r.2.2[j]?.getD (-1) = -1 ↔ m[j]?.getD (-1) = -1 ∨ ((z : Int) < size ∧ i ≤ j ∧ j < i + f ∧ z ≤ 128 * j))

theorem cutStep_plain {node more : Int} (hn : 0 ≤ node ∧ node < 24) {X : VS} {m : List Int} (W : Wk X.now node more m) {z : Nat} {size : Int} {i : Nat} (hi : i < 21) : Cutt node more X m z size i 1 (cutStep z size i X m) := by
  have hl := W.len
  unfold cutStep
  rw [getD_21 hl hi]
  by_cases h1 : m[i]?.getD (-1) = -1 ∨ size ≤ (z : Int) ∨ 128 * i + 128 ≤ z
  · rw [if_pos h1]
    refine ⟨rfl, rfl, W, Fr.refl _ _, fun _ => rfl, fun p hp => ?_, fun j hj => ⟨.inl, fun h => ?_⟩⟩
    · simp only
      split
      · rename_i hc
        have hpi : p / 128 = i := by omega
        rcases h1 with h1 | h1 | h1
        · unfold fb
          rw [hpi, h1]
          unfold bytesB
          rw [if_pos rfl, zeros_get]
        · omega
        · omega
      · rfl
    · rcases h with h | h
      · exact h
      · have : j = i := by omega
        subst this
        rcases h1 with h1 | h1 | h1
        · exact h1
        · omega
        · omega
  · rw [if_neg h1]
    have hm : m[i]?.getD (-1) ≠ -1 := fun h => h1 (.inl h)
    have hs : (z : Int) < size := by
      refine Classical.byContradiction fun h => h1 (.inr (.inl (by omega)))
    have hz : ¬ 128 * i + 128 ≤ z := fun h => h1 (.inr (.inr h))
    by_cases h2 : z ≤ 128 * i
    · rw [if_pos h2]
      obtain ⟨hk, ho, W1, F1, M1, B1⟩ := W.drop_at hn hi rfl hm
      have hdr : dropP X (m[i]?.getD (-1)) = (0, { X with now := upd X.now (200 + m[i]?.getD (-1)) 0 }) := by
        unfold dropP
        rw [if_pos hk, if_neg (by rw [ho]; exact w64_ne hn)]
      rw [hdr]
      refine ⟨rfl, rfl, W1, F1, M1, fun p hp => ?_, fun j hj => ?_⟩
      · simp only
        rw [B1 p hp]
        by_cases hpi : p / 128 = i
        · rw [if_pos hpi, if_pos ⟨hs, by omega, by omega, by omega⟩]
        · rw [if_neg hpi, if_neg (by omega)]
      · simp only
        by_cases hji : j = i
        · subst hji
          have : (m.set j (-1))[j]?.getD (-1) = -1 := by simp [hl, hj]
          rw [this]
          exact ⟨fun _ => .inr ⟨hs, by omega, by omega, h2⟩, fun _ => rfl⟩
        · rw [List.getElem?_set_ne (fun x => hji x.symm)]
          exact ⟨.inl, fun h => by rcases h with h | h; exact h; omega⟩
    · rw [if_neg h2]
      have hbl := bytesB_len X.now (m[i]?.getD (-1))
      obtain ⟨W2, F2, M2, B2⟩ := W.put hi (l := (bytesB X.now (m[i]?.getD (-1))).take (z - 128 * i)) (by rw [List.length_take]; omega) rfl hm
      refine ⟨rfl, rfl, W2, F2, M2, fun p hp => ?_, fun j hj => ?_⟩
      · simp only
        rw [B2 p hp]
        by_cases hpi : p / 128 = i
        · rw [if_pos hpi, List.getElem?_take]
          by_cases hpz : z ≤ p
          · rw [if_neg (by omega), if_pos ⟨hs, by omega, by omega, hpz⟩]; rfl
          · rw [if_pos (by omega), if_neg (by omega)]
            unfold fb
            rw [hpi]
        · rw [if_neg hpi, if_neg (by omega)]
      · simp only
        exact ⟨.inl, fun h => by rcases h with h | h; exact h; omega⟩

theorem cutL_plain {node more : Int} (hn : 0 ≤ node ∧ node < 24) {z : Nat} {size : Int} : ∀ (f i : Nat) (X : VS) (m : List Int), Wk X.now node more m → i + f ≤ 21 → Cutt node more X m z size i f (cutL z size f i X m)
  | 0, i, X, m, W, _ => by
    unfold cutL
    refine ⟨rfl, rfl, W, Fr.refl _ _, fun _ => rfl, fun p hp => ?_, fun j hj => ⟨.inl, fun h => by rcases h with h | h; exact h; omega⟩⟩
    simp only
    rw [if_neg (by omega)]
  | f + 1, i, X, m, W, hf => by
    unfold cutL
    have S := cutStep_plain hn W (z := z) (size := size) (i := i) (by omega)
    rw [S.e]
    simp only [if_true]
    have R := cutL_plain (z := z) (size := size) hn f (i + 1) (cutStep z size i X m).2.1 (cutStep z size i X m).2.2 S.wk (by omega)
    refine ⟨R.e, ?_, R.wk, S.fr.trans R.fr (w64_ne hn), fun h => (R.more_ h).trans (S.more_ h), fun p hp => ?_, fun j hj => ?_⟩
    · rw [R.x, S.x]
    · rw [R.by_ p hp, S.by_ p hp]
      by_cases c3 : (z : Int) < size ∧ i + 1 ≤ p / 128 ∧ p / 128 < i + 1 + f ∧ z ≤ p
      · rw [if_pos c3, if_pos ⟨c3.1, by omega, by omega, c3.2.2.2⟩]
      · rw [if_neg c3]
        by_cases c4 : (z : Int) < size ∧ i ≤ p / 128 ∧ p / 128 < i + 1 ∧ z ≤ p
        · rw [if_pos c4, if_pos ⟨c4.1, c4.2.1, by omega, c4.2.2.2⟩]
        · rw [if_neg c4, if_neg (by omega)]
    · rw [R.holes j hj, S.holes j hj]
      constructor
      · rintro ((h | h) | h)
        · exact .inl h
        · exact .inr ⟨h.1, by omega, by omega, h.2.2.2⟩
        · exact .inr ⟨h.1, by omega, by omega, h.2.2.2⟩
      · rintro (h | h)
        · exact .inl (.inl h)
        · by_cases hji : j = i
          · exact .inl (.inr ⟨h.1, by omega, by omega, h.2.2.2⟩)
          · exact .inr ⟨h.1, by omega, by omega, h.2.2.2⟩

/-- the document's answer: a file is cut -/
def refCutL (s : List UInt8) (size : Int) : List UInt8 × Int :=
  if size < 0 then ([], 1)
  else if 2688 < size then ([], 10)
  else if size ≤ (s.length : Int) then (s.take size.toNat, 0) else (s ++ zeros (size.toNat - s.length), 0)

theorem refCut_get (s : List UInt8) (z : Nat) (p : Nat) : (if (z : Int) ≤ (s.length : Int) then s.take z else s ++ zeros (z - s.length))[p]?.getD 0 = if (z : Int) < (s.length : Int) ∧ z ≤ p then 0 else s[p]?.getD 0 := by
  split
  · rw [List.getElem?_take]
    by_cases h : p < z
    · rw [if_pos h, if_neg (by omega)]
    · rw [if_neg h]
      split
      · rfl
      · rw [List.getElem?_eq_none (by omega)]
  · rw [pad_get, if_neg (by omega)]
theorem refCut_len (s : List UInt8) (z : Nat) : (if (z : Int) ≤ (s.length : Int) then s.take z else s ++ zeros (z - s.length)).length = z := by
  split
  · rw [List.length_take]; omega
  · simp [zeros]; omega

theorem cutP_plain {B : Int → UInt64} {node : Int} (hn : 0 ≤ node ∧ node < 24) {X : VS} {c : Crd} {m : List Int} {s : List UInt8} (F : FileI X.now node c m s) (size : Int) :
    (cutP B X node c size).2.1 = (refCutL s size).2 ∧ ((refCutL s size).2 = 0 → ∃ m', FileI (cutP B X node c size).2.2.now node (cutP B X node c size).1 m' (refCutL s size).1 ∧ Fr node X.now (cutP B X node c size).2.2.now ∧ (cutP B X node c size).2.2 = { X with now := (cutP B X node c size).2.2.now } ∧
      ∀ j : Nat, j < 21 → (m'[j]?.getD (-1) = -1 ↔ m[j]?.getD (-1) = -1 ∨ (size < s.length ∧ size ≤ 128 * (j : Int)))) := by
  unfold cutP refCutL
  by_cases h1 : size < 0
  · rw [if_pos (.inr h1), if_pos h1]
    exact ⟨rfl, fun h => by cases h⟩
  · rw [if_neg (by rintro (x | x); exact x hn; exact h1 x), if_neg h1]
    by_cases h2 : 2688 < size
    · rw [if_pos h2, if_pos h2]
      exact ⟨rfl, fun h => by cases h⟩
    · rw [if_neg h2, if_neg h2, F.map]
      simp only
      obtain ⟨z, rfl⟩ : ∃ z : Nat, size = (z : Int) := ⟨size.toNat, by omega⟩
      simp only [Int.toNat_natCast]
      have R := cutL_plain (z := z) (size := c.size) hn 21 0 X m F.wk (by omega)
      rw [R.e]
      simp only [if_true]
      have hsz := F.size
      have hfit := F.fits
      have hlr := R.wk.len
      have hc : ({ c with size := (z : Int) } : Crd).more = c.more := rfl
      have hmono : (((cutL z c.size 21 0 X m).2.2).drop 5).any usedB = true → (m.drop 5).any usedB = true := by
        intro h
        rw [List.any_eq_true] at h ⊢
        obtain ⟨x, hx, hu⟩ := h
        rw [List.mem_drop_iff_getElem] at hx
        obtain ⟨j, hj, rfl⟩ := hx
        have h5 : 5 + j < 21 := by omega
        have hh := R.holes (5 + j) h5
        rw [R.wk.at_ h5, F.wk.at_ h5] at hh
        have hne := usedB_t.1 hu
        have hml := F.wk.len
        refine ⟨m[5 + j], ?_, usedB_t.2 fun e => hne (hh.2 (.inl e))⟩
        rw [List.mem_drop_iff_getElem]
        exact ⟨j, by omega, rfl⟩
      have hpair : (if (z : Int) ≤ (s.length : Int) then (s.take z, (0 : Int)) else (s ++ zeros (z - s.length), 0)) = (if (z : Int) ≤ (s.length : Int) then s.take z else s ++ zeros (z - s.length), 0) := by split <;> rfl
      rw [hpair]
      rcases keepP_plain (B := B) (c := { c with size := (z : Int) }) hn (hc ▸ R.wk) with ⟨_, _, hmo, hus⟩ | K
      · exact absurd (F.mor.1 hmo) (by rw [hmono hus]; decide)
      · refine ⟨K.e, fun _ => ⟨(cutL z c.size 21 0 X m).2.2, ?_, R.fr.trans K.fr (w64_ne hn), by rw [K.x, R.x], fun j hj => ?_⟩⟩
        · have hcc := K.c_
          refine ⟨K.map, K.wk, ?_, ?_, ?_, fun p hp => ?_, fun j hj hs => ?_, K.mor⟩
          · rw [hcc]; exact F.kind
          · rw [hcc, refCut_len]; rfl
          · rw [refCut_len]; omega
          · rw [K.by_ p hp, R.by_ p hp, refCut_get, F.by_ p hp, hsz]
            by_cases hq : (z : Int) < (s.length : Int) ∧ z ≤ p
            · rw [if_pos ⟨hq.1, by omega, by omega, hq.2⟩, if_pos hq]
            · rw [if_neg (fun h => hq ⟨h.1, h.2.2.2⟩), if_neg hq]
          · rw [refCut_len] at hs
            refine (R.holes j hj).2 ?_
            rw [hsz]
            by_cases hq : (z : Int) < (s.length : Int)
            · exact .inr ⟨hq, by omega, by omega, hs⟩
            · exact .inl (F.hol j hj (by omega))
        · rw [R.holes j hj, hsz]
          constructor
          · rintro (h | h)
            · exact .inl h
            · exact .inr ⟨h.1, by omega⟩
          · rintro (h | h)
            · exact .inl h
            · exact .inr ⟨h.1, by omega, by omega, by omega⟩

theorem w64_inj {a b : Int} (ha : 0 ≤ a ∧ a < 24) (hb : 0 ≤ b ∧ b < 24) (h : w64 (a + 1) = w64 (b + 1)) : a = b := by
  have h1 := w64_toNat (a + 1)
  have h2 := w64_toNat (b + 1)
  rw [h] at h1
  omega

/-- a file of another node stays as it was -/
theorem FileI.other {now g : Int → UInt64} {x y : Int} (hx : 0 ≤ x ∧ x < 24) (hy : 0 ≤ y ∧ y < 24) (hne : x ≠ y) {c : Crd} {m : List Int} {s : List UInt8} (F : FileI now y c m s) (R : Fr x now g) : FileI g y c m s := by
  have hxy : w64 (y + 1) ≠ w64 (x + 1) := fun e => hne (w64_inj hx hy e.symm)
  have hy0 := w64_ne hy
  have key : ∀ k, 0 ≤ k → k < 96 → now (200 + k) = w64 (y + 1) → g (200 + k) = w64 (y + 1) ∧ rdL g (1288 + k * 16) 16 = rdL now (1288 + k * 16) 16 := by
    intro k h0 h1 h
    obtain ⟨p, q⟩ := R.oth k h0 h1 (by rw [h]; exact hxy)
    refine ⟨?_, q (by rw [h]; exact hy0)⟩
    rcases p with p | ⟨p, _⟩
    · rw [p, h]
    · exact absurd (h ▸ p) hy0
  have back : ∀ k, 0 ≤ k → k < 96 → g (200 + k) = w64 (y + 1) → now (200 + k) = w64 (y + 1) := by
    intro k h0 h1 h
    by_cases hm : now (200 + k) = w64 (x + 1)
    · rcases R.mine k h0 h1 hm with p | p
      · exact absurd (h.symm.trans p) hxy
      · exact absurd (h.symm.trans p) hy0
    · rcases (R.oth k h0 h1 hm).1 with p | ⟨_, p⟩
      · rw [← p, h]
      · exact absurd (h.symm.trans p) hxy
  have hown : ∀ k, k ∈ usedL c.more m → 0 ≤ k ∧ k < 96 ∧ now (200 + k) = w64 (y + 1) := by
    intro k hk
    obtain ⟨h1, h2⟩ := usedL_mem.1 hk
    have hb := F.wk.rng k (by rcases h1 with rfl | h1; exact List.mem_cons_self; exact List.mem_cons_of_mem _ h1)
    unfold blkOk at hb
    exact ⟨by omega, by omega, (F.wk.own k (by omega) (by omega)).1 hk⟩
  refine ⟨?_, ⟨F.wk.len, F.wk.rng, F.wk.nod, fun k h0 h1 => ?_⟩, F.kind, F.size, F.fits, fun p hp => ?_, F.hol, F.mor⟩
  · have h := F.map
    unfold mapOf at h ⊢
    by_cases hm : c.more = -1
    · rw [if_pos hm] at h ⊢; exact h
    · obtain ⟨k0, k1, ko⟩ := hown c.more (usedL_mem.2 ⟨.inl rfl, hm⟩)
      have e : moreL g c.more = moreL now c.more := (key _ k0 k1 ko).2
      rw [e]; exact h
  · rw [F.wk.own k h0 h1]
    exact ⟨fun h => (key k h0 h1 h).1, back k h0 h1⟩
  · rw [F.wk.fb_keep (fun k hk h0 h1 => ?_) p hp, F.by_ p hp]
    exact (key k h0 h1 (hown k (usedL_mem.2 ⟨.inr hk, by omega⟩)).2.2).2

theorem count_filter_range (p : Nat → Bool) (l : List Int) (hn : l.Nodup) (h : ∀ k : Nat, k < 96 → (p k = true ↔ (k : Int) ∈ l)) (hl : ∀ x ∈ l, 0 ≤ x ∧ x < 96) : ((List.range 96).filter p).length = l.length := by
  have hp : (((List.range 96).filter p).map fun (k : Nat) => (k : Int)).Perm l := by
    rw [List.perm_ext_iff_of_nodup ?_ hn]
    · intro x
      simp only [List.mem_map, List.mem_filter, List.mem_range]
      constructor
      · rintro ⟨k, ⟨h1, h2⟩, rfl⟩; exact (h k h1).1 h2
      · intro hx
        have := hl x hx
        refine ⟨x.toNat, ⟨by omega, (h _ (by omega)).2 (by rwa [show ((x.toNat : Nat) : Int) = x by omega])⟩, by omega⟩
    · have : (((List.range 96).filter p).map fun (k : Nat) => (k : Int)).Pairwise (fun a b => a < b) := by
        rw [List.pairwise_map]
        exact (List.pairwise_lt_range.filter _).imp fun h => by simpa using h
      exact this.imp fun h e => by omega
  rw [← hp.length_eq, List.length_map]

theorem filter_three {α : Type} (p q r : α → Bool) : ∀ l : List α, (∀ x ∈ l, (p x = true ∧ q x = false ∧ r x = false) ∨ (p x = false ∧ q x = true ∧ r x = false) ∨ (p x = false ∧ q x = false ∧ r x = true)) → (l.filter p).length + (l.filter q).length + (l.filter r).length = l.length
  | [], _ => rfl
  | x :: l, h => by
    have ih := filter_three p q r l fun y hy => h y (List.mem_cons_of_mem _ hy)
    rcases h x List.mem_cons_self with ⟨a, b, c⟩ | ⟨a, b, c⟩ | ⟨a, b, c⟩ <;> simp only [List.filter_cons, a, b, c, List.length_cons, if_true] <;> simp <;> omega

/-- what is free beside two files -/
theorem free_two {now : Int → UInt64} {x y : Int} (hx : 0 ≤ x ∧ x < 24) (hy : 0 ≤ y ∧ y < 24) (hne : x ≠ y) {c d : Crd} {m n : List Int} {s t : List UInt8} (F : FileI now x c m s) (G : FileI now y d n t)
    (h : ∀ k, 0 ≤ k → k < 96 → now (200 + k) = 0 ∨ now (200 + k) = w64 (x + 1) ∨ now (200 + k) = w64 (y + 1)) :
    freeN now ⟨now, [], [], [], []⟩ 96 + (usedL c.more m).length + (usedL d.more n).length = 96 := by
  have hxy : w64 (y + 1) ≠ w64 (x + 1) := fun e => hne (w64_inj hx hy e.symm)
  have hx0 := w64_ne hx
  have hy0 := w64_ne hy
  have rng : ∀ {z : Int} {c : Crd} {m : List Int} {s : List UInt8}, FileI now z c m s → ∀ k ∈ usedL c.more m, 0 ≤ k ∧ k < 96 := by
    intro z c m s F k hk
    obtain ⟨h1, h2⟩ := usedL_mem.1 hk
    have hb := F.wk.rng k (by rcases h1 with rfl | h1; exact List.mem_cons_self; exact List.mem_cons_of_mem _ h1)
    unfold blkOk at hb
    omega
  rw [← count_filter_range (fun k => decide (now (200 + (k : Int)) = w64 (x + 1))) (usedL c.more m) F.wk.nod (fun k hk => by rw [decide_eq_true_iff, F.wk.own (k : Int) (by omega) (by omega)]) (rng F),
    ← count_filter_range (fun k => decide (now (200 + (k : Int)) = w64 (y + 1))) (usedL d.more n) G.wk.nod (fun k hk => by rw [decide_eq_true_iff, G.wk.own (k : Int) (by omega) (by omega)]) (rng G)]
  unfold freeN
  have := filter_three (fun (i : Nat) => freshB now ⟨now, [], [], [], []⟩ (i : Int)) (fun k => decide (now (200 + (k : Int)) = w64 (x + 1))) (fun k => decide (now (200 + (k : Int)) = w64 (y + 1))) (List.range 96) (fun k hk => by
    have hk' : k < 96 := by simpa using hk
    have hf : freshB now ⟨now, [], [], [], []⟩ (k : Int) = decide (now (200 + (k : Int)) = 0) := by
      unfold freshB
      rw [decide_eq_true (by omega : 0 ≤ (k : Int)), decide_eq_true (by omega : (k : Int) < 96)]
      simp
    rw [hf]
    rcases h (k : Int) (by omega) (by omega) with e | e | e
    · left; rw [e]; exact ⟨rfl, decide_eq_false fun z => hx0 z.symm, decide_eq_false fun z => hy0 z.symm⟩
    · right; left; rw [e]; exact ⟨decide_eq_false hx0, decide_eq_true rfl, decide_eq_false fun z => hxy z.symm⟩
    · right; right; rw [e]; exact ⟨decide_eq_false hy0, decide_eq_false hxy, decide_eq_true rfl⟩)
  simpa using this
end Go.Proofs.YteambknhlbiajaaGreat
/-
  Layer 10's law: the document's answers for bytes; a step.
-/
set_option linter.all false
set_option maxRecDepth 100000
set_option maxHeartbeats 1000000
namespace Go.Proofs.YteambknhlbiajaaGreat
open Go Go.Eng

theorem ba_eq (x y : List UInt8) : ((ByteArray.mk x.toArray).toList == (ByteArray.mk y.toArray).toList) = decide (x = y) := by
  rw [toList_beq]
  refine decide_eq_decide.2 ⟨fun e => ?_, fun e => by rw [e]⟩
  have := congrArg (fun b : ByteArray => b.data.toList) e
  simpa using this

theorem zerosS_spec (n : Nat) (hn : n ≤ 1000000) (h : Heap) : CallH Tryz.prog 42 [.int .i64 (n : Int)] h (fun v h' => Keeps [] h h' ∧ v = .string ⟨(zeros n).toArray⟩) := by
  refine call_of hmix Tryz.func42 rfl ok42 (by simp [Tryz.f42]) ?_
  conv => whnf
  refine SemR.make (n := n) rfl rfl rfl rfl rfl (by show 1 * n ≤ _; omega) (by omega) fun b1 h1 e1 s1 o1 k1 => ?_
  conv => whnf
  refine SemR.textOf (l := zeros n) rfl rfl rfl (by simp [zeros]) (fun j hj => ?_) ?_
  · have hj' : j < n := by simpa [zeros] using hj
    simp only [Heap.cell?, o1, Nat.zero_add]
    simp [zeros, hj']
  conv => whnf
  exact ⟨k1, rfl⟩

theorem refRead10_spec (s : List UInt8) (hs : s.length ≤ 2688) (at_ n : Int) (h : Heap) : CallH Tryz.prog 22 [.string ⟨s.toArray⟩, .int .i64 at_, .int .i64 n] h (fun v h' => Keeps [] h h' ∧ v = .tuple #[.string ⟨(refReadL s at_ n).1.toArray⟩, .int .i64 (refReadL s at_ n).2]) := by
  have hb := ba_size s
  refine call_of hmix Tryz.func22 rfl ok22 (by simp [Tryz.f22]) ?_
  conv => whnf
  refine IfR.i (fun hc => ?_) (fun hc => ?_)
  · have h1 : at_ < 0 ∨ n < 0 ∨ 4096 < n := by simp [bif_or] at hc; omega
    conv => whnf
    unfold refReadL
    rw [if_pos h1]
    exact ⟨Keeps.refl _ _, rfl⟩
  · have h1 : ¬ (at_ < 0 ∨ n < 0 ∨ 4096 < n) := by simp [bif_or] at hc; omega
    conv => whnf
    refine IfR.i (fun hd => ?_) (fun hd => ?_)
    · have h2 : (s.length : Int) ≤ at_ := by
        have : at_ ≥ ((ByteArray.mk s.toArray).size : Int) := by simpa using hd
        rw [hb] at this; exact this
      conv => whnf
      unfold refReadL
      rw [if_neg h1, if_pos h2]
      exact ⟨Keeps.refl _ _, rfl⟩
    · have h2 : ¬ (s.length : Int) ≤ at_ := by
        have : ¬ at_ ≥ ((ByteArray.mk s.toArray).size : Int) := by simpa using hd
        rw [hb] at this; exact this
      conv => whnf
      refine SliceR.i at_.toNat (min (s.length : Int) (at_ + n)).toNat (by omega) (by rw [hb, wrapI (by omega) (by omega)]; split <;> omega) (by omega) (by rw [hb]; omega) ?_
      conv => whnf
      refine ⟨Keeps.refl _ _, ?_⟩
      unfold refReadL
      rw [if_neg h1, if_neg h2, ba_extract]

theorem refCut10_spec (s : List UInt8) (hs : s.length ≤ 2688) (size : Int) (h : Heap) : CallH Tryz.prog 21 [.string ⟨s.toArray⟩, .int .i64 size] h (fun v h' => Keeps [] h h' ∧ v = .tuple #[.string ⟨(refCutL s size).1.toArray⟩, .int .i64 (refCutL s size).2]) := by
  have hb := ba_size s
  refine call_of hmix Tryz.func21 rfl ok21 (by simp [Tryz.f21]) ?_
  conv => whnf
  refine IfR.i (fun hc => ?_) (fun hc => ?_)
  · have h1 : size < 0 := by simpa using hc
    conv => whnf
    unfold refCutL
    rw [if_pos h1]
    exact ⟨Keeps.refl _ _, rfl⟩
  · have h1 : ¬ size < 0 := by simpa using hc
    conv => whnf
    refine IfR.i (fun hd => ?_) (fun hd => ?_)
    · have h2 : 2688 < size := by simp at hd; omega
      conv => whnf
      unfold refCutL
      rw [if_neg h1, if_pos h2]
      exact ⟨Keeps.refl _ _, rfl⟩
    · have h2 : ¬ 2688 < size := by simp at hd; omega
      conv => whnf
      refine IfR.i (fun he => ?_) (fun he => ?_)
      · have h3 : size ≤ (s.length : Int) := by
          have : size ≤ ((ByteArray.mk s.toArray).size : Int) := by simpa using he
          rw [hb] at this; exact this
        conv => whnf
        refine SliceR.i 0 size.toNat rfl (by omega) (Nat.zero_le _) (by rw [hb]; omega) ?_
        conv => whnf
        refine ⟨Keeps.refl _ _, ?_⟩
        unfold refCutL
        rw [if_neg h1, if_neg h2, if_pos h3, ba_extract]
        rfl
      · have h3 : ¬ size ≤ (s.length : Int) := by
          have : ¬ size ≤ ((ByteArray.mk s.toArray).size : Int) := by simpa using he
          rw [hb] at this; exact this
        have hw : IntKind.i64.wrap (size - ((ByteArray.mk s.toArray).size : Int)) = ((size.toNat - s.length : Nat) : Int) := by
          rw [hb, wrapN (n := size.toNat - s.length) (by omega) (by omega)]
        conv => whnf
        rw [hw]
        refine CallR.i (zerosS_spec (size.toNat - s.length) (by omega) h) fun v h1 k1 hv => ?_
        subst hv
        conv => whnf
        refine Need.i (by rw [ba_size, ba_size]; simp [zeros]; omega) ?_
        conv => whnf
        refine ⟨k1, ?_⟩
        unfold refCutL
        rw [if_neg (by omega), if_neg h2, if_neg h3, ba_app]

theorem refWrite10_spec (s : List UInt8) (hs : s.length ≤ 2688) (at_ : Int) (data : List UInt8) (hdl : data.length ≤ 140737488351232) (h : Heap) : CallH Tryz.prog 18 [.string ⟨s.toArray⟩, .int .i64 at_, .string ⟨data.toArray⟩] h (fun v h' => Keeps [] h h' ∧ v = .tuple #[.string ⟨(refWriteL s at_ data).1.toArray⟩, .int .i64 (refWriteL s at_ data).2]) := by
  have hb := ba_size s
  have hbd := ba_size data
  refine call_of hmix Tryz.func18 rfl ok18 (by simp [Tryz.f18]) ?_
  conv => whnf
  refine IfR.i (fun hc => ?_) (fun hc => ?_)
  · have h1 : at_ < 0 ∨ 400 < data.length := by
      simp [bif_or] at hc
      rcases hc with h | h
      · exact .inl h
      · right
        have : (400 : Int) < ((ByteArray.mk data.toArray).size : Int) := h
        rw [hbd] at this; omega
    conv => whnf
    unfold refWriteL
    rw [if_pos h1]
    exact ⟨Keeps.refl _ _, rfl⟩
  · have h1' : ¬ (at_ < 0 ∨ 400 < data.length) := by
      simp [bif_or] at hc
      rintro (h | h)
      · omega
      · have h' := hc.2
        have : ((ByteArray.mk data.toArray).size : Int) ≤ 400 := h'
        rw [hbd] at this; omega
    conv => whnf
    refine IfR.i (fun hd => ?_) (fun hd => ?_)
    · have h2 : data = [] := by
        have := ba_eq data []
        rw [show ((ByteArray.mk data.toArray).toList == (ByteArray.mk ([] : List UInt8).toArray).toList) = true from hd] at this
        simpa using this.symm
      conv => whnf
      unfold refWriteL
      rw [if_neg h1', if_pos h2]
      exact ⟨Keeps.refl _ _, rfl⟩
    · have h2 : ¬ data = [] := by
        have := ba_eq data []
        rw [show ((ByteArray.mk data.toArray).toList == (ByteArray.mk ([] : List UInt8).toArray).toList) = false from hd] at this
        simpa using this.symm
      have hw : IntKind.i64.wrap (2688 - ((ByteArray.mk data.toArray).size : Int)) = 2688 - (data.length : Int) := by
        rw [hbd, wrapI (by omega) (by omega)]
      conv => whnf
      refine IfR.i (fun he => ?_) (fun he => ?_)
      · have h3 : 2688 - (data.length : Int) < at_ := by rw [hw] at he; simpa using he
        conv => whnf
        unfold refWriteL
        rw [if_neg h1', if_neg h2, if_pos h3]
        exact ⟨Keeps.refl _ _, rfl⟩
      · have h3 : ¬ 2688 - (data.length : Int) < at_ := by rw [hw] at he; simpa using he
        obtain ⟨a, rfl⟩ : ∃ a : Nat, at_ = (a : Int) := ⟨at_.toNat, by omega⟩
        have hadd : IntKind.i64.wrap ((a : Int) + ((ByteArray.mk data.toArray).size : Int)) = ((a + data.length : Nat) : Int) := by
          rw [hbd, wrapN (n := a + data.length) (by simp) (by omega)]
        conv => whnf
        refine MeetR.pass ?_
        conv => whnf
        refine IfR.i (fun hf => ?c1) (fun hf => ?c2)
        case' c1 =>
          have h4 : s.length < a + data.length := by
            rw [hadd, hb] at hf
            have : (s.length : Int) < ((a + data.length : Nat) : Int) := by simpa using hf
            omega
          have hw2 : IntKind.i64.wrap (IntKind.i64.wrap ((a : Int) + ((ByteArray.mk data.toArray).size : Int)) - ((ByteArray.mk s.toArray).size : Int)) = ((a + data.length - s.length : Nat) : Int) := by
            rw [hadd, hb, wrapN (n := a + data.length - s.length) (by omega) (by omega)]
          conv => whnf
          rw [hw2]
          refine CallR.i (zerosS_spec (a + data.length - s.length) (by omega) h) fun v h1 k1 hv => ?_
          subst hv
          conv => whnf
          refine Need.i (by rw [ba_size, ba_size]; simp [zeros]; omega) ?_
          have hs1 : (ByteArray.mk s.toArray ++ ⟨(zeros (a + data.length - s.length)).toArray⟩) = ⟨(s ++ zeros (a + data.length - s.length)).toArray⟩ := ba_app _ _
          rw [hs1]
        case' c2 =>
          have h4 : ¬ s.length < a + data.length := by
            rw [hadd, hb] at hf
            have : ¬ (s.length : Int) < ((a + data.length : Nat) : Int) := by simpa using hf
            omega
          obtain ⟨h1, rfl⟩ : ∃ x, x = h := ⟨_, rfl⟩
          have k1 : Keeps [] h1 h1 := Keeps.refl _ _
          have hs1 : s = s ++ zeros (a + data.length - s.length) := by
            rw [show a + data.length - s.length = 0 by omega]; simp [zeros]
          rw [show (ByteArray.mk s.toArray) = ⟨(s ++ zeros (a + data.length - s.length)).toArray⟩ from congrArg (fun l : List UInt8 => ByteArray.mk l.toArray) hs1]
        all_goals
          obtain ⟨w, hwe⟩ : ∃ w, w = s ++ zeros (a + data.length - s.length) := ⟨_, rfl⟩
          rw [← hwe]
          have hwl : a + data.length ≤ w.length ∧ w.length ≤ 2688 := by
            rw [hwe, List.length_append]; simp only [zeros, List.length_replicate]; omega
          have hbw := ba_size w
          conv => whnf
          refine SliceR.i 0 a rfl rfl (Nat.zero_le _) (by rw [hbw]; omega) ?_
          rw [ba_extract]
          conv => whnf
          refine Need.i (by rw [ba_size, ba_size, List.length_drop, List.length_take]; omega) ?_
          rw [ba_app]
          conv => whnf
          refine SliceR.i (a + data.length) w.length hadd (by rw [hbw]) hwl.1 (by rw [hbw]; omega) ?_
          rw [ba_extract]
          conv => whnf
          refine Need.i (by rw [ba_size, ba_size, List.length_append, List.length_drop, List.length_take, List.length_drop, List.length_take]; omega) ?_
          conv => whnf
          refine ⟨k1, ?_⟩
          rw [ba_app]
          unfold refWriteL
          rw [if_neg h1', if_neg h2, if_neg h3, Int.toNat_natCast, ← hwe, List.take_of_length_le (Nat.le_refl w.length), List.drop_zero]
end Go.Proofs.YteambknhlbiajaaGreat
/-
  Layer 10's law: a step.
-/
set_option linter.all false
set_option maxRecDepth 100000
set_option maxHeartbeats 1000000
namespace Go.Proofs.YteambknhlbiajaaGreat
open Go Go.Eng

def kindP (k : Int) : Int := (k % 18446744073709551616) % 3

theorem kind10_spec (k a n : Int) (s : ByteArray) (h : Heap) : CallH Tryz.prog 17 [.agg ⟨[.int .i64 k, .int .i64 a, .int .i64 n, .string s]⟩] h (fun v h' => Keeps [] h h' ∧ v = .int .i64 (kindP k)) := by
  refine call_of hmix Tryz.func17 rfl ok17 (by simp [Tryz.f17]) ?_
  conv => whnf
  refine AllocR.i fun b1 h1 e1 s1 o1 k1 => ?_
  conv => whnf
  refine Need.i (by decide) ?_
  conv => whnf
  refine ⟨k1, ?_⟩
  unfold kindP
  rw [wrap_u64', Int.tmod_eq_emod_of_nonneg (by omega), wrapI (by omega) (by omega)]

/-- what a step leaves -/
structure Left (h h' : Heap) (f : Nat) (V : VL) (M : MemS) (node : Int) (m : List Int) (s : List UInt8) (cut : Option Int) (V' : VL) (M' : MemS) (c' : Crd) (m' : List Int) (s' : List UInt8) : Prop where
  idle : Idle h' V' M'
  file : FileO h' f V' node c' s'
  good : FileI M'.read node c' m' s'
  out : f ∉ V'.blocks
  v : V'.v = V.v
  mem : V'.mem = V.mem
  new : ∀ b ∈ V'.blocks, b ∈ V.blocks ∨ h.size ≤ b
  fr : Fr node M.read M'.read
  cut_ : ∀ a, cut = some a → s' = (refCutL s a).1 ∧ ∀ j : Nat, j < 21 → m[j]?.getD (-1) = -1 → m'[j]?.getD (-1) = -1

theorem left_same {h h' : Heap} {f : Nat} {V : VL} {M : MemS} {node : Int} {c : Crd} {m : List Int} {s : List UInt8} (I : Idle h V M) (hf : FileO h f V node c s) (F : FileI M.read node c m s) (ho : f ∉ V.blocks) (k : Keeps [] h h') : Left h h' f V M node m s none V M c m s :=
  ⟨I.on k, k.obj hf (by simp), F, ho, rfl, rfl, fun b hb => .inl hb, Fr.refl _ _, fun a h => by cases h⟩

/-- behind 'end' -/
theorem left_end {h h1 h' : Heap} {f : Nat} {V : VL} {M : MemS} {node : Int} {c0 c1 : Crd} {m : List Int} {s0 s1 : List UInt8} {e g : Int} {X1 : VS} {cut : Option Int} (I : Idle h V M) (F : FileI M.read node c0 m s0) (ho : f ∉ V.blocks) (hfl : f < h.size) (hz : h.size ≤ h1.size)
    (hX : X1.away = [] ∧ X1.awayN = [])
    (hok : e = 0 ∧ g = 0 → ∃ m', FileI X1.now node c1 m' s1 ∧ Fr node M.read X1.now ∧ ∀ a, cut = some a → s1 = (refCutL s0 a).1 ∧ ∀ j : Nat, j < 21 → m[j]?.getD (-1) = -1 → m'[j]?.getD (-1) = -1)
    (hcut : cut ≠ none → e = 0 ∧ g = 0)
    (P : ∃ ob sb mb M', h1.size ≤ ob ∧ h1.size ≤ sb ∧ h1.size ≤ mb ∧ M'.until_ = -1 ∧ M'.sure.length = 2824 ∧ M'.read = (if e = 0 ∧ g = 0 then X1.now else M.read) ∧ At h' { V with ob := ob, sb := sb, mb := mb } M' { X1 with now := M'.read, seen := [], mine := [] } ∧
        h'[f]? = some (.cells ⟨fileC V node (if e = 0 ∧ g = 0 then c1 else c0) (if e = 0 ∧ g = 0 then ⟨s1.toArray⟩ else ⟨s0.toArray⟩)⟩ 40 (0, 0))) :
    ∃ V' M' c' m' s', Left h h' f V M node m s0 cut V' M' c' m' s' := by
  obtain ⟨ob, sb, mb, M', g1, g2, g3, g4, g5, g6, A7, f7⟩ := P
  rw [hX.1, hX.2] at A7
  have hb : ∀ b ∈ ({ V with ob := ob, sb := sb, mb := mb } : VL).blocks, b ∈ V.blocks ∨ h.size ≤ b := by
    intro b hb
    simp only [VL.blocks, List.mem_cons] at hb ⊢
    rcases hb with rfl | rfl | rfl | rfl | hb
    · exact .inl (.inl rfl)
    · right; omega
    · right; omega
    · right; omega
    · exact .inl (.inr (.inr (.inr (.inr hb))))
  have hout : f ∉ ({ V with ob := ob, sb := sb, mb := mb } : VL).blocks := fun hx => by
    rcases hb f hx with h | h
    · exact ho h
    · omega
  have I7 : Idle h' { V with ob := ob, sb := sb, mb := mb } M' := ⟨A7, I.ab, I.anb, g4, g5⟩
  by_cases hc : e = 0 ∧ g = 0
  · obtain ⟨m', G, R, C⟩ := hok hc
    rw [if_pos hc] at g6
    rw [if_pos hc, if_pos hc] at f7
    exact ⟨_, M', c1, m', s1, I7, f7, by rw [g6]; exact G, hout, rfl, rfl, hb, by rw [g6]; exact R, C⟩
  · rw [if_neg hc] at g6
    rw [if_neg hc, if_neg hc] at f7
    exact ⟨_, M', c0, m, s0, I7, f7, by rw [g6]; exact F, hout, rfl, rfl, hb, by rw [g6]; exact Fr.refl _ _, fun a h => absurd (hcut (by rw [h]; simp)) hc⟩

def SameAw (X Y : VS) : Prop := Y.away = X.away ∧ Y.awayN = X.awayN
theorem takeP_aw (B : Int → UInt64) (X : VS) (node : Int) : SameAw X (takeP B X node).2.2 := by
  unfold takeP
  split
  · split <;> exact ⟨rfl, rfl⟩
  · exact ⟨rfl, rfl⟩
theorem dropP_aw (X : VS) (k : Int) : SameAw X (dropP X k).2 := by
  unfold dropP
  split
  · split <;> exact ⟨rfl, rfl⟩
  · exact ⟨rfl, rfl⟩
theorem keepP_aw (B : Int → UInt64) (X : VS) (node : Int) (c : Crd) (m : List Int) : SameAw X (keepP B X node c m).2.2 := by
  have ht := takeP_aw B X node
  have hd := dropP_aw X c.more
  unfold keepP
  split
  · split
    · split
      · exact ⟨rfl, rfl⟩
      · split
        · exact hd
        · exact hd
    · by_cases hm : c.more = -1
      · simp only [if_pos hm]
        split
        · simp only
          split <;> exact ht
        · exact ht
      · simp only [if_neg hm, if_true]
        split <;> exact ⟨rfl, rfl⟩
  · exact ⟨rfl, rfl⟩
theorem wStep_aw (B : Int → UInt64) (node : Int) (a : Nat) (data : List UInt8) (i : Nat) (X : VS) (m : List Int) : SameAw X (wStep B node a data i X m).2.1 := by
  have ht := takeP_aw B X node
  unfold wStep
  by_cases hm : m[i]?.getD 0 = -1
  · simp only [if_pos hm]
    split <;> exact ht
  · simp only [if_neg hm, if_true]
    exact ⟨rfl, rfl⟩
theorem writeL_aw (B : Int → UInt64) (node : Int) (a : Nat) (data : List UInt8) : ∀ (f i : Nat) (X : VS) (m : List Int), SameAw X (writeL B node a data f i X m).2.1
  | 0, i, X, m => ⟨rfl, rfl⟩
  | f + 1, i, X, m => by
    have h1 := wStep_aw B node a data i X m
    unfold writeL
    split
    · have h2 := writeL_aw B node a data f (i + 1) (wStep B node a data i X m).2.1 (wStep B node a data i X m).2.2
      exact ⟨h2.1.trans h1.1, h2.2.trans h1.2⟩
    · exact h1
theorem writeP_aw (B : Int → UInt64) (X : VS) (node : Int) (c : Crd) (at_ : Int) (data : List UInt8) : SameAw X (writeP B X node c at_ data).2.2 := by
  unfold writeP
  split
  · exact ⟨rfl, rfl⟩
  · split
    · split <;> exact ⟨rfl, rfl⟩
    · split
      · exact ⟨rfl, rfl⟩
      · split
        · exact ⟨rfl, rfl⟩
        · rename_i m _
          have h1 := writeL_aw B node at_.toNat data ((at_.toNat + data.length + 127) / 128 - at_.toNat / 128) (at_.toNat / 128) X m
          simp only
          split
          · have h2 := keepP_aw B (writeL B node at_.toNat data ((at_.toNat + data.length + 127) / 128 - at_.toNat / 128) (at_.toNat / 128) X m).2.1 node { c with size := max c.size (at_ + data.length) } (writeL B node at_.toNat data ((at_.toNat + data.length + 127) / 128 - at_.toNat / 128) (at_.toNat / 128) X m).2.2
            exact ⟨h2.1.trans h1.1, h2.2.trans h1.2⟩
          · exact h1
theorem cutStep_aw (z : Nat) (size : Int) (i : Nat) (X : VS) (m : List Int) : SameAw X (cutStep z size i X m).2.1 := by
  unfold cutStep
  split
  · exact ⟨rfl, rfl⟩
  · split
    · exact dropP_aw X _
    · exact ⟨rfl, rfl⟩
theorem cutL_aw (z : Nat) (size : Int) : ∀ (f i : Nat) (X : VS) (m : List Int), SameAw X (cutL z size f i X m).2.1
  | 0, i, X, m => ⟨rfl, rfl⟩
  | f + 1, i, X, m => by
    have h1 := cutStep_aw z size i X m
    unfold cutL
    split
    · have h2 := cutL_aw z size f (i + 1) (cutStep z size i X m).2.1 (cutStep z size i X m).2.2
      exact ⟨h2.1.trans h1.1, h2.2.trans h1.2⟩
    · exact h1
theorem cutP_aw (B : Int → UInt64) (X : VS) (node : Int) (c : Crd) (size : Int) : SameAw X (cutP B X node c size).2.2 := by
  unfold cutP
  split
  · exact ⟨rfl, rfl⟩
  · split
    · exact ⟨rfl, rfl⟩
    · split
      · exact ⟨rfl, rfl⟩
      · rename_i m _
        have h1 := cutL_aw size.toNat c.size 21 0 X m
        simp only
        split
        · have h2 := keepP_aw B (cutL size.toNat c.size 21 0 X m).2.1 node { c with size := size } (cutL size.toNat c.size 21 0 X m).2.2
          exact ⟨h2.1.trans h1.1, h2.2.trans h1.2⟩
        · exact h1

theorem step_spec {h : Heap} {V : VL} {M : MemS} (I : Idle h V M) {f : Nat} {node : Int} (hn : 0 ≤ node ∧ node < 24) {c : Crd} {m : List Int} {s : List UInt8} (hf : FileO h f V node c s) (F : FileI M.read node c m s) (ho : f ∉ V.blocks) (k a n : Int) (data : List UInt8) (hdl : data.length ≤ 140737488351232) :
    CallH Tryz.prog 7 [.pointer (some ⟨f, 0, none⟩), .agg ⟨[.int .i64 k, .int .i64 a, .int .i64 n, .string ⟨data.toArray⟩]⟩] h (fun v h' => Keeps [f, V.v, V.mem.m, V.mem.lb, V.ob] h h' ∧ v = .bool true ∧
      ∃ V' M' c' m' s', Left h h' f V M node m s (if kindP k = 1 ∧ 0 ≤ a ∧ a ≤ 2688 then some a else none) V' M' c' m' s') := by
  have hfl : f < h.size := obj_lt hf
  have hfo := hf
  unfold FileO at hf
  rw [own_cells] at hf
  refine call_of hmix Tryz.func7 rfl ok7 (by simp [Tryz.f7]) ?_
  conv => whnf
  refine AllocR.i fun b1 h1 e1 s1 o1 k1 => ?_
  conv => whnf
  refine CallR.i (kind10_spec k a n _ h1) fun v h2 k2 hv => ?_
  subst hv
  have k02 := k1.trans k2
  have I2 := I.on k02
  have f2 := k02.obj hf (by simp)
  have fo2 : FileO h2 f V node c s := k02.obj hfo (by simp)
  have z1 := k2.size
  conv => whnf
  refine IfR.i (fun hk0 => ?_) (fun hk0 => ?_)
  · have hk : ¬ (kindP k = 1 ∧ 0 ≤ a ∧ a ≤ 2688) := by
      have : kindP k = 0 := by simpa using hk0
      omega
    rw [if_neg hk]
    conv => whnf
    refine LoadR.o f2 rfl ?_
    conv => whnf
    refine LoadR.o f2 rfl ?_
    conv => whnf
    refine LoadN.o f2 rfl ?_
    have HP := writeP_plain (B := M.read) (X := ⟨M.read, [], [], [], []⟩) hn F a data
    have hxa : (writeP M.read ⟨M.read, [], [], [], []⟩ node c a data).2.2.away = [] ∧ (writeP M.read ⟨M.read, [], [], [], []⟩ node c a data).2.2.awayN = [] := writeP_aw M.read ⟨M.read, [], [], [], []⟩ node c a data
    have WS : ∀ hx, At hx V M ⟨M.read, [], [], [], []⟩ → CallH Tryz.prog 15 [.pointer (some ⟨V.v, 0, none⟩), .int .i64 node, .agg ⟨c.cells⟩, .int .i64 a, .string ⟨data.toArray⟩] hx (fun v h' => Keeps [V.ob] hx h' ∧
        v = .tuple #[.agg ⟨(writeP M.read ⟨M.read, [], [], [], []⟩ node c a data).1.cells⟩, .int .i64 (writeP M.read ⟨M.read, [], [], [], []⟩ node c a data).2.1] ∧ At h' V M (writeP M.read ⟨M.read, [], [], [], []⟩ node c a data).2.2) := fun hx Ax => write_spec Ax node c F.ok F.okMap a data
    generalize writeP M.read ⟨M.read, [], [], [], []⟩ node c a data = R at WS HP hxa
    obtain ⟨c3, e3, X3⟩ := R
    simp only at WS HP hxa
    have hob : V.ob < h.size := I.at_.blt _ (by simp [VL.blocks])
    have obf : f ≠ V.ob := fun e => ho (e ▸ by simp [VL.blocks])
    conv => whnf
    refine BothR.i ?c1 ?c2
    case' c1 =>
      conv => whnf
      refine CallR.m (WS h2 I2.at_) ?_ fun v h3 k3 hv => ?_
      · intro y hy hx
        have hy2 : y = b1 := by simpa [blocksOf, setB] using hy
        simp at hx; omega
      obtain ⟨rfl, A3⟩ := hv
      conv => whnf
      refine AllocR.i fun b4 h4 e4 s4 o4 k4 => ?_
      have z3 := k3.size
      conv => whnf
      refine BoxR.i fun h5 s5 k5 => ?_
      have k25 : Keeps [V.ob] h2 h5 := (k3.trans_nil k4).m1 k5 (by omega)
      have hb4 : h2.size ≤ b4 := by omega
      have A5 := (A3.on k4).keep k5 (fun b hb => by have := I2.at_.blt b hb; simp; omega)
    case' c2 =>
      conv => whnf
      refine AllocR.i fun b4 h4 e4 s4 o4 k4 => ?_
      conv => whnf
      refine CallR.m (WS h4 (I2.at_.on k4)) ?_ fun v h3 k3 hv => ?_
      · intro y hy hx
        have hy2 : y = b1 ∨ y = b4 := by simpa [blocksOf, setB] using hy
        simp at hx; omega
      obtain ⟨rfl, A3⟩ := hv
      have z3 := k3.size
      conv => whnf
      refine BoxR.i fun h5 s5 k5 => ?_
      have k25 : Keeps [V.ob] h2 h5 := ((k4.mono (by simp)).trans k3).m1 k5 (by omega)
      have hb4 : h2.size ≤ b4 := by omega
      have A5 := A3.keep k5 (fun b hb => by have := I2.at_.blt b hb; simp; omega)
    all_goals
      have f5 := k25.obj f2 (by simpa using obf)
      have fo5 := k25.obj fo2 (by simpa using obf)
      conv => whnf
      refine LoadR.o f5 rfl ?_
      conv => whnf
      refine CallR.i (refWrite10_spec s F.fits a data hdl h5) fun v h6 k6 hv => ?_
      subst hv
      have fo6 := k6.obj fo5 (by simp)
      have FS := fend_spec (A5.on k6) I.ab I.anb I.calm I.size fo6 ho c3 ⟨(refWriteL s a data).1.toArray⟩ e3 (refWriteL s a data).2
      have z2 := k25.size
      have z6 := k6.size
      conv => whnf
      refine CallR.m FS ?_ ?_
      · intro y hy hx
        have hy2 : y = b1 ∨ y = b4 := by simpa [blocksOf, setB] using hy
        have q1 := I.at_.blt V.v (by simp [VL.blocks])
        have q2 := I.at_.blt V.mem.m (by simp [VL.blocks, ML.blocks])
        have q3 := I.at_.blt V.mem.lb (by simp [VL.blocks, ML.blocks])
        simp only [List.mem_cons, List.not_mem_nil, or_false] at hx
        omega
      · intro v h7 k7 hv
        obtain ⟨rfl, P⟩ := hv
        conv => whnf
        refine ⟨?_, ?_, left_end I F ho hfl (by omega) hxa ?_ (by simp) P⟩
        · exact ((k02.mono (by simp)).trans (k25.mono (by simp))).trans ((k6.mono (by simp)).trans (k7.mono (by simp)))
        · congr 1
          rcases HP with ⟨p1, p2, _⟩ | ⟨p1, _⟩
          · rw [p1, p2]; rfl
          · rw [p1]; simp
        · rintro ⟨p1, p2⟩
          rcases HP with ⟨p3, _⟩ | ⟨_, p4⟩
          · rw [p1] at p3; cases p3
          · obtain ⟨m', W⟩ := p4 p2
            exact ⟨m', W.file, W.fr, fun a h => by cases h⟩
  · conv => whnf
    refine IfR.i (fun hk1 => ?_) (fun hk1 => ?_)
    · have hk1 : kindP k = 1 := by simpa using hk1
      have href0 : 0 ≤ a ∧ a ≤ 2688 → (refCutL s a).2 = 0 := by
        intro ⟨x, y⟩
        unfold refCutL
        rw [if_neg (by omega), if_neg (by omega)]
        split <;> rfl
      conv => whnf
      refine LoadR.o f2 rfl ?_
      conv => whnf
      refine LoadR.o f2 rfl ?_
      conv => whnf
      refine LoadN.o f2 rfl ?_
      have HP := cutP_plain (B := M.read) (X := ⟨M.read, [], [], [], []⟩) hn F a
      have hxa : (cutP M.read ⟨M.read, [], [], [], []⟩ node c a).2.2.away = [] ∧ (cutP M.read ⟨M.read, [], [], [], []⟩ node c a).2.2.awayN = [] := cutP_aw M.read ⟨M.read, [], [], [], []⟩ node c a
      have WS : ∀ hx, At hx V M ⟨M.read, [], [], [], []⟩ → CallH Tryz.prog 20 [.pointer (some ⟨V.v, 0, none⟩), .int .i64 node, .agg ⟨c.cells⟩, .int .i64 a] hx (fun v h' => Keeps [V.ob] hx h' ∧
          v = .tuple #[.agg ⟨(cutP M.read ⟨M.read, [], [], [], []⟩ node c a).1.cells⟩, .int .i64 (cutP M.read ⟨M.read, [], [], [], []⟩ node c a).2.1] ∧ At h' V M (cutP M.read ⟨M.read, [], [], [], []⟩ node c a).2.2) := fun hx Ax => cut_spec Ax node c F.ok F.okMap a
      generalize cutP M.read ⟨M.read, [], [], [], []⟩ node c a = R at WS HP hxa
      obtain ⟨c3, e3, X3⟩ := R
      simp only at WS HP hxa
      have hob : V.ob < h.size := I.at_.blt _ (by simp [VL.blocks])
      have obf : f ≠ V.ob := fun e => ho (e ▸ by simp [VL.blocks])
      conv => whnf
      refine BothR.i ?d1 ?d2
      case' d1 =>
        conv => whnf
        refine CallR.m (WS h2 I2.at_) ?_ fun v h3 k3 hv => ?_
        · intro y hy hx
          have hy2 : y = b1 := by simpa [blocksOf, setB] using hy
          simp at hx; omega
        obtain ⟨rfl, A3⟩ := hv
        conv => whnf
        refine AllocR.i fun b4 h4 e4 s4 o4 k4 => ?_
        have z3 := k3.size
        conv => whnf
        refine BoxR.i fun h5 s5 k5 => ?_
        have k25 : Keeps [V.ob] h2 h5 := (k3.trans_nil k4).m1 k5 (by omega)
        have hb4 : h2.size ≤ b4 := by omega
        have A5 := (A3.on k4).keep k5 (fun b hb => by have := I2.at_.blt b hb; simp; omega)
      case' d2 =>
        conv => whnf
        refine AllocR.i fun b4 h4 e4 s4 o4 k4 => ?_
        conv => whnf
        refine CallR.m (WS h4 (I2.at_.on k4)) ?_ fun v h3 k3 hv => ?_
        · intro y hy hx
          have hy2 : y = b1 ∨ y = b4 := by simpa [blocksOf, setB] using hy
          simp at hx; omega
        obtain ⟨rfl, A3⟩ := hv
        have z3 := k3.size
        conv => whnf
        refine BoxR.i fun h5 s5 k5 => ?_
        have k25 : Keeps [V.ob] h2 h5 := ((k4.mono (by simp)).trans k3).m1 k5 (by omega)
        have hb4 : h2.size ≤ b4 := by omega
        have A5 := A3.keep k5 (fun b hb => by have := I2.at_.blt b hb; simp; omega)
      all_goals
        have f5 := k25.obj f2 (by simpa using obf)
        have fo5 := k25.obj fo2 (by simpa using obf)
        conv => whnf
        refine LoadR.o f5 rfl ?_
        conv => whnf
        refine CallR.i (refCut10_spec s F.fits a h5) fun v h6 k6 hv => ?_
        subst hv
        have fo6 := k6.obj fo5 (by simp)
        have FS := fend_spec (A5.on k6) I.ab I.anb I.calm I.size fo6 ho c3 ⟨(refCutL s a).1.toArray⟩ e3 (refCutL s a).2
        have z2 := k25.size
        have z6 := k6.size
        conv => whnf
        refine CallR.m FS ?_ ?_
        · intro y hy hx
          have hy2 : y = b1 ∨ y = b4 := by simpa [blocksOf, setB] using hy
          have q1 := I.at_.blt V.v (by simp [VL.blocks])
          have q2 := I.at_.blt V.mem.m (by simp [VL.blocks, ML.blocks])
          have q3 := I.at_.blt V.mem.lb (by simp [VL.blocks, ML.blocks])
          simp only [List.mem_cons, List.not_mem_nil, or_false] at hx
          omega
        · intro v h7 k7 hv
          obtain ⟨rfl, P⟩ := hv
          conv => whnf
          refine ⟨?_, ?_, left_end I F ho hfl (by omega) hxa ?_ ?_ P⟩
          · exact ((k02.mono (by simp)).trans (k25.mono (by simp))).trans ((k6.mono (by simp)).trans (k7.mono (by simp)))
          · congr 1
            rw [HP.1]; simp
          · rintro ⟨p1, p2⟩
            obtain ⟨m', G, R, _, Hh⟩ := HP.2 p2
            refine ⟨m', G, R, fun a' h => ?_⟩
            split at h
            · cases h
              exact ⟨rfl, fun j hj hm => (Hh j hj).2 (.inl hm)⟩
            · cases h
          · intro hne
            by_cases hk : kindP k = 1 ∧ 0 ≤ a ∧ a ≤ 2688
            · have := href0 hk.2
              exact ⟨HP.1.trans this, this⟩
            · rw [if_neg hk] at hne; exact absurd rfl hne
    · have hk : ¬ (kindP k = 1 ∧ 0 ≤ a ∧ a ≤ 2688) := by
        have : ¬ kindP k = 1 := by simpa using hk1
        omega
      rw [if_neg hk]
      conv => whnf
      refine LoadR.o f2 rfl ?_
      conv => whnf
      refine LoadN.o f2 rfl ?_
      conv => whnf
      refine CallR.i (fread_spec I2 F a n) fun v h3 k3 hv => ?_
      subst hv
      have f3 := k3.obj f2 (by simp)
      conv => whnf
      refine LoadR.o f3 rfl ?_
      conv => whnf
      refine CallR.i (refRead10_spec s F.fits a n h3) fun v h4 k4 hv => ?_
      subst hv
      conv => whnf
      have k04 := k02.trans (k3.trans k4)
      refine ⟨k04.mono (by simp), ?_, _, _, _, _, _, left_same I hfo F ho k04⟩
      rw [ba_eq]
      simp
end Go.Proofs.YteambknhlbiajaaGreat
/-
  Layer 10's law: two files over one memory: neither gets in the other's way (its first part is FileR's).
-/
set_option linter.all false
set_option maxRecDepth 100000
set_option maxHeartbeats 1000000
namespace Go.Proofs.YteambknhlbiajaaGreat
open Go Go.Eng

/-- a step of a script -/
structure Opn where
  k : Int
  a : Int
  n : Int
  d : ByteArray
instance : Rp Opn where
  n := 4
  rep _ vs x := vs = [.int .i64 x.k, .int .i64 x.a, .int .i64 x.n, .string x.d] ∧ inI64 x.k ∧ inI64 x.a ∧ inI64 x.n ∧ okStr x.d
  len h := by rw [h.1]; rfl
  keep _ h := h
instance : Flat Opn := ⟨fun h => h⟩

theorem _root_.Go.Eng.Sl.lt4 {h : Heap} {a : Option Addr} {n c : Nat} {xs : List Opn} (S : Sl h a n c xs) (hn : 0 < n) : ∀ b ∈ blkA a, b < h.size := by
  have hl := S.hlen
  obtain ⟨b, o, hb, cs, ⟨rfl, _⟩, hc⟩ := S.at_ 0 (by omega)
  intro x hx
  rw [hb] at hx
  simp [blkA] at hx
  subst hx
  exact cell_lt (hc 0 (by simp))

theorem early_spec {h : Heap} {a : Option Addr} {n c : Nat} {xs : List Opn} (S : Sl h a n c xs) : CallH Tryz.prog 6 [.slice a n c] h (fun v h' => Keeps [] h h' ∧ ∃ c', v = .slice a (min n 50) c' ∧ Sl h' a (min n 50) c' (xs.take 50)) := by
  have hl := S.hlen
  have hc := S.hcap
  refine call_of hmix Tryz.func6 rfl ok6 (by simp [Tryz.f6]) ?_
  conv => whnf
  refine SliceR.i 0 (min n 50) rfl (by split <;> omega) (Nat.zero_le _) (by omega) ?_
  conv => whnf
  have P := S.part (l := 0) (r := min n 50) (Nat.zero_le _) (by omega)
  rw [List.drop_zero] at P
  have e : xs.take (min n 50) = xs.take 50 := by
    rw [hl, ← List.take_take]
    exact List.take_of_length_le (by rw [List.length_take]; omega)
  rw [e, slA_zero] at P
  refine ⟨Keeps.refl _ _, _, ?_, P⟩
  rw [slA_zero]; rfl

theorem opens_opn {H : Type} {enc : TypeId × Value → H} {W : World} {sp : Nat → Bool} {held : Bool} : Opens enc Tryz.prog W sp held 30 Opn := by
  intro fuel cs x h hw
  obtain ⟨k, a, n, s, e, i0, i1, i2, i3⟩ := opens_op h hw
  exact ⟨⟨k, a, n, s⟩, e, i0, i1, i2, i3⟩
theorem opens_opns {H : Type} {enc : TypeId × Value → H} {W : World} {sp : Nat → Bool} {held : Bool} : Opens enc Tryz.prog W sp held 22 (List Opn) := opens_slice Tryz.underlying22 (by kernel_rfl) (by decide) (of_decide_eq_true (by kernel_rfl)) opens_opn

/-- two files over one memory, between steps -/
structure TwoI (h0 h : Heap) (V : VL) (M : MemS) (f : Nat) (x : Int) (c : Crd) (m : List Int) (s : List UInt8) (g : Nat) (y : Int) (d : Crd) (n : List Int) (t : List UInt8) : Prop where
  k : Keeps [] h0 h
  idle : Idle h V M
  ff : FileO h f V x c s
  gf : FileO h g V y d t
  F : FileI M.read x c m s
  G : FileI M.read y d n t
  fo : f ∉ V.blocks
  go : g ∉ V.blocks
  nf : h0.size ≤ f
  ng : h0.size ≤ g
  new : ∀ b ∈ V.blocks, h0.size ≤ b
  ne : f ≠ g
  nx : 0 ≤ x ∧ x < 24
  ny : 0 ≤ y ∧ y < 24
  xy : x ≠ y
  own : ∀ k, 0 ≤ k → k < 96 → M.read (200 + k) = 0 ∨ M.read (200 + k) = w64 (x + 1) ∨ M.read (200 + k) = w64 (y + 1)

section
variable {h0 h h' : Heap} {V : VL} {M : MemS} {f g : Nat} {x y : Int} {c d : Crd} {m n : List Int} {s t : List UInt8}
theorem TwoI.swap (R : TwoI h0 h V M f x c m s g y d n t) : TwoI h0 h V M g y d n t f x c m s :=
  ⟨R.k, R.idle, R.gf, R.ff, R.G, R.F, R.go, R.fo, R.ng, R.nf, R.new, Ne.symm R.ne, R.ny, R.nx, Ne.symm R.xy, fun k a b => by rcases R.own k a b with e | e | e; exact .inl e; exact .inr (.inr e); exact .inr (.inl e)⟩
theorem TwoI.on (R : TwoI h0 h V M f x c m s g y d n t) (k : Keeps [] h h') : TwoI h0 h' V M f x c m s g y d n t :=
  ⟨R.k.trans k, R.idle.on k, k.obj R.ff (by simp), k.obj R.gf (by simp), R.F, R.G, R.fo, R.go, R.nf, R.ng, R.new, R.ne, R.nx, R.ny, R.xy, R.own⟩
theorem TwoI.gone (R : TwoI h0 h V M f x c m s g y d n t) : ∀ b ∈ [f, V.v, V.mem.m, V.mem.lb, V.ob], h0.size ≤ b := by
  intro z hz
  have q0 := R.nf
  have q1 := R.new V.ob (by simp [VL.blocks])
  have q2 := R.new V.v (by simp [VL.blocks])
  have q3 := R.new V.mem.m (by simp [VL.blocks, ML.blocks])
  have q4 := R.new V.mem.lb (by simp [VL.blocks, ML.blocks])
  simp only [List.mem_cons, List.not_mem_nil, or_false] at hz
  omega
theorem TwoI.step (R : TwoI h0 h V M f x c m s g y d n t) (k : Keeps [f, V.v, V.mem.m, V.mem.lb, V.ob] h h') {cut : Option Int} {V' : VL} {M' : MemS} {c' : Crd} {m' : List Int} {s' : List UInt8} (L : Left h h' f V M x m s cut V' M' c' m' s') : TwoI h0 h' V' M' f x c' m' s' g y d n t := by
  have hgl : g < h.size := obj_lt R.gf
  have hne : g ∉ [f, V.v, V.mem.m, V.mem.lb, V.ob] := by
    intro hz
    have q1 : V.ob ∈ V.blocks := by simp [VL.blocks]
    have q2 : V.v ∈ V.blocks := by simp [VL.blocks]
    have q3 : V.mem.m ∈ V.blocks := by simp [VL.blocks, ML.blocks]
    have q4 : V.mem.lb ∈ V.blocks := by simp [VL.blocks, ML.blocks]
    simp only [List.mem_cons, List.not_mem_nil, or_false] at hz
    have := R.go
    rcases hz with e | e | e | e | e
    · exact R.ne e.symm
    · exact this (e ▸ q2)
    · exact this (e ▸ q3)
    · exact this (e ▸ q4)
    · exact this (e ▸ q1)
  refine ⟨R.k.nil_of k (fun z hz => R.gone z hz), L.idle, L.file, ?_, L.good, R.G.other R.nx R.ny R.xy L.fr, L.out, fun hb => ?_, R.nf, R.ng, fun b hb => ?_, R.ne, R.nx, R.ny, R.xy, fun j j0 j1 => ?_⟩
  · have e := k.obj R.gf hne
    unfold fileC at e
    unfold FileO fileC
    rw [L.v, L.mem]; exact e
  · rcases L.new g hb with hh | hh
    · exact R.go hh
    · omega
  · have hz := R.k.size
    rcases L.new b hb with hh | hh
    · exact R.new b hh
    · omega
  · by_cases hm : M.read (200 + j) = w64 (x + 1)
    · rcases L.fr.mine j j0 j1 hm with e | e
      · exact .inr (.inl e)
      · exact .inl e
    · rcases (L.fr.oth j j0 j1 hm).1 with e | ⟨_, e⟩
      · rw [e]; exact R.own j j0 j1
      · exact .inr (.inl e)
end

theorem TwoI.big {h0 h : Heap} {V : VL} {M : MemS} {f g : Nat} {x y : Int} {c d : Crd} {m n : List Int} {s t : List UInt8} (R : TwoI h0 h V M f x c m s g y d n t) {b : Nat} (hb : b < h0.size) : b ∉ [f, V.v, V.mem.m, V.mem.lb, V.ob] := fun hx => by have := R.gone _ hx; omega
theorem TwoI.out {h0 h : Heap} {V : VL} {M : MemS} {f g : Nat} {x y : Int} {c d : Crd} {m n : List Int} {s t : List UInt8} (R : TwoI h0 h V M f x c m s g y d n t) {b : Nat} (hb : b ∉ V.blocks) (hf : b ≠ f) : b ∉ [f, V.v, V.mem.m, V.mem.lb, V.ob] := by
  intro hz
  have q1 : V.ob ∈ V.blocks := by simp [VL.blocks]
  have q2 : V.v ∈ V.blocks := by simp [VL.blocks]
  have q3 : V.mem.m ∈ V.blocks := by simp [VL.blocks, ML.blocks]
  have q4 : V.mem.lb ∈ V.blocks := by simp [VL.blocks, ML.blocks]
  simp only [List.mem_cons, List.not_mem_nil, or_false] at hz
  rcases hz with e | e | e | e | e
  · exact hf e
  · exact hb (e ▸ q2)
  · exact hb (e ▸ q3)
  · exact hb (e ▸ q4)
  · exact hb (e ▸ q1)

theorem opn_at {h : Heap} {a : Option Addr} {n c : Nat} {xs : List Opn} (S : Sl h a n c xs) (i : Nat) (hi : i < xs.length) : ∃ b o, a = some ⟨b, o, none⟩ ∧ ∃ (k x y : Int) (w : List UInt8), w.length ≤ 140737488351232 ∧ CellsAt h b (o + i * Rp.n Opn) [.int .i64 k, .int .i64 x, .int .i64 y, .string ⟨w.toArray⟩] := by
  obtain ⟨b5, o5, hb5, cs, ⟨rfl, y1, y2, y3, y4⟩, hc5⟩ := S.at_ i hi
  generalize xs[i] = op at hc5 y1 y2 y3 y4
  obtain ⟨ok, oa, on_, od⟩ := op
  obtain ⟨data, rfl⟩ : ∃ l : List UInt8, od = ⟨l.toArray⟩ := ⟨od.data.toList, rfl⟩
  simp only at hc5 y1 y2 y3 y4
  exact ⟨b5, o5, hb5, ok, oa, on_, data, by rw [← ba_size]; exact y4, hc5⟩

theorem apart_law {h : Heap} {a1 a2 : Option Addr} {n1 n2 c1 c2 : Nat} {xs ys : List Opn} (S : Sl h a1 n1 c1 xs) (S' : Sl h a2 n2 c2 ys) : CallH Tryz.prog 3 [.slice a1 n1 c1, .slice a2 n2 c2] h (fun v h' => Keeps [] h h' ∧ v = .bool true) := by
  refine call_of hmix Tryz.func3 rfl ok3 (by simp [Tryz.f3]) ?_
  conv => whnf
  refine CallR.i (lives_spec h) fun v h1 k1 hv => ?_
  subst hv
  conv => whnf
  first | refine IfR.f rfl ?_ | (refine MeetR.pass ?_; (conv => whnf); refine IfR.f rfl ?_)
  conv => whnf
  refine CallR.i (two_spec h1) fun v h2 k2 hv => ?_
  obtain ⟨V, f, g, rfl, I2, f2, g2, q1, q2, q3, q4, q5, q6⟩ := hv
  have z1 := k1.size
  have fr0 : ∀ x, 0 ≤ x → x < 96 → M0.read (200 + x) = 0 := fun x h0 h1 => by rw [read_img0]; exact b0_owner h0 h1
  have T2 : TwoI h h2 V M0 f 2 (freshC 1 1) m0 [] g 3 (freshC 1 1) m0 [] := ⟨k1.trans k2, I2, f2, g2, fresh_file (by decide) (fun x h0 h1 => by rw [fr0 x h0 h1]; decide), fresh_file (by decide) (fun x h0 h1 => by rw [fr0 x h0 h1]; decide), q2, q3, by omega, by omega, fun b hb => by have := q6 b hb; omega, q1, by decide, by decide, by decide, fun j j0 j1 => .inl (fr0 j j0 j1)⟩
  conv => whnf
  refine AllocR.i fun b3 h3 e3 s3 o3 k3 => ?_
  conv => whnf
  refine BoxR.i fun h4 s4 k4 => ?_
  have k24 : Keeps [] h2 h4 := (k3.new1 k4 (by omega))
  have T4 := T2.on k24
  conv => whnf
  refine CallR.i (early_spec (S.keep T4.k)) fun v h5 k5 hv => ?_
  obtain ⟨d1, rfl, S5⟩ := hv
  have T5 := T4.on k5
  conv => whnf
  refine CallR.i (early_spec (S'.keep T5.k)) fun v h6 k6 hv => ?_
  obtain ⟨d2, rfl, S6'⟩ := hv
  have T6 := T5.on k6
  have S6 := S5.keep k6
  have hl1 := S6.hlen
  have hl2 := S6'.hlen
  have hm1 : min n1 50 ≤ 50 := Nat.min_le_right _ _
  have hm2 : min n2 50 ≤ 50 := Nat.min_le_right _ _
  have hb1 : 0 < min n1 50 → ∀ b ∈ blkA a1, b < h.size := fun hp => S.lt4 (by omega)
  have hb2 : 0 < min n2 50 → ∀ b ∈ blkA a2, b < h.size := fun hp => S'.lt4 (by omega)
  generalize min n1 50 = l1 at *
  generalize min n2 50 = l2 at *
  generalize xs.take 50 = xs at *
  generalize ys.take 50 = ys at *
  have hfb : f < h2.size := obj_lt f2
  have hgb : g < h2.size := obj_lt g2
  have hv6 : b3 ∉ V.blocks := fun hb => by have := I2.at_.blt _ hb; omega
  conv => whnf
  refine LoopR.on [0, 1, 5, 6] [5] (fun i : Nat => [(0, .v (.slice a1 l1 d1)), (1, .v (.slice a2 l2 d2)), (5, .lp 5 0), (6, .v (.int .i64 (i : Int)))]) (fun _ => [(5, b3, [.pointer (some ⟨f, 0, none⟩), .pointer (some ⟨g, 0, none⟩)])]) (fun i h' => i ≤ 50 ∧ Sl h' a1 l1 d1 xs ∧ Sl h' a2 l2 d2 ys ∧ ∃ V M c m s d n t, TwoI h h' V M f 2 c m s g 3 d n t ∧ b3 ∉ V.blocks ∧ b3 < h'.size) (fun i => 50 - i) 0 ?_ ?_
  · conv => whnf
    exact ⟨0, rfl, rfl, rfl, Nat.zero_le _, S6, S6', _, _, _, _, _, _, _, _, T6, hv6, by have := k24.size; have := k5.size; have := k6.size; omega⟩
  · rintro i h7 ⟨hi, S7, S7', V7, M7, c7, m7, s7, e7, n7, t7, T7, hv7, hz7⟩
    conv => whnf
    refine IfR.i (fun hd => ?_) (fun hd => ?_)
    · have hi1 : i < 50 := by simp at hd; omega
      rcases Nat.lt_or_ge i l1 with h1 | h1
      case' inl =>
        have hx1 : i < xs.length := by omega
        have hd1 : decide ((i : Int) < (l1 : Int)) = true := by simp; omega
        obtain ⟨b8, o8, hb8, k8, x8, y8, w8, hw8, hc8⟩ := opn_at S7 i hx1
        conv => whnf
        refine IdxR.i 0 rfl (by decide) ?_
        conv => whnf
        refine NthR.i rfl ?_
        conv => whnf
        refine IdxS.i i rfl (by omega) hb8 ?_
        conv => whnf
        refine LoadN.i (vs := [.int .i64 k8, .int .i64 x8, .int .i64 y8, .string ⟨w8.toArray⟩]) rfl hc8 ?_
        conv => whnf
        refine IfR.t hd1 ?_
        conv => whnf
        refine CallR.m (step_spec T7.idle (by decide) T7.ff T7.F T7.fo k8 x8 y8 w8 hw8) (by simpa [blocksOf] using T7.out hv7 (by omega)) fun v h8 k8 hv => ?_
        obtain ⟨rfl, V8, M8, c8, m8, s8, L8⟩ := hv
        have T8 := T7.step k8 L8
        have S8 := S7.keepM k8 fun b hb => T7.big (hb1 (by omega) b hb)
        have S8' : Sl h8 a2 l2 d2 ys := by
          rcases Nat.eq_zero_or_pos l2 with e | e
          · exact ⟨S7'.hlen, S7'.hcap, S7'.hbig, fun i hi => by have := S7'.hlen; omega⟩
          · exact S7'.keepM k8 fun b hb => T7.big (hb2 e b hb)
        have hv8 : b3 ∉ V8.blocks := fun hb => by rcases L8.new b3 hb with h | h; exact hv7 h; omega
        have hz8 : b3 < h8.size := by have := k8.size; omega
      case' inr =>
        have hd1 : decide ((i : Int) < (l1 : Int)) = false := by simp; omega
        obtain ⟨h8, rfl⟩ : ∃ x, x = h7 := ⟨_, rfl⟩
        have T8 := T7
        have S8 := S7
        have S8' := S7'
        have hv8 := hv7
        have hz8 := hz7
        conv => whnf
        refine IdxR.i 0 rfl (by decide) ?_
        conv => whnf
        refine NthR.i rfl ?_
        conv => whnf
        refine IdxS.u 0 0 0 (fun h => by rw [hd1] at h; cases h) ?_
        conv => whnf
        refine LoadN.u [.int .i64 0, .int .i64 0, .int .i64 0, .string ⟨#[]⟩] rfl (fun h => by rw [hd1] at h; cases h) ?_
        conv => whnf
        refine IfR.f hd1 ?_
      all_goals
        rcases Nat.lt_or_ge i l2 with h2 | h2
        case' inl =>
          have hx2 : i < ys.length := by have := S8'.hlen; omega
          have hd2 : decide ((i : Int) < (l2 : Int)) = true := by simp; omega
          obtain ⟨b9, o9, hb9, k9, x9, y9, w9, hw9, hc9⟩ := opn_at S8' i hx2
          conv => whnf
          refine IdxR.i 1 rfl (by decide) ?_
          conv => whnf
          refine NthR.i rfl ?_
          conv => whnf
          refine IdxS.i i rfl (by omega) hb9 ?_
          conv => whnf
          refine LoadN.i (vs := [.int .i64 k9, .int .i64 x9, .int .i64 y9, .string ⟨w9.toArray⟩]) rfl hc9 ?_
          conv => whnf
          refine IfR.t (by rw [hd1, hd2]; rfl) ?_
          conv => whnf
          refine CallR.m (step_spec T8.idle (by decide) T8.gf T8.G T8.go k9 x9 y9 w9 hw9) (by simpa [blocksOf] using T8.swap.out hv8 (by omega)) fun v h9 k9 hv => ?_
          obtain ⟨rfl, V9, M9, c9, m9, s9, L9⟩ := hv
          have T9 := (T8.swap.step k9 L9).swap
          have S9' := S8'.keepM k9 fun b hb => T8.swap.big (hb2 (by omega) b hb)
          have S9 : Sl h9 a1 l1 d1 xs := by
            rcases Nat.eq_zero_or_pos l1 with e | e
            · exact ⟨S8.hlen, S8.hcap, S8.hbig, fun i hi => by have := S8.hlen; omega⟩
            · exact S8.keepM k9 fun b hb => T8.swap.big (hb1 e b hb)
          have hv9 : b3 ∉ V9.blocks := fun hb => by rcases L9.new b3 hb with h | h; exact hv8 h; omega
          have hz9 : b3 < h9.size := by have := k9.size; omega
        case' inr =>
          have hd2 : decide ((i : Int) < (l2 : Int)) = false := by simp; omega
          obtain ⟨h9, rfl⟩ : ∃ x, x = h8 := ⟨_, rfl⟩
          have T9 := T8
          have S9 := S8
          have S9' := S8'
          have hv9 := hv8
          have hz9 := hz8
          conv => whnf
          refine IdxR.i 1 rfl (by decide) ?_
          conv => whnf
          refine NthR.i rfl ?_
          conv => whnf
          refine IdxS.u 0 0 0 (fun h => by rw [hd2] at h; simp at h) ?_
          conv => whnf
          refine LoadN.u [.int .i64 0, .int .i64 0, .int .i64 0, .string ⟨#[]⟩] rfl (fun h => by rw [hd2] at h; simp at h) ?_
          conv => whnf
          refine IfR.f (by rw [hd2]; simp) ?_
        all_goals
          conv => whnf
          refine IfR.f (by rw [hd1, hd2]; rfl) ?_
          conv => whnf
          refine ⟨50 - (i + 1), by omega, ?_⟩
          conv => whnf
          exact ⟨i + 1, rfl, by rw [wrapN (n := i + 1) (by simp) (by omega)], rfl, by omega, S9, S9', _, _, _, _, _, _, _, _, T9, hv9, hz9⟩
    · conv => whnf
      refine IdxR.i 0 rfl (by decide) ?_
      conv => whnf
      refine NthR.i rfl ?_
      conv => whnf
      refine IdxR.i 1 rfl (by decide) ?_
      conv => whnf
      refine NthR.i rfl ?_
      conv => whnf
      refine CallR.i (own_spec T7.idle (by decide) T7.ff T7.F) fun v h8 k8 hv => ?_
      subst hv
      have T8 := T7.on k8
      conv => whnf
      refine CallR.i (own_spec T8.idle (by decide) T8.gf T8.G) fun v h9 k9 hv => ?_
      subst hv
      have T9 := T8.on k9
      conv => whnf
      refine IdxR.i 0 rfl (by decide) ?_
      conv => whnf
      refine NthR.i rfl ?_
      conv => whnf
      refine IfR.t (by simp) ?_
      conv => whnf
      refine CallR.i (whole_spec T9.idle T9.ff T9.F) fun v h10 k10 hv => ?_
      subst hv
      have T10 := T9.on k10
      conv => whnf
      refine IdxR.i 1 rfl (by decide) ?_
      conv => whnf
      refine NthR.i rfl ?_
      conv => whnf
      refine IfR.t (by simp) ?_
      conv => whnf
      refine CallR.i (whole_spec T10.idle T10.gf T10.G) fun v h11 k11 hv => ?_
      subst hv
      have T11 := T10.on k11
      conv => whnf
      refine IdxR.i 0 rfl (by decide) ?_
      conv => whnf
      refine NthR.i rfl ?_
      have F11 := T11.ff
      unfold FileO at F11
      rw [own_cells] at F11
      conv => whnf
      refine LoadR.o F11 rfl ?_
      conv => whnf
      refine IfR.t (by simp) ?_
      conv => whnf
      refine CallR.i (free_spec T11.idle.at_) fun v h12 k12 hv => ?_
      subst hv
      conv => whnf
      have hfr := free_two (by decide) (by decide) (by decide) T11.F T11.G T11.own
      have e1 : IntKind.i64.wrap (96 - ((usedL c7.more m7).length : Int)) = 96 - ((usedL c7.more m7).length : Int) := wrapI (by omega) (by omega)
      have e2 : IntKind.i64.wrap (96 - ((usedL c7.more m7).length : Int) - ((usedL e7.more n7).length : Int)) = 96 - ((usedL c7.more m7).length : Int) - ((usedL e7.more n7).length : Int) := wrapI (by omega) (by omega)
      refine ⟨(T11.on k12).k, ?_⟩
      simp [e1, e2]
      omega
end Go.Proofs.YteambknhlbiajaaGreat
