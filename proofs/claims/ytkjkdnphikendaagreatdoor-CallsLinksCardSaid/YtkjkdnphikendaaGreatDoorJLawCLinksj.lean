/-
  Joined texts: WalA, WalB, CrdA, WalE, WalF, WalG, EntA, WrdA, CrdC, CrdD, CrdE, CrdF.
-/
import Derived.Test.YtkjkdnphikendaaGreatDoorJLawCLinksg
import Derived.Test.YtkjkdnphikendaaGreatDoorJLawCLinkse
import Derived.Test.YtkjkdnphikendaaGreatDoorJLawCLinksf
import Derived.Test.YtkjkdnphikendaaGreatDoorJLawCLinksi
import Derived.Test.YtkjkdnphikendaaGreatDoorJLawCLinksh
/-
  Layer 4's plain law: paths and their names.
-/
set_option linter.all false
set_option maxRecDepth 100000
set_option maxHeartbeats 1000000
namespace Go.Proofs.YtkjkdnphikendaaGreatDoor
open Go Go.Eng

/-- a text, cut at each stroke -/
def cutS : List UInt8 → List (List UInt8)
  | [] => [[]]
  | c :: l => if c = 47 then [] :: cutS l else (match cutS l with
    | [] => [[c]]
    | x :: r => (c :: x) :: r)
def joinS (l : List (List UInt8)) : List UInt8 := l.flatMap fun x => 47 :: x

theorem cutS_ne (s : List UInt8) : cutS s ≠ [] := by
  cases s with
  | nil => simp [cutS]
  | cons c l =>
    unfold cutS
    split
    · simp
    · split <;> simp
theorem joinS_cut : ∀ s : List UInt8, joinS (cutS s) = 47 :: s
  | [] => rfl
  | c :: l => by
    have ih := joinS_cut l
    unfold cutS
    by_cases h : c = 47
    · rw [if_pos h]
      show 47 :: [] ++ joinS (cutS l) = _
      rw [ih, h]; rfl
    · rw [if_neg h]
      cases hc : cutS l with
      | nil => exact absurd hc (cutS_ne l)
      | cons x r =>
        rw [hc] at ih
        simp only
        have e : joinS (x :: r) = 47 :: (x ++ joinS r) := by simp [joinS]
        rw [e] at ih
        have e2 : joinS ((c :: x) :: r) = 47 :: c :: (x ++ joinS r) := by simp [joinS]
        rw [e2]
        have := (List.cons.inj ih).2
        rw [this]

theorem cutS_plain : ∀ {x : List UInt8}, 47 ∉ x → cutS x = [x]
  | [], _ => rfl
  | c :: x, h => by
    have h1 : c ≠ 47 := fun e => h (by simp [e])
    have ih := cutS_plain (x := x) (fun e => h (by simp [e]))
    unfold cutS
    rw [if_neg h1, ih]
theorem cutS_app : ∀ {x : List UInt8} {s : List UInt8}, 47 ∉ x → cutS (x ++ 47 :: s) = x :: cutS s
  | [], s, _ => by
    show cutS (47 :: s) = _
    conv => lhs; unfold cutS
    rw [if_pos rfl]
  | c :: x, s, h => by
    have h1 : c ≠ 47 := fun e => h (by simp [e])
    have ih := cutS_app (x := x) (s := s) (fun e => h (by simp [e]))
    show cutS (c :: (x ++ 47 :: s)) = _
    conv => lhs; unfold cutS
    rw [if_neg h1, ih]
theorem cut_join : ∀ {l : List (List UInt8)} {x : List UInt8}, (∀ y ∈ x :: l, 47 ∉ y) → cutS (x ++ joinS l) = x :: l
  | [], x, h => by
    show cutS (x ++ []) = _
    rw [List.append_nil, cutS_plain (h x (by simp))]
  | y :: l, x, h => by
    have e : joinS (y :: l) = 47 :: (y ++ joinS l) := by simp [joinS]
    rw [e, cutS_app (h x (by simp)), cut_join fun z hz => h z (by simp only [List.mem_cons] at hz ⊢; exact .inr hz)]

theorem nameB_sign {x : List UInt8} (h : nameB x = true) : 47 ∉ x := by
  intro hm
  unfold nameB at h
  simp only [Bool.and_eq_true] at h
  have := List.all_eq_true.1 h.1 47 hm
  revert this
  decide

/-- the names of a path -/
def pathP (s : List UInt8) : Option (List (List UInt8)) :=
  match s with
  | [] => none
  | c :: r => if c ≠ 47 ∨ 120 < s.length then none else if r = [] then some [] else if (cutS r).all nameB = true then some (cutS r) else none

theorem pathP_join {l : List (List UInt8)} (h : l.all nameB = true) (hl : (joinS l).length ≤ 120) : pathP (if l = [] then [47] else joinS l) = some l := by
  cases l with
  | nil => simp [pathP]
  | cons x r =>
    rw [if_neg (by simp)]
    have e : joinS (x :: r) = 47 :: (x ++ joinS r) := by simp [joinS]
    have hn : ∀ y ∈ x :: r, 47 ∉ y := fun y hy => nameB_sign (List.all_eq_true.1 h y hy)
    have hx : x ≠ [] := by
      intro e0
      have := List.all_eq_true.1 h x (by simp)
      rw [e0] at this
      revert this; decide
    rw [e] at hl ⊢
    unfold pathP
    simp only
    rw [if_neg (by simp only [ne_eq, not_true_eq_false, false_or]; omega), if_neg (by simp [hx]), cut_join hn, if_pos h]
theorem joinS_len : ∀ {l : List (List UInt8)}, (∀ x ∈ l, x ≠ []) → 2 * l.length ≤ (joinS l).length
  | [], _ => by simp [joinS]
  | x :: l, h => by
    have ih := joinS_len (l := l) fun y hy => h y (by simp [hy])
    have hx : 0 < x.length := List.length_pos_iff.2 (h x (by simp))
    have e : (joinS (x :: l)).length = x.length + 1 + (joinS l).length := by simp [joinS]; omega
    rw [e, List.length_cons]; omega
theorem nameB_ne {x : List UInt8} (h : nameB x = true) : x ≠ [] := by
  rintro rfl
  revert h; decide
theorem pathP_len {s : List UInt8} {l : List (List UInt8)} (h : pathP s = some l) : l.length ≤ 60 ∧ l.all nameB = true ∧ s.length ≤ 120 ∧ (if l = [] then [47] else joinS l) = s := by
  unfold pathP at h
  split at h
  · cases h
  · rename_i c r
    split at h
    · cases h
    · rename_i h1
      split at h
      · rename_i h2
        cases h
        subst h2
        have h3 : c = 47 := by simpa using fun e => h1 (.inl e)
        exact ⟨by simp, rfl, by omega, by simp [h3]⟩
      · rename_i h2
        split at h
        · rename_i h3
          cases h
          have hc : c = 47 := by
            apply Classical.byContradiction
            intro e; exact h1 (.inl e)
          have hj := joinS_cut r
          have hn := joinS_len (l := cutS r) fun x hx => nameB_ne (List.all_eq_true.1 h3 x hx)
          rw [hj] at hn
          have hl : (c :: r).length ≤ 120 := by omega
          simp only [List.length_cons] at hn hl
          refine ⟨by omega, h3, by simpa using hl, ?_⟩
          rw [if_neg (cutS_ne r), hj, hc]
        · cases h

end Go.Proofs.YtkjkdnphikendaaGreatDoor
/-
  Layer 12's plain law: names are walked, in any tree of files; two trees that are alike tell alike.
-/
set_option linter.all false
set_option maxRecDepth 100000
set_option maxHeartbeats 1000000
namespace Go.Proofs.YtkjkdnphikendaaGreatDoor
open Go Go.Eng

/-- files: their kinds (1 file, 2 directory, 3 link), a directory's names, a file's bytes -/
structure Fs where
  kind : Int → Int
  find : Int → List UInt8 → Option Int
  data : Int → List UInt8

/-- names are walked: the file, and the error -/
def walkA (F : Fs) (root : Int) (follow : Bool) : Nat → Int → Nat → List (List UInt8) → Int × Int
  | 0, _, _, _ => (0, -1)
  | f + 1, at_, links, l => (match l with
    | [] => (at_, 0)
    | name :: rest =>
      if F.kind at_ ≠ 2 then (0, 6)
      else (match F.find at_ name with
        | none => (0, 4)
        | some next =>
          if F.kind next ≠ 3 ∨ (rest = [] ∧ follow = false) then walkA F root follow f next links rest
          else if 8 < links + 1 then (0, 11)
          else (match pathP (F.data next) with
            | none => (0, 15)
            | some head => walkA F root follow f root (links + 1) (head ++ rest))))

/-- one tree's files stand for another one's -/
structure Alike (F G : Fs) (φ : Int → Int) (S : Int → Prop) : Prop where
  kind : ∀ x, S x → G.kind (φ x) = F.kind x
  find : ∀ x n, S x → F.kind x = 2 → G.find (φ x) n = (F.find x n).map φ
  stay : ∀ x n y, S x → F.kind x = 2 → F.find x n = some y → S y
  data : ∀ x, S x → F.kind x = 3 → G.data (φ x) = F.data x

theorem walkA_alike {F G : Fs} {φ : Int → Int} {S : Int → Prop} (A : Alike F G φ S) {root : Int} (hr : S root) {follow : Bool} : ∀ (f : Nat) (at_ : Int) (links : Nat) (l : List (List UInt8)), S at_ →
    (walkA G (φ root) follow f (φ at_) links l).2 = (walkA F root follow f at_ links l).2 ∧
    ((walkA F root follow f at_ links l).2 = 0 → (walkA G (φ root) follow f (φ at_) links l).1 = φ (walkA F root follow f at_ links l).1 ∧ S (walkA F root follow f at_ links l).1)
  | 0, at_, links, l, _ => ⟨rfl, fun h => by cases h⟩
  | f + 1, at_, links, [], hs => ⟨rfl, fun _ => ⟨rfl, hs⟩⟩
  | f + 1, at_, links, name :: rest, hs => by
    unfold walkA
    simp only
    by_cases hk : F.kind at_ = 2
    · rw [A.kind at_ hs, A.find at_ name hs hk]
      rw [if_neg (by simp [hk]), if_neg (by simp [hk])]
      cases hf : F.find at_ name with
      | none => exact ⟨rfl, fun h => by simp at h⟩
      | some next =>
        have hn := A.stay at_ name next hs hk hf
        simp only [Option.map_some]
        rw [A.kind next hn]
        by_cases hc : F.kind next ≠ 3 ∨ (rest = [] ∧ follow = false)
        · rw [if_pos hc, if_pos hc]
          exact walkA_alike A hr f next links rest hn
        · rw [if_neg hc, if_neg hc]
          have h3 : F.kind next = 3 := by
            by_cases e : F.kind next = 3
            · exact e
            · exact absurd (.inl e) hc
          by_cases hl : 8 < links + 1
          · rw [if_pos hl, if_pos hl]; exact ⟨rfl, fun h => by simp at h⟩
          · rw [if_neg hl, if_neg hl, A.data next hn h3]
            cases hp : pathP (F.data next) with
            | none => exact ⟨rfl, fun h => by simp at h⟩
            | some head => exact walkA_alike A hr f root (links + 1) (head ++ rest) hr
    · rw [A.kind at_ hs, if_pos hk, if_pos hk]
      exact ⟨rfl, fun h => by simp at h⟩
end Go.Proofs.YtkjkdnphikendaaGreatDoor
/-
  Layer 6's plain law: a card's words.
-/
set_option linter.all false
set_option maxRecDepth 100000
set_option maxHeartbeats 1000000
namespace Go.Proofs.YtkjkdnphikendaaGreatDoor
open Go Go.Eng

/-! ### Fields of a word -/

def maskW (width : Nat) : UInt64 := UInt64.ofNat (2 ^ width - 1)
def putF (w : UInt64) (at_ width : Nat) (v : UInt64) : UInt64 := (w &&& ~~~(maskW width <<< UInt64.ofNat at_)) ||| (v <<< UInt64.ofNat at_)
def getF (w : UInt64) (at_ width : Nat) : UInt64 := (w >>> UInt64.ofNat at_) &&& maskW width

theorem pow_lt64 {n : Nat} (h : n ≤ 63) : 2 ^ n < 18446744073709551616 := by
  have : 2 ^ n ≤ 2 ^ 63 := Nat.pow_le_pow_right (by decide) h
  omega
theorem maskW_nat {width : Nat} (h : width ≤ 63) : (maskW width).toNat = 2 ^ width - 1 := by
  unfold maskW
  have := pow_lt64 h
  rw [UInt64.toNat_ofNat']
  omega
theorem ofN_nat {n : Nat} (h : n ≤ 63) : (UInt64.ofNat n).toNat = n := by
  rw [UInt64.toNat_ofNat']; omega

theorem getF_nat (w : UInt64) {at_ width : Nat} (h1 : at_ ≤ 63) (h2 : width ≤ 63) : (getF w at_ width).toNat = w.toNat / 2 ^ at_ % 2 ^ width := by
  unfold getF
  rw [UInt64.toNat_and, UInt64.toNat_shiftRight, ofN_nat h1, maskW_nat h2, Nat.and_two_pow_sub_one_eq_mod, Nat.shiftRight_eq_div_pow]
  rw [Nat.mod_eq_of_lt (show at_ < 64 by omega)]

theorem putF_nat {w v : UInt64} {at_ width : Nat} (h : at_ + width ≤ 64) (h1 : 1 ≤ width) (h2 : width ≤ 63) (hw : w.toNat < 2 ^ at_) (hv : v.toNat < 2 ^ width) : (putF w at_ width v).toNat = w.toNat + v.toNat * 2 ^ at_ := by
  have ha : at_ ≤ 63 := by omega
  have hand : w &&& ~~~(maskW width <<< UInt64.ofNat at_) = w := by
    apply UInt64.toBitVec_inj.1
    apply BitVec.eq_of_getLsbD_eq
    intro i hi
    have hwb : w.toBitVec.getLsbD i = true → i < at_ := by
      intro hb
      rcases Nat.lt_or_ge i at_ with h | h
      · exact h
      · have : w.toNat < 2 ^ i := Nat.lt_of_lt_of_le hw (Nat.pow_le_pow_right (by decide) h)
        have hf : w.toBitVec.getLsbD i = false := by
          rw [BitVec.getLsbD]
          exact Nat.testBit_lt_two_pow this
        rw [hf] at hb; cases hb
    have hsh : (maskW width <<< UInt64.ofNat at_).toBitVec = (maskW width).toBitVec <<< at_ := by
      apply BitVec.eq_of_toNat_eq
      have e := UInt64.toNat_shiftLeft (maskW width) (UInt64.ofNat at_)
      rw [ofN_nat ha, Nat.mod_eq_of_lt (show at_ < 64 by omega)] at e
      show (maskW width <<< UInt64.ofNat at_).toNat = _
      rw [e, BitVec.toNat_shiftLeft]
      rfl
    rw [UInt64.toBitVec_and, UInt64.toBitVec_not, hsh]
    rw [BitVec.getLsbD_and, BitVec.getLsbD_not, BitVec.getLsbD_shiftLeft]
    cases hb : w.toBitVec.getLsbD i with
    | false => rfl
    | true =>
      have := hwb hb
      simp [hi, this]
  unfold putF
  rw [hand, UInt64.toNat_or, UInt64.toNat_shiftLeft, ofN_nat ha, Nat.mod_eq_of_lt (show at_ < 64 by omega)]
  have hlt : v.toNat * 2 ^ at_ < 2 ^ 64 := by
    have h3 : v.toNat * 2 ^ at_ < 2 ^ width * 2 ^ at_ := Nat.mul_lt_mul_of_pos_right hv (Nat.two_pow_pos _)
    rw [← Nat.pow_add] at h3
    exact Nat.lt_of_lt_of_le h3 (Nat.pow_le_pow_right (by decide) (by omega))
  rw [Nat.shiftLeft_eq, Nat.mod_eq_of_lt hlt, Nat.or_comm, ← Nat.shiftLeft_eq, ← Nat.shiftLeft_add_eq_or_of_lt hw, Nat.shiftLeft_eq, Nat.add_comm]

/-! ### A card's words -/

def fldK (c : Crd) : UInt64 := putF (putF (putF 0 0 8 (w64 c.kind)) 8 16 (w64 c.links)) 24 32 (w64 c.size)
def fldD (c : Crd) : UInt64 := putF (putF (putF (putF 0 0 16 (w64 (c.d0 + 1))) 16 16 (w64 (c.d1 + 1))) 32 16 (w64 (c.d2 + 1))) 48 16 (w64 (c.d3 + 1))
def fldM (c : Crd) : UInt64 := putF (putF 0 0 16 (w64 (c.d4 + 1))) 16 16 (w64 (c.more + 1))
def cardW (c : Crd) : List UInt64 := [fldK c, c.ver, fldD c, fldM c, 0, 0, 0, 0]
def gAt (ws : List UInt64) (i at_ width : Nat) : Int := ((getF (ws[i]?.getD 0) at_ width).toNat : Int)
def cardG (ws : List UInt64) : Crd := ⟨gAt ws 0 0 8, gAt ws 0 8 16, gAt ws 0 24 32, ws[1]?.getD 0, gAt ws 2 0 16 - 1, gAt ws 2 16 16 - 1, gAt ws 2 32 16 - 1, gAt ws 2 48 16 - 1, gAt ws 3 0 16 - 1, gAt ws 3 16 16 - 1⟩
def cardR (ws : List UInt64) : Option Crd := if ws.length = 8 ∧ rightC (cardG ws) = true ∧ cardW (cardG ws) = ws then some (cardG ws) else none

structure CrdB (c : Crd) : Prop where
  k : 0 ≤ c.kind ∧ c.kind ≤ 3
  l : 0 ≤ c.links ∧ c.links ≤ 255
  s : 0 ≤ c.size ∧ c.size ≤ 2688
  d0 : -1 ≤ c.d0 ∧ c.d0 < 96
  d1 : -1 ≤ c.d1 ∧ c.d1 < 96
  d2 : -1 ≤ c.d2 ∧ c.d2 < 96
  d3 : -1 ≤ c.d3 ∧ c.d3 < 96
  d4 : -1 ≤ c.d4 ∧ c.d4 < 96
  m : -1 ≤ c.more ∧ c.more < 96

theorem w64_sm {x : Int} (h0 : 0 ≤ x) (h1 : x < 4294967296) : (w64 x).toNat = x.toNat := by
  have := w64_toNat x
  omega

theorem fldK_nat {c : Crd} (B : CrdB c) : (fldK c).toNat = c.kind.toNat + c.links.toNat * 256 + c.size.toNat * 16777216 := by
  have hk := B.k
  have hl := B.l
  have hs := B.s
  unfold fldK
  have e1 : (putF 0 0 8 (w64 c.kind)).toNat = c.kind.toNat := by
    rw [putF_nat (by decide) (by decide) (by decide) (by decide) (by rw [w64_sm hk.1 (by omega)]; omega), w64_sm hk.1 (by omega)]
    simp
  have e2 : (putF (putF 0 0 8 (w64 c.kind)) 8 16 (w64 c.links)).toNat = c.kind.toNat + c.links.toNat * 256 := by
    rw [putF_nat (by decide) (by decide) (by decide) (by rw [e1]; omega) (by rw [w64_sm hl.1 (by omega)]; omega), w64_sm hl.1 (by omega), e1]
  rw [putF_nat (by decide) (by decide) (by decide) (by rw [e2]; omega) (by rw [w64_sm hs.1 (by omega)]; omega), w64_sm hs.1 (by omega), e2]
theorem fldD_nat {c : Crd} (B : CrdB c) : (fldD c).toNat = (c.d0 + 1).toNat + (c.d1 + 1).toNat * 65536 + (c.d2 + 1).toNat * 4294967296 + (c.d3 + 1).toNat * 281474976710656 := by
  have h0 := B.d0
  have h1 := B.d1
  have h2 := B.d2
  have h3 := B.d3
  unfold fldD
  have e1 : (putF 0 0 16 (w64 (c.d0 + 1))).toNat = (c.d0 + 1).toNat := by
    rw [putF_nat (by decide) (by decide) (by decide) (by decide) (by rw [w64_sm (by omega) (by omega)]; omega), w64_sm (by omega) (by omega)]
    simp
  have e2 : (putF (putF 0 0 16 (w64 (c.d0 + 1))) 16 16 (w64 (c.d1 + 1))).toNat = (c.d0 + 1).toNat + (c.d1 + 1).toNat * 65536 := by
    rw [putF_nat (by decide) (by decide) (by decide) (by rw [e1]; omega) (by rw [w64_sm (by omega) (by omega)]; omega), w64_sm (by omega) (by omega), e1]
  have e3 : (putF (putF (putF 0 0 16 (w64 (c.d0 + 1))) 16 16 (w64 (c.d1 + 1))) 32 16 (w64 (c.d2 + 1))).toNat = (c.d0 + 1).toNat + (c.d1 + 1).toNat * 65536 + (c.d2 + 1).toNat * 4294967296 := by
    rw [putF_nat (by decide) (by decide) (by decide) (by rw [e2]; omega) (by rw [w64_sm (by omega) (by omega)]; omega), w64_sm (by omega) (by omega), e2]
  rw [putF_nat (by decide) (by decide) (by decide) (by rw [e3]; omega) (by rw [w64_sm (by omega) (by omega)]; omega), w64_sm (by omega) (by omega), e3]
theorem fldM_nat {c : Crd} (B : CrdB c) : (fldM c).toNat = (c.d4 + 1).toNat + (c.more + 1).toNat * 65536 := by
  have h0 := B.d4
  have h1 := B.m
  unfold fldM
  have e1 : (putF 0 0 16 (w64 (c.d4 + 1))).toNat = (c.d4 + 1).toNat := by
    rw [putF_nat (by decide) (by decide) (by decide) (by decide) (by rw [w64_sm (by omega) (by omega)]; omega), w64_sm (by omega) (by omega)]
    simp
  rw [putF_nat (by decide) (by decide) (by decide) (by rw [e1]; omega) (by rw [w64_sm (by omega) (by omega)]; omega), w64_sm (by omega) (by omega), e1]

theorem rightC_b {c : Crd} (h : rightC c = true) : CrdB c := by
  unfold rightC at h
  split at h
  · rename_i h0
    have := of_decide_eq_true h
    rw [this]
    constructor <;> (show _ ≤ _ ∧ _) <;> simp [noneC]
  · rename_i h0
    simp [Crd.direct, blockC] at h
    constructor <;> omega

theorem cardG_W {c : Crd} (B : CrdB c) : cardG (cardW c) = c := by
  have h1 := B.k
  have h2 := B.l
  have h3 := B.s
  have h4 := B.d0
  have h5 := B.d1
  have h6 := B.d2
  have h7 := B.d3
  have h8 := B.d4
  have h9 := B.m
  have g : ∀ i at_ width, at_ ≤ 63 → width ≤ 63 → gAt (cardW c) i at_ width = (((((cardW c)[i]?.getD 0).toNat / 2 ^ at_ % 2 ^ width : Nat)) : Int) := fun i at_ width p q => by unfold gAt; rw [getF_nat _ p q]
  unfold cardG
  rw [g 0 0 8 (by decide) (by decide), g 0 8 16 (by decide) (by decide), g 0 24 32 (by decide) (by decide), g 2 0 16 (by decide) (by decide), g 2 16 16 (by decide) (by decide), g 2 32 16 (by decide) (by decide), g 2 48 16 (by decide) (by decide), g 3 0 16 (by decide) (by decide), g 3 16 16 (by decide) (by decide)]
  have k0 : (cardW c)[0]?.getD 0 = fldK c := rfl
  have k1 : (cardW c)[1]?.getD 0 = c.ver := rfl
  have k2 : (cardW c)[2]?.getD 0 = fldD c := rfl
  have k3 : (cardW c)[3]?.getD 0 = fldM c := rfl
  rw [k0, k1, k2, k3, fldK_nat B, fldD_nat B, fldM_nat B]
  obtain ⟨a, b, c', d, e, f, g', i, j, k⟩ := c
  simp only at *
  congr 1 <;> omega

theorem cardR_W {c : Crd} (h : rightC c = true) : cardR (cardW c) = some c := by
  have B := rightC_b h
  unfold cardR
  rw [cardG_W B, if_pos ⟨rfl, h, rfl⟩]
end Go.Proofs.YtkjkdnphikendaaGreatDoor
/-
  Plain law: files over words: each node's card, each directory's names, each file's bytes.
-/
set_option linter.all false
set_option maxRecDepth 100000
set_option maxHeartbeats 1000000
namespace Go.Proofs.YtkjkdnphikendaaGreatDoor
open Go Go.Eng

/-- what is told of all nodes -/
structure FS where
  C : Int → Crd
  nm : Int → List Ent
  by_ : Int → List UInt8

def FS.put (S : FS) (n : Int) (c : Crd) (l : List Ent) (s : List UInt8) : FS := ⟨fun x => if x = n then c else S.C x, fun x => if x = n then l else S.nm x, fun x => if x = n then s else S.by_ x⟩

/-- a node's card, and what stands behind it -/
structure NodeI (now : Int → UInt64) (n : Int) (c : Crd) (l : List Ent) (s : List UInt8) : Prop where
  kind : 0 ≤ c.kind ∧ c.kind ≤ 3
  free : c.kind = 0 → c = noneC c.ver ∧ ∀ k, 0 ≤ k → k < 96 → now (200 + k) ≠ w64 (n + 1)
  dir : c.kind = 2 → ∃ m, DirI now n c m l
  file : c.kind = 1 ∨ c.kind = 3 → ∃ m, FileI now n c m s

structure FsI (now : Int → UInt64) (S : FS) : Prop where
  card : ∀ n, 0 ≤ n → n < 24 → rdL now (8 + n * 8) 8 = cardW (S.C n)
  node : ∀ n, 0 ≤ n → n < 24 → NodeI now n (S.C n) (S.nm n) (S.by_ n)
  zero : (S.C 0).kind = 0
  own : ∀ k, 0 ≤ k → k < 96 → now (200 + k) = 0 ∨ ∃ n, 0 ≤ n ∧ n < 24 ∧ now (200 + k) = w64 (n + 1)

theorem NodeI.right {now : Int → UInt64} {n : Int} {c : Crd} {l : List Ent} {s : List UInt8} (N : NodeI now n c l s) : rightC c = true := by
  by_cases h0 : c.kind = 0
  · have := (N.free h0).1
    unfold rightC
    rw [if_pos h0]
    exact decide_eq_true this
  · by_cases h2 : c.kind = 2
    · obtain ⟨m, D⟩ := N.dir h2
      exact D.right.1
    · have := N.kind
      obtain ⟨m, F⟩ := N.file (by omega)
      exact F.right
theorem crdB_ok {c : Crd} (B : CrdB c) : c.ok := by
  have h1 := B.k
  have h2 := B.l
  have h3 := B.s
  have h4 := B.d0
  have h5 := B.d1
  have h6 := B.d2
  have h7 := B.d3
  have h8 := B.d4
  have h9 := B.m
  refine ⟨by unfold inI64; omega, by unfold inI64; omega, by unfold inI64; omega, fun x hx => ?_, by unfold inI64; omega⟩
  unfold Crd.direct at hx
  simp only [List.mem_cons, List.not_mem_nil, or_false] at hx
  unfold inI64; omega
theorem NodeI.ok {now : Int → UInt64} {n : Int} {c : Crd} {l : List Ent} {s : List UInt8} (N : NodeI now n c l s) : c.ok := crdB_ok (rightC_b N.right)

theorem NodeI.other {f g : Int → UInt64} {x y : Int} (hx : 0 ≤ x ∧ x < 24) (hy : 0 ≤ y ∧ y < 24) (hne : x ≠ y) {c : Crd} {l : List Ent} {s : List UInt8} (N : NodeI f y c l s) (R : Fr0 x f g) : NodeI g y c l s := by
  refine ⟨N.kind, fun h => ⟨(N.free h).1, fun k h0 h1 e => ?_⟩, fun h => ?_, fun h => ?_⟩
  · have hn := (N.free h).2 k h0 h1
    by_cases hm : f (200 + k) = w64 (x + 1)
    · rcases R.mine k h0 h1 hm with p | p
      · exact hne (w64_inj hx hy (p.symm.trans e))
      · exact w64_ne hy (e.symm.trans p)
    · rcases (R.oth k h0 h1 hm).1 with p | ⟨_, p⟩
      · exact hn (p ▸ e)
      · exact hne (w64_inj hx hy (p.symm.trans e))
  · obtain ⟨m, D⟩ := N.dir h
    exact ⟨m, D.other hx hy hne R⟩
  · obtain ⟨m, F⟩ := N.file h
    exact ⟨m, F.other hx hy hne R⟩

theorem FsI.put {f g : Int → UInt64} {S : FS} (I : FsI f S) {n : Int} (h0 : 0 ≤ n ∧ n < 24) (R : Fr0 n f g) (hc : ∀ k, 0 ≤ k → k < 24 → k ≠ n → rdL g (8 + k * 8) 8 = rdL f (8 + k * 8) 8) {c : Crd} {l : List Ent} {s : List UInt8}
    (hn : rdL g (8 + n * 8) 8 = cardW c) (N : NodeI g n c l s) (hz : n ≠ 0) : FsI g (S.put n c l s) := by
  have hw := w64_ne h0
  refine ⟨fun k k0 k1 => ?_, fun k k0 k1 => ?_, ?_, fun k k0 k1 => ?_⟩
  · show _ = cardW (if k = n then c else S.C k)
    by_cases e : k = n
    · rw [if_pos e, e]; exact hn
    · rw [if_neg e, hc k k0 k1 e]; exact I.card k k0 k1
  · show NodeI g k (if k = n then c else S.C k) (if k = n then l else S.nm k) (if k = n then s else S.by_ k)
    by_cases e : k = n
    · rw [if_pos e, if_pos e, if_pos e, e]; exact N
    · rw [if_neg e, if_neg e, if_neg e]
      exact (I.node k k0 k1).other h0 ⟨k0, k1⟩ (fun x => e x.symm) R
  · show (if (0 : Int) = n then c else S.C 0).kind = 0
    rw [if_neg (fun e => hz e.symm)]; exact I.zero
  · by_cases hm : f (200 + k) = w64 (n + 1)
    · rcases R.mine k k0 k1 hm with p | p
      · exact .inr ⟨n, h0.1, h0.2, p⟩
      · exact .inl p
    · rcases (R.oth k k0 k1 hm).1 with p | ⟨_, p⟩
      · rw [p]; exact I.own k k0 k1
      · exact .inr ⟨n, h0.1, h0.2, p⟩

/-- a card is set -/
def setW (now : Int → UInt64) (n : Int) (c : Crd) : Int → UInt64 := updL now (8 + n * 8) (cardW c)
theorem setW_high {now : Int → UInt64} {n : Int} (hn : n < 24) {c : Crd} {a : Int} (ha : 200 ≤ a) : setW now n c a = now a := by
  unfold setW updL
  rw [if_neg (by rw [show (cardW c).length = 8 from rfl]; omega)]
theorem setW_rd {now : Int → UInt64} {n : Int} {c : Crd} : rdL (setW now n c) (8 + n * 8) 8 = cardW c := by
  unfold setW rdL
  apply List.ext_getElem
  · rfl
  · intro i h1 h2
    have hi : i < 8 := by simpa using h1
    rw [List.getElem_map, List.getElem_range]
    unfold updL
    rw [if_pos ⟨by omega, by rw [show (cardW c).length = 8 from rfl]; omega⟩]
    have : (8 + n * 8 + (i : Int) - (8 + n * 8)).toNat = i := by omega
    rw [this, List.getElem?_eq_getElem h2]; rfl
theorem setW_ne {now : Int → UInt64} {n k : Int} {c : Crd} (h : k ≠ n) : rdL (setW now n c) (8 + k * 8) 8 = rdL now (8 + k * 8) 8 := by
  unfold rdL
  refine List.map_congr_left fun i hi => ?_
  have hi : i < 8 := by simpa using hi
  unfold setW updL
  rw [if_neg (by rw [show (cardW c).length = 8 from rfl]; omega)]

/-- a node's blocks and its card are changed -/
theorem FsI.set {f g : Int → UInt64} {S : FS} (I : FsI f S) {n : Int} (h0 : 0 < n ∧ n < 24) (R : Fr n f g) {c : Crd} {l : List Ent} {s : List UInt8} (N : NodeI g n c l s) : FsI (setW g n c) (S.put n c l s) := by
  have hn : 0 ≤ n ∧ n < 24 := ⟨by omega, h0.2⟩
  have R2 : Fr0 n f (setW g n c) := R.z.after fun a ha => setW_high h0.2 ha
  refine I.put hn R2 (fun k k0 k1 hk => ?_) setW_rd ?_ (by omega)
  · rw [setW_ne hk]
    exact List.map_congr_left fun i hi => R.low _ (by have : i < 8 := by simpa using hi
                                                      omega)
  · -- a node's own words stand behind its blocks
    have hhi : ∀ a, 200 ≤ a → setW g n c a = g a := fun a ha => setW_high h0.2 ha
    obtain ⟨z, hz⟩ : ∃ z : Int, (0 ≤ z ∧ z < 24) ∧ z ≠ n := ⟨0, ⟨by decide, by decide⟩, by omega⟩
    exact N.other hz.1 hn hz.2 (Fr0.of z hhi)

/-! ### New nodes -/

theorem fresh_fileK {now : Int → UInt64} {node : Int} {kind : Int} (hk : kind = 1 ∨ kind = 3) (v : UInt64) (h : ∀ x, 0 ≤ x → x < 96 → now (200 + x) ≠ w64 (node + 1)) : FileI now node (freshC kind v) m0 [] := by
  have hu : usedL (freshC kind v).more m0 = [] := by show usedL (-1) m0 = []; decide
  refine ⟨rfl, ⟨rfl, ?_, by rw [hu]; exact List.nodup_nil, fun x x0 x1 => by rw [hu]; exact ⟨fun h => (nomatch h), fun e => absurd e (h x x0 x1)⟩⟩, ⟨hk, by show (0 : Int) ≤ 1 ∧ (1 : Int) ≤ 255; decide⟩, rfl, by simp, fun p hp => ?_, fun j hj _ => ?_, ?_⟩
  · intro x hx
    left
    have : x ∈ List.replicate 22 (-1 : Int) := hx
    exact (List.mem_replicate.1 this).2
  · unfold fb
    have : m0[p / 128]?.getD (-1) = -1 := by
      unfold m0
      rw [List.getElem?_replicate]
      split <;> rfl
    rw [this]
    unfold bytesB
    rw [if_pos rfl, zeros_get]
    rfl
  · unfold m0
    rw [List.getElem?_replicate]
    split <;> rfl
  · exact ⟨fun _ => by decide, fun _ => rfl⟩
theorem fresh_dirV {now : Int → UInt64} {node : Int} (v : UInt64) (h : ∀ x, 0 ≤ x → x < 96 → now (200 + x) ≠ w64 (node + 1)) : DirI now node (freshC 2 v) mNo [] := by
  have hu : usedL (freshC 2 v).more mNo = [] := by show usedL (-1) mNo = []; decide
  refine ⟨rfl, ⟨rfl, ?_, by rw [hu]; exact List.nodup_nil, fun x x0 x1 => by rw [hu]; exact ⟨fun h => (nomatch h), fun e => absurd e (h x x0 x1)⟩⟩, ⟨rfl, rfl⟩, rfl, fun i hi hu => absurd (mNo_at i) hu, ?_, List.Pairwise.nil, ⟨fun _ => by decide, fun _ => rfl⟩⟩
  · intro x hx
    left
    have : x ∈ List.replicate 22 (-1 : Int) := hx
    exact (List.mem_replicate.1 this).2
  · have : rawE now mNo = [] := by
      unfold rawE
      rw [List.flatMap_eq_nil_iff]
      intro i _
      exact placeE_hole (mNo_at i)
    rw [this]
theorem fresh_node {now : Int → UInt64} {n kind : Int} (hk : 1 ≤ kind ∧ kind ≤ 3) (v : UInt64) (h : ∀ x, 0 ≤ x → x < 96 → now (200 + x) ≠ w64 (n + 1)) : NodeI now n (freshC kind v) [] [] := by
  have hk' : (freshC kind v).kind = kind := rfl
  refine ⟨by rw [hk']; omega, fun h0 => by rw [hk'] at h0; omega, fun h2 => ?_, fun h13 => ?_⟩
  · rw [hk'] at h2; subst h2
    exact ⟨mNo, fresh_dirV v h⟩
  · rw [hk'] at h13
    exact ⟨m0, fresh_fileK h13 v h⟩
theorem none_node {now : Int → UInt64} {n : Int} (v : UInt64) (h : ∀ x, 0 ≤ x → x < 96 → now (200 + x) ≠ w64 (n + 1)) : NodeI now n (noneC v) [] [] :=
  ⟨by show (0 : Int) ≤ 0 ∧ (0 : Int) ≤ 3; decide, fun _ => ⟨rfl, h⟩, fun h2 => (by cases h2), fun h13 => (by rcases h13 with h | h <;> cases h)⟩
end Go.Proofs.YtkjkdnphikendaaGreatDoor
/-
  Layer 12's plain law: how many steps a walk takes; where a name stands; the document's tree beside a view.
-/
set_option linter.all false
set_option maxRecDepth 100000
set_option maxHeartbeats 1000000
namespace Go.Proofs.YtkjkdnphikendaaGreatDoor
open Go Go.Eng

/-- a walk ends -/
theorem walkA_ends {F : Fs} {root : Int} {follow : Bool} : ∀ (f : Nat) (at_ : Int) (links : Nat) (l : List (List UInt8)), links ≤ 8 → (8 - links) * 61 + l.length + 1 ≤ f → (walkA F root follow f at_ links l).2 ≠ -1
  | 0, _, _, _, _, h => by omega
  | f + 1, at_, links, [], _, _ => by unfold walkA; simp
  | f + 1, at_, links, name :: rest, hl, h => by
    simp only [List.length_cons] at h
    unfold walkA
    simp only
    split
    · simp
    · split
      · simp
      · split
        · exact walkA_ends f _ _ _ hl (by omega)
        · split
          · simp
          · split
            · simp
            · rename_i head hp
              have := (pathP_len hp).1
              exact walkA_ends f _ _ _ (by omega) (by rw [List.length_append]; omega)

/-! ### The document's tree -/

structure Nod where
  id : Int
  kind : Int
  links : Int
  data : List UInt8
  names : List Ent

def tn (T : List Nod) (i : Int) : Nod := T[i.toNat]?.getD ⟨0, 0, 0, [], []⟩
def nu (num : List Int) (i : Int) : Int := num[i.toNat]?.getD 0
def docFs (T : List Nod) : Fs := ⟨fun i => (tn T i).kind, fun i name => (findE (tn T i).names name).map (·.node), fun i => (tn T i).data⟩
def viewFs (S : FS) : Fs := ⟨fun i => (S.C i).kind, fun i name => (findE (S.nm i) name).map (·.node), fun i => S.by_ i⟩
def rn (num : List Int) (e : Ent) : Ent := ⟨e.name, nu num e.node⟩
def inT (T : List Nod) (i : Int) : Prop := 1 ≤ i ∧ i < T.length

structure WorldI (S : FS) (T : List Nod) (num : List Int) : Prop where
  len : num.length = T.length
  two : 2 ≤ T.length
  root : nu num 1 = 1 ∧ (tn T 1).kind = 2
  rng : ∀ i, inT T i → 1 ≤ nu num i ∧ nu num i < 24
  inj : ∀ i j, inT T i → inT T j → nu num i = nu num j → i = j
  kind : ∀ i, inT T i → (S.C (nu num i)).kind = (tn T i).kind ∧ 1 ≤ (tn T i).kind ∧ (tn T i).kind ≤ 3
  dir : ∀ i, inT T i → (tn T i).kind = 2 → S.nm (nu num i) = (tn T i).names.map (rn num) ∧ (∀ e ∈ (tn T i).names, inT T e.node) ∧ strict (tn T i).names
  data : ∀ i, inT T i → (tn T i).kind ≠ 2 → (tn T i).data = S.by_ (nu num i)
  oth : ∀ i, inT T i → (tn T i).kind ≠ 2 → (tn T i).names = []

end Go.Proofs.YtkjkdnphikendaaGreatDoor
/-
  Layer 12's plain law: a file more, in the view and in the document's tree.
-/
set_option linter.all false
set_option maxRecDepth 100000
set_option maxHeartbeats 1000000
namespace Go.Proofs.YtkjkdnphikendaaGreatDoor
open Go Go.Eng

theorem plK_map (f : Ent → Ent) (hf : ∀ e, (f e).name = e.name) (name : List UInt8) : ∀ l : List Ent, plK (l.map f) name = plK l name
  | [] => rfl
  | x :: l => by
    have ih := plK_map f hf name l
    unfold plK at ih ⊢
    rw [List.map_cons, List.takeWhile_cons, List.takeWhile_cons, hf x]
    split
    · rw [List.length_cons, List.length_cons, ih]
    · rfl
theorem insL_map (f : Ent → Ent) (hf : ∀ e, (f e).name = e.name) (l : List Ent) (e : Ent) : (insL l e).map f = insL (l.map f) (f e) := by
  unfold insL
  rw [hf e, plK_map f hf, List.map_append, List.map_cons, List.map_take, List.map_drop]
def nset (T : List Nod) (d : Int) (l : List Ent) : List Nod := T.set d.toNat { tn T d with names := l }
theorem tn_set {T : List Nod} {d : Int} (hd : inT T d) (l : List Ent) (x : Nod) {i : Int} (hi : 1 ≤ i ∧ i < T.length + 1) : tn (nset T d l ++ [x]) i = if i = T.length then x else if i = d then { tn T d with names := l } else tn T i := by
  obtain ⟨d0, d1⟩ := hd
  have hl : (nset T d l).length = T.length := by unfold nset; simp
  unfold tn
  by_cases e : i = T.length
  · rw [if_pos e]
    have : i.toNat = (nset T d l).length := by rw [hl]; omega
    rw [this]; simp
  · rw [if_neg e, List.getElem?_append_left (by rw [hl]; omega)]
    unfold nset
    rw [List.getElem?_set]
    by_cases e2 : i = d
    · subst e2
      rw [if_pos rfl, if_pos (by omega), if_pos rfl]; rfl
    · rw [if_neg (by omega), if_neg e2]

theorem nu_app {num : List Int} {n : Int} {i : Int} (hi : 1 ≤ i ∧ i < num.length + 1) : nu (num ++ [n]) i = if i = num.length then n else nu num i := by
  unfold nu
  by_cases e : i = num.length
  · rw [if_pos e]
    have : i.toNat = num.length := by omega
    rw [this]; simp
  · rw [if_neg e, List.getElem?_append_left (by omega)]

theorem WorldI.grow {S S' : FS} {T : List Nod} {num : List Int} (W : WorldI S T num) {d n kind : Int} {name data : List UInt8} (hd : inT T d) (hk : (tn T d).kind = 2) (hn0 : (S.C n).kind = 0) (hn : 1 ≤ n ∧ n < 24) (hp : plT (tn T d).names name = false) (hkind : 1 ≤ kind ∧ kind ≤ 3)
    (hS : ∀ x, x ≠ n → x ≠ nu num d → (S'.C x).kind = (S.C x).kind ∧ S'.nm x = S.nm x ∧ S'.by_ x = S.by_ x)
    (h1 : (S'.C (nu num d)).kind = 2 ∧ S'.nm (nu num d) = insL (S.nm (nu num d)) ⟨name, n⟩)
    (h2 : (S'.C n).kind = kind ∧ (kind ≠ 2 → S'.by_ n = data) ∧ (kind = 2 → S'.nm n = [])) :
    WorldI S' (nset T d (insL (tn T d).names ⟨name, (T.length : Int)⟩) ++ [⟨n, kind, 1, data, []⟩]) (num ++ [n]) := by
  have hl := W.len
  have htwo := W.two
  obtain ⟨d0, d1⟩ := hd
  have hL : (nset T d (insL (tn T d).names ⟨name, (T.length : Int)⟩) ++ [(⟨n, kind, 1, data, []⟩ : Nod)]).length = T.length + 1 := by unfold nset; simp
  have hin : ∀ i, inT (nset T d (insL (tn T d).names ⟨name, (T.length : Int)⟩) ++ [(⟨n, kind, 1, data, []⟩ : Nod)]) i ↔ inT T i ∨ i = T.length := by
    intro i
    unfold inT
    rw [hL]
    omega
  have hne : ∀ i, inT T i → nu num i ≠ n := by
    intro i hi e
    have := (W.kind i hi).1
    have h3 := (W.kind i hi).2.1
    rw [e, hn0] at this
    omega
  have htn : ∀ i, inT T i ∨ i = T.length → tn (nset T d (insL (tn T d).names ⟨name, (T.length : Int)⟩) ++ [(⟨n, kind, 1, data, []⟩ : Nod)]) i = if i = T.length then ⟨n, kind, 1, data, []⟩ else if i = d then { tn T d with names := insL (tn T d).names ⟨name, (T.length : Int)⟩ } else tn T i :=
    fun i hi => tn_set ⟨d0, d1⟩ _ _ (by unfold inT at hi; omega)
  have hnu : ∀ i, inT T i ∨ i = T.length → nu (num ++ [n]) i = if i = T.length then n else nu num i := fun i hi => by
    have := nu_app (num := num) (n := n) (i := i) (by unfold inT at hi; omega)
    rw [hl] at this; exact this
  have hdn : nu num d ≠ n := hne d ⟨d0, d1⟩
  have hlt : ∀ i, inT T i → i ≠ T.length := fun i hi => by unfold inT at hi; omega
  refine ⟨by rw [hL, List.length_append, hl]; rfl, by rw [hL]; omega, ?_, fun i hi => ?_, fun i j hi hj e => ?_, fun i hi => ?_, fun i hi hki => ?_, fun i hi hki => ?_, fun i hi hki => ?_⟩
  · have h1in : inT T 1 := ⟨by omega, by omega⟩
    rw [hnu 1 (.inl h1in), htn 1 (.inl h1in), if_neg (hlt 1 h1in), if_neg (hlt 1 h1in)]
    refine ⟨W.root.1, ?_⟩
    split
    · exact hk
    · exact W.root.2
  · have hi' := (hin i).1 hi
    rw [hnu i hi']
    by_cases e : i = T.length
    · rw [if_pos e]; exact hn
    · rw [if_neg e]; exact W.rng i (hi'.resolve_right e)
  · have hi' := (hin i).1 hi
    have hj' := (hin j).1 hj
    rw [hnu i hi', hnu j hj'] at e
    by_cases ei : i = T.length
    · by_cases ej : j = T.length
      · omega
      · rw [if_pos ei, if_neg ej] at e
        exact absurd e.symm (hne j (hj'.resolve_right ej))
    · by_cases ej : j = T.length
      · rw [if_neg ei, if_pos ej] at e
        exact absurd e (hne i (hi'.resolve_right ei))
      · rw [if_neg ei, if_neg ej] at e
        exact W.inj i j (hi'.resolve_right ei) (hj'.resolve_right ej) e
  · have hi' := (hin i).1 hi
    rw [hnu i hi', htn i hi']
    by_cases e : i = T.length
    · rw [if_pos e, if_pos e]; exact ⟨h2.1, hkind.1, hkind.2⟩
    · have hi2 := hi'.resolve_right e
      rw [if_neg e, if_neg e]
      by_cases e2 : i = d
      · rw [if_pos e2, e2]
        exact ⟨h1.1.trans hk.symm, (W.kind d ⟨d0, d1⟩).2⟩
      · rw [if_neg e2]
        rw [(hS (nu num i) (hne i hi2) (fun x => e2 (W.inj i d hi2 ⟨d0, d1⟩ x))).1]
        exact W.kind i hi2
  · have hi' := (hin i).1 hi
    rw [htn i hi'] at hki
    rw [hnu i hi', htn i hi']
    have hrn : ∀ e : Ent, inT T e.node → rn (num ++ [n]) e = rn num e := by
      intro e he
      unfold rn
      rw [hnu e.node (.inl he), if_neg (hlt _ he)]
    by_cases e : i = T.length
    · rw [if_pos e] at hki ⊢
      rw [if_pos e]
      exact ⟨h2.2.2 hki, by simp, List.Pairwise.nil⟩
    · have hi2 := hi'.resolve_right e
      rw [if_neg e] at hki ⊢
      rw [if_neg e]
      by_cases e2 : i = d
      · rw [if_pos e2]
        subst e2
        obtain ⟨q1, q2, q3⟩ := W.dir i hi2 hk
        refine ⟨?_, fun e he => (hin _).2 ?_, insL_strict q3 hp⟩
        · rw [h1.2, q1]
          show _ = (insL (tn T i).names ⟨name, (T.length : Int)⟩).map (rn (num ++ [n]))
          rw [insL_map (rn (num ++ [n])) (fun _ => rfl)]
          have e1 : (tn T i).names.map (rn (num ++ [n])) = (tn T i).names.map (rn num) := List.map_congr_left fun e he => hrn e (q2 e he)
          have e3 : rn (num ++ [n]) ⟨name, (T.length : Int)⟩ = ⟨name, n⟩ := by
            unfold rn
            rw [hnu _ (.inr rfl), if_pos rfl]
          rw [e1, e3]
        · have he' : e ∈ insL (tn T i).names ⟨name, (T.length : Int)⟩ := he
          rcases List.mem_cons.1 ((insL_perm _ _).mem_iff.1 he') with rfl | h
          · exact .inr rfl
          · exact .inl (q2 e h)
      · rw [if_neg e2] at hki ⊢
        obtain ⟨q1, q2, q3⟩ := W.dir i hi2 hki
        refine ⟨?_, fun e he => (hin _).2 (.inl (q2 e he)), q3⟩
        rw [(hS (nu num i) (hne i hi2) (fun x => e2 (W.inj i d hi2 ⟨d0, d1⟩ x))).2.1, q1]
        exact (List.map_congr_left fun e he => hrn e (q2 e he)).symm
  · have hi' := (hin i).1 hi
    rw [htn i hi'] at hki
    rw [hnu i hi', htn i hi']
    by_cases e : i = T.length
    · rw [if_pos e] at hki ⊢
      rw [if_pos e]
      exact (h2.2.1 hki).symm
    · have hi2 := hi'.resolve_right e
      rw [if_neg e] at hki ⊢
      rw [if_neg e]
      by_cases e2 : i = d
      · rw [if_pos e2] at hki
        exact absurd hk hki
      · rw [if_neg e2] at hki ⊢
        rw [(hS (nu num i) (hne i hi2) (fun x => e2 (W.inj i d hi2 ⟨d0, d1⟩ x))).2.2]
        exact W.data i hi2 hki
  · have hi' := (hin i).1 hi
    rw [htn i hi'] at hki ⊢
    by_cases e : i = T.length
    · rw [if_pos e]
    · have hi2 := hi'.resolve_right e
      rw [if_neg e] at hki ⊢
      by_cases e2 : i = d
      · rw [if_pos e2] at hki
        exact absurd hk hki
      · rw [if_neg e2] at hki ⊢
        exact W.oth i hi2 hki
end Go.Proofs.YtkjkdnphikendaaGreatDoor
/-
  The engine: a map's entry, made or found, and what is stored there.
-/
set_option linter.all false
set_option maxRecDepth 100000
set_option maxHeartbeats 1000000
namespace Go.Eng

/-- an entry that is there, and is to be stored -/
def MapO (h : Heap) (r : Nat) (m : List (Int × Value)) (n : Int) (born : Int) : Prop :=
  ∃ (es : Array MapEntry) (cl j : Nat) (hj : j < es.size), h[r]? = some (.map es cl) ∧ es.toList.map (fun e => (e.key, e.val)) = m.map (fun p => (Value.int .i64 p.1, p.2)) ∧ (m.map (·.1)).Nodup ∧ (es.toList.map (·.born)).Nodup ∧ (∀ e ∈ es.toList, e.born < cl) ∧
    (m[j]?).map (·.1) = some n ∧ born = ((es[j]'hj).born : Int) ∧ (es[j]'hj).key = .int .i64 n
def MapQ (h : Heap) (r : Nat) (m : List (Int × Value)) (n : Int) (born : Int) : Prop := (lookI m n = none ∧ MapP h r m n born) ∨ MapO h r m n born

theorem modify_same {α : Type} (a : Array α) (j : Nat) (f g : α → α) (h : ∀ hj : j < a.size, f a[j] = g a[j]) : a.modify j f = a.modify j g := by
  apply Array.ext
  · simp
  · intro i i1 i2
    rw [Array.getElem_modify, Array.getElem_modify]
    split
    · rename_i e; subst e; exact h (by simpa using i1)
    · rfl

theorem SemR.entryAny {P : Program} {T kT eT : TypeId} {i : TypeInfo} {z : Value} (hu : P.underlying T = some (.map kT eT)) (hk : P.underlying kT = some (.int .i64)) (hi : P.info? eT = some i) (hz : i.zero = some z) {h : Heap} {r : Nat} {m : List (Int × Value)} (o : MapL h r m) {n : Int} {bs : List Nat} (hb : r ∉ bs)
    {K : Value → Heap → Prop} (H : ∀ h' v born, h'.size = h.size → MapQ h' r m n born → Keeps [r] h h' → K (.tuple #[v, .int .i64 born]) h') : SemR P (Instr.mapEntry T (.map (some r)) (.int .i64 n)) bs h K := by
  by_cases hn : lookI m n = none
  · refine SemR.entryNew hu hk hi hz o ((lookI_none m n).1 hn) hb fun h' born s p k => H h' z born s (.inl ⟨hn, p⟩) k
  · unfold SemR
    intro hlt w hw
    subst hw
    have hr := o.lt
    obtain ⟨es, cl, h1, h2, h3, h4, h5⟩ := o
    obtain ⟨q, h6, h7, h8⟩ := findNow_look es.toList m n 0 h2
    obtain ⟨p, rfl⟩ : ∃ p, q = some p := by
      cases q with
      | none => exact absurd (by simpa using h7.symm) hn
      | some p => exact ⟨p, rfl⟩
    obtain ⟨j, hj1, hj2, hj3⟩ := h8 p rfl
    have hj : p.1 = j := by omega
    have hjl : j < es.size := by simpa using hj2
    have hkey : (es[j]'hjl).key = .int .i64 n := by
      have := congrArg (fun l => l[j]?) h2
      simp only [List.getElem?_map] at this
      cases hm : m[j]? with
      | none => rw [hm] at hj3; simp at hj3
      | some q =>
        rw [hm] at this hj3
        simp at hj3
        simp [hjl] at this
        rw [this.1, hj3]
    have hmod : (es.modify j fun e => { e with key := .int .i64 n }) = es := by
      apply Array.ext
      · simp
      · intro i i1 i2
        rw [Array.getElem_modify]
        split
        · rename_i e; subst e
          cases he : es[j]'hjl
          rw [he] at hkey
          simp at hkey
          simp [hkey]
        · rfl
    refine ⟨.tuple #[p.2, .int .i64 ((es[j]'hjl).born : Int)], { w with heap := w.heap.setIfInBounds r (.map es cl) }, ?_, ⟨rfl, rfl, rfl⟩, fun b hb' => ?_, H _ _ _ (by simp) (.inr ⟨es, cl, j, hjl, by rw [set_get _ _ _ _ hr, if_pos rfl], h2, h3, h4, h5, hj3, rfl, hkey⟩) (keeps_set _ _ _ hr)⟩
    · simp only [Instr.mapEntry, Sem.run_bind, underlying_run P T w hu, Result.andThen_ok, getObj_run h1]
      rw [checkKey_plain hk (.inl ⟨_, rfl⟩)]
      simp only [Result.andThen_ok, findKey_now hk h6 w]
      rw [hj]
      have hold : ((es[j]?).map (·.key)).getD (Value.int .i64 n) = .int .i64 n := by simp [hjl, hkey]
      have hbn : ((es[j]?).map (fun x => (x.born : Int))).getD 0 = ((es[j]'hjl).born : Int) := by simp [hjl]
      simp only [hold, hbn, Instr.keyThatStays, Instr.sameBits, beq_self_eq_true, Bool.and_self, if_true, Sem.run_bind, Sem.run_pure, Result.andThen_ok]
      have he2 : (es.modify j fun e => { key := Value.int IntKind.i64 n, val := e.val, born := e.born }) = es := hmod
      rw [he2, setObj_run h1]
      rfl
    · show (w.heap.setIfInBounds r _)[b]? = _
      rw [set_get _ _ _ _ hr, if_neg (by intro e; subst e; exact hb hb')]

theorem SemR.entryStoreAny {P : Program} {T : TypeId} {h : Heap} {r : Nat} {m : List (Int × Value)} {n born : Int} (o : MapQ h r m n born) {v : Value} {bs : List Nat} (hb : r ∉ bs)
    {K : Unit → Heap → Prop} (H : ∀ h', h'.size = h.size → MapL h' r (putI m n v) → Keeps [r] h h' → K () h') : SemR P (Instr.entryStore T (.map (some r)) (.int .i64 born) v) bs h K := by
  rcases o with ⟨hn, o⟩ | o
  · exact SemR.entryStore o hb fun h' s M k => H h' s (by rw [put_push m n v hn]; exact M) k
  · unfold SemR
    intro hlt w hw
    subst hw
    obtain ⟨es, cl, j, hj, h1, h2, h3, h4, h5, h6, rfl, hkey⟩ := o
    have hr := obj_lt h1
    have hg := getObj_run (P := P) h1
    have hfind : es.findIdx? (fun e => (e.born : Int) == ((es[j]'hj).born : Int)) = some j := by
      rw [Array.findIdx?_eq_some_iff_getElem]
      refine ⟨hj, by simp, fun i hi => ?_⟩
      have hne : (es[i]'(by omega)).born ≠ (es[j]'hj).born := by
        intro e
        have hp := List.pairwise_iff_getElem.1 h4 i j (by simpa using (by omega : i < es.size)) (by simpa using hj) hi
        simp at hp
        exact hp e
      simp
      omega
    have hmod : (es.modify j fun e => { e with val := v }) = es.modify j fun e => { e with key := .int .i64 n, val := v } := modify_same _ _ _ _ fun hj' => by
      cases he : es[j]'hj'
      rw [he] at hkey
      simp at hkey
      simp [hkey]
    have hs := setObj_run (P := P) h1 (.map (es.modify j fun e => { e with val := v }) cl)
    refine ⟨(), { w with heap := w.heap.setIfInBounds r (.map (es.modify j fun e => { e with val := v }) cl) }, ?_, ⟨rfl, rfl, rfl⟩, fun b hb' => ?_, H _ (by simp) ⟨es.modify j fun e => { e with val := v }, cl, by rw [set_get _ _ _ _ hr, if_pos rfl], ?_, ?_, ?_, ?_⟩ (keeps_set _ _ _ hr)⟩
    · simp [Instr.entryStore, hg, asInt, asIntOf, hfind, hs]
    · show (w.heap.setIfInBounds r _)[b]? = _
      rw [set_get _ _ _ _ hr, if_neg (by intro e; subst e; exact hb hb')]
    · rw [hmod, Array.toList_modify]; exact put_modify es.toList m n v j h2 h3 h6
    · rw [putI_keys]
      have : n ∈ m.map (·.1) := by
        simp only [Option.map_eq_some_iff] at h6
        obtain ⟨q, hq, rfl⟩ := h6
        exact List.mem_map.2 ⟨q, List.mem_of_getElem? hq, rfl⟩
      rw [if_pos this]; exact h3
    · have : (es.modify j fun e => { e with val := v }).toList.map (·.born) = es.toList.map (·.born) := by
        rw [Array.toList_modify]
        apply List.ext_getElem?
        intro i
        simp only [List.getElem?_map, List.getElem?_modify]
        cases es.toList[i]? with
        | none => simp
        | some e => by_cases hij : j = i <;> simp [hij]
      rw [this]; exact h4
    · intro e he
      rw [Array.toList_modify] at he
      obtain ⟨i, hi⟩ := List.getElem?_of_mem he
      rw [List.getElem?_modify] at hi
      cases hee : es.toList[i]? with
      | none => rw [hee] at hi; simp at hi
      | some e0 =>
        rw [hee] at hi
        simp at hi
        have := h5 e0 (List.mem_of_getElem? hee)
        rw [← hi]
        split <;> simpa using this
end Go.Eng
/-
  Layer 1: a field of a word.
-/
set_option linter.all false
set_option maxRecDepth 100000
set_option maxHeartbeats 1000000
namespace Go.Proofs.YtkjkdnphikendaaGreatDoor
open Go Go.Eng

/-- the fields that there are -/
def fldOk (at_ width : Nat) : Prop := at_ + width ≤ 64 ∧ 1 ≤ width ∧ width ≤ 32 ∧ (width = 8 ∨ width = 16 ∨ width = 32)

theorem mask_spec (at_ width : Nat) (hf : fldOk at_ width) (h : Heap) : CallH Tryz.prog 169 [.int .i64 (at_ : Int), .int .i64 (width : Int)] h (fun v h' => Keeps [] h h' ∧ v = wv (maskW width)) := by
  unfold fldOk at hf
  have e : IntKind.i64.wrap (64 - (width : Int)) = ((64 - width : Nat) : Int) := wrapN (by omega) (by omega)
  refine call_of hmix Tryz.func169 rfl ok169 (by simp [Tryz.f169]) ?_
  conv => whnf
  refine IfR.f (by simp [bif_or, e]; omega) ?_
  conv => whnf
  refine Need.i (by rw [e]; omega) ?_
  conv => whnf
  refine ⟨Keeps.refl _ _, ?_⟩
  rw [e]
  rcases hf.2.2.2 with rfl | rfl | rfl <;> rfl
theorem len64_spec (n : Nat) (hn : n < 65536) (h : Heap) : CallH Tryz.prog 212 [.int .u64 (n : Int)] h (fun v h' => Keeps [] h h' ∧ ∃ L : Nat, v = .int .i64 (L : Int) ∧ L ≤ 16 ∧ (n < 256 → L ≤ 8)) := by
  refine call_of hmix Tryz.func212 rfl ok212 (by simp [Tryz.f212]) ?_
  conv => whnf
  refine MeetR.pass ?_
  conv => whnf
  first | refine IfR.f (by simp; omega) ?_ | (refine MeetR.pass ?_; (conv => whnf); refine IfR.f (by simp; omega) ?_)
  conv => whnf
  first | refine IfR.f (by simp; omega) ?_ | (refine MeetR.pass ?_; (conv => whnf); refine IfR.f (by simp; omega) ?_)
  conv => whnf
  first | refine IfR.i (fun hc => ?_) (fun hc => ?_) | (refine MeetR.pass ?_; (conv => whnf); refine IfR.i (fun hc => ?_) (fun hc => ?_))
  · conv => whnf
    refine Need.i (by decide) ?_
    conv => whnf
    have e : IntKind.u8.wrap ((n : Int).fdiv (2 ^ min (Int.toNat 8) IntKind.u64.bits)) = ((n / 256 : Nat) : Int) := by
      have : (2 : Int) ^ min (Int.toNat 8) IntKind.u64.bits = 256 := by decide
      rw [this]
      have h2 : (n : Int).fdiv 256 = ((n / 256 : Nat) : Int) := by rw [Int.fdiv_eq_ediv_of_nonneg _ (by decide)]; simp
      rw [h2]
      rw [wrap_u8]; omega
    generalize hB : ByteArray.mk _ = B
    have hs : B.size = 256 := by rw [← hB]; rfl
    have hv : ∀ j, j < 256 → 0 ≤ byteN B j ∧ byteN B j ≤ 8 := by rw [← hB]; decide +kernel
    refine IdxR.i (n / 256) e (by omega) ?_
    conv => whnf
    have ⟨b0, b1⟩ := hv (n / 256) (by omega)
    refine ⟨Keeps.refl _ _, (8 + byteN B (n / 256)).toNat, ?_, by omega, fun hn => ?_⟩
    · rw [wrapI (x := (0 : Int) + 8) (by omega) (by omega), wrapI (x := byteN B (n / 256)) (by omega) (by omega), wrapI (by omega) (by omega)]
      (first | (congr 1; done) | (congr 1; omega))
    · simp at hc
      omega
  · conv => whnf
    have e : IntKind.u8.wrap (n : Int) = ((n : Nat) : Int) := by
      simp at hc
      rw [wrap_u8]; omega
    generalize hB : ByteArray.mk _ = B
    have hs : B.size = 256 := by rw [← hB]; rfl
    have hv : ∀ j, j < 256 → 0 ≤ byteN B j ∧ byteN B j ≤ 8 := by rw [← hB]; decide +kernel
    have hn2 : n < 256 := by simp at hc; omega
    refine IdxR.i n e (by omega) ?_
    conv => whnf
    have ⟨b0, b1⟩ := hv n hn2
    refine ⟨Keeps.refl _ _, (byteN B n).toNat, ?_, by omega, fun hn => by omega⟩
    rw [wrapI (x := byteN B n) (by omega) (by omega), wrapI (by omega) (by omega)]
    (first | (congr 1; done) | (congr 1; omega))

theorem bv_of (x : UInt64) : BitVec.ofInt 64 (x.toNat : Int) = x.toBitVec := by
  apply BitVec.eq_of_toNat_eq
  rw [BitVec.toNat_ofInt]
  have := x.toNat_lt
  show ((x.toNat : Int) % ((2 ^ 64 : Nat) : Int)).toNat = x.toNat
  omega
theorem shl_of (x : UInt64) {n : Nat} (h : n ≤ 63) : IntKind.u64.wrap ((x.toNat : Int) * 2 ^ min ((n : Int)).toNat IntKind.u64.bits) = (((x <<< UInt64.ofNat n).toNat : Nat) : Int) := by
  have hb : IntKind.u64.bits = 64 := rfl
  have hm : min ((n : Int)).toNat IntKind.u64.bits = n := by rw [hb]; omega
  rw [hm, UInt64.toNat_shiftLeft, ofN_nat h, Nat.mod_eq_of_lt (show n < 64 by omega), Nat.shiftLeft_eq, wrap_u64']
  have : (x.toNat : Int) * 2 ^ n = ((x.toNat * 2 ^ n : Nat) : Int) := by simp
  rw [this]
  omega
theorem shr_of (x : UInt64) {n : Nat} (h : n ≤ 63) : ((x.toNat : Int)).fdiv (2 ^ min ((n : Int)).toNat IntKind.u64.bits) = (((x >>> UInt64.ofNat n).toNat : Nat) : Int) := by
  have hb : IntKind.u64.bits = 64 := rfl
  have hm : min ((n : Int)).toNat IntKind.u64.bits = n := by rw [hb]; omega
  rw [hm, UInt64.toNat_shiftRight, ofN_nat h, Nat.mod_eq_of_lt (show n < 64 by omega), Nat.shiftRight_eq_div_pow, Int.fdiv_eq_ediv_of_nonneg _ (Int.le_of_lt (Int.pow_pos (by decide)))]
  simp
theorem wrap_bv (x : UInt64) : IntKind.u64.wrap (x.toBitVec.toNat : Int) = (x.toNat : Int) := by
  have := x.toNat_lt
  rw [wrap_u64']
  show ((x.toNat : Nat) : Int) % _ = _
  omega

theorem get_spec (w : UInt64) (at_ width : Nat) (hf : fldOk at_ width) (h : Heap) : CallH Tryz.prog 113 [wv w, .int .i64 (at_ : Int), .int .i64 (width : Int)] h (fun v h' => Keeps [] h h' ∧ v = .tuple #[wv (getF w at_ width), .int .i64 0]) := by
  refine call_of hmix Tryz.func113 rfl ok113 (by simp [Tryz.f113]) ?_
  conv => whnf
  refine CallR.i (mask_spec at_ width hf h) fun v h1 k1 hv => ?_
  subst hv
  unfold fldOk at hf
  have hm : (maskW width).toNat = 2 ^ width - 1 := maskW_nat (by omega)
  have hp : 2 ≤ 2 ^ width := by
    have : 2 ^ 1 ≤ 2 ^ width := Nat.pow_le_pow_right (by decide) hf.2.1
    simpa using this
  conv => whnf
  refine IfR.f (by simp; omega) ?_
  conv => whnf
  refine Need.i (by omega) ?_
  conv => whnf
  refine ⟨k1, ?_⟩
  have hb : IntKind.u64.bits = 64 := rfl
  have e := wrap_bv (getF w at_ width)
  unfold getF at e
  rw [UInt64.toBitVec_and] at e
  rw [shr_of w (show at_ ≤ 63 by omega), hb, bv_of, bv_of, e]
  rfl

theorem put_spec (w : UInt64) (at_ width : Nat) (hf : fldOk at_ width) (v : UInt64) (hv : v.toNat < 2 ^ width) (hs : v.toNat < 65536) (h : Heap) : CallH Tryz.prog 166 [wv w, .int .i64 (at_ : Int), .int .i64 (width : Int), wv v] h (fun r h' => Keeps [] h h' ∧ r = .tuple #[wv (putF w at_ width v), .int .i64 0]) := by
  refine call_of hmix Tryz.func166 rfl ok166 (by simp [Tryz.f166]) ?_
  conv => whnf
  refine CallR.i (mask_spec at_ width hf h) fun r h1 k1 hr => ?_
  subst hr
  unfold fldOk at hf
  have hm : (maskW width).toNat = 2 ^ width - 1 := maskW_nat (by omega)
  have hp : 2 ≤ 2 ^ width := by
    have : 2 ^ 1 ≤ 2 ^ width := Nat.pow_le_pow_right (by decide) hf.2.1
    simpa using this
  conv => whnf
  first | refine IfR.f (by simp; omega) ?_ | (refine MeetR.pass ?_; (conv => whnf); refine IfR.f (by simp; omega) ?_)
  conv => whnf
  refine CallR.i (len64_spec v.toNat hs h1) fun r h2 k2 hr => ?_
  obtain ⟨L, rfl, l1, l2⟩ := hr
  have hL : L ≤ width := by
    rcases hf.2.2.2 with rfl | rfl | rfl
    · exact l2 (by simpa using hv)
    · exact l1
    · omega
  conv => whnf
  refine IfR.f (by simp; omega) ?_
  conv => whnf
  refine Need.i (by omega) ?_
  conv => whnf
  refine Need.i (by omega) ?_
  conv => whnf
  refine ⟨k1.trans k2, ?_⟩
  have hb : IntKind.u64.bits = 64 := rfl
  rw [shl_of (maskW width) (show at_ ≤ 63 by omega), shl_of v (show at_ ≤ 63 by omega), hb, bv_of, bv_of, bv_of, ← UInt64.toBitVec_not, ← UInt64.toBitVec_and, wrap_bv (w &&& ~~~(maskW width <<< UInt64.ofNat at_)), bv_of, ← UInt64.toBitVec_or, wrap_bv]
  rfl
end Go.Proofs.YtkjkdnphikendaaGreatDoor
/-
  Layer 6: a card's words are written, and read.
-/
set_option linter.all false
set_option maxRecDepth 100000
set_option maxHeartbeats 1000000
namespace Go.Proofs.YtkjkdnphikendaaGreatDoor
open Go Go.Eng

/-- where the numbers of a card stand: word, place, width -/
def fldA (i : Nat) : Nat := if i < 3 then 0 else 2 + (i - 3) / 4
def fldP (i : Nat) : Nat := if i = 0 then 0 else if i = 1 then 8 else if i = 2 then 24 else 16 * ((i - 3) % 4)
def fldW (i : Nat) : Nat := if i = 0 then 8 else if i = 1 then 16 else if i = 2 then 32 else 16
def fldC (i : Nat) : List Value := [.int .i64 (fldA i), .int .i64 (fldP i), .int .i64 (fldW i)]
def fldsC : Nat → List Value
  | 0 => []
  | n + 1 => fldsC n ++ fldC n

theorem fields_spec (h : Heap) : CallH Tryz.prog 165 [] h (fun v h' => Keeps [] h h' ∧ ∃ b c fz sp, v = .slice (some ⟨b, 0, none⟩) 9 c ∧ 9 ≤ c ∧ h.size ≤ b ∧ h'[b]? = some (.cells ⟨fldsC 9 ++ sp⟩ 226 fz)) := by
  refine call_of hmix Tryz.func165 rfl ok165 (by simp [Tryz.f165]) ?_
  conv => whnf
  refine AllocR.i fun b1 h1 e1 s1 o1 k1 => ?_
  conv => whnf
  refine LoopR.on [1, 7] [] (fun q : Nat × Option Addr × Nat => [(1, .v (.slice q.2.1 (3 + q.1) q.2.2)), (7, .v (.int .i64 (q.1 : Int)))]) (fun _ => [])
    (fun q h' => q.1 ≤ 6 ∧ Keeps [] h h' ∧ Own h' 226 3 q.2.1 (3 + q.1) q.2.2 (fldsC (3 + q.1)) ∧ ∀ b ∈ blkA q.2.1, h.size ≤ b) (fun q => 6 - q.1) (0, some ⟨b1, 0, none⟩, 3) ?_ ?_
  · conv => whnf
    refine ⟨(0, some ⟨b1, 0, none⟩, 3), rfl, rfl, rfl, Nat.zero_le _, k1, ?_, fun b hb => by simp [blkA] at hb; omega⟩
    exact .inr ⟨b1, _, rfl, o1, rfl, rfl, rfl, Nat.le_refl _⟩
  · rintro ⟨i, ai, ci⟩ h2 ⟨hi, k2, O2, n2⟩
    simp only at hi O2 n2
    conv => whnf
    refine IfR.i (fun hc => ?_) (fun hc => ?_)
    · have hi6 : i < 6 := by simp at hc; omega
      conv => whnf
      refine Need.i (by decide) ?_
      conv => whnf
      refine Need.i (by decide) ?_
      conv => whnf
      refine AllocR.i fun b3 h3 e3 s3 o3 k3 => ?_
      have hval : ([.int .i64 (IntKind.i64.wrap (2 + IntKind.i64.wrap ((i : Int).tdiv 4))), .int .i64 (IntKind.i64.wrap (16 * ((i : Int).tmod 4))), .int .i64 16] : List Value) = fldC (3 + i) := by
        have : i = 0 ∨ i = 1 ∨ i = 2 ∨ i = 3 ∨ i = 4 ∨ i = 5 := by omega
        rcases this with rfl | rfl | rfl | rfl | rfl | rfl <;> rfl
      conv => whnf
      refine append_own (e := 226) (sz := 3) (by_ := 24) (n := 1) (new := fldC (3 + i)) rfl rfl rfl rfl rfl rfl rfl (O2.keep k3 (by simp)) rfl (fun j hj => ?_) rfl (by omega) (by decide) (by simp [blocksOf]) ?_
      · rw [← hval]
        have o3' : h3[b3]? = some (.cells ⟨[.int .i64 (IntKind.i64.wrap (2 + IntKind.i64.wrap ((i : Int).tdiv 4))), .int .i64 (IntKind.i64.wrap (16 * ((i : Int).tmod 4))), .int .i64 16]⟩ 226 (0, 0)) := o3
        simp only [Heap.cell?, o3']
        rw [Nat.zero_add]; simp
      intro a5 c5 h5 O5 k5 n5
      conv => whnf
      refine ⟨6 - (i + 1), by omega, ?_⟩
      conv => whnf
      refine ⟨(i + 1, a5, c5), rfl, ?_, rfl, by simp only; omega, (k2.trans k3).nil_of k5 n2, ?_, fun b hb => ?_⟩
      · simp only
        rw [wrapN (x := (i : Int) + 1) (n := i + 1) (by simp) (by omega)]
        rfl
      · exact O5
      · rcases n5 b hb with h | h
        · exact n2 b h
        · have := k2.size; omega
    · have hi6 : i = 6 := by simp at hc; omega
      subst hi6
      conv => whnf
      rcases O2 with ⟨_, h, _⟩ | ⟨b, c, rfl, o, t, l1, _, cl⟩
      · cases h
      · refine ⟨k2, b, ci, (0, 0), c.drop 27, rfl, cl, n2 b (by simp [blkA]), ?_⟩
        rw [o]
        have : c = fldsC 9 ++ c.drop 27 := by
          have e : (fldsC (3 + 6)).length = 27 := rfl
          rw [e] at t
          rw [show fldsC 9 = fldsC (3 + 6) from rfl, ← t, List.take_append_drop]
        rw [← this]

/-- a card's numbers, as its fields have them -/
def numsL (c : Crd) : List Int := [c.kind, c.links, c.size, c.d0 + 1, c.d1 + 1, c.d2 + 1, c.d3 + 1, c.d4 + 1, c.more + 1]

theorem numbers_spec (c : Crd) (B : CrdB c) (h : Heap) : CallH Tryz.prog 164 [.agg ⟨c.cells⟩] h (fun v h' => Keeps [] h h' ∧ ∃ b q, v = .slice (some ⟨b, 0, none⟩) 9 q ∧ Sl h' (some ⟨b, 0, none⟩) 9 q (numsL c) ∧ h.size ≤ b) := by
  have B0 := B.d0
  have B1 := B.d1
  have B2 := B.d2
  have B3 := B.d3
  have B4 := B.d4
  have Bm := B.m
  refine call_of hmix Tryz.func164 rfl ok164 (by simp [Tryz.f164]) ?_
  conv => whnf
  refine AllocR.i fun b1 h1 e1 s1 o1 k1 => ?_
  conv => whnf
  refine AllocR.i fun b2 h2 e2 s2 o2 k2 => ?_
  conv => whnf
  refine LoopR.on [1, 3, 14, 15] [1] (fun q : Nat × Option Addr × Nat => [(1, .lp 1 0), (3, .v (.slice q.2.1 (3 + q.1) q.2.2)), (14, .v (.agg ⟨[.int .i64 c.d0, .int .i64 c.d1, .int .i64 c.d2, .int .i64 c.d3, .int .i64 c.d4]⟩)), (15, .v (.int .i64 (q.1 : Int)))]) (fun _ => [(1, b1, c.cells)])
    (fun q h' => q.1 ≤ 5 ∧ Keeps [] h1 h' ∧ Own h' 3 1 q.2.1 (3 + q.1) q.2.2 (((numsL c).take (3 + q.1)).map fun x => .int .i64 x) ∧ ∀ b ∈ blkA q.2.1, h1.size ≤ b) (fun q => 5 - q.1) (0, some ⟨b2, 0, none⟩, 3) ?_ ?_
  · conv => whnf
    refine ⟨(0, some ⟨b2, 0, none⟩, 3), rfl, rfl, rfl, Nat.zero_le _, k2, ?_, fun b hb => by simp [blkA] at hb; omega⟩
    exact .inr ⟨b2, _, rfl, o2, rfl, rfl, rfl, Nat.le_refl _⟩
  · rintro ⟨i, ai, ci⟩ h3 ⟨hi, k3, O3, n3⟩
    simp only at hi O3 n3
    conv => whnf
    refine IfR.i (fun hc => ?_) (fun hc => ?_)
    · have hi5 : i < 5 := by simp at hc; omega
      conv => whnf
      refine IdxR.i i rfl hi5 ?_
      conv => whnf
      refine NthR.i (v := .int .i64 (c.direct[i]'(by simpa [Crd.direct] using hi5))) ?_ ?_
      · have : i = 0 ∨ i = 1 ∨ i = 2 ∨ i = 3 ∨ i = 4 := by omega
        rcases this with rfl | rfl | rfl | rfl | rfl <;> rfl
      conv => whnf
      refine AllocR.i fun b4 h4 e4 s4 o4 k4 => ?_
      have hw : IntKind.i64.wrap ((c.direct[i]'(by simpa [Crd.direct] using hi5)) + 1) = (numsL c)[3 + i]'(by simp [numsL]; omega) := by
        have : i = 0 ∨ i = 1 ∨ i = 2 ∨ i = 3 ∨ i = 4 := by omega
        rcases this with rfl | rfl | rfl | rfl | rfl <;> exact wrapI (by simp [Crd.direct]; omega) (by simp [Crd.direct]; omega)
      conv => whnf
      refine append_own (e := 3) (sz := 1) (by_ := 8) (n := 1) (new := [.int .i64 ((numsL c)[3 + i]'(by simp [numsL]; omega))]) rfl rfl rfl rfl rfl rfl rfl (O3.keep k4 (by simp)) rfl (fun j hj => ?_) rfl (by omega) (by decide) (fun x hx hm => by
        have := n3 x hx
        have e : x = b1 := by simpa [blocksOf] using hm
        omega) ?_
      · rw [← hw]
        have o4' : h4[b4]? = some (.cells ⟨[.int .i64 (IntKind.i64.wrap ((c.direct[i]'(by simpa [Crd.direct] using hi5)) + 1))]⟩ 3 (0, 0)) := o4
        simp only [Heap.cell?, o4']
        rw [Nat.zero_add]; simp
      intro a5 c5 h5 O5 k5 n5
      conv => whnf
      refine ⟨5 - (i + 1), by omega, ?_⟩
      conv => whnf
      refine ⟨(i + 1, a5, c5), rfl, ?_, rfl, by simp only; omega, (k3.trans k4).nil_of k5 n3, ?_, fun b hb => ?_⟩
      · simp only
        rw [wrapN (x := (i : Int) + 1) (n := i + 1) (by simp) (by omega)]
        rfl
      · simp only
        rw [show 3 + (i + 1) = (3 + i) + 1 by omega, List.take_succ_eq_append_getElem (by simp [numsL]; omega), List.map_append]
        exact O5
      · rcases n5 b hb with h | h
        · exact n3 b h
        · have := k3.size; omega
    · have hi5 : i = 5 := by simp at hc; omega
      subst hi5
      conv => whnf
      refine AllocR.i fun b4 h4 e4 s4 o4 k4 => ?_
      have hw : IntKind.i64.wrap (c.more + 1) = c.more + 1 := wrapI (by omega) (by omega)
      conv => whnf
      refine append_own (e := 3) (sz := 1) (by_ := 8) (n := 1) (new := [.int .i64 (c.more + 1)]) rfl rfl rfl rfl rfl rfl rfl (O3.keep k4 (by simp)) rfl (fun j hj => ?_) rfl (by omega) (by decide) (fun x hx hm => by
        have := n3 x hx
        have e : x = b1 := by simpa [blocksOf] using hm
        omega) ?_
      · rw [← hw]
        have o4' : h4[b4]? = some (.cells ⟨[.int .i64 (IntKind.i64.wrap (c.more + 1))]⟩ 3 (0, 0)) := o4
        simp only [Heap.cell?, o4']
        rw [Nat.zero_add]; simp
      intro a5 c5 h5 O5 k5 n5
      conv => whnf
      have n5' : ∀ b ∈ blkA a5, h.size ≤ b := fun b hb => by
        rcases n5 b hb with h | h
        · have := n3 b h; omega
        · have := k3.size; omega
      have Q : Own h5 3 1 a5 9 c5 ((numsL c).map fun x => .int .i64 x) := O5
      have R := Q.sl (α := Int) (xs := numsL c) (reps_ints _ _ (by
        intro x hx
        have h1 := B.k
        have h2 := B.l
        have h3 := B.s
        simp only [numsL, List.mem_cons, List.not_mem_nil, or_false] at hx
        unfold inI64; omega)) rfl (by decide) (by simp [numsL])
      rcases O5 with ⟨_, h, _⟩ | ⟨b, cs, rfl, _⟩
      · cases h
      · exact ⟨k1.trans ((k3.trans k4).nil_of k5 n3), b, c5, rfl, R, n5' b (by simp [blkA])⟩
end Go.Proofs.YtkjkdnphikendaaGreatDoor
/-
  Layer 6: new cards; may a card be.
-/
set_option linter.all false
set_option maxRecDepth 100000
set_option maxHeartbeats 1000000
namespace Go.Proofs.YtkjkdnphikendaaGreatDoor
open Go Go.Eng

theorem none6_spec (v : UInt64) (h : Heap) : CallH Tryz.prog 162 [wv v] h (fun r h' => Keeps [] h h' ∧ r = .agg ⟨(noneC v).cells⟩) := by
  refine call_of hmix Tryz.func162 rfl ok162 (by simp [Tryz.f162]) ?_
  conv => whnf
  refine AllocR.i fun b1 h1 e1 s1 o1 k1 => ?_
  conv => whnf
  refine AllocR.i fun b2 h2 e2 s2 o2 k2 => ?_
  conv => whnf
  refine BoxR.i fun h3 s3 k3 => ?_
  conv => whnf
  refine LoopR.on [2, 3, 7] [2, 3] (fun i : Nat => [(2, .lp 2 0), (3, .lp 3 0), (7, .v (.int .i64 (i : Int)))]) (fun i => [(2, b1, Crd.zero.cells), (3, b2, [.int .i64 0, .int .i64 0, .int .i64 0, wv v, .int .i64 (if 0 < i then -1 else 0), .int .i64 (if 1 < i then -1 else 0), .int .i64 (if 2 < i then -1 else 0), .int .i64 (if 3 < i then -1 else 0), .int .i64 (if 4 < i then -1 else 0), .int .i64 (-1)])])
    (fun i h' => i ≤ 5 ∧ Keeps [] h h' ∧ h3.size ≤ h'.size) (fun i => 5 - i) 0 ?_ ?_
  · conv => whnf
    exact ⟨0, rfl, rfl, rfl, Nat.zero_le _, ((k1.trans k2).new1 k3 (by omega)), Nat.le_refl _⟩
  · rintro i h4 ⟨hi, k4, z4⟩
    conv => whnf
    refine IfR.i (fun hc => ?_) (fun hc => ?_)
    · have hi5 : i < 5 := by simp at hc; omega
      conv => whnf
      refine IdxR.i i rfl hi5 ?_
      conv => whnf
      refine Need.i (by show 4 + i * 1 + 1 ≤ 10; omega) ?_
      conv => whnf
      refine BoxR.i fun h5 s5 k5 => ?_
      conv => whnf
      refine ⟨5 - (i + 1), by omega, ?_⟩
      conv => whnf
      refine ⟨i + 1, rfl, by rw [wrapN (x := (i : Int) + 1) (n := i + 1) (by simp) (by omega)], ?_, by omega, k4.new1 k5 (by omega), by omega⟩
      have : i = 0 ∨ i = 1 ∨ i = 2 ∨ i = 3 ∨ i = 4 := by omega
      rcases this with rfl | rfl | rfl | rfl | rfl <;> rfl
    · have hi5 : i = 5 := by simp at hc; omega
      subst hi5
      conv => whnf
      refine BoxR.i fun h5 s5 k5 => ?_
      conv => whnf
      exact ⟨k4.new1 k5 (by omega), rfl⟩

theorem fresh6_spec (kind : Int) (v : UInt64) (h : Heap) : CallH Tryz.prog 106 [.int .i64 kind, wv v] h (fun r h' => Keeps [] h h' ∧ r = .tuple (if 1 ≤ kind ∧ kind ≤ 3 then #[.agg ⟨(freshC kind v).cells⟩, .int .i64 0] else #[.agg ⟨Crd.zero.cells⟩, .int .i64 1])) := by
  refine call_of hmix Tryz.func106 rfl ok106 (by simp [Tryz.f106]) ?_
  conv => whnf
  refine AllocR.i fun b1 h1 e1 s1 o1 k1 => ?_
  by_cases hk : 1 ≤ kind ∧ kind ≤ 3
  · rw [if_pos hk]
    have hk3 : kind = 1 ∨ kind = 2 ∨ kind = 3 := by omega
    rcases hk3 with rfl | rfl | rfl
    case' inl =>
      conv => whnf
      first | refine IfR.t rfl ?_ | (refine MeetR.pass ?_; (conv => whnf); refine IfR.t rfl ?_)
    case' inr.inl =>
      conv => whnf
      first | refine IfR.f rfl ?_ | (refine MeetR.pass ?_; (conv => whnf); refine IfR.f rfl ?_)
      conv => whnf
      first | refine IfR.t rfl ?_ | (refine MeetR.pass ?_; (conv => whnf); refine IfR.t rfl ?_)
    case' inr.inr =>
      conv => whnf
      first | refine IfR.f rfl ?_ | (refine MeetR.pass ?_; (conv => whnf); refine IfR.f rfl ?_)
      conv => whnf
      first | refine IfR.f rfl ?_ | (refine MeetR.pass ?_; (conv => whnf); refine IfR.f rfl ?_)
    all_goals
      conv => whnf
      first | refine IfR.t rfl ?_ | (refine MeetR.pass ?_; (conv => whnf); refine IfR.t rfl ?_)
      conv => whnf
      refine CallR.i (none6_spec v h1) fun v2 h2 k2 hv => ?_
      subst hv
      conv => whnf
      refine AllocR.i fun b3 h3 e3 s3 o3 k3 => ?_
      conv => whnf
      refine BoxR.i fun h4 s4 k4 => ?_
      conv => whnf
      refine BoxR.i fun h5 s5 k5 => ?_
      conv => whnf
      refine BoxR.i fun h6 s6 k6 => ?_
      conv => whnf
      refine BoxR.i fun h7 s7 k7 => ?_
      conv => whnf
      have z2 := k2.size
      exact ⟨((((k1.trans (k2.trans k3)).new1 k4 (by omega)).new1 k5 (by omega)).new1 k6 (by omega)).new1 k7 (by omega), rfl⟩
  · rw [if_neg hk]
    conv => whnf
    first | refine IfR.f (by simp; omega) ?_ | (refine MeetR.pass ?_; (conv => whnf); refine IfR.f (by simp; omega) ?_)
    conv => whnf
    first | refine IfR.f (by simp; omega) ?_ | (refine MeetR.pass ?_; (conv => whnf); refine IfR.f (by simp; omega) ?_)
    conv => whnf
    first | refine IfR.f (by simp; omega) ?_ | (refine MeetR.pass ?_; (conv => whnf); refine IfR.f (by simp; omega) ?_)
    conv => whnf
    refine BoxR.i fun h2 s2 k2 => ?_
    conv => whnf
    exact ⟨k1.new1 k2 (by omega), rfl⟩

theorem odd6_spec (n : Int) (h : Heap) : CallH Tryz.prog 211 [.int .i64 n] h (fun v h' => Keeps [] h h' ∧ v = .bool (oddB n)) := by
  refine call_of hmix Tryz.func211 rfl ok211 (by simp [Tryz.f211]) ?_
  conv => whnf
  refine ⟨Keeps.refl _ _, ?_⟩
  congr 1

theorem indexOdd6_spec {h : Heap} {a : Option Addr} {n c : Nat} {xs : List Int} (S : Sl h a n c xs) (hn : n ≤ 1000000000) :
    CallH Tryz.prog 193 [.slice a n c, .func (.func 211) #[] #[]] h (fun v h' => Keeps [] h h' ∧ v = .int .i64 (idxF oddB xs 0)) := by
  have hl := S.hlen
  refine call_of hmix Tryz.func193 rfl ok193 (by simp [Tryz.f193]) ?_
  conv => whnf
  refine LoopR.on [0, 1, 7, 8] [] (fun i : Nat => [(0, .v (.slice a n c)), (1, .v (.func (.func 211) #[] #[])), (7, .v (.int .i64 (n : Int))), (8, .v (.int .i64 (i : Int)))]) (fun _ => [])
    (fun i h' => i ≤ n ∧ Keeps [] h h' ∧ idxF oddB xs 0 = idxF oddB (xs.drop i) i) (fun i => n - i) 0 ?_ ?_
  · conv => whnf
    exact ⟨0, rfl, rfl, rfl, Nat.zero_le _, Keeps.refl _ _, rfl⟩
  · rintro i h2 ⟨hi, k2, hI⟩
    conv => whnf
    refine IfR.i (fun hc => ?_) (fun hc => ?_)
    · have hi1 : i < xs.length := by simp at hc; omega
      obtain ⟨b, off, hb, _, hcell⟩ := (S.keep k2).at1 i hi1
      rw [List.drop_eq_getElem_cons hi1] at hI
      simp only [idxF] at hI
      conv => whnf
      refine IdxS.i i rfl (by omega) hb ?_
      conv => whnf
      refine LoadR.i hcell ?_
      conv => whnf
      refine CallR.i (odd6_spec xs[i] h2) fun v h3 k3 hv => ?_
      subst hv
      conv => whnf
      refine IfR.i (fun hd => ?_) (fun hd => ?_)
      · conv => whnf
        rw [if_pos (by simpa using hd)] at hI
        exact ⟨k2.trans k3, by rw [hI]⟩
      · rw [if_neg (by simpa using hd)] at hI
        conv => whnf
        refine ⟨n - (i + 1), by omega, ?_⟩
        conv => whnf
        exact ⟨i + 1, rfl, by rw [wrapN (n := i + 1) (by simp) (by omega)], rfl, by omega, k2.trans k3, hI⟩
    · have hi1 : i = xs.length := by simp at hc; omega
      conv => whnf
      refine ⟨k2, ?_⟩
      rw [hI, hi1, List.drop_length]; rfl
theorem containsOdd6_spec {h : Heap} {a : Option Addr} {n c : Nat} {xs : List Int} (S : Sl h a n c xs) (hn : n ≤ 1000000000) :
    CallH Tryz.prog 137 [.slice a n c, .func (.func 211) #[] #[]] h (fun v h' => Keeps [] h h' ∧ v = .bool (xs.any oddB)) := by
  refine call_of hmix Tryz.func137 rfl ok137 (by simp [Tryz.f137]) ?_
  conv => whnf
  refine CallR.i (indexOdd6_spec S hn) fun v h1 k1 hv => ?_
  subst hv
  conv => whnf
  refine ⟨k1, ?_⟩
  rw [← idxF_any oddB xs 0]

theorem eqT_five (a b : Crd) : eqT Tryz.prog 10000 62 (.agg ⟨[.int .i64 a.d0, .int .i64 a.d1, .int .i64 a.d2, .int .i64 a.d3, .int .i64 a.d4]⟩) (.agg ⟨[.int .i64 b.d0, .int .i64 b.d1, .int .i64 b.d2, .int .i64 b.d3, .int .i64 b.d4]⟩) = some (decide (a.direct = b.direct)) := by
  have h : eqT Tryz.prog 10000 62 (.agg ⟨[.int .i64 a.d0, .int .i64 a.d1, .int .i64 a.d2, .int .i64 a.d3, .int .i64 a.d4]⟩) (.agg ⟨[.int .i64 b.d0, .int .i64 b.d1, .int .i64 b.d2, .int .i64 b.d3, .int .i64 b.d4]⟩) = some ((a.d0 == b.d0) && ((a.d1 == b.d1) && ((a.d2 == b.d2) && ((a.d3 == b.d3) && ((a.d4 == b.d4) && true))))) := rfl
  rw [h]
  congr 1
  rw [Bool.eq_iff_iff]
  simp [Crd.direct]

theorem right6_spec (c : Crd) (h : Heap) (hc : c.ok) : CallH Tryz.prog 163 [.agg ⟨c.cells⟩] h (fun v h' => Keeps [] h h' ∧ v = .bool (rightC c)) := by
  refine call_of hmix Tryz.func163 rfl ok163 (by simp [Tryz.f163]) ?_
  conv => whnf
  refine AllocR.i fun b1 h1 e1 s1 o1 k1 => ?_
  conv => whnf
  refine LoadR.o o1 rfl ?_
  conv => whnf
  first | refine IfR.i (fun hd => ?_) (fun hd => ?_) | (refine MeetR.pass ?_; (conv => whnf); refine IfR.i (fun hd => ?_) (fun hd => ?_))
  · have h0 : c.kind = 0 := by simpa using hd
    conv => whnf
    refine LoadR.o o1 rfl ?_
    conv => whnf
    refine CallR.i (none6_spec c.ver h1) fun v h2 k2 hv => ?_
    subst hv
    conv => whnf
    refine AllocR.i fun b3 h3 e3 s3 o3 k3 => ?_
    conv => whnf
    refine BoxR.i fun h4 s4 k4 => ?_
    have k14 : Keeps [] h1 h4 := (k2.trans k3).new1 k4 (by have := k2.size; omega)
    conv => whnf
    refine LoadN.o (k14.obj o1 (by simp)) rfl ?_
    conv => whnf
    refine PureR.eqAgg (by kernel_rfl) (eqT_five c (noneC c.ver)) ?_
    conv => whnf
    refine LoadN.o (k14.obj o1 (by simp)) rfl ?_
    conv => whnf
    refine PureR.eqAgg (by kernel_rfl) (eqT_crd c (noneC c.ver)) ?_
    conv => whnf
    refine ⟨k1.trans k14, ?_⟩
    unfold rightC; rw [if_pos h0, bif_and]
    congr 1
    by_cases e : c = noneC c.ver
    · rw [decide_eq_true e, ← e]; simp
    · rw [decide_eq_false e]; simp
  · have h0 : ¬ c.kind = 0 := by simpa using hd
    by_cases hk : 1 ≤ c.kind ∧ c.kind ≤ 3
    · have hk3 : c.kind = 1 ∨ c.kind = 2 ∨ c.kind = 3 := by omega
      have fin : ∀ b : Bool, (b = true ↔ (0 ≤ c.links ∧ c.links ≤ 255 ∧ 0 ≤ c.size ∧ c.size ≤ 2688) ∧ oddB c.more = false ∧ c.direct.any oddB = false) → Value.bool b = Value.bool (rightC c) := by
        intro b hb
        congr 1
        rw [Bool.eq_iff_iff, hb]
        unfold rightC
        rw [if_neg h0]
        have hd : (c.direct.any oddB = false) ↔ c.direct.all blockC = true := by
          rw [List.any_eq_false, List.all_eq_true]
          refine ⟨fun h x hx => ?_, fun h x hx => ?_⟩
          · have := h x hx
            simp [oddB, blockC] at this ⊢; omega
          · have := h x hx
            simp [oddB, blockC] at this ⊢; omega
        rw [hd]
        simp [oddB, blockC]
        constructor
        · rintro ⟨a1, a2, a3⟩; exact ⟨a3, by omega⟩
        · rintro ⟨a1, a2⟩; exact ⟨by omega, by omega, a1⟩
      rcases hk3 with hk3 | hk3 | hk3
      case' inl =>
        conv => whnf
        first | refine IfR.t (by rw [hk3]; rfl) ?_ | (refine MeetR.pass ?_; (conv => whnf); refine IfR.t (by rw [hk3]; rfl) ?_)
      case' inr.inl =>
        conv => whnf
        first | refine IfR.f (by rw [hk3]; rfl) ?_ | (refine MeetR.pass ?_; (conv => whnf); refine IfR.f (by rw [hk3]; rfl) ?_)
        conv => whnf
        first | refine IfR.t (by rw [hk3]; rfl) ?_ | (refine MeetR.pass ?_; (conv => whnf); refine IfR.t (by rw [hk3]; rfl) ?_)
      case' inr.inr =>
        conv => whnf
        first | refine IfR.f (by rw [hk3]; rfl) ?_ | (refine MeetR.pass ?_; (conv => whnf); refine IfR.f (by rw [hk3]; rfl) ?_)
        conv => whnf
        first | refine IfR.f (by rw [hk3]; rfl) ?_ | (refine MeetR.pass ?_; (conv => whnf); refine IfR.f (by rw [hk3]; rfl) ?_)
      all_goals
        conv => whnf
        first | refine IfR.t (by first | rfl | (rw [hk3]; rfl)) ?_ | (refine MeetR.pass ?_; (conv => whnf); refine IfR.t (by first | rfl | (rw [hk3]; rfl)) ?_)
        conv => whnf
        refine LoadR.o o1 rfl ?_
        conv => whnf
        refine LoadR.o o1 rfl ?_
        conv => whnf
        refine LoadR.o o1 rfl ?_
        conv => whnf
        refine LoadR.o o1 rfl ?_
        conv => whnf
        refine LoadR.o o1 rfl ?_
        have S5 : ∀ h', Keeps [] h1 h' → Sl h' (some ⟨b1, 4, none⟩) 5 5 c.direct := fun h' kk => ⟨rfl, Nat.le_refl _, by simp [Crd.direct], fun i hi => ⟨b1, 4, rfl, [.int .i64 c.direct[i]], ⟨rfl, hc.2.2.2.1 _ (List.getElem_mem hi)⟩, fun j hj => by
          have hj0 : j = 0 := by simpa using hj
          subst hj0
          have o14 := kk.obj o1 (by simp)
          simp only [Heap.cell?, o14]
          have hi' : i < 5 := hi
          have : i = 0 ∨ i = 1 ∨ i = 2 ∨ i = 3 ∨ i = 4 := by omega
          rcases this with rfl | rfl | rfl | rfl | rfl <;> rfl⟩⟩
        conv => whnf
        refine IfR.i (fun g1 => ?_) (fun g1 => ?_)
        · conv => whnf
          refine CallR.i (odd6_spec c.more h1) fun v h2 k2 hv => ?_
          subst hv
          conv => whnf
          refine PureR.i (v := .slice (some ⟨b1, 4, none⟩) 5 5) (fun w => rfl) ?_
          conv => whnf
          refine IfR.i (fun g2 => ?_) (fun g2 => ?_)
          · conv => whnf
            refine CallR.i (containsOdd6_spec (S5 h2 k2) (by decide)) fun v h3 k3 hv => ?_
            subst hv
            conv => whnf
            refine ⟨k1.trans (k2.trans k3), fin _ ?_⟩
            simp [bif_and] at g1 g2 ⊢
            constructor
            · rintro ⟨⟨⟨⟨⟨a, b⟩, c⟩, d⟩, e⟩, f⟩; exact ⟨⟨a, b, c, d⟩, e, f⟩
            · rintro ⟨⟨a, b, c, d⟩, e, f⟩; exact ⟨⟨⟨⟨⟨a, b⟩, c⟩, d⟩, e⟩, f⟩
          · conv => whnf
            refine ⟨k1.trans k2, fin _ ?_⟩
            simp [bif_and] at g1 g2 ⊢
            have := g2 g1.1.1.1 g1.1.1.2 g1.1.2 g1.2
            rw [this]; simp
        · conv => whnf
          refine PureR.i (v := .slice (some ⟨b1, 4, none⟩) 5 5) (fun w => rfl) ?_
          conv => whnf
          refine IfR.i (fun g2 => ?_) (fun g2 => ?_)
          · exfalso
            simp [bif_and] at g1 g2
            have := g1 g2.1.1.1 g2.1.1.2 g2.1.2
            omega
          · conv => whnf
            refine ⟨k1, fin _ ?_⟩
            simp [bif_and] at g1 g2 ⊢
            constructor
            · rintro ⟨⟨⟨a, b⟩, c⟩, d⟩
              have := g1 a b c
              omega
            · rintro ⟨⟨a, b, c, d⟩, _⟩
              have := g1 a b c
              omega
    · conv => whnf
      first | refine IfR.f (by simp; omega) ?_ | (refine MeetR.pass ?_; (conv => whnf); refine IfR.f (by simp; omega) ?_)
      conv => whnf
      first | refine IfR.f (by simp; omega) ?_ | (refine MeetR.pass ?_; (conv => whnf); refine IfR.f (by simp; omega) ?_)
      conv => whnf
      first | refine IfR.f (by simp; omega) ?_ | (refine MeetR.pass ?_; (conv => whnf); refine IfR.f (by simp; omega) ?_)
      conv => whnf
      refine ⟨k1, ?_⟩
      unfold rightC
      rw [if_neg h0]
      have : (decide (1 ≤ c.kind) && decide (c.kind ≤ 3)) = false := by simp; omega
      rw [this]; simp
end Go.Proofs.YtkjkdnphikendaaGreatDoor
/-
  Layer 6: a card's words are written.
-/
set_option linter.all false
set_option maxRecDepth 100000
set_option maxHeartbeats 4000000
namespace Go.Proofs.YtkjkdnphikendaaGreatDoor
open Go Go.Eng

def kWi (c : Crd) : Nat → UInt64
  | 0 => 0
  | 1 => putF 0 0 8 (w64 c.kind)
  | 2 => putF (putF 0 0 8 (w64 c.kind)) 8 16 (w64 c.links)
  | _ + 3 => fldK c
def dWi (c : Crd) : Nat → UInt64
  | 0 => 0
  | 1 => 0
  | 2 => 0
  | 3 => 0
  | 4 => putF 0 0 16 (w64 (c.d0 + 1))
  | 5 => putF (putF 0 0 16 (w64 (c.d0 + 1))) 16 16 (w64 (c.d1 + 1))
  | 6 => putF (putF (putF 0 0 16 (w64 (c.d0 + 1))) 16 16 (w64 (c.d1 + 1))) 32 16 (w64 (c.d2 + 1))
  | _ + 7 => fldD c
def mWi (c : Crd) : Nat → UInt64
  | 0 => 0
  | 1 => 0
  | 2 => 0
  | 3 => 0
  | 4 => 0
  | 5 => 0
  | 6 => 0
  | 7 => 0
  | 8 => putF 0 0 16 (w64 (c.d4 + 1))
  | _ + 9 => fldM c
/-- a card's words, so many fields laid -/
def cWi (c : Crd) (i : Nat) : List UInt64 := [kWi c i, c.ver, dWi c i, mWi c i, 0, 0, 0, 0]

theorem num_small {c : Crd} (B : CrdB c) : ∀ i (hi : i < (numsL c).length), 0 ≤ (numsL c)[i] ∧ (numsL c)[i] < 65536 ∧ (numsL c)[i] < 2 ^ fldW i := by
  intro i hi
  have h1 := B.k
  have h2 := B.l
  have h3 := B.s
  have h4 := B.d0
  have h5 := B.d1
  have h6 := B.d2
  have h7 := B.d3
  have h8 := B.d4
  have h9 := B.m
  have hi' : i < 9 := hi
  have : i = 0 ∨ i = 1 ∨ i = 2 ∨ i = 3 ∨ i = 4 ∨ i = 5 ∨ i = 6 ∨ i = 7 ∨ i = 8 := by omega
  rcases this with rfl | rfl | rfl | rfl | rfl | rfl | rfl | rfl | rfl <;> simp [numsL, fldW] <;> omega

theorem write6_spec (c : Crd) (hc : c.ok) (h : Heap) : CallH Tryz.prog 107 [.agg ⟨c.cells⟩] h (fun v h' => Keeps [] h h' ∧
    if rightC c = true then ∃ b, v = .tuple #[.slice (some ⟨b, 0, none⟩) 8 8, .int .i64 0] ∧ h.size ≤ b ∧ h'[b]? = some (.cells ⟨(cardW c).map wv⟩ 56 (0, 0)) else v = .tuple #[.slice none 0 0, .int .i64 1]) := by
  refine call_of hmix Tryz.func107 rfl ok107 (by simp [Tryz.f107]) ?_
  conv => whnf
  refine AllocR.i fun b1 h1 e1 s1 o1 k1 => ?_
  conv => whnf
  refine CallR.i (right6_spec c h1 hc) fun v h2 k2 hv => ?_
  subst hv
  cases hr : rightC c with
  | false =>
    conv => whnf
    refine IfR.t rfl ?_
    conv => whnf
    exact ⟨k1.trans k2, rfl⟩
  | true =>
    have B := rightC_b hr
    conv => whnf
    refine IfR.f rfl ?_
    conv => whnf
    refine SemR.make (n := 8) rfl rfl rfl rfl rfl (by decide) (by decide) fun b3 h3 e3 s3 o3 k3 => ?_
    have z2 := k2.size
    conv => whnf
    refine IdxS.i 1 rfl (by decide) rfl ?_
    conv => whnf
    refine StoreR.i o3 (Nat.le_of_ble_eq_true rfl) (by simp [blocksOf, setB]; omega) fun h4 s4 o4 k4 => ?_
    have k04 : Keeps [] h h4 := (k1.trans (k2.trans k3)).new1 k4 (by omega)
    conv => whnf
    refine CallR.i (numbers_spec c B h4) fun v h5 k5 hv => ?_
    obtain ⟨b5, q5, rfl, S5, hb5⟩ := hv
    have o4' : h4[b3]? = some (.cells ⟨(cWi c 0).map wv⟩ 56 (0, 0)) := o4
    conv => whnf
    refine LoopR.on [4, 19, 20, 21] [] (fun i : Nat => [(4, .v (.slice (some ⟨b3, 0, none⟩) 8 8)), (19, .v (.slice (some ⟨b5, 0, none⟩) 9 q5)), (20, .v (.int .i64 9)), (21, .v (.int .i64 (i : Int)))]) (fun _ => [])
      (fun i h' => i ≤ 9 ∧ Keeps [b3] h4 h' ∧ h5.size ≤ h'.size ∧ Sl h' (some ⟨b5, 0, none⟩) 9 q5 (numsL c) ∧ h'[b3]? = some (.cells ⟨(cWi c i).map wv⟩ 56 (0, 0))) (fun i => 9 - i) 0 ?_ ?_
    · conv => whnf
      exact ⟨0, rfl, rfl, rfl, Nat.zero_le _, k5.mono (by simp), Nat.le_refl _, S5, k5.obj o4' (by simp)⟩
    · rintro i h6 ⟨hi, k6, z6, S6, o6⟩
      conv => whnf
      refine IfR.i (fun hd => ?_) (fun hd => ?_)
      · have hi9 : i < 9 := by simp at hd; omega
        obtain ⟨n0, n1, n2⟩ := num_small B i hi9
        obtain ⟨b, off, hb', _, hcell⟩ := S6.at1 i hi9
        conv => whnf
        refine IdxS.i i rfl hi9 hb' ?_
        conv => whnf
        refine LoadR.i hcell ?_
        conv => whnf
        refine CallR.i (fields_spec h6) fun v h7 k7 hv => ?_
        obtain ⟨bf, cf, fz, sp, rfl, hcf, hbf, o7⟩ := hv
        conv => whnf
        refine IdxS.i i rfl hi9 rfl ?_
        have o6' := k7.obj o6 (by simp)
        have hfield : takeL 3 (dropL (0 + i * 3) (fldsC 9 ++ sp)) = some (fldC i) := by
          have : i = 0 ∨ i = 1 ∨ i = 2 ∨ i = 3 ∨ i = 4 ∨ i = 5 ∨ i = 6 ∨ i = 7 ∨ i = 8 := by omega
          rcases this with rfl | rfl | rfl | rfl | rfl | rfl | rfl | rfl | rfl <;> rfl
        conv => whnf
        refine LoadN.o (vs := fldC i) o7 hfield ?_
        conv => whnf
        refine AllocR.i fun b8 h8 e8 s8 o8 k8 => ?_
        conv => whnf
        refine BoxR.i fun h9 s9 k9 => ?_
        have k79 : Keeps [] h7 h9 := k8.new1 k9 (by omega)
        have hA : fldA i < 8 := by
          unfold fldA; split <;> omega
        have hF : fldOk (fldP i) (fldW i) := by
          have : i = 0 ∨ i = 1 ∨ i = 2 ∨ i = 3 ∨ i = 4 ∨ i = 5 ∨ i = 6 ∨ i = 7 ∨ i = 8 := by omega
          rcases this with rfl | rfl | rfl | rfl | rfl | rfl | rfl | rfl | rfl <;> (unfold fldOk; decide)
        have hcl : (cWi c i).length = 8 := rfl
        conv => whnf
        refine IdxS.i (fldA i) rfl hA rfl ?_
        conv => whnf
        refine LoadR.o (v := wv ((cWi c i)[fldA i]'(by omega))) (k79.obj o6' (by simp)) ?_ ?_
        · rw [nth_eq]
          show ((cWi c i).map wv)[0 + fldA i * 1]? = _
          rw [show 0 + fldA i * 1 = fldA i by omega]
          simp [hA, hcl]
        conv => whnf
        rw [← wv_w64]
        have hws : (w64 (numsL c)[i]).toNat < 65536 ∧ (w64 (numsL c)[i]).toNat < 2 ^ fldW i := by
          rw [w64_sm n0 (by omega)]
          have h2 : (((numsL c)[i].toNat : Nat) : Int) < ((2 ^ fldW i : Nat) : Int) := by
            rw [Int.toNat_of_nonneg n0]
            exact_mod_cast n2
          omega
        refine CallR.i (put_spec _ (fldP i) (fldW i) hF _ hws.2 hws.1 h9) fun v h10 k10 hv => ?_
        subst hv
        conv => whnf
        refine IfR.f rfl ?_
        have hnew : (cWi c i).set (fldA i) (putF ((cWi c i)[fldA i]'(by omega)) (fldP i) (fldW i) (w64 (numsL c)[i])) = cWi c (i + 1) := by
          have : i = 0 ∨ i = 1 ∨ i = 2 ∨ i = 3 ∨ i = 4 ∨ i = 5 ∨ i = 6 ∨ i = 7 ∨ i = 8 := by omega
          rcases this with rfl | rfl | rfl | rfl | rfl | rfl | rfl | rfl | rfl <;> rfl
        conv => whnf
        refine IdxS.i (fldA i) rfl hA rfl ?_
        have k610 : Keeps [] h6 h10 := k7.trans (k79.trans k10)
        conv => whnf
        refine StoreR.i (k610.obj o6 (by simp)) ?_ ?_ fun h11 s11 o11 k11 => ?_
        · show 0 + fldA i * 1 + 1 ≤ _
          simp [hcl]; omega
        · have := obj_lt o6
          have := k7.size
          simp [blocksOf, setB]; omega
        conv => whnf
        refine ⟨9 - (i + 1), by omega, ?_⟩
        conv => whnf
        refine ⟨i + 1, rfl, by rw [wrapN (x := (i : Int) + 1) (n := i + 1) (by simp) (by omega)], rfl, by omega, (k6.trans (k610.mono (by simp))).trans k11, by have := k610.size; omega, (S6.keep k610).keepM k11 (fun x hx hm => ?_), ?_⟩
        · simp [blkA] at hx hm; omega
        · have e5 : spliceL (0 + fldA i * 1) [wv (putF ((cWi c i)[fldA i]'(by omega)) (fldP i) (fldW i) (w64 (numsL c)[i]))] ((cWi c i).map wv) = (cWi c (i + 1)).map wv := by
            rw [show 0 + fldA i * 1 = fldA i by omega, splice_set1 _ _ _ (by simp [hcl]; omega), ← hnew, List.map_set]
          rw [← e5]; exact o11
      · have hi9 : i = 9 := by simp at hd; omega
        subst hi9
        conv => whnf
        exact ⟨k04.nil_of k6 (by intro x hx; have : x = b3 := by simpa using hx
                                 omega), b3, rfl, by omega, o6⟩
end Go.Proofs.YtkjkdnphikendaaGreatDoor
/-
  Layer 6: a card is read from words.
-/
set_option linter.all false
set_option maxRecDepth 100000
set_option maxHeartbeats 4000000
namespace Go.Proofs.YtkjkdnphikendaaGreatDoor
open Go Go.Eng

theorem equalW_spec {h : Heap} {a b : Option Addr} {n c m d : Nat} {x y : List UInt64} (S : Sl h a n c x) (T : Sl h b m d y) (hn : n ≤ 1000) : CallH Tryz.prog 170 [.slice a n c, .slice b m d] h (fun v h' => Keeps [] h h' ∧ v = .bool (decide (x = y))) := by
  have hl := S.hlen
  have hm := T.hlen
  refine call_of hmix Tryz.func170 rfl ok170 (by simp [Tryz.f170]) ?_
  conv => whnf
  refine IfR.i (fun hc => ?_) (fun hc => ?_)
  · conv => whnf
    have : ¬ x = y := by
      rintro rfl
      simp at hc; omega
    rw [decide_eq_false this]
    exact ⟨Keeps.refl _ _, rfl⟩
  · have hnm : n = m := by simp at hc; omega
    conv => whnf
    refine LoopR.on [0, 1, 12, 13] [] (fun i : Nat => [(0, .v (.slice a n c)), (1, .v (.slice b m d)), (12, .v (.int .i64 (n : Int))), (13, .v (.int .i64 (i : Int)))]) (fun _ => [])
      (fun i h' => i ≤ n ∧ Keeps [] h h' ∧ x.take i = y.take i) (fun i => n - i) 0 ?_ ?_
    · conv => whnf
      exact ⟨0, rfl, rfl, rfl, Nat.zero_le _, Keeps.refl _ _, rfl⟩
    · rintro i h2 ⟨hi, k2, he⟩
      conv => whnf
      refine IfR.i (fun hd => ?_) (fun hd => ?_)
      · have hi1 : i < x.length := by simp at hd; omega
        have hi2 : i < y.length := by omega
        obtain ⟨b1, off1, hb1, _, hc1⟩ := (S.keep k2).at1 i hi1
        obtain ⟨b2, off2, hb2, _, hc2⟩ := (T.keep k2).at1 i hi2
        conv => whnf
        refine IdxS.i i rfl (by omega) hb1 ?_
        conv => whnf
        refine LoadR.i hc1 ?_
        conv => whnf
        refine IdxS.i i rfl (by omega) hb2 ?_
        conv => whnf
        refine LoadR.i hc2 ?_
        conv => whnf
        refine IfR.i (fun hq => ?_) (fun hq => ?_)
        · conv => whnf
          have : ¬ x = y := by
            rintro rfl
            simp at hq
          rw [decide_eq_false this]
          exact ⟨k2, rfl⟩
        · have hxy : x[i] = y[i] := by
            have : ((x[i].toNat : Nat) : Int) = ((y[i].toNat : Nat) : Int) := by simpa using hq
            exact UInt64.toNat_inj.1 (by omega)
          conv => whnf
          refine ⟨n - (i + 1), by omega, ?_⟩
          conv => whnf
          refine ⟨i + 1, rfl, by rw [wrapN (x := (i : Int) + 1) (n := i + 1) (by simp) (by omega)], rfl, by omega, k2, ?_⟩
          rw [List.take_succ_eq_append_getElem hi1, List.take_succ_eq_append_getElem hi2, he, hxy]
      · have hi1 : i = n := by simp at hd; omega
        conv => whnf
        refine ⟨k2, ?_⟩
        have e1 : x.take i = x := by rw [hi1, hl]; exact List.take_length
        have e2 : y.take i = y := by rw [hi1, hnm, hm]; exact List.take_length
        rw [e1, e2] at he
        rw [decide_eq_true he]

/-- the numbers that words tell -/
def gNum (ws : List UInt64) (i : Nat) : Int := gAt ws (fldA i) (fldP i) (fldW i)
def gNums (ws : List UInt64) (i : Nat) : List Int := (List.range i).map (gNum ws)

theorem read6_spec {h : Heap} {a : Option Addr} {cp : Nat} {ws : List UInt64} (S : Sl h a 8 cp ws) : CallH Tryz.prog 116 [.slice a 8 cp] h (fun v h' => Keeps [] h h' ∧
    v = match cardR ws with | some c => .tuple #[.agg ⟨c.cells⟩, .int .i64 0] | none => .tuple #[.agg ⟨Crd.zero.cells⟩, .int .i64 15]) := by
  have hl := S.hlen
  refine call_of hmix Tryz.func116 rfl ok116 (by simp [Tryz.f116]) ?_
  conv => whnf
  refine AllocR.i fun b1 h1 e1 s1 o1 k1 => ?_
  conv => whnf
  refine IfR.f rfl ?_
  conv => whnf
  refine CallR.i (fields_spec h1) fun v h2 k2 hv => ?_
  obtain ⟨bf, cf, fz, sp, rfl, hcf, hbf, o2⟩ := hv
  conv => whnf
  refine LoopR.on [0, 2, 4, 17, 18, 19] [2] (fun q : Nat × Option Addr × Nat => [(0, .v (.slice a 8 cp)), (2, .lp 2 0), (4, .v (.slice q.2.1 q.1 q.2.2)), (17, .v (.slice (some ⟨bf, 0, none⟩) 9 cf)), (18, .v (.int .i64 9)), (19, .v (.int .i64 (q.1 : Int)))]) (fun _ => [(2, b1, Crd.zero.cells)])
    (fun q h' => q.1 ≤ 9 ∧ Keeps [] h1 h' ∧ h2.size ≤ h'.size ∧ Own h' 3 1 q.2.1 q.1 q.2.2 ((gNums ws q.1).map fun x => .int .i64 x) ∧ (∀ b ∈ blkA q.2.1, h2.size ≤ b) ∧ h'[bf]? = some (.cells ⟨fldsC 9 ++ sp⟩ 226 fz)) (fun q => 9 - q.1) (0, none, 0) ?_ ?_
  · conv => whnf
    exact ⟨(0, none, 0), rfl, rfl, rfl, Nat.zero_le _, k2, Nat.le_refl _, .inl ⟨rfl, rfl, rfl, rfl⟩, by simp [blkA], o2⟩
  · rintro ⟨i, a4, c4⟩ h3 ⟨hi, k3, z3, O3, n3, o3⟩
    simp only at hi O3 n3
    conv => whnf
    refine IfR.i (fun hd => ?_) (fun hd => ?_)
    · have hi9 : i < 9 := by simp at hd; omega
      conv => whnf
      refine IdxS.i i rfl hi9 rfl ?_
      have hfield : takeL 3 (dropL (0 + i * 3) (fldsC 9 ++ sp)) = some (fldC i) := by
        have : i = 0 ∨ i = 1 ∨ i = 2 ∨ i = 3 ∨ i = 4 ∨ i = 5 ∨ i = 6 ∨ i = 7 ∨ i = 8 := by omega
        rcases this with rfl | rfl | rfl | rfl | rfl | rfl | rfl | rfl | rfl <;> rfl
      conv => whnf
      refine LoadN.o (vs := fldC i) o3 hfield ?_
      conv => whnf
      refine AllocR.i fun b8 h8 e8 s8 o8 k8 => ?_
      conv => whnf
      refine BoxR.i fun h9 s9 k9 => ?_
      have k39 : Keeps [] h3 h9 := k8.new1 k9 (by omega)
      have hA : fldA i < 8 := by
        unfold fldA; split <;> omega
      have hF : fldOk (fldP i) (fldW i) := by
        have : i = 0 ∨ i = 1 ∨ i = 2 ∨ i = 3 ∨ i = 4 ∨ i = 5 ∨ i = 6 ∨ i = 7 ∨ i = 8 := by omega
        rcases this with rfl | rfl | rfl | rfl | rfl | rfl | rfl | rfl | rfl <;> (unfold fldOk; decide)
      obtain ⟨b, off, hb', _, hcell⟩ := (S.keep (k1.trans (k3.trans k39))).at1 (fldA i) (by omega)
      conv => whnf
      refine IdxS.i (fldA i) rfl hA hb' ?_
      conv => whnf
      refine LoadR.i hcell ?_
      conv => whnf
      refine CallR.i (get_spec _ (fldP i) (fldW i) hF h9) fun v h10 k10 hv => ?_
      subst hv
      conv => whnf
      refine AllocR.i fun b11 h11 e11 s11 o11 k11 => ?_
      have hg : (getF (ws[fldA i]'(by omega)) (fldP i) (fldW i)).toNat < 4294967296 := by
        unfold fldOk at hF
        rw [getF_nat _ (by omega) (by omega)]
        have h1 := Nat.mod_lt ((ws[fldA i]'(by omega)).toNat / 2 ^ fldP i) (Nat.two_pow_pos (fldW i))
        have h2 : 2 ^ fldW i ≤ 2 ^ 32 := Nat.pow_le_pow_right (by decide) hF.2.2.1
        omega
      have hval : IntKind.i64.wrap ((getF (ws[fldA i]'(by omega)) (fldP i) (fldW i)).toNat : Int) = gNum ws i := by
        rw [wrapI (by omega) (by omega)]
        unfold gNum gAt
        rw [List.getElem?_eq_getElem (by omega)]; rfl
      have o11' : h11[b11]? = some (.cells ⟨[.int .i64 (gNum ws i)]⟩ 3 (0, 0)) := by
        rw [← hval]; exact o11
      have kk : Keeps [] h3 h11 := k39.trans (k10.trans k11)
      have hgl : (gNums ws i).length = i := by simp [gNums]
      conv => whnf
      refine one_append (O3.keep kk (by simp)) hgl.symm (by omega) o11' (fun b hb hx => ?_) fun a12 c12 h12 O12 k12 n12 => ?_
      · have hx2 : b = b1 ∨ b = b8 := by simpa [blocksOf, setB] using hx
        have := n3 b hb
        have := O3.lt b hb
        have := k2.size
        omega
      conv => whnf
      refine ⟨9 - (i + 1), by omega, ?_⟩
      conv => whnf
      have hz := kk.size
      refine ⟨(i + 1, a12, c12), rfl, ?_, rfl, by simp only; omega, (k3.trans kk).nil_of k12 (fun x hx => by have := n3 x hx; have := k2.size; omega), by have := k12.size; omega, ?_, fun b hb => ?_, (kk.obj o3 (by simp)) |> fun o => k12.obj o (fun hb => by have := n3 bf hb; have := obj_lt o2; omega)⟩
      · simp only
        rw [wrapN (x := (i : Int) + 1) (n := i + 1) (by simp) (by omega)]
      · have : gNums ws (i + 1) = gNums ws i ++ [gNum ws i] := by simp [gNums, List.range_succ]
        simp only [this]
        exact O12
      · rcases n12 b hb with h | h
        · exact n3 b h
        · omega
    · have hi9 : i = 9 := by simp at hd; omega
      subst hi9
      have hG : ∀ x ∈ gNums ws 9, 0 ≤ x ∧ x < 4294967296 := by
        intro x hx
        obtain ⟨i, hi, rfl⟩ := List.mem_map.1 hx
        have hi : i < 9 := by simpa using hi
        unfold gNum gAt
        have hF : fldOk (fldP i) (fldW i) := by
          have : i = 0 ∨ i = 1 ∨ i = 2 ∨ i = 3 ∨ i = 4 ∨ i = 5 ∨ i = 6 ∨ i = 7 ∨ i = 8 := by omega
          rcases this with rfl | rfl | rfl | rfl | rfl | rfl | rfl | rfl | rfl <;> (unfold fldOk; decide)
        unfold fldOk at hF
        rw [getF_nat _ (by omega) (by omega)]
        have h1 := Nat.mod_lt ((ws[fldA i]?.getD 0).toNat / 2 ^ fldP i) (Nat.two_pow_pos (fldW i))
        have h2 : 2 ^ fldW i ≤ 2 ^ 32 := Nat.pow_le_pow_right (by decide) hF.2.2.1
        omega
      have S9 : Sl h3 a4 9 c4 (gNums ws 9) := O3.sl (α := Int) (reps_ints _ _ (fun x hx => by have := hG x hx; unfold inI64; omega)) rfl (by decide) (by simp [gNums])
      have g9 : (gNums ws 9).length = 9 := by simp [gNums]
      obtain ⟨p0, q0, hp0, _, hc0⟩ := S9.at1 0 (by omega)
      obtain ⟨p1, q1, hp1, _, hc1⟩ := S9.at1 1 (by omega)
      obtain ⟨p2, q2, hp2, _, hc2⟩ := S9.at1 2 (by omega)
      obtain ⟨p8, q8, hp8, _, hc8⟩ := S9.at1 8 (by omega)
      obtain ⟨pw, qw, hpw, _, hcw⟩ := (S.keep (k1.trans k3)).at1 1 (by omega)
      conv => whnf
      refine IdxS.i 0 rfl (show (0 : Nat) < 9 by decide) hp0 ?_
      conv => whnf
      refine LoadR.i hc0 ?_
      conv => whnf
      refine IdxS.i 1 rfl (show (1 : Nat) < 9 by decide) hp1 ?_
      conv => whnf
      refine LoadR.i hc1 ?_
      conv => whnf
      refine IdxS.i 2 rfl (show (2 : Nat) < 9 by decide) hp2 ?_
      conv => whnf
      refine LoadR.i hc2 ?_
      conv => whnf
      refine IdxS.i 1 rfl (by decide) hpw ?_
      conv => whnf
      refine LoadR.i hcw ?_
      conv => whnf
      refine IdxS.i 8 rfl (show (8 : Nat) < 9 by decide) hp8 ?_
      conv => whnf
      refine LoadR.i hc8 ?_
      conv => whnf
      refine AllocR.i fun b10 h10 e10 s10 o10 k10 => ?_
      conv => whnf
      refine BoxR.i fun h11 s11 k11 => ?_
      have k311 : Keeps [] h3 h11 := k10.new1 k11 (by omega)
      have hgn : ∀ i (hi : i < 9), (gNums ws 9)[i]'(by omega) = gNum ws i := fun i hi => by simp [gNums]
      have hgb : ∀ i, i < 9 → 0 ≤ gNum ws i ∧ gNum ws i < 4294967296 := fun i hi => hG _ (by rw [← hgn i hi]; exact List.getElem_mem _)
      have hv1 : ws[1]'(by omega) = ws[1]?.getD 0 := by rw [List.getElem?_eq_getElem (by omega)]; rfl
      have hm8 : IntKind.i64.wrap (gNum ws 8 - 1) = gNum ws 8 - 1 := by
        have := hgb 8 (by decide)
        exact wrapI (by omega) (by omega)
      conv => whnf
      refine LoopR.on [0, 2, 4, 9, 62] [2, 9] (fun i : Nat => [(0, .v (.slice a 8 cp)), (2, .lp 2 0), (4, .v (.slice a4 9 c4)), (9, .lp 9 0), (62, .v (.int .i64 (i : Int)))]) (fun i => [(2, b1, Crd.zero.cells), (9, b10, [.int .i64 (gNum ws 0), .int .i64 (gNum ws 1), .int .i64 (gNum ws 2), wv (ws[1]?.getD 0), .int .i64 (if 0 < i then gNum ws 3 - 1 else 0), .int .i64 (if 1 < i then gNum ws 4 - 1 else 0), .int .i64 (if 2 < i then gNum ws 5 - 1 else 0), .int .i64 (if 3 < i then gNum ws 6 - 1 else 0), .int .i64 (if 4 < i then gNum ws 7 - 1 else 0), .int .i64 (gNum ws 8 - 1)])])
        (fun i h' => i ≤ 5 ∧ Keeps [] h3 h' ∧ h11.size ≤ h'.size) (fun i => 5 - i) 0 ?_ ?_
      · conv => whnf
        refine ⟨0, rfl, rfl, ?_, Nat.zero_le _, k311, Nat.le_refl _⟩
        rw [← hm8, ← hv1, ← hgn 0 (by decide), ← hgn 1 (by decide), ← hgn 2 (by decide), ← hgn 8 (by decide)]
        rfl
      · rintro i h12 ⟨hi, k12, z12⟩
        conv => whnf
        refine IfR.i (fun hd => ?_) (fun hd => ?_)
        · have hi5 : i < 5 := by simp at hd; omega
          obtain ⟨p, q, hp, _, hc⟩ := (S9.keep k12).at1 (3 + i) (by omega)
          have ei : IntKind.i64.wrap (3 + (i : Int)) = ((3 + i : Nat) : Int) := wrapN (by omega) (by omega)
          conv => whnf
          refine IdxS.i (3 + i) ei (show 3 + i < 9 by omega) hp ?_
          conv => whnf
          refine LoadR.i hc ?_
          conv => whnf
          refine IdxR.i i rfl hi5 ?_
          conv => whnf
          refine Need.i (by show 4 + i * 1 + 1 ≤ 10; omega) ?_
          conv => whnf
          refine BoxR.i fun h13 s13 k13 => ?_
          conv => whnf
          refine ⟨5 - (i + 1), by omega, ?_⟩
          conv => whnf
          refine ⟨i + 1, rfl, by rw [wrapN (x := (i : Int) + 1) (n := i + 1) (by simp) (by omega)], ?_, by omega, k12.new1 k13 (by omega), by omega⟩
          have hw : IntKind.i64.wrap ((gNums ws 9)[3 + i]'(by omega) - 1) = gNum ws (3 + i) - 1 := by
            rw [hgn (3 + i) (by omega)]
            have := hgb (3 + i) (by omega)
            exact wrapI (by omega) (by omega)
          refine congrArg (fun x => [(2, b1, Crd.zero.cells), (9, b10, x)]) ?_
          show spliceL (4 + i * 1) [.int .i64 (IntKind.i64.wrap ((gNums ws 9)[3 + i]'(by omega) - 1))] _ = _
          rw [hw]
          have : i = 0 ∨ i = 1 ∨ i = 2 ∨ i = 3 ∨ i = 4 := by omega
          rcases this with rfl | rfl | rfl | rfl | rfl <;> rfl
        · have hi5 : i = 5 := by simp at hd; omega
          subst hi5
          have gb0 := hgb 0 (by decide)
          have gb1 := hgb 1 (by decide)
          have gb2 := hgb 2 (by decide)
          have gb3 := hgb 3 (by decide)
          have gb4 := hgb 4 (by decide)
          have gb5 := hgb 5 (by decide)
          have gb6 := hgb 6 (by decide)
          have gb7 := hgb 7 (by decide)
          have gb8 := hgb 8 (by decide)
          have hok : (cardG ws).ok := by
            refine ⟨?_, ?_, ?_, fun x hx => ?_, ?_⟩
            · show inI64 (gNum ws 0); unfold inI64; omega
            · show inI64 (gNum ws 1); unfold inI64; omega
            · show inI64 (gNum ws 2); unfold inI64; omega
            · have hx : x ∈ [gNum ws 3 - 1, gNum ws 4 - 1, gNum ws 5 - 1, gNum ws 6 - 1, gNum ws 7 - 1] := hx
              simp only [List.mem_cons, List.not_mem_nil, or_false] at hx
              unfold inI64; omega
            · show inI64 (gNum ws 8 - 1); unfold inI64; omega
          conv => whnf
          refine CallR.i (write6_spec (cardG ws) hok h12) fun v h13 k13 hv => ?_
          have kk := k1.trans (k3.trans (k12.trans k13))
          by_cases hr : rightC (cardG ws) = true
          · rw [if_pos hr] at hv
            obtain ⟨b14, rfl, hb14, o14⟩ := hv
            have S14 : Sl h13 (some ⟨b14, 0, none⟩) 8 8 (cardW (cardG ws)) := Sl.of1' o14 (by simp [One.ok]) rfl (by show 8 ≤ 281474976710656; decide)
            conv => whnf
            refine IfR.t rfl ?_
            conv => whnf
            refine CallR.i (equalW_spec S14 (S.keep kk) (by decide)) fun v h15 k15 hv => ?_
            subst hv
            by_cases he : cardW (cardG ws) = ws
            · have hR : cardR ws = some (cardG ws) := by
                unfold cardR
                rw [if_pos ⟨hl.symm, hr, he⟩]
              rw [hR, decide_eq_true he]
              conv => whnf
              refine IfR.f rfl ?_
              conv => whnf
              refine BoxR.i fun h16 s16 k16 => ?_
              conv => whnf
              exact ⟨(kk.trans k15).new1 k16 (by omega), rfl⟩
            · have hR : cardR ws = none := by
                unfold cardR
                rw [if_neg (fun x => he x.2.2)]
              rw [hR, decide_eq_false he]
              conv => whnf
              refine IfR.t rfl ?_
              conv => whnf
              refine BoxR.i fun h16 s16 k16 => ?_
              conv => whnf
              exact ⟨(kk.trans k15).new1 k16 (by omega), rfl⟩
          · rw [if_neg hr] at hv
            subst hv
            have hR : cardR ws = none := by
              unfold cardR
              rw [if_neg (fun x => hr x.2.1)]
            rw [hR]
            conv => whnf
            refine IfR.f rfl ?_
            conv => whnf
            refine IfR.t rfl ?_
            conv => whnf
            refine BoxR.i fun h16 s16 k16 => ?_
            conv => whnf
            exact ⟨kk.new1 k16 (by omega), rfl⟩
end Go.Proofs.YtkjkdnphikendaaGreatDoor
