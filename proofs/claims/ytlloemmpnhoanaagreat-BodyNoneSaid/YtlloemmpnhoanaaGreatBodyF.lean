/-
  Layer 1: texts as words.
-/
import Derived.Test.YtlloemmpnhoanaaGreatBodyE
import Derived.Test.YtlloemmpnhoanaaGreatEngU
set_option linter.all false
set_option maxRecDepth 100000
namespace Go.Proofs.YtlloemmpnhoanaaGreat
open Go Go.Eng

/-- a word's byte -/
def byteW (w : UInt64) (i : Nat) : UInt8 := UInt8.ofNat (w.toNat / 2 ^ (8 * (i % 8)))
/-- the first bytes of words -/
def untextL (ws : List UInt64) (n : Nat) : List UInt8 := (List.range n).map fun i => byteW (ws[i / 8]?.getD 0) i

theorem wrap_u8 (n : Int) : IntKind.u8.wrap n = n % 256 := by simp [IntKind.wrap, IntKind.bits, IntKind.signed]
theorem wrap_u64' (n : Int) : IntKind.u64.wrap n = n % 18446744073709551616 := by simp [IntKind.wrap, IntKind.bits, IntKind.signed]

theorem shift_amt (i : Nat) (hi : i ≤ 1000000) : IntKind.i64.wrap (8 * ((i : Int).tmod 8)) = ((8 * (i % 8) : Nat) : Int) := by
  have : (i : Int).tmod 8 = ((i % 8 : Nat) : Int) := by rw [Int.tmod_eq_emod_of_nonneg (by omega)]; omega
  rw [this, wrapN (n := 8 * (i % 8)) (by omega) (by omega)]
theorem quo_amt (i : Nat) (hi : i ≤ 1000000) : IntKind.i64.wrap ((i : Int).tdiv 8) = ((i / 8 : Nat) : Int) := by
  have : (i : Int).tdiv 8 = ((i / 8 : Nat) : Int) := by rw [Int.tdiv_eq_ediv_of_nonneg (by omega)]; omega
  rw [this, wrapN (n := i / 8) (by omega) (by omega)]

theorem byte_val (w : UInt64) (i : Nat) : Value.int .u8 (IntKind.u8.wrap ((w.toNat : Int).fdiv (2 ^ (min ((8 * (i % 8) : Nat) : Int).toNat 64)))) = .int .u8 ((byteW w i).toNat : Int) := by
  congr 1
  rw [wrap_u8]
  have h1 : min ((8 * (i % 8) : Nat) : Int).toNat 64 = 8 * (i % 8) := by omega
  rw [h1, Int.fdiv_eq_ediv_of_nonneg _ (by exact Int.le_of_lt (Int.pow_pos (by decide)))]
  unfold byteW
  rw [UInt8.toNat_ofNat']
  have : (2 : Int) ^ (8 * (i % 8)) = ((2 ^ (8 * (i % 8)) : Nat) : Int) := by simp
  rw [this]
  norm_cast

theorem untext_spec {h : Heap} {a : Option Addr} {m c : Nat} {ws : List UInt64} (S : Sl h a m c ws) (n : Nat) (hn : n ≤ 8 * m) (hm : m ≤ 1000) : CallH Tryz.prog 60 [.slice a m c, .int .i64 (n : Int)] h (fun v h' => Keeps [] h h' ∧ v = .tuple #[.string ⟨(untextL ws n).toArray⟩, .int .i64 0]) := by
  refine call_of hmix Tryz.func60 rfl ok60 (by simp [Tryz.f60]) ?_
  conv => whnf
  have hl := S.hlen
  have e8 : IntKind.i64.wrap (8 * (m : Int)) = ((8 * m : Nat) : Int) := wrapN (by omega) (by omega)
  refine IfR.f (by simp [bif_or, e8]; omega) ?_
  conv => whnf
  refine SemR.make (n := n) rfl rfl rfl rfl rfl (by show 1 * n ≤ _; omega) (by omega) fun b1 h1 e1 s1 o1 k1 => ?_
  conv => whnf
  refine LoopR.on [0, 6, 20, 21] [] (fun i : Nat => [(0, .v (.slice a m c)), (6, .v (.slice (some ⟨b1, 0, none⟩) n n)), (20, .v (.int .i64 (n : Int))), (21, .v (.int .i64 (i : Int)))]) (fun _ => [])
    (fun i h' => i ≤ n ∧ Keeps [] h h' ∧ h1.size ≤ h'.size ∧ h'[b1]? = some (.cells ⟨bytesL (untextL ws i) ++ List.replicate (n - i) (.int .u8 0)⟩ 5 (0, 0))) (fun i => n - i) 0 ?_ ?_
  · conv => whnf
    exact ⟨0, rfl, rfl, rfl, Nat.zero_le _, k1, Nat.le_refl _, o1⟩
  · rintro i h2 ⟨hi, k2, z2, o2⟩
    conv => whnf
    refine IfR.i (fun hc => ?_) (fun hc => ?_)
    · have hi1 : i < n := by simp at hc; omega
      conv => whnf
      refine Need.i (by decide) ?_
      have hi8 : i / 8 < ws.length := by omega
      obtain ⟨b, off, hb, _, hcell⟩ := (S.keep k2).at1 (i / 8) hi8
      conv => whnf
      refine IdxS.i (i / 8) (quo_amt i (by omega)) (by omega) hb ?_
      conv => whnf
      refine LoadR.i hcell ?_
      conv => whnf
      refine Need.i (by decide) ?_
      conv => whnf
      refine Need.i (by rw [shift_amt i (by omega)]; omega) ?_
      conv => whnf
      refine IdxS.i i rfl hi1 rfl ?_
      have er : List.replicate (n - i) (Value.int .u8 0) = .int .u8 0 :: List.replicate (n - (i + 1)) (.int .u8 0) := by
        rw [show n - i = (n - (i + 1)) + 1 by omega, List.replicate_succ]
      rw [er] at o2
      have hlen : (bytesL (untextL ws i)).length = i := by simp [bytesL_len, untextL]
      conv => whnf
      refine StoreR.i o2 ?_ (by simp [blocksOf]) fun h4 s4 o4 k4 => ?_
      · simp only [List.length_append, List.length_cons, hlen, List.length_replicate]
        show 0 + i * 1 + 1 ≤ _
        omega
      conv => whnf
      refine ⟨n - (i + 1), by omega, ?_⟩
      conv => whnf
      refine ⟨i + 1, rfl, by rw [wrapN (n := i + 1) (by simp) (by omega)], rfl, by omega, k2.new1 k4 (by omega), by omega, ?_⟩
      rw [shift_amt i (by omega)] at o4
      have e4 : spliceL (0 + i * 1) [Value.int .u8 ((byteW ws[i / 8] i).toNat : Int)] (bytesL (untextL ws i) ++ .int .u8 0 :: List.replicate (n - (i + 1)) (.int .u8 0)) = bytesL (untextL ws (i + 1)) ++ List.replicate (n - (i + 1)) (.int .u8 0) := by
        have := splice_at (A := bytesL (untextL ws i)) (x := .int .u8 0) (v := Value.int .u8 ((byteW ws[i / 8] i).toNat : Int)) (B := List.replicate (n - (i + 1)) (.int .u8 0))
        rw [hlen] at this
        rw [show 0 + i * 1 = i by omega, this]
        simp [untextL, List.range_succ, bytesL, hi8]
      rw [← e4, ← byte_val]; exact o4
    · have hi1 : i = n := by simp at hc; omega
      subst hi1
      conv => whnf
      refine SemR.textOf (l := untextL ws i) rfl rfl rfl (by simp [untextL]) (fun j hj => ?_) ?_
      · simp only [Heap.cell?, o2]
        simp [bytesL, hj, List.getElem?_append]
      conv => whnf
      exact ⟨k2, rfl⟩

/-- bytes as a number, the first one least -/
def packN : List UInt8 → Nat
  | [] => 0
  | b :: r => b.toNat + 256 * packN r
theorem packN_lt : ∀ l : List UInt8, packN l < 256 ^ l.length
  | [] => by simp [packN]
  | b :: r => by
    have := packN_lt r
    have hb := b.toNat_lt
    simp only [packN, List.length_cons, Nat.pow_succ]
    omega
theorem packN_snoc : ∀ (l : List UInt8) (c : UInt8), packN (l ++ [c]) = packN l + 256 ^ l.length * c.toNat
  | [], c => by simp [packN]
  | b :: r, c => by
    have := packN_snoc r c
    simp only [List.cons_append, packN, this, List.length_cons, Nat.pow_succ]
    rw [Nat.mul_add, Nat.mul_comm (256 ^ r.length) 256, Nat.mul_assoc]; omega

/-- a text's word -/
def wordT (l : List UInt8) (j : Nat) : UInt64 := UInt64.ofNat (packN ((l.drop (8 * j)).take 8))
def textL (l : List UInt8) (n : Nat) : List UInt64 := (List.range n).map fun j => wordT l j

theorem pack8_lt (l : List UInt8) (j : Nat) : packN ((l.drop (8 * j)).take 8) < 18446744073709551616 := by
  have h1 := packN_lt ((l.drop (8 * j)).take 8)
  have h2 : ((l.drop (8 * j)).take 8).length ≤ 8 := by simp; omega
  have h3 : 256 ^ ((l.drop (8 * j)).take 8).length ≤ 256 ^ 8 := Nat.pow_le_pow_right (by decide) h2
  have h4 : 256 ^ 8 = 18446744073709551616 := by decide
  omega
theorem wordT_toNat (l : List UInt8) (j : Nat) : (wordT l j).toNat = packN ((l.drop (8 * j)).take 8) := by
  unfold wordT
  rw [UInt64.toNat_ofNat']
  exact Nat.mod_eq_of_lt (pack8_lt l j)

theorem drop_take_other (l : List UInt8) (i j : Nat) (hi : i < l.length) (hj : j ≠ i / 8) : ((l.take (i + 1)).drop (8 * j)).take 8 = ((l.take i).drop (8 * j)).take 8 := by
  apply List.ext_getElem?
  intro k
  simp only [List.getElem?_take, List.getElem?_drop]
  by_cases h1 : k < 8
  · rw [if_pos h1, if_pos h1]
    by_cases h2 : 8 * j + k < i
    · rw [if_pos (by omega), if_pos h2]
    · by_cases h3 : 8 * j + k < i + 1
      · have : 8 * j + k = i := by omega
        omega
      · rw [if_neg h3, if_neg h2]
  · rw [if_neg h1, if_neg h1]
theorem drop_take_here (l : List UInt8) (i : Nat) (hi : i < l.length) : ((l.take (i + 1)).drop (8 * (i / 8))).take 8 = ((l.take i).drop (8 * (i / 8))).take 8 ++ [l[i]] := by
  rw [List.take_succ_eq_append_getElem hi, List.drop_append, List.take_append]
  have h1 : (l.take i).length = i := by simp; omega
  have h2 : 8 * (i / 8) - (l.take i).length = 0 := by rw [h1]; omega
  rw [h2, List.drop_zero]
  congr 1
  have h3 : (List.drop (8 * (i / 8)) (l.take i)).length = i % 8 := by rw [List.length_drop, h1]; omega
  rw [h3]
  have : 8 - i % 8 = (7 - i % 8) + 1 := by omega
  rw [this]; simp

theorem or_val (l : List UInt8) (i : Nat) (hi : i < l.length) :
    Value.int .u64 (IntKind.u64.wrap ((BitVec.ofInt IntKind.u64.bits ((wordT (l.take i) (i / 8)).toNat : Int) ||| BitVec.ofInt IntKind.u64.bits (IntKind.u64.wrap (IntKind.u64.wrap (l[i].toNat : Int) * 2 ^ (min ((8 * (i % 8) : Nat) : Int).toNat 64)))).toNat : Int)) = wv (wordT (l.take (i + 1)) (i / 8)) := by
  have h1 : min ((8 * (i % 8) : Nat) : Int).toNat 64 = 8 * (i % 8) := by omega
  rw [h1]
  unfold wv
  congr 1
  rw [wordT_toNat, wordT_toNat, drop_take_here l i hi, packN_snoc]
  generalize hA : ((l.take i).drop (8 * (i / 8))).take 8 = A
  have hlen : A.length = i % 8 := by subst hA; simp; omega
  have hA1 := packN_lt A
  rw [hlen] at hA1 ⊢
  have hp : (256 : Nat) ^ (i % 8) = 2 ^ (8 * (i % 8)) := by rw [Nat.pow_mul]
  have hc := l[i].toNat_lt
  have hk : i % 8 < 8 := by omega
  have hb : l[i].toNat * 2 ^ (8 * (i % 8)) < 18446744073709551616 := by
    have h5 : 2 ^ (8 * (i % 8)) ≤ 2 ^ 56 := Nat.pow_le_pow_right (by decide) (by omega)
    have h6 : l[i].toNat * 2 ^ (8 * (i % 8)) ≤ 255 * 2 ^ 56 := Nat.mul_le_mul (by omega) h5
    have h7 : 255 * 2 ^ 56 < 18446744073709551616 := by decide
    omega
  have hA2 : packN A < 18446744073709551616 := by
    have h5 : 2 ^ (8 * (i % 8)) ≤ 2 ^ 56 := Nat.pow_le_pow_right (by decide) (by omega)
    have h7 : 2 ^ 56 < 18446744073709551616 := by decide
    omega
  have w1 : IntKind.u64.wrap (l[i].toNat : Int) = (l[i].toNat : Int) := by rw [wrap_u64']; omega
  have w2 : IntKind.u64.wrap ((l[i].toNat : Int) * 2 ^ (8 * (i % 8))) = ((l[i].toNat * 2 ^ (8 * (i % 8)) : Nat) : Int) := by
    rw [wrap_u64']
    have : (l[i].toNat : Int) * 2 ^ (8 * (i % 8)) = ((l[i].toNat * 2 ^ (8 * (i % 8)) : Nat) : Int) := by simp
    rw [this]
    omega
  rw [w1, w2]
  have hbits : IntKind.u64.bits = 64 := rfl
  rw [hbits, BitVec.toNat_or]
  have t1 : (BitVec.ofInt 64 ((packN A : Nat) : Int)).toNat = packN A := by
    rw [BitVec.toNat_ofInt]; omega
  have t2 : (BitVec.ofInt 64 ((l[i].toNat * 2 ^ (8 * (i % 8)) : Nat) : Int)).toNat = l[i].toNat * 2 ^ (8 * (i % 8)) := by
    rw [BitVec.toNat_ofInt]; omega
  rw [t1, t2]
  have hor : packN A ||| l[i].toNat * 2 ^ (8 * (i % 8)) = packN A + 256 ^ (i % 8) * l[i].toNat := by
    rw [hp, Nat.or_comm, Nat.mul_comm, ← Nat.two_pow_add_eq_or_of_lt (by rw [← hp]; exact hA1)]
    omega
  rw [hor, wrap_u64']
  have hs : packN A + 256 ^ (i % 8) * l[i].toNat < 18446744073709551616 := by
    have := packN_lt (A ++ [l[i]])
    rw [packN_snoc, hlen, List.length_append, hlen] at this
    have h8 : 256 ^ (i % 8 + [l[i]].length) ≤ 256 ^ 8 := Nat.pow_le_pow_right (by decide) (by simp; omega)
    have h9 : 256 ^ 8 = 18446744073709551616 := by decide
    omega
  omega

theorem text_spec (s : ByteArray) (n : Nat) (h : Heap) (hn : n ≤ 64) (hs : s.size ≤ 8 * n) : CallH Tryz.prog 67 [.string s, .int .i64 (n : Int)] h (fun v h' => Keeps [] h h' ∧ ∃ b, v = .tuple #[.slice (some ⟨b, 0, none⟩) n n, .int .i64 0] ∧ h.size ≤ b ∧ b < h'.size ∧ h'[b]? = some (.cells ⟨(textL s.data.toList n).map wv⟩ 36 (0, 0))) := by
  refine call_of hmix Tryz.func67 rfl ok67 (by simp [Tryz.f67]) ?_
  conv => whnf
  have e8 : IntKind.i64.wrap (8 * (n : Int)) = ((8 * n : Nat) : Int) := wrapN (by omega) (by omega)
  have hsl : s.data.toList.length = s.size := by rw [Array.length_toList]; rfl
  refine IfR.f (by simp [bif_or]; omega) ?_
  conv => whnf
  refine IfR.f (by simp [e8]; omega) ?_
  conv => whnf
  refine SemR.make (n := n) rfl rfl rfl rfl rfl (by show 8 * n ≤ _; omega) (by omega) fun b1 h1 e1 s1 o1 k1 => ?_
  conv => whnf
  refine SemR.bytesOf rfl rfl rfl fun b2 c2 h2 r2 fz2 e2 s2 hc2 o2 k2 => ?_
  conv => whnf
  refine LoopR.on [6, 25, 26, 27] [] (fun i : Nat => [(6, .v (.slice (some ⟨b1, 0, none⟩) n n)), (25, .v (.slice (some ⟨b2, 0, none⟩) s.size c2)), (26, .v (.int .i64 (s.size : Int))), (27, .v (.int .i64 (i : Int)))]) (fun _ => [])
    (fun i h' => i ≤ s.size ∧ Keeps [] h h' ∧ h2.size ≤ h'.size ∧ h'[b1]? = some (.cells ⟨(textL (s.data.toList.take i) n).map wv⟩ 36 (0, 0)) ∧ h'[b2]? = some (.cells ⟨bytesV s ++ r2⟩ 5 fz2)) (fun i => s.size - i) 0 ?_ ?_
  · conv => whnf
    refine ⟨0, rfl, rfl, rfl, Nat.zero_le _, k1.trans k2, Nat.le_refl _, ?_, o2⟩
    rw [k2.obj o1 (by simp)]
    congr 3
    simp [textL, wordT, packN, List.map_const']
    exact .inr rfl
  · rintro i h3 ⟨hi, k3, z3, o3, o4⟩
    conv => whnf
    refine IfR.i (fun hc => ?_) (fun hc => ?_)
    · have hi1 : i < s.size := by simp at hc; omega
      have hi2 : i < s.data.toList.length := by omega
      conv => whnf
      refine IdxS.i i rfl hi1 rfl ?_
      conv => whnf
      refine LoadR.o (v := .int .u8 (s.data.toList[i].toNat : Int)) o4 ?_ ?_
      · rw [nth_eq]
        show (bytesV s ++ r2)[0 + i * 1]? = _
        rw [show 0 + i * 1 = i by omega, List.getElem?_append_left (by rw [bytesV_len]; exact hi1)]
        simp [bytesV]
        exact ⟨_, Array.getElem?_eq_getElem (by simpa using hi2), rfl⟩
      conv => whnf
      refine Need.i (by decide) ?_
      have hi8 : i / 8 < n := by omega
      conv => whnf
      refine IdxS.i (i / 8) (quo_amt i (by omega)) hi8 rfl ?_
      conv => whnf
      refine LoadR.o (v := wv (wordT (s.data.toList.take i) (i / 8))) o3 ?_ ?_
      · rw [nth_eq]
        show ((textL (s.data.toList.take i) n).map wv)[0 + i / 8 * 1]? = _
        rw [show 0 + i / 8 * 1 = i / 8 by omega]
        simp [textL, hi8]
      conv => whnf
      refine Need.i (by decide) ?_
      conv => whnf
      refine Need.i (by rw [shift_amt i (by omega)]; omega) ?_
      conv => whnf
      refine IdxS.i (i / 8) (quo_amt i (by omega)) hi8 rfl ?_
      conv => whnf
      refine StoreR.i o3 ?_ (by simp [blocksOf]) fun h5 s5 o5 k5 => ?_
      · show 0 + i / 8 * 1 + 1 ≤ _
        simp [textL]; omega
      conv => whnf
      refine ⟨s.size - (i + 1), by omega, ?_⟩
      conv => whnf
      refine ⟨i + 1, rfl, by rw [wrapN (n := i + 1) (by simp) (by omega)], rfl, by omega, k3.new1 k5 (by omega), by omega, ?_, k5.obj o4 (by simp; omega)⟩
      rw [shift_amt i (by omega)] at o5
      have hv := or_val s.data.toList i hi2
      have e5 : spliceL (0 + i / 8 * 1) [wv (wordT (s.data.toList.take (i + 1)) (i / 8))] ((textL (s.data.toList.take i) n).map wv) = (textL (s.data.toList.take (i + 1)) n).map wv := by
        rw [show 0 + i / 8 * 1 = i / 8 by omega]
        have hsp : ∀ (k : Nat) (L : List Value) (v : Value), k < L.length → spliceL k [v] L = L.set k v := by
          intro k
          induction k with
          | zero => intro L v hL; cases L with
            | nil => simp at hL
            | cons a L => cases L <;> rfl
          | succ k ih => intro L v hL; cases L with
            | nil => simp at hL
            | cons a L => simp only [spliceL, List.set_cons_succ]; rw [ih L v (by simpa using hL)]
        rw [hsp _ _ _ (by simp [textL]; exact hi8)]
        apply List.ext_getElem
        · simp [textL]
        · intro j j1 j2
          have hj : j < n := by simpa [textL] using j2
          rw [List.getElem_set]
          split
          · rename_i e; subst e
            simp [textL]
          · rename_i e
            simp only [textL, List.getElem_map, List.getElem_range]
            congr 1
            unfold wordT
            rw [drop_take_other _ i j hi2 (fun x => e x.symm)]
      rw [← e5, ← hv]; exact o5
    · have hi1 : i = s.size := by simp at hc; omega
      conv => whnf
      rw [hi1, ← hsl, List.take_length] at o3
      exact ⟨k3, b1, rfl, by omega, by omega, o3⟩
end Go.Proofs.YtlloemmpnhoanaaGreat
