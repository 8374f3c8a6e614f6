/-
  Plain laws of words, blocks and bytes.
-/
import Derived.Test.YtlloemmpnhoanaaGreatBodyX
set_option linter.all false
set_option maxRecDepth 100000
namespace Go.Proofs.YtlloemmpnhoanaaGreat
open Go Go.Eng

theorem textL_len (l : List UInt8) (n : Nat) : (textL l n).length = n := by simp [textL]
theorem fullB_len {ws : List UInt64} (h : ws.length ≤ 16) : (fullB ws).length = 16 := by simp [fullB]; omega
theorem rdL_len (f : Int → UInt64) (a : Int) (n : Nat) : (rdL f a n).length = n := by simp [rdL]

theorem rdL_congr {f g : Int → UInt64} {a : Int} {n : Nat} (h : ∀ i : Nat, i < n → f (a + (i : Int)) = g (a + (i : Int))) : rdL f a n = rdL g a n := by
  unfold rdL
  exact List.map_congr_left fun i hi => h i (by simpa using hi)
theorem put_ne {f : Int → UInt64} {k : Int} {ws : List UInt64} (h : ws.length ≤ 16) {x : Int} (hx : x < 1288 + k * 16 ∨ 1288 + k * 16 + 16 ≤ x) : putBlk f k ws x = f x := by
  unfold putBlk updL
  rw [fullB_len h, if_neg (by omega)]
theorem put_rd {f : Int → UInt64} {k : Int} {ws : List UInt64} (h : ws.length ≤ 16) : rdL (putBlk f k ws) (1288 + k * 16) 16 = fullB ws := by
  have hl := fullB_len h
  unfold rdL putBlk updL
  rw [hl]
  apply List.ext_getElem
  · simp [hl]
  · intro i h1 h2
    simp only [List.length_map, List.length_range] at h1
    simp only [List.getElem_map, List.getElem_range]
    rw [if_pos (by omega)]
    have : (1288 + k * 16 + (i : Int) - (1288 + k * 16)).toNat = i := by omega
    rw [this]
    simp [h2]
theorem put_rd_ne {f : Int → UInt64} {k k' : Int} {ws : List UInt64} (h : ws.length ≤ 16) (hk : k ≠ k') : rdL (putBlk f k ws) (1288 + k' * 16) 16 = rdL f (1288 + k' * 16) 16 :=
  rdL_congr fun i hi => put_ne h (by omega)
theorem put_owner {f : Int → UInt64} {k : Int} {ws : List UInt64} (h : ws.length ≤ 16) (hk : 0 ≤ k) {j : Int} (hj : j < 96) : putBlk f k ws (200 + j) = f (200 + j) := put_ne h (by omega)
theorem upd_rd {f : Int → UInt64} {j : Int} {w : UInt64} (hj : j < 96) {k : Int} (hk : 0 ≤ k) : rdL (upd f (200 + j) w) (1288 + k * 16) 16 = rdL f (1288 + k * 16) 16 :=
  rdL_congr fun i hi => by unfold upd; rw [if_neg (by omega)]

theorem bytes_put {f : Int → UInt64} {k k' : Int} {ws : List UInt64} (h : ws.length ≤ 16) (hk : k ≠ k') : bytesB (putBlk f k ws) k' = bytesB f k' := by
  unfold bytesB; rw [put_rd_ne h hk]
theorem bytes_upd {f : Int → UInt64} {j : Int} {w : UInt64} (hj : j < 96) {k : Int} (hk : k = -1 ∨ 0 ≤ k) : bytesB (upd f (200 + j) w) k = bytesB f k := by
  unfold bytesB
  split
  · rfl
  · rw [upd_rd hj (by omega)]
theorem more_put_ne {f : Int → UInt64} {k k' : Int} {ws : List UInt64} (h : ws.length ≤ 16) (hk : k ≠ k') : moreL (putBlk f k ws) k' = moreL f k' := put_rd_ne h hk
theorem more_upd {f : Int → UInt64} {j : Int} {w : UInt64} (hj : j < 96) {k : Int} (hk : 0 ≤ k) : moreL (upd f (200 + j) w) k = moreL f k := upd_rd hj hk

/-- a byte of packed bytes -/
theorem packN_get : ∀ (l : List UInt8) (j : Nat), packN l / 256 ^ j % 256 = (l[j]?.getD 0).toNat
  | [], j => by simp [packN]
  | b :: r, 0 => by
    have := b.toNat_lt
    simp [packN]
  | b :: r, j + 1 => by
    have hb := b.toNat_lt
    have ih := packN_get r j
    simp only [packN, List.getElem?_cons_succ]
    rw [← ih, Nat.pow_succ, Nat.mul_comm (256 ^ j) 256, ← Nat.div_div_eq_div_mul]
    congr 2
    omega

theorem byte_word (l : List UInt8) (i : Nat) : byteW (wordT l (i / 8)) i = l[i]?.getD 0 := by
  unfold byteW
  rw [wordT_toNat, Nat.pow_mul, show (2 : Nat) ^ 8 = 256 from rfl]
  apply UInt8.toNat_inj.1
  rw [UInt8.toNat_ofNat', show (2 : Nat) ^ 8 = 256 from rfl, packN_get, List.getElem?_take, if_pos (Nat.mod_lt _ (by decide)), List.getElem?_drop, Nat.div_add_mod]

/-- a block that holds bytes -/
theorem bytes_text {f : Int → UInt64} {k : Int} {l : List UInt8} (hl : l.length ≤ 128) (hk : k ≠ -1) : bytesB (putBlk f k (textL l 16)) k = l ++ zeros (128 - l.length) := by
  unfold bytesB
  rw [if_neg hk, put_rd (by rw [textL_len]; omega)]
  unfold untextL fullB
  apply List.ext_getElem
  · simp [zeros]; omega
  · intro i h1 h2
    simp only [List.length_map, List.length_range] at h1
    simp only [List.getElem_map, List.getElem_range]
    have e : (textL l 16 ++ List.replicate (16 - (textL l 16).length) 0)[i / 8]?.getD 0 = wordT l (i / 8) := by
      rw [List.getElem?_append_left (by rw [textL_len]; omega)]
      unfold textL
      simp [show i / 8 < 16 by omega]
    rw [e, byte_word]
    by_cases h : i < l.length
    · rw [List.getElem_append_left h]; simp [h]
    · rw [List.getElem_append_right (by omega)]; simp [zeros, show l.length ≤ i by omega]
end Go.Proofs.YtlloemmpnhoanaaGreat
