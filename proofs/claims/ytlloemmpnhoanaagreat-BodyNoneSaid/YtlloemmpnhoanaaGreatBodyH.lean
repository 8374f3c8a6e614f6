/-
  Functions of packages strings, slices, bits that the layers call.
-/
import Derived.Test.YtlloemmpnhoanaaGreatBodyG
set_option linter.all false
set_option maxRecDepth 100000
namespace Go.Proofs.YtlloemmpnhoanaaGreat
open Go Go.Eng

theorem mul64_spec (y : Int) (hy : y = 16 ∨ y = 128) (h : Heap) : CallH Tryz.prog 89 [.int .u64 1, .int .u64 y] h (fun v h' => Keeps [] h h' ∧ v = .tuple #[.int .u64 0, .int .u64 y]) := by
  refine call_of hmix Tryz.func89 rfl ok89 (by simp [Tryz.f89]) ?_
  conv => whnf
  repeat (first | (refine Need.i (by decide) ?_; conv => whnf))
  refine ⟨Keeps.refl _ _, ?_⟩
  rcases hy with rfl | rfl <;> rfl

theorem mul_spec (y : Int) (hy : y = 16 ∨ y = 128) (h : Heap) : CallH Tryz.prog 74 [.int .u64 1, .int .u64 y] h (fun v h' => Keeps [] h h' ∧ v = .tuple #[.int .u64 0, .int .u64 y]) := by
  refine call_of hmix Tryz.func74 rfl ok74 (by simp [Tryz.f74]) ?_
  conv => whnf
  refine IfR.f rfl ?_
  conv => whnf
  refine CallR.i (mul64_spec y hy h) fun v h1 k1 hv => ?_
  subst hv
  conv => whnf
  exact ⟨k1, rfl⟩

theorem grow_spec {h : Heap} {b : Nat} {p : Option Addr} (B : Bld h b p none 0 0 []) (n : Nat) (hp : 0 < n) (hn : n ≤ 1000000) : CallH Tryz.prog 91 [.pointer (some ⟨b, 0, none⟩), .int .i64 (n : Int)] h
    (fun v h' => Keeps [b] h h' ∧ ∃ g c, Bld h' b p (some ⟨g, 0, none⟩) 0 c [] ∧ n ≤ c ∧ h.size ≤ g) := by
  have hb : b < h.size := obj_lt B.obj
  have rest : ∀ h2 g c (cs : List Value), g = h.size → h2[g]? = some (.cells ⟨cs⟩ 5 (0, 0)) → cs.length = c → n ≤ c → Keeps [] h h2 → ∀ h3, h3.size = h2.size → h3[b]? = some (.cells ⟨[.pointer p, .slice (some ⟨g, 0, none⟩) 0 c]⟩ 71 (0, 0)) → Keeps [b] h2 h3 →
      Keeps [b] h h3 ∧ ∃ g c, Bld h3 b p (some ⟨g, 0, none⟩) 0 c [] ∧ n ≤ c ∧ h.size ≤ g := by
    intro h2 g c cs hg og hc hn k2 h3 s3 o3 k3
    refine ⟨(k2.mono (by simp)).trans k3, g, c, ⟨o3, .inr ⟨g, cs, (0, 0), rfl, k3.obj og (by simp; omega), rfl, hc, rfl, Nat.zero_le _, Nat.le_refl _, by omega⟩, by simp [blkA]; omega, B.hp⟩, hn, by omega⟩
  have ew : IntKind.i64.wrap (IntKind.i64.wrap (2 * ((0 : Nat) : Int)) + (n : Int)) = (n : Int) := by
    rw [wrapN (x := 2 * ((0 : Nat) : Int)) (n := 0) (by simp) (by omega), wrapN (n := n) (by simp) (by omega)]
  refine call_of hmix Tryz.func91 rfl ok91 (by simp [Tryz.f91]) ?_
  conv => whnf
  refine LoadR.o B.obj rfl ?_
  conv => whnf
  refine BothR.i ?_ ?_
  · conv => whnf
    rw [ew]
    refine SemR.ext rfl (by kernel_rfl) (by kernel_rfl) (by kernel_rfl) (e := Extern.BytealgMakeNoZero.makeNoZero #[3] #[69]) (by kernel_rfl) (SemR.noZero rfl (by omega) hp fun g c cs h2 eg s2 og hc hcn k2 => ?_)
    conv => whnf
    refine LoadR.o (k2.obj B.obj (by simp)) rfl ?_
    conv => whnf
    refine SliceR.i 0 0 rfl rfl (Nat.le_refl _) (Nat.zero_le _) ?_
    conv => whnf
    refine LoadR.o (k2.obj B.obj (by simp)) rfl ?_
    conv => whnf
    refine SemR.copy0 rfl rfl (by simp) ?_
    conv => whnf
    refine StoreR.i (k2.obj B.obj (by simp)) (Nat.le_of_ble_eq_true rfl) (by simp [blocksOf]) fun h3 s3 o3 k3 => ?_
    conv => whnf
    refine rest h2 g c cs eg og hc hcn k2 h3 s3 ?_ k3
    rw [o3, slA_zero]; rfl
  · conv => whnf
    refine LoadR.o B.obj rfl ?_
    conv => whnf
    refine BothR.i ?_ ?_
    all_goals
      conv => whnf
      rw [ew]
      refine SemR.ext rfl (by kernel_rfl) (by kernel_rfl) (by kernel_rfl) (e := Extern.BytealgMakeNoZero.makeNoZero #[3] #[69]) (by kernel_rfl) (SemR.noZero rfl (by omega) hp fun g c cs h2 eg s2 og hc hcn k2 => ?_)
      conv => whnf
      refine SliceR.i 0 0 rfl rfl (Nat.le_refl _) (Nat.zero_le _) ?_
      conv => whnf
      refine LoadR.o (k2.obj B.obj (by simp)) rfl ?_
      conv => whnf
      refine SemR.copy0 rfl rfl (by simp) ?_
      conv => whnf
      refine StoreR.i (k2.obj B.obj (by simp)) (Nat.le_of_ble_eq_true rfl) (by simp [blocksOf]) fun h3 s3 o3 k3 => ?_
      conv => whnf
      refine rest h2 g c cs eg og hc hcn k2 h3 s3 ?_ k3
      rw [o3, slA_zero]; rfl

theorem Grow_spec {h : Heap} {b : Nat} {p : Option Addr} (B : Bld h b p none 0 0 []) (n : Nat) (hp : 0 < n) (hn : n ≤ 1000000) : CallH Tryz.prog 80 [.pointer (some ⟨b, 0, none⟩), .int .i64 (n : Int)] h
    (fun v h' => Keeps [b] h h' ∧ ∃ g c, Bld h' b (some ⟨b, 0, none⟩) (some ⟨g, 0, none⟩) 0 c [] ∧ n ≤ c ∧ h.size ≤ g) := by
  refine call_of hmix Tryz.func80 rfl ok80 (by simp [Tryz.f80]) ?_
  conv => whnf
  refine CallR.m (copyCheck_spec B) (by simp [blocksOf]) fun v h1 k1 B1 => ?_
  conv => whnf
  refine MeetR.pass ?_
  conv => whnf
  refine IfR.f (by simp) ?_
  conv => whnf
  refine LoadR.o B1.obj rfl ?_
  conv => whnf
  refine LoadR.o B1.obj rfl ?_
  conv => whnf
  refine IfR.t ?_ ?_
  · rw [wrapN (n := 0) (by simp) (by omega)]; simp; omega
  conv => whnf
  refine CallR.m (grow_spec B1 n hp hn) (by simp [blocksOf]) fun v h2 k2 hv => ?_
  obtain ⟨g, c, q1, q2, q3⟩ := hv
  conv => whnf
  exact ⟨k1.trans k2, g, c, q1, q2, by have := k1.size; omega⟩

def zeros (n : Nat) : List UInt8 := List.replicate n 0

theorem repeat_spec (h : Heap) : CallH Tryz.prog 59 [.string ⟨#[0]⟩, .int .i64 128] h (fun v h' => Keeps [] h h' ∧ v = .string ⟨(zeros 128).toArray⟩) := by
  refine call_of hmix Tryz.func59 rfl ok59 (by simp [Tryz.f59]) ?_
  conv => whnf
  refine IfR.f rfl ?_
  conv => whnf
  refine IfR.f rfl ?_
  conv => whnf
  refine MeetR.pass ?_
  conv => whnf
  refine IfR.f rfl ?_
  conv => whnf
  refine CallR.i (mul_spec 128 (.inr rfl) h) fun v h1 k1 hv => ?_
  subst hv
  conv => whnf
  refine MeetR.pass ?_
  conv => whnf
  refine IfR.f rfl ?_
  conv => whnf
  refine IfR.f rfl ?_
  conv => whnf
  first | refine IdxR.i 0 rfl (by decide) ?_ | (refine MeetR.pass ?_; (conv => whnf); refine IdxR.i 0 rfl (by decide) ?_)
  conv => whnf
  first | refine IfR.f rfl ?_ | (refine MeetR.pass ?_; (conv => whnf); refine IfR.f rfl ?_)
  conv => whnf
  first | refine IfR.f rfl ?_ | (refine MeetR.pass ?_; (conv => whnf); refine IfR.f rfl ?_)
  conv => whnf
  first | refine IfR.f rfl ?_ | (refine MeetR.pass ?_; (conv => whnf); refine IfR.f rfl ?_)
  conv => whnf
  first | refine IfR.f rfl ?_ | (refine MeetR.pass ?_; (conv => whnf); refine IfR.f rfl ?_)
  conv => whnf
  first | refine IfR.f rfl ?_ | (refine MeetR.pass ?_; (conv => whnf); refine IfR.f rfl ?_)
  conv => whnf
  first | refine IfR.f rfl ?_ | (refine MeetR.pass ?_; (conv => whnf); refine IfR.f rfl ?_)
  conv => whnf
  first | refine AllocR.i fun b2 h2 e2 s2 o2 k2 => ?_ | (refine MeetR.pass ?_; (conv => whnf); refine AllocR.i fun b2 h2 e2 s2 o2 k2 => ?_)
  have B2 : Bld h2 b2 none none 0 0 [] := ⟨o2, .inl ⟨rfl, rfl, rfl, rfl⟩, by simp [blkA], .inl rfl⟩
  conv => whnf
  first | refine CallR.m (Grow_spec B2 128 (by decide) (by decide)) (by simp [blocksOf]) fun v h3 k3 hv => ?_ | (refine MeetR.pass ?_; (conv => whnf); refine CallR.m (Grow_spec B2 128 (by decide) (by decide)) (by simp [blocksOf]) fun v h3 k3 hv => ?_)
  obtain ⟨g, c, B3, hc, hg⟩ := hv
  conv => whnf
  first | refine CallR.m (writeString_spec B3 ⟨#[0]⟩ (by decide)) (by simp [blocksOf]) fun v h4 k4 hv => ?_ | (refine MeetR.pass ?_; (conv => whnf); refine CallR.m (writeString_spec B3 ⟨#[0]⟩ (by decide)) (by simp [blocksOf]) fun v h4 k4 hv => ?_)
  obtain ⟨rfl, a4, c4, B4, n4, q4⟩ := hv
  obtain ⟨rfl, rfl⟩ := q4 (by show 0 + 1 ≤ c; omega)
  have z1 := k1.size
  have z2 := k2.size
  have z3 := k3.size
  have z4 := k4.size
  have k04 : Keeps [] h h4 := ((k1.trans k2).nil_of k3 (by simp; omega)).nil_of k4 (by intro x hx; simp [blkA] at hx; omega)
  conv => whnf
  refine LoopR.on [7, 8, 9] [] (fun j : Nat => [(7, .v (.int .i64 128)), (8, .v (.int .i64 128)), (9, .v (.pointer (some ⟨b2, 0, none⟩)))]) (fun _ => [])
    (fun j h' => j ≤ 7 ∧ Keeps [] h h' ∧ Bld h' b2 (some ⟨b2, 0, none⟩) (some ⟨g, 0, none⟩) (2 ^ j) c4 (zeros (2 ^ j))) (fun j => 7 - j) 0 ?_ ?_
  · conv => whnf
    exact ⟨0, rfl, rfl, rfl, by decide, k04, B4⟩
  · rintro j h5 ⟨hj, k5, B5⟩
    have hp : 2 ^ j ≤ 128 := by
      have : 2 ^ j ≤ 2 ^ 7 := Nat.pow_le_pow_right (by decide) hj
      simpa using this
    generalize hq : 2 ^ j = q at *
    conv => whnf
    refine CallR.i (blen_spec B5) fun v h6 k6 hv => ?_
    subst hv
    have B6 := B5.on k6
    conv => whnf
    first | refine IfR.i (fun hc => ?_) (fun hc => ?_) | (refine MeetR.pass ?_; (conv => whnf); refine IfR.i (fun hc => ?_) (fun hc => ?_))
    · have hj1 : j < 7 := by
        rcases Nat.lt_or_ge j 7 with h | h
        · exact h
        · have : j = 7 := by omega
          subst this; subst hq; simp at hc
      have hp2 : 2 ^ (j + 1) ≤ 128 := by
        have : 2 ^ (j + 1) ≤ 2 ^ 7 := Nat.pow_le_pow_right (by decide) (by omega)
        simpa using this
      have hps : 2 ^ (j + 1) = q + q := by rw [Nat.pow_succ]; omega
      conv => whnf
      refine CallR.i (blen_spec B6) fun v h7 k7 hv => ?_
      subst hv
      have B7 := B6.on k7
      conv => whnf
      refine CallR.i (blen_spec B7) fun v h8 k8 hv => ?_
      subst hv
      have B8 := B7.on k8
      conv => whnf
      first | refine CallR.m (bstring_spec B8 (by simp [zeros]; omega)) (by simp [blocksOf]) fun v h9 k9 hv => ?_ | (refine MeetR.pass ?_; (conv => whnf); refine CallR.m (bstring_spec B8 (by simp [zeros]; omega)) (by simp [blocksOf]) fun v h9 k9 hv => ?_)
      obtain ⟨rfl, B9⟩ := hv
      have em : (if (128 : Int) < (if ((q : Nat) : Int) < IntKind.i64.wrap (128 - ((q : Nat) : Int)) then ((q : Nat) : Int) else IntKind.i64.wrap (128 - ((q : Nat) : Int))) then (128 : Int) else (if ((q : Nat) : Int) < IntKind.i64.wrap (128 - ((q : Nat) : Int)) then ((q : Nat) : Int) else IntKind.i64.wrap (128 - ((q : Nat) : Int)))) = ((q : Nat) : Int) := by
        rw [wrapI (x := 128 - ((q : Nat) : Int)) (by omega) (by omega)]
        split <;> split <;> omega
      conv => whnf
      refine SliceR.i 0 q rfl em (Nat.zero_le _) (by show q ≤ _; simp [zeros, ByteArray.size]) ?_
      conv => whnf
      refine CallR.m (writeString_spec B9 _ ?_) (by simp [blocksOf]) fun v h10 k10 hv => ?_
      · have : (ByteArray.extract ⟨(zeros q).toArray⟩ 0 q).size = q := by simp [ByteArray.size_extract, zeros, ByteArray.size]
        rw [this]; omega
      obtain ⟨rfl, a10, c10, B10, n10, q10⟩ := hv
      have hsz : (ByteArray.extract ⟨(zeros q).toArray⟩ 0 q).size = q := by simp [ByteArray.size_extract, zeros, ByteArray.size]
      have hdat : (ByteArray.extract ⟨(zeros q).toArray⟩ 0 q).data.toList = zeros q := by
        rw [ByteArray.data_extract]; simp [zeros]
      rw [hsz] at B10 q10
      obtain ⟨rfl, rfl⟩ := q10 (by omega)
      rw [hdat, ← hps] at B10
      have hz : zeros q ++ zeros q = zeros (2 ^ (j + 1)) := by rw [hps]; simp [zeros, List.replicate_append_replicate]
      rw [hz] at B10
      conv => whnf
      refine ⟨7 - (j + 1), by omega, ?_⟩
      conv => whnf
      refine ⟨j + 1, rfl, rfl, rfl, by omega, ?_, B10⟩
      have z := (k6.trans (k7.trans k8)).size
      exact ((k5.trans (k6.trans (k7.trans k8))).nil_of k9 (by intro x hx; simp [blkA] at hx; omega)).nil_of k10 (by intro x hx; simp [blkA] at hx; omega)
    · have hj1 : j = 7 := by
        rcases Nat.lt_or_ge j 7 with h | h
        · have : 2 ^ j < 2 ^ 7 := Nat.pow_lt_pow_right (by decide) h
          have h2 : (q : Int) < 128 := by
            have : 2 ^ j < 128 := by simpa using this
            omega
          simp at hc; omega
        · omega
      subst hj1
      have hq' : q = 128 := by rw [← hq]
      subst hq'
      conv => whnf
      refine CallR.m (bstring_spec B6 (by simp [zeros])) (by simp [blocksOf]) fun v h9 k9 hv => ?_
      obtain ⟨rfl, B9⟩ := hv
      conv => whnf
      exact ⟨(k5.trans k6).nil_of k9 (by intro x hx; simp [blkA] at hx; omega), rfl⟩
end Go.Proofs.YtlloemmpnhoanaaGreat
