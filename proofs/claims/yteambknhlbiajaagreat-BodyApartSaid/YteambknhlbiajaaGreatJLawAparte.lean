/-
  Joined texts: BodyG, BodyH, BodyI, BodyJ, BodyK, BodyL.
-/
import Derived.Test.YteambknhlbiajaaGreatJLawApartd
/-
  Builders of texts; functions of package slices.
-/
set_option linter.all false
set_option maxRecDepth 100000
namespace Go.Proofs.YteambknhlbiajaaGreat
open Go Go.Eng

/-- a builder, and what is written -/
structure Bld (h : Heap) (b : Nat) (p : Option Addr) (a : Option Addr) (n c : Nat) (s : List UInt8) : Prop where
  obj : h[b]? = some (.cells ⟨[.pointer p, .slice a n c]⟩ 87 (0, 0))
  buf : Buf h 5 a n c s
  ap : b ∉ blkA a
  hp : p = none ∨ p = some ⟨b, 0, none⟩

theorem Bld.on {h h' : Heap} {b : Nat} {p a : Option Addr} {n c : Nat} {s : List UInt8} (B : Bld h b p a n c s) (k : Keeps [] h h') : Bld h' b p a n c s := ⟨k.obj B.obj (by simp), B.buf.keep k (by simp), B.ap, B.hp⟩
theorem Bld.keep {M : List Nat} {h h' : Heap} {b : Nat} {p a : Option Addr} {n c : Nat} {s : List UInt8} (B : Bld h b p a n c s) (k : Keeps M h h') (h1 : b ∉ M) (h2 : ∀ x ∈ blkA a, x ∉ M) : Bld h' b p a n c s := ⟨k.obj B.obj h1, B.buf.keep k h2, B.ap, B.hp⟩

theorem copyCheck_spec {h : Heap} {b : Nat} {p a : Option Addr} {n c : Nat} {s : List UInt8} (B : Bld h b p a n c s) : CallH Tryz.prog 66 [.pointer (some ⟨b, 0, none⟩)] h (fun v h' => Keeps [b] h h' ∧ Bld h' b (some ⟨b, 0, none⟩) a n c s) := by
  have hap := B.ap
  rcases B with ⟨o, hb, hap, rfl | rfl⟩
  · refine call_of hmix Tryz.func66 rfl ok66 (by simp [Tryz.f66]) ?_
    conv => whnf
    refine LoadR.o o rfl ?_
    conv => whnf
    refine IfR.t rfl ?_
    conv => whnf
    refine SemR.pure (v := .pointer (some ⟨b, 0, none⟩)) (fun w hw => Lib.run_to_unsafe (P := Tryz.prog) w ⟨b, 0, none⟩ rfl rfl rfl (by decide) (by unfold World.shape?; rw [hw, o]) (by show 0 < 2; decide)) ?_
    conv => whnf
    refine SemR.ext rfl (by kernel_rfl) (by kernel_rfl) (by kernel_rfl) (e := Extern.AbiNoEscape.same) (by kernel_rfl) (SemR.pure (fun w _ => Lib.run_noEscape w _) ?_)
    conv => whnf
    refine SemR.pure (v := .pointer (some ⟨b, 0, none⟩)) (fun w hw => Lib.run_from_unsafe (P := Tryz.prog) w ⟨b, 0, none⟩ rfl rfl rfl (by unfold World.shape?; rw [hw, o]) (by kernel_rfl)) ?_
    conv => whnf
    refine StoreR.i o (Nat.le_of_ble_eq_true rfl) (by simp [blocksOf]) fun h2 s2 o2 k2 => ?_
    conv => whnf
    exact ⟨k2, o2, hb.keep k2 (fun x hx hm => by simp at hm; exact hap (hm ▸ hx)), hap, .inr rfl⟩
  · refine call_of hmix Tryz.func66 rfl ok66 (by simp [Tryz.f66]) ?_
    conv => whnf
    refine LoadR.o o rfl ?_
    conv => whnf
    refine IfR.f rfl ?_
    conv => whnf
    refine LoadR.o o rfl ?_
    conv => whnf
    refine PureR.i (v := .bool false) (fun w => ?_) ?_
    · simp only [Sem.run_bind]
      rw [eqGuard_run _ _ _ _ _ _ _ _ (by simp) (by simp)]
      simp only [Result.andThen_ok]
      exact Lib.run_neq_ptr_same (P := Tryz.prog) w ⟨b, 0, none⟩ rfl rfl
    conv => whnf
    refine IfR.f rfl ?_
    conv => whnf
    exact ⟨Keeps.refl _ _, o, hb, hap, .inr rfl⟩

theorem writeString_spec {h : Heap} {b : Nat} {p a : Option Addr} {n c : Nat} {s : List UInt8} (B : Bld h b p a n c s) (x : ByteArray) (hx : n + x.size ≤ 70368744177664) : CallH Tryz.prog 40 [.pointer (some ⟨b, 0, none⟩), .string x] h
    (fun v h' => Keeps (b :: blkA a) h h' ∧ v = .tuple #[.int .i64 x.size, .nilIface] ∧ ∃ a' c', Bld h' b (some ⟨b, 0, none⟩) a' (n + x.size) c' (s ++ x.data.toList) ∧ (∀ y ∈ blkA a', y ∈ blkA a ∨ h.size ≤ y) ∧ (n + x.size ≤ c → c' = c ∧ a' = a)) := by
  refine call_of hmix Tryz.func40 rfl ok40 (by simp [Tryz.f40]) ?_
  conv => whnf
  refine CallR.m (copyCheck_spec B) (by simp [blocksOf]) fun v h1 k1 B1 => ?_
  have hb1 : b < h1.size := obj_lt B1.obj
  conv => whnf
  refine LoadR.o B1.obj rfl ?_
  conv => whnf
  refine SemR.appendStr rfl rfl rfl rfl rfl rfl rfl B1.buf hx (by simp [blocksOf]) fun a2 c2 h2 F2 k2 n2 m2 q2 => ?_
  have o2 := k2.obj B1.obj B1.ap
  conv => whnf
  refine StoreR.i o2 (Nat.le_of_ble_eq_true rfl) (by simp [blocksOf]) fun h3 s3 o3 k3 => ?_
  conv => whnf
  have z1 := k1.size
  have ap2 : b ∉ blkA a2 := fun hx => by
    rcases n2 b hx with h | h
    · exact B1.ap h
    · omega
  refine ⟨(k1.mono (by simp)).trans ((k2.mono (fun x hx => List.mem_cons_of_mem _ hx)).trans (k3.mono (by simp))), rfl, a2, c2, ⟨o3, F2.keep k3 (fun x hx hm => by simp at hm; exact ap2 (hm ▸ hx)), ap2, .inr rfl⟩, fun y hy => (n2 y hy).imp id (fun h => by omega), q2⟩

theorem blen_spec {h : Heap} {b : Nat} {p a : Option Addr} {n c : Nat} {s : List UInt8} (B : Bld h b p a n c s) : CallH Tryz.prog 82 [.pointer (some ⟨b, 0, none⟩)] h (fun v h' => Keeps [] h h' ∧ v = .int .i64 (n : Int)) := by
  refine call_of hmix Tryz.func82 rfl ok82 (by simp [Tryz.f82]) ?_
  conv => whnf
  refine LoadR.o B.obj rfl ?_
  conv => whnf
  exact ⟨Keeps.refl _ _, rfl⟩

theorem bstring_spec {h : Heap} {b : Nat} {p a : Option Addr} {n c : Nat} {s : List UInt8} (B : Bld h b p a n c s) (hs : s.length ≤ 70368744177664) : CallH Tryz.prog 41 [.pointer (some ⟨b, 0, none⟩)] h (fun v h' => Keeps (blkA a) h h' ∧ v = .string ⟨s.toArray⟩ ∧ Bld h' b p a n c s) := by
  have hbuf := B.buf
  rcases hbuf with ⟨rfl, rfl, rfl, rfl⟩ | ⟨g, cs, fz, rfl, h2, h3, h4, h5, h6, h7, h8⟩
  · refine call_of hmix Tryz.func41 rfl ok41 (by simp [Tryz.f41]) ?_
    conv => whnf
    refine LoadR.o B.obj rfl ?_
    conv => whnf
    refine BothR.i ?_ ?_
    · conv => whnf
      refine SemR.pure (fun w _ => Lib.run_unsafeSliceData_nil (P := Tryz.prog) w _ _ _ _) ?_
      conv => whnf
      refine LoadR.o B.obj rfl ?_
      conv => whnf
      refine SemR.pure (fun w _ => Lib.run_unsafeString_none (P := Tryz.prog) w _ _ _ none) ?_
      conv => whnf
      exact ⟨Keeps.refl _ _, rfl, B⟩
    · conv => whnf
      refine LoadR.o B.obj rfl ?_
      conv => whnf
      refine BothR.i ?_ ?_
      all_goals
        conv => whnf
        refine SemR.pure (fun w _ => Lib.run_unsafeSliceData_nil (P := Tryz.prog) w _ _ _ _) ?_
        conv => whnf
        refine SemR.pure (fun w _ => Lib.run_unsafeString_none (P := Tryz.prog) w _ _ _ none) ?_
        conv => whnf
        exact ⟨Keeps.refl _ _, rfl, B⟩
  · have fin : ∀ h', Buf h' 5 (some ⟨g, 0, none⟩) n c s → Keeps [g] h h' → Keeps (blkA (some ⟨g, 0, none⟩)) h h' ∧ Value.string ⟨s.toArray⟩ = .string ⟨s.toArray⟩ ∧ Bld h' b p (some ⟨g, 0, none⟩) n c s := fun h' F k => by
      exact ⟨k, rfl, k.obj B.obj (by simpa [blkA] using B.ap), F, B.ap, B.hp⟩
    refine call_of hmix Tryz.func41 rfl ok41 (by simp [Tryz.f41]) ?_
    conv => whnf
    refine LoadR.o B.obj rfl ?_
    conv => whnf
    refine BothR.i ?_ ?_
    · conv => whnf
      refine SemR.pure (fun w _ => Lib.run_unsafeSliceData_row (P := Tryz.prog) w _ _ _ _ _ (by omega)) ?_
      conv => whnf
      refine LoadR.o B.obj rfl ?_
      conv => whnf
      refine SemR.unsafeStr rfl rfl B.buf hs (by simp [blocksOf]) fun h' F s' k => ?_
      conv => whnf
      exact fin h' F k
    · conv => whnf
      refine LoadR.o B.obj rfl ?_
      conv => whnf
      refine BothR.i ?_ ?_
      all_goals
        conv => whnf
        refine SemR.pure (fun w _ => Lib.run_unsafeSliceData_row (P := Tryz.prog) w _ _ _ _ _ (by omega)) ?_
        conv => whnf
        refine SemR.unsafeStr rfl rfl B.buf hs (by simp [blocksOf]) fun h' F s' k => ?_
        conv => whnf
        exact fin h' F k
end Go.Proofs.YteambknhlbiajaaGreat
/-
  Functions of packages strings, slices, bits that the layers call.
-/
set_option linter.all false
set_option maxRecDepth 100000
namespace Go.Proofs.YteambknhlbiajaaGreat
open Go Go.Eng

theorem mul64_spec (y : Int) (hy : y = 16 ∨ y = 128) (h : Heap) : CallH Tryz.prog 87 [.int .u64 1, .int .u64 y] h (fun v h' => Keeps [] h h' ∧ v = .tuple #[.int .u64 0, .int .u64 y]) := by
  refine call_of hmix Tryz.func87 rfl ok87 (by simp [Tryz.f87]) ?_
  conv => whnf
  repeat (first | (refine Need.i (by decide) ?_; conv => whnf))
  refine ⟨Keeps.refl _ _, ?_⟩
  rcases hy with rfl | rfl <;> rfl

theorem mul_spec (y : Int) (hy : y = 16 ∨ y = 128) (h : Heap) : CallH Tryz.prog 72 [.int .u64 1, .int .u64 y] h (fun v h' => Keeps [] h h' ∧ v = .tuple #[.int .u64 0, .int .u64 y]) := by
  refine call_of hmix Tryz.func72 rfl ok72 (by simp [Tryz.f72]) ?_
  conv => whnf
  refine IfR.f rfl ?_
  conv => whnf
  refine CallR.i (mul64_spec y hy h) fun v h1 k1 hv => ?_
  subst hv
  conv => whnf
  exact ⟨k1, rfl⟩

theorem grow_spec {h : Heap} {b : Nat} {p : Option Addr} (B : Bld h b p none 0 0 []) (n : Nat) (hp : 0 < n) (hn : n ≤ 1000000) : CallH Tryz.prog 90 [.pointer (some ⟨b, 0, none⟩), .int .i64 (n : Int)] h
    (fun v h' => Keeps [b] h h' ∧ ∃ g c, Bld h' b p (some ⟨g, 0, none⟩) 0 c [] ∧ n ≤ c ∧ h.size ≤ g) := by
  have hb : b < h.size := obj_lt B.obj
  have rest : ∀ h2 g c (cs : List Value), g = h.size → h2[g]? = some (.cells ⟨cs⟩ 5 (0, 0)) → cs.length = c → n ≤ c → Keeps [] h h2 → ∀ h3, h3.size = h2.size → h3[b]? = some (.cells ⟨[.pointer p, .slice (some ⟨g, 0, none⟩) 0 c]⟩ 87 (0, 0)) → Keeps [b] h2 h3 →
      Keeps [b] h h3 ∧ ∃ g c, Bld h3 b p (some ⟨g, 0, none⟩) 0 c [] ∧ n ≤ c ∧ h.size ≤ g := by
    intro h2 g c cs hg og hc hn k2 h3 s3 o3 k3
    refine ⟨(k2.mono (by simp)).trans k3, g, c, ⟨o3, .inr ⟨g, cs, (0, 0), rfl, k3.obj og (by simp; omega), rfl, hc, rfl, Nat.zero_le _, Nat.le_refl _, by omega⟩, by simp [blkA]; omega, B.hp⟩, hn, by omega⟩
  have ew : IntKind.i64.wrap (IntKind.i64.wrap (2 * ((0 : Nat) : Int)) + (n : Int)) = (n : Int) := by
    rw [wrapN (x := 2 * ((0 : Nat) : Int)) (n := 0) (by simp) (by omega), wrapN (n := n) (by simp) (by omega)]
  refine call_of hmix Tryz.func90 rfl ok90 (by simp [Tryz.f90]) ?_
  conv => whnf
  refine LoadR.o B.obj rfl ?_
  conv => whnf
  refine BothR.i ?_ ?_
  · conv => whnf
    rw [ew]
    refine SemR.ext rfl (by kernel_rfl) (by kernel_rfl) (by kernel_rfl) (e := Extern.BytealgMakeNoZero.makeNoZero #[3] #[85]) (by kernel_rfl) (SemR.noZero rfl (by omega) hp fun g c cs h2 eg s2 og hc hcn k2 => ?_)
    conv => whnf
    refine LoadR.o (k2.obj B.obj (by simp)) rfl ?_
    conv => whnf
    refine SliceR.i 0 0 rfl rfl (Nat.le_refl _) (Nat.zero_le _) ?_
    conv => whnf
    refine LoadR.o (k2.obj B.obj (by simp)) rfl ?_
    conv => whnf
    refine SemR.copy0 rfl rfl (by simp) ?_
    conv => whnf
    refine StoreR.i (k2.obj B.obj (by simp)) (Nat.le_of_ble_eq_true rfl) (by simp [blocksOf]) fun h3 s3 o3 k3 => ?_
    conv => whnf
    refine rest h2 g c cs eg og hc hcn k2 h3 s3 ?_ k3
    rw [o3, slA_zero]; rfl
  · conv => whnf
    refine LoadR.o B.obj rfl ?_
    conv => whnf
    refine BothR.i ?_ ?_
    all_goals
      conv => whnf
      rw [ew]
      refine SemR.ext rfl (by kernel_rfl) (by kernel_rfl) (by kernel_rfl) (e := Extern.BytealgMakeNoZero.makeNoZero #[3] #[85]) (by kernel_rfl) (SemR.noZero rfl (by omega) hp fun g c cs h2 eg s2 og hc hcn k2 => ?_)
      conv => whnf
      refine SliceR.i 0 0 rfl rfl (Nat.le_refl _) (Nat.zero_le _) ?_
      conv => whnf
      refine LoadR.o (k2.obj B.obj (by simp)) rfl ?_
      conv => whnf
      refine SemR.copy0 rfl rfl (by simp) ?_
      conv => whnf
      refine StoreR.i (k2.obj B.obj (by simp)) (Nat.le_of_ble_eq_true rfl) (by simp [blocksOf]) fun h3 s3 o3 k3 => ?_
      conv => whnf
      refine rest h2 g c cs eg og hc hcn k2 h3 s3 ?_ k3
      rw [o3, slA_zero]; rfl

theorem Grow_spec {h : Heap} {b : Nat} {p : Option Addr} (B : Bld h b p none 0 0 []) (n : Nat) (hp : 0 < n) (hn : n ≤ 1000000) : CallH Tryz.prog 81 [.pointer (some ⟨b, 0, none⟩), .int .i64 (n : Int)] h
    (fun v h' => Keeps [b] h h' ∧ ∃ g c, Bld h' b (some ⟨b, 0, none⟩) (some ⟨g, 0, none⟩) 0 c [] ∧ n ≤ c ∧ h.size ≤ g) := by
  refine call_of hmix Tryz.func81 rfl ok81 (by simp [Tryz.f81]) ?_
  conv => whnf
  refine CallR.m (copyCheck_spec B) (by simp [blocksOf]) fun v h1 k1 B1 => ?_
  conv => whnf
  refine MeetR.pass ?_
  conv => whnf
  refine IfR.f (by simp) ?_
  conv => whnf
  refine LoadR.o B1.obj rfl ?_
  conv => whnf
  refine LoadR.o B1.obj rfl ?_
  conv => whnf
  refine IfR.t ?_ ?_
  · rw [wrapN (n := 0) (by simp) (by omega)]; simp; omega
  conv => whnf
  refine CallR.m (grow_spec B1 n hp hn) (by simp [blocksOf]) fun v h2 k2 hv => ?_
  obtain ⟨g, c, q1, q2, q3⟩ := hv
  conv => whnf
  exact ⟨k1.trans k2, g, c, q1, q2, by have := k1.size; omega⟩

def zeros (n : Nat) : List UInt8 := List.replicate n 0

theorem repeat_spec (h : Heap) : CallH Tryz.prog 62 [.string ⟨#[0]⟩, .int .i64 128] h (fun v h' => Keeps [] h h' ∧ v = .string ⟨(zeros 128).toArray⟩) := by
  refine call_of hmix Tryz.func62 rfl ok62 (by simp [Tryz.f62]) ?_
  conv => whnf
  refine IfR.f rfl ?_
  conv => whnf
  refine IfR.f rfl ?_
  conv => whnf
  refine MeetR.pass ?_
  conv => whnf
  refine IfR.f rfl ?_
  conv => whnf
  refine CallR.i (mul_spec 128 (.inr rfl) h) fun v h1 k1 hv => ?_
  subst hv
  conv => whnf
  refine MeetR.pass ?_
  conv => whnf
  refine IfR.f rfl ?_
  conv => whnf
  refine IfR.f rfl ?_
  conv => whnf
  first | refine IdxR.i 0 rfl (by decide) ?_ | (refine MeetR.pass ?_; (conv => whnf); refine IdxR.i 0 rfl (by decide) ?_)
  conv => whnf
  first | refine IfR.f rfl ?_ | (refine MeetR.pass ?_; (conv => whnf); refine IfR.f rfl ?_)
  conv => whnf
  first | refine IfR.f rfl ?_ | (refine MeetR.pass ?_; (conv => whnf); refine IfR.f rfl ?_)
  conv => whnf
  first | refine IfR.f rfl ?_ | (refine MeetR.pass ?_; (conv => whnf); refine IfR.f rfl ?_)
  conv => whnf
  first | refine IfR.f rfl ?_ | (refine MeetR.pass ?_; (conv => whnf); refine IfR.f rfl ?_)
  conv => whnf
  first | refine IfR.f rfl ?_ | (refine MeetR.pass ?_; (conv => whnf); refine IfR.f rfl ?_)
  conv => whnf
  first | refine IfR.f rfl ?_ | (refine MeetR.pass ?_; (conv => whnf); refine IfR.f rfl ?_)
  conv => whnf
  first | refine AllocR.i fun b2 h2 e2 s2 o2 k2 => ?_ | (refine MeetR.pass ?_; (conv => whnf); refine AllocR.i fun b2 h2 e2 s2 o2 k2 => ?_)
  have B2 : Bld h2 b2 none none 0 0 [] := ⟨o2, .inl ⟨rfl, rfl, rfl, rfl⟩, by simp [blkA], .inl rfl⟩
  conv => whnf
  first | refine CallR.m (Grow_spec B2 128 (by decide) (by decide)) (by simp [blocksOf]) fun v h3 k3 hv => ?_ | (refine MeetR.pass ?_; (conv => whnf); refine CallR.m (Grow_spec B2 128 (by decide) (by decide)) (by simp [blocksOf]) fun v h3 k3 hv => ?_)
  obtain ⟨g, c, B3, hc, hg⟩ := hv
  conv => whnf
  first | refine CallR.m (writeString_spec B3 ⟨#[0]⟩ (by decide)) (by simp [blocksOf]) fun v h4 k4 hv => ?_ | (refine MeetR.pass ?_; (conv => whnf); refine CallR.m (writeString_spec B3 ⟨#[0]⟩ (by decide)) (by simp [blocksOf]) fun v h4 k4 hv => ?_)
  obtain ⟨rfl, a4, c4, B4, n4, q4⟩ := hv
  obtain ⟨rfl, rfl⟩ := q4 (by show 0 + 1 ≤ c; omega)
  have z1 := k1.size
  have z2 := k2.size
  have z3 := k3.size
  have z4 := k4.size
  have k04 : Keeps [] h h4 := ((k1.trans k2).nil_of k3 (by simp; omega)).nil_of k4 (by intro x hx; simp [blkA] at hx; omega)
  conv => whnf
  refine LoopR.on [7, 8, 9] [] (fun j : Nat => [(7, .v (.int .i64 128)), (8, .v (.int .i64 128)), (9, .v (.pointer (some ⟨b2, 0, none⟩)))]) (fun _ => [])
    (fun j h' => j ≤ 7 ∧ Keeps [] h h' ∧ Bld h' b2 (some ⟨b2, 0, none⟩) (some ⟨g, 0, none⟩) (2 ^ j) c4 (zeros (2 ^ j))) (fun j => 7 - j) 0 ?_ ?_
  · conv => whnf
    exact ⟨0, rfl, rfl, rfl, by decide, k04, B4⟩
  · rintro j h5 ⟨hj, k5, B5⟩
    have hp : 2 ^ j ≤ 128 := by
      have : 2 ^ j ≤ 2 ^ 7 := Nat.pow_le_pow_right (by decide) hj
      simpa using this
    generalize hq : 2 ^ j = q at *
    conv => whnf
    refine CallR.i (blen_spec B5) fun v h6 k6 hv => ?_
    subst hv
    have B6 := B5.on k6
    conv => whnf
    first | refine IfR.i (fun hc => ?_) (fun hc => ?_) | (refine MeetR.pass ?_; (conv => whnf); refine IfR.i (fun hc => ?_) (fun hc => ?_))
    · have hj1 : j < 7 := by
        rcases Nat.lt_or_ge j 7 with h | h
        · exact h
        · have : j = 7 := by omega
          subst this; subst hq; simp at hc
      have hp2 : 2 ^ (j + 1) ≤ 128 := by
        have : 2 ^ (j + 1) ≤ 2 ^ 7 := Nat.pow_le_pow_right (by decide) (by omega)
        simpa using this
      have hps : 2 ^ (j + 1) = q + q := by rw [Nat.pow_succ]; omega
      conv => whnf
      refine CallR.i (blen_spec B6) fun v h7 k7 hv => ?_
      subst hv
      have B7 := B6.on k7
      conv => whnf
      refine CallR.i (blen_spec B7) fun v h8 k8 hv => ?_
      subst hv
      have B8 := B7.on k8
      conv => whnf
      first | refine CallR.m (bstring_spec B8 (by simp [zeros]; omega)) (by simp [blocksOf]) fun v h9 k9 hv => ?_ | (refine MeetR.pass ?_; (conv => whnf); refine CallR.m (bstring_spec B8 (by simp [zeros]; omega)) (by simp [blocksOf]) fun v h9 k9 hv => ?_)
      obtain ⟨rfl, B9⟩ := hv
      have em : (if (128 : Int) < (if ((q : Nat) : Int) < IntKind.i64.wrap (128 - ((q : Nat) : Int)) then ((q : Nat) : Int) else IntKind.i64.wrap (128 - ((q : Nat) : Int))) then (128 : Int) else (if ((q : Nat) : Int) < IntKind.i64.wrap (128 - ((q : Nat) : Int)) then ((q : Nat) : Int) else IntKind.i64.wrap (128 - ((q : Nat) : Int)))) = ((q : Nat) : Int) := by
        rw [wrapI (x := 128 - ((q : Nat) : Int)) (by omega) (by omega)]
        split <;> split <;> omega
      conv => whnf
      refine SliceR.i 0 q rfl em (Nat.zero_le _) (by show q ≤ _; simp [zeros, ByteArray.size]) ?_
      conv => whnf
      refine CallR.m (writeString_spec B9 _ ?_) (by simp [blocksOf]) fun v h10 k10 hv => ?_
      · have : (ByteArray.extract ⟨(zeros q).toArray⟩ 0 q).size = q := by simp [ByteArray.size_extract, zeros, ByteArray.size]
        rw [this]; omega
      obtain ⟨rfl, a10, c10, B10, n10, q10⟩ := hv
      have hsz : (ByteArray.extract ⟨(zeros q).toArray⟩ 0 q).size = q := by simp [ByteArray.size_extract, zeros, ByteArray.size]
      have hdat : (ByteArray.extract ⟨(zeros q).toArray⟩ 0 q).data.toList = zeros q := by
        rw [ByteArray.data_extract]; simp [zeros]
      rw [hsz] at B10 q10
      obtain ⟨rfl, rfl⟩ := q10 (by omega)
      rw [hdat, ← hps] at B10
      have hz : zeros q ++ zeros q = zeros (2 ^ (j + 1)) := by rw [hps]; simp [zeros, List.replicate_append_replicate]
      rw [hz] at B10
      conv => whnf
      refine ⟨7 - (j + 1), by omega, ?_⟩
      conv => whnf
      refine ⟨j + 1, rfl, rfl, rfl, by omega, ?_, B10⟩
      have z := (k6.trans (k7.trans k8)).size
      exact ((k5.trans (k6.trans (k7.trans k8))).nil_of k9 (by intro x hx; simp [blkA] at hx; omega)).nil_of k10 (by intro x hx; simp [blkA] at hx; omega)
    · have hj1 : j = 7 := by
        rcases Nat.lt_or_ge j 7 with h | h
        · have : 2 ^ j < 2 ^ 7 := Nat.pow_lt_pow_right (by decide) h
          have h2 : (q : Int) < 128 := by
            have : 2 ^ j < 128 := by simpa using this
            omega
          simp at hc; omega
        · omega
      subst hj1
      have hq' : q = 128 := by rw [← hq]
      subst hq'
      conv => whnf
      refine CallR.m (bstring_spec B6 (by simp [zeros])) (by simp [blocksOf]) fun v h9 k9 hv => ?_
      obtain ⟨rfl, B9⟩ := hv
      conv => whnf
      exact ⟨(k5.trans k6).nil_of k9 (by intro x hx; simp [blkA] at hx; omega), rfl⟩
end Go.Proofs.YteambknhlbiajaaGreat
/-
  Functions of package slices that the layers call.
-/
set_option linter.all false
set_option maxRecDepth 100000
namespace Go.Proofs.YteambknhlbiajaaGreat
open Go Go.Eng

theorem allOne_ints : ∀ l : List Int, allOne (l.map fun x => Value.int .i64 x) = true
  | [] => rfl
  | x :: l => by simpa [allOne, oneV] using allOne_ints l

theorem growI_spec (n : Nat) (hn : n ≤ 1000000) (h : Heap) : CallH Tryz.prog 71 [.slice none 0 0, .int .i64 (n : Int)] h (fun v h' => Keeps [] h h' ∧ ∃ a c, v = .slice a 0 c ∧ Own h' 3 1 a 0 c [] ∧ ∀ b ∈ blkA a, h.size ≤ b) := by
  have e1 : IntKind.i64.wrap ((n : Int) - IntKind.i64.wrap (((0 : Nat) : Int) - ((0 : Nat) : Int))) = (n : Int) := by
    rw [wrapN (x := ((0 : Nat) : Int) - ((0 : Nat) : Int)) (n := 0) (by simp) (by omega), wrapN (n := n) (by simp) (by omega)]
  refine call_of hmix Tryz.func71 rfl ok71 (by simp [Tryz.f71]) ?_
  conv => whnf
  refine MeetR.pass ?_
  conv => whnf
  refine IfR.f (by simp) ?_
  conv => whnf
  refine MeetR.pass ?_
  conv => whnf
  rw [e1]
  refine IfR.i (fun hc => ?_) (fun hc => ?_)
  · have hp : 0 < n := by simp at hc; omega
    conv => whnf
    refine SliceR.i 0 0 rfl rfl (Nat.le_refl _) (Nat.zero_le _) ?_
    conv => whnf
    rw [slA_zero]
    refine SemR.appendMake (by_ := 8) rfl rfl rfl rfl rfl rfl rfl hp (by omega) (by decide) fun b c h1 e1 s1 o1 hc k1 => ?_
    conv => whnf
    refine SliceR.i 0 0 rfl rfl (Nat.le_refl _) (Nat.zero_le _) ?_
    conv => whnf
    refine ⟨k1, some ⟨b, 0, none⟩, c, ?_, .inr ⟨b, _, rfl, o1, rfl, by simp, rfl, Nat.zero_le _⟩, by simp [blkA]; omega⟩
    rw [slA_zero]; rfl
  · conv => whnf
    exact ⟨Keeps.refl _ _, none, 0, rfl, .inl ⟨rfl, rfl, rfl, rfl⟩, by simp [blkA]⟩

theorem reps_ints (h : Heap) (xs : List Int) (hx : ∀ x ∈ xs, inI64 x) : Reps h (xs.map fun x => Value.int .i64 x) xs := by
  induction xs with
  | nil => rfl
  | cons x l ih => exact ⟨[.int .i64 x], _, rfl, ⟨rfl, hx x (by simp)⟩, ih (fun y hy => hx y (by simp [hy]))⟩

/-- one behind the other -/
theorem concat_spec {h : Heap} {a : Option Addr} {n c : Nat} {xss : List (List Int)} (S : Sl h a n c xss) (hx : ∀ xs ∈ xss, ∀ x ∈ xs, inI64 x) (hb : xss.flatten.length ≤ 1000) (hn : n ≤ 1000) : CallH Tryz.prog 47 [.slice a n c] h
    (fun v h' => Keeps [] h h' ∧ ∃ a' c', v = .slice a' xss.flatten.length c' ∧ Own h' 3 1 a' xss.flatten.length c' (xss.flatten.map fun x => .int .i64 x) ∧ ∀ b ∈ blkA a', h.size ≤ b) := by
  have hl := S.hlen
  have flen : ∀ i (hi : i < xss.length), (xss.take (i + 1)).flatten = (xss.take i).flatten ++ xss[i] := by
    intro i hi
    rw [List.take_succ_eq_append_getElem hi, List.flatten_append]; simp
  have fle : ∀ i, (xss.take i).flatten.length ≤ xss.flatten.length := by
    intro i
    have : xss.flatten = (xss.take i).flatten ++ (xss.drop i).flatten := by rw [← List.flatten_append, List.take_append_drop]
    rw [this, List.length_append]; omega
  refine call_of hmix Tryz.func47 rfl ok47 (by simp [Tryz.f47]) ?_
  conv => whnf
  refine LoopR.on [0, 3, 9, 10, 11] [] (fun i : Nat => [(0, .v (.slice a n c)), (3, .v (.int .i64 ((xss.take i).flatten.length : Int))), (9, .v (.slice a n c)), (10, .v (.int .i64 (n : Int))), (11, .v (.int .i64 (i : Int)))]) (fun _ => [])
    (fun i h' => i ≤ n ∧ h' = h) (fun i => n - i) 0 ?_ ?_
  · conv => whnf
    exact ⟨0, rfl, rfl, rfl, Nat.zero_le _, rfl⟩
  · rintro i h2 ⟨hi, rfl⟩
    conv => whnf
    refine IfR.i (fun hc => ?_) (fun hc => ?_)
    · have hi1 : i < xss.length := by simp at hc; omega
      obtain ⟨b, off, hb', cs, ⟨xa, xn, xc, rfl, SX⟩, hcell⟩ := S.at_ i hi1
      conv => whnf
      first | refine IdxS.i i rfl (by omega) hb' ?_ | (refine MeetR.pass ?_; (conv => whnf); refine IdxS.i i rfl (by omega) hb' ?_)
      conv => whnf
      refine LoadR.i (hcell 0 (by simp)) ?_
      have f1 := flen i hi1
      have f2 := fle (i + 1)
      have f3 : (xss.take (i + 1)).flatten.length = (xss.take i).flatten.length + xn := by rw [f1, List.length_append, SX.hlen]
      conv => whnf
      rw [wrapN (n := (xss.take (i + 1)).flatten.length) (by rw [f3]; simp) (by omega)]
      refine IfR.f (by simp) ?_
      conv => whnf
      refine ⟨n - (i + 1), by omega, ?_⟩
      conv => whnf
      exact ⟨i + 1, rfl, by rw [wrapN (x := (i : Int) + 1) (n := i + 1) (by simp) (by omega)], rfl, by omega, rfl⟩
    · have hi1 : i = xss.length := by simp at hc; omega
      subst hi1
      conv => whnf
      rw [List.take_length]
      refine CallR.i (growI_spec xss.flatten.length (by omega) h2) fun v h3 k3 hv => ?_
      obtain ⟨a3, c3, rfl, O3, n3⟩ := hv
      conv => whnf
      refine LoopR.on [6, 25, 26, 27] [] (fun q : Nat × Option Addr × Nat => [(6, .v (.slice q.2.1 (xss.take q.1).flatten.length q.2.2)), (25, .v (.slice a n c)), (26, .v (.int .i64 (n : Int))), (27, .v (.int .i64 (q.1 : Int)))]) (fun _ => [])
        (fun q h' => q.1 ≤ n ∧ Keeps [] h2 h' ∧ Own h' 3 1 q.2.1 (xss.take q.1).flatten.length q.2.2 ((xss.take q.1).flatten.map fun x => .int .i64 x) ∧ ∀ b ∈ blkA q.2.1, h2.size ≤ b) (fun q => n - q.1) (0, a3, c3) ?_ ?_
      · conv => whnf
        exact ⟨(0, a3, c3), rfl, rfl, rfl, Nat.zero_le _, k3, O3, n3⟩
      · rintro ⟨i, ai, ci⟩ h4 ⟨hi, k4, O4, n4⟩
        simp only at hi O4 n4
        conv => whnf
        refine IfR.i (fun hc => ?_) (fun hc => ?_)
        · have hi1 : i < xss.length := by simp at hc; omega
          obtain ⟨b, off, hb', cs, ⟨xa, xn, xc, rfl, SX⟩, hcell⟩ := S.at_ i hi1
          have hc4 := hcell.keep k4
          conv => whnf
          refine IdxS.i i rfl (by omega) hb' ?_
          conv => whnf
          refine LoadR.i (hc4 0 (by simp)) ?_
          have f1 := flen i hi1
          have f2 := fle (i + 1)
          have f3 : (xss.take (i + 1)).flatten.length = (xss.take i).flatten.length + xn := by rw [f1, List.length_append, SX.hlen]
          have SX4 := SX.keep k4
          have lenX := SX.hlen
          conv => whnf
          rcases Nat.eq_zero_or_pos xn with h0 | h0
          · subst h0
            have hx0 : xss[i] = [] := List.eq_nil_of_length_eq_zero lenX.symm
            have hcap : (xss.take i).flatten.length ≤ ci := by
              rcases O4 with ⟨rfl, h1, rfl, h2⟩ | ⟨b, c, _, _, _, _, _, h6⟩
              · omega
              · exact h6
            refine SemR.append0 rfl rfl rfl hcap ?_
            conv => whnf
            refine ⟨n - (i + 1), by omega, ?_⟩
            conv => whnf
            refine ⟨(i + 1, ai, ci), rfl, ?_, rfl, by simp only; omega, k4, ?_, n4⟩
            · have e : (xss.take (i + 1)).flatten.length = (xss.take i).flatten.length := by rw [f3, Nat.add_zero]
              simp only [e, Nat.add_zero]
              rw [wrapN (x := (i : Int) + 1) (n := i + 1) (by simp) (by omega)]
            · simp only
              rw [f1, hx0, List.append_nil]; exact O4
          · obtain ⟨xb, xo, rfl⟩ := SX.nonnil h0
            refine append_own (e := 3) (sz := 1) (by_ := 8) (new := xss[i].map fun x => .int .i64 x) rfl rfl rfl rfl rfl rfl rfl O4 (by simp [lenX]) (SX4.cells1) (allOne_ints _) (by omega) (by decide) (by simp [blocksOf]) ?_
            intro a5 c5 h5 O5 k5 n5
            conv => whnf
            refine ⟨n - (i + 1), by omega, ?_⟩
            conv => whnf
            refine ⟨(i + 1, a5, c5), rfl, ?_, rfl, by simp only; omega, k4.nil_of k5 n4, ?_, fun b hb => ?_⟩
            · simp only [f3]
              rw [wrapN (x := (i : Int) + 1) (n := i + 1) (by simp) (by omega)]
            · simp only
              rw [f1, List.length_append, ← lenX, List.map_append]; exact O5
            · rcases n5 b hb with h | h
              · exact n4 b h
              · have := k4.size; omega
        · have hi1 : i = xss.length := by simp at hc; omega
          subst hi1
          conv => whnf
          rw [List.take_length] at O4
          refine ⟨k4, ai, ci, ?_, O4, n4⟩
          rw [List.take_length]

theorem allOne_rep (n : Nat) (v : Value) (hv : oneV v = true) : allOne (List.replicate n v) = true := by
  induction n with
  | zero => rfl
  | succ n ih => rw [List.replicate_succ]; simp only [allOne, hv]; exact ih
theorem splice_drop {A N L : List Value} : spliceL A.length N (A ++ L) = A ++ spliceL 0 N L := by
  induction A with
  | nil => rfl
  | cons a A ih => simp only [List.length_cons, List.cons_append, spliceL, ih]

theorem repeatI_spec {h : Heap} {b : Nat} (o : h[b]? = some (.cells ⟨[.int .i64 (-1)]⟩ 3 (0, 0))) : CallH Tryz.prog 48 [.slice (some ⟨b, 0, none⟩) 1 1, .int .i64 16] h
    (fun v h' => Keeps [] h h' ∧ ∃ b', v = .slice (some ⟨b', 0, none⟩) 16 16 ∧ h'[b']? = some (.cells ⟨List.replicate 16 (.int .i64 (-1))⟩ 3 (0, 0)) ∧ h.size ≤ b') := by
  refine call_of hmix Tryz.func48 rfl ok48 (by simp [Tryz.f48]) ?_
  conv => whnf
  refine MeetR.pass ?_
  conv => whnf
  refine IfR.f rfl ?_
  conv => whnf
  refine CallR.i (mul_spec 16 (.inl rfl) h) fun v h1 k1 hv => ?_
  subst hv
  conv => whnf
  first | refine IfR.f rfl ?_ | (refine MeetR.pass ?_; (conv => whnf); refine IfR.f rfl ?_)
  conv => whnf
  refine SemR.make (n := 16) rfl rfl rfl rfl rfl (by decide) (by decide) fun b2 h2 e2 s2 o2 k2 => ?_
  have ob := (k1.trans k2).obj o (by simp)
  have hbl : b < h.size := obj_lt o
  have z1 := k1.size
  conv => whnf
  refine SemR.copy (sz := 1) (new := [.int .i64 (-1)]) rfl rfl rfl o2 rfl (fun j hj => by simp only [Heap.cell?, ob]; simp) rfl (by decide) (by simp [blocksOf]) fun h3 s3 o3 k3 => ?_
  conv => whnf
  refine LoopR.on [7, 8] [] (fun j : Nat => [(7, .v (.slice (some ⟨b2, 0, none⟩) 16 16)), (8, .v (.int .i64 ((2 ^ j : Nat) : Int)))]) (fun _ => [])
    (fun j h' => j ≤ 4 ∧ Keeps [] h h' ∧ h'[b2]? = some (.cells ⟨List.replicate (2 ^ j) (.int .i64 (-1)) ++ List.replicate (16 - 2 ^ j) (.int .i64 0)⟩ 3 (0, 0))) (fun j => 4 - j) 0 ?_ ?_
  · conv => whnf
    exact ⟨0, rfl, rfl, rfl, by decide, (k1.trans k2).new1 k3 (by omega), o3⟩
  · rintro j h4 ⟨hj, k4, o4⟩
    have hp : 2 ^ j ≤ 16 := by
      have : 2 ^ j ≤ 2 ^ 4 := Nat.pow_le_pow_right (by decide) hj
      simpa using this
    generalize hq : 2 ^ j = q at *
    conv => whnf
    refine IfR.i (fun hc => ?_) (fun hc => ?_)
    · have hj1 : j < 4 := by
        rcases Nat.lt_or_ge j 4 with h | h
        · exact h
        · have : j = 4 := by omega
          subst this; subst hq; simp at hc
      have hp2 : 2 ^ (j + 1) ≤ 16 := by
        have : 2 ^ (j + 1) ≤ 2 ^ 4 := Nat.pow_le_pow_right (by decide) (by omega)
        simpa using this
      have hps : 2 ^ (j + 1) = q + q := by rw [Nat.pow_succ]; omega
      conv => whnf
      refine SliceR.i q 16 rfl rfl (by omega) (by omega) ?_
      conv => whnf
      refine SliceR.i 0 q rfl rfl (by omega) (by omega) ?_
      conv => whnf
      have hq0 : 0 < q := by rw [← hq]; exact Nat.pow_pos (by decide)
      have eA : ∀ s, slA (some ⟨b2, 0, none⟩) 16 q s = some ⟨b2, 0 + q * s, none⟩ := by
        intro s
        unfold slA
        rw [if_neg (by omega)]
        simp [addr_add]
      rw [slA_zero, eA]
      refine SemR.copy (sz := 1) (new := List.replicate q (.int .i64 (-1))) rfl rfl rfl o4 (by rw [List.length_replicate]; omega) (fun k hk => ?_) (allOne_rep q _ rfl) ?_ (by simp [blocksOf]) fun h5 s5 o5 k5 => ?_
      · have hk' : k < q := by simpa using hk
        simp only [Heap.cell?, o4]
        simp [hk', List.getElem?_append]
      · show 0 + q * 1 + _ ≤ _
        simp only [List.length_append, List.length_replicate]; omega
      conv => whnf
      refine ⟨4 - (j + 1), by omega, ?_⟩
      conv => whnf
      have em : min (q - 0) (16 - q) = q := by omega
      refine ⟨j + 1, rfl, ?_, rfl, by omega, k4.new1 k5 (by omega), ?_⟩
      · rw [em, hps, wrapN (n := q + q) (by simp) (by omega)]
      · have e5 : spliceL (0 + q * 1) (List.replicate q (Value.int .i64 (-1))) (List.replicate q (Value.int .i64 (-1)) ++ List.replicate (16 - q) (Value.int .i64 0)) = List.replicate (2 ^ (j + 1)) (Value.int .i64 (-1)) ++ List.replicate (16 - 2 ^ (j + 1)) (Value.int .i64 0) := by
          have e6 : List.replicate (16 - q) (Value.int .i64 0) = List.replicate (List.replicate q (Value.int .i64 (-1))).length (Value.int .i64 0) ++ List.replicate (16 - 2 ^ (j + 1)) (Value.int .i64 0) := by
            rw [List.length_replicate, List.replicate_append_replicate]
            congr 1; omega
          rw [e6, show 0 + q * 1 = (List.replicate q (Value.int .i64 (-1))).length by rw [List.length_replicate]; omega, splice_drop, splice_head, ← List.append_assoc, List.replicate_append_replicate, hps]
        rw [← e5]; exact o5
    · have hj1 : j = 4 := by
        rcases Nat.lt_or_ge j 4 with h | h
        · have : 2 ^ j < 2 ^ 4 := Nat.pow_lt_pow_right (by decide) h
          have h2 : (q : Int) < 16 := by
            have : 2 ^ j < 16 := by simpa using this
            omega
          simp at hc; omega
        · omega
      subst hj1
      have hq' : q = 16 := by rw [← hq]
      subst hq'
      conv => whnf
      exact ⟨k4, b2, rfl, o4, by omega⟩

def usedB (n : Int) : Bool := decide (n ≠ -1)
def oddB (n : Int) : Bool := decide (n < -1) || decide (96 ≤ n)

theorem used_spec (n : Int) (h : Heap) : CallH Tryz.prog 35 [.int .i64 n] h (fun v h' => Keeps [] h h' ∧ v = .bool (usedB n)) := by
  refine call_of hmix Tryz.func35 rfl ok35 (by simp [Tryz.f35]) ?_
  conv => whnf
  refine ⟨Keeps.refl _ _, ?_⟩
  congr 1
  rw [Bool.eq_iff_iff]; simp [usedB]
theorem odd_spec (n : Int) (h : Heap) : CallH Tryz.prog 65 [.int .i64 n] h (fun v h' => Keeps [] h h' ∧ v = .bool (oddB n)) := by
  refine call_of hmix Tryz.func65 rfl ok65 (by simp [Tryz.f65]) ?_
  conv => whnf
  refine ⟨Keeps.refl _ _, ?_⟩
  congr 1

/-- the first that is so -/
def idxF (p : Int → Bool) : List Int → Nat → Int
  | [], _ => -1
  | x :: l, i => if p x then (i : Int) else idxF p l (i + 1)
theorem idxF_any (p : Int → Bool) : ∀ (l : List Int) (i : Nat), decide (0 ≤ idxF p l i) = l.any p
  | [], i => rfl
  | x :: l, i => by
    simp only [idxF, List.any_cons]
    split
    · rename_i hp; rw [hp]; simp
    · rename_i hp
      rw [idxF_any p l (i + 1)]
      simp [hp]

theorem indexFunc_used (p : Int → Bool) (hcall : ∀ (x : Int) (h : Heap), CallH Tryz.prog 35 [.int .i64 x] h (fun v h' => Keeps [] h h' ∧ v = .bool (p x))) {h : Heap} {a : Option Addr} {n c : Nat} {xs : List Int} (S : Sl h a n c xs) (hn : n ≤ 1000000000) :
    CallH Tryz.prog 75 [.slice a n c, .func (.func 35) #[] #[]] h (fun v h' => Keeps [] h h' ∧ v = .int .i64 (idxF p xs 0)) := by
  have hl := S.hlen
  refine call_of hmix Tryz.func75 rfl ok75 (by simp [Tryz.f75]) ?_
  conv => whnf
  refine LoopR.on [0, 1, 7, 8] [] (fun i : Nat => [(0, .v (.slice a n c)), (1, .v (.func (.func 35) #[] #[])), (7, .v (.int .i64 (n : Int))), (8, .v (.int .i64 (i : Int)))]) (fun _ => [])
    (fun i h' => i ≤ n ∧ Keeps [] h h' ∧ idxF p xs 0 = idxF p (xs.drop i) i) (fun i => n - i) 0 ?_ ?_
  · conv => whnf
    exact ⟨0, rfl, rfl, rfl, Nat.zero_le _, Keeps.refl _ _, rfl⟩
  · rintro i h2 ⟨hi, k2, hI⟩
    conv => whnf
    refine IfR.i (fun hc => ?_) (fun hc => ?_)
    · have hi1 : i < xs.length := by simp at hc; omega
      obtain ⟨b, off, hb, _, hcell⟩ := (S.keep k2).at1 i hi1
      rw [List.drop_eq_getElem_cons hi1] at hI
      simp only [idxF] at hI
      conv => whnf
      refine IdxS.i i rfl (by omega) hb ?_
      conv => whnf
      refine LoadR.i hcell ?_
      conv => whnf
      refine CallR.i (hcall xs[i] h2) fun v h3 k3 hv => ?_
      subst hv
      conv => whnf
      refine IfR.i (fun hd => ?_) (fun hd => ?_)
      · conv => whnf
        rw [if_pos (by simpa using hd)] at hI
        exact ⟨k2.trans k3, by rw [hI]⟩
      · rw [if_neg (by simpa using hd)] at hI
        conv => whnf
        refine ⟨n - (i + 1), by omega, ?_⟩
        conv => whnf
        exact ⟨i + 1, rfl, by rw [wrapN (n := i + 1) (by simp) (by omega)], rfl, by omega, k2.trans k3, hI⟩
    · have hi1 : i = xs.length := by simp at hc; omega
      conv => whnf
      refine ⟨k2, ?_⟩
      rw [hI, hi1, List.drop_length]; rfl

theorem indexFunc_odd (p : Int → Bool) (hcall : ∀ (x : Int) (h : Heap), CallH Tryz.prog 65 [.int .i64 x] h (fun v h' => Keeps [] h h' ∧ v = .bool (p x))) {h : Heap} {a : Option Addr} {n c : Nat} {xs : List Int} (S : Sl h a n c xs) (hn : n ≤ 1000000000) :
    CallH Tryz.prog 75 [.slice a n c, .func (.func 65) #[] #[]] h (fun v h' => Keeps [] h h' ∧ v = .int .i64 (idxF p xs 0)) := by
  have hl := S.hlen
  refine call_of hmix Tryz.func75 rfl ok75 (by simp [Tryz.f75]) ?_
  conv => whnf
  refine LoopR.on [0, 1, 7, 8] [] (fun i : Nat => [(0, .v (.slice a n c)), (1, .v (.func (.func 65) #[] #[])), (7, .v (.int .i64 (n : Int))), (8, .v (.int .i64 (i : Int)))]) (fun _ => [])
    (fun i h' => i ≤ n ∧ Keeps [] h h' ∧ idxF p xs 0 = idxF p (xs.drop i) i) (fun i => n - i) 0 ?_ ?_
  · conv => whnf
    exact ⟨0, rfl, rfl, rfl, Nat.zero_le _, Keeps.refl _ _, rfl⟩
  · rintro i h2 ⟨hi, k2, hI⟩
    conv => whnf
    refine IfR.i (fun hc => ?_) (fun hc => ?_)
    · have hi1 : i < xs.length := by simp at hc; omega
      obtain ⟨b, off, hb, _, hcell⟩ := (S.keep k2).at1 i hi1
      rw [List.drop_eq_getElem_cons hi1] at hI
      simp only [idxF] at hI
      conv => whnf
      refine IdxS.i i rfl (by omega) hb ?_
      conv => whnf
      refine LoadR.i hcell ?_
      conv => whnf
      refine CallR.i (hcall xs[i] h2) fun v h3 k3 hv => ?_
      subst hv
      conv => whnf
      refine IfR.i (fun hd => ?_) (fun hd => ?_)
      · conv => whnf
        rw [if_pos (by simpa using hd)] at hI
        exact ⟨k2.trans k3, by rw [hI]⟩
      · rw [if_neg (by simpa using hd)] at hI
        conv => whnf
        refine ⟨n - (i + 1), by omega, ?_⟩
        conv => whnf
        exact ⟨i + 1, rfl, by rw [wrapN (n := i + 1) (by simp) (by omega)], rfl, by omega, k2.trans k3, hI⟩
    · have hi1 : i = xs.length := by simp at hc; omega
      conv => whnf
      refine ⟨k2, ?_⟩
      rw [hI, hi1, List.drop_length]; rfl

theorem indexFunc_spec (f : Nat) (p : Int → Bool) (hf : (f = 35 ∧ p = usedB) ∨ (f = 65 ∧ p = oddB)) {h : Heap} {a : Option Addr} {n c : Nat} {xs : List Int} (S : Sl h a n c xs) (hn : n ≤ 1000000000) :
    CallH Tryz.prog 75 [.slice a n c, .func (.func f) #[] #[]] h (fun v h' => Keeps [] h h' ∧ v = .int .i64 (idxF p xs 0)) := by
  rcases hf with ⟨rfl, rfl⟩ | ⟨rfl, rfl⟩
  · exact indexFunc_used usedB used_spec S hn
  · exact indexFunc_odd oddB odd_spec S hn

theorem containsFunc_spec (f : Nat) (p : Int → Bool) (hf : (f = 35 ∧ p = usedB) ∨ (f = 65 ∧ p = oddB)) {h : Heap} {a : Option Addr} {n c : Nat} {xs : List Int} (S : Sl h a n c xs) (hn : n ≤ 1000000000) :
    CallH Tryz.prog 50 [.slice a n c, .func (.func f) #[] #[]] h (fun v h' => Keeps [] h h' ∧ v = .bool (xs.any p)) := by
  refine call_of hmix Tryz.func50 rfl ok50 (by simp [Tryz.f50]) ?_
  conv => whnf
  refine CallR.i (indexFunc_spec f p hf S hn) fun v h1 k1 hv => ?_
  subst hv
  conv => whnf
  refine ⟨k1, ?_⟩
  rw [← idxF_any p xs 0]
end Go.Proofs.YteambknhlbiajaaGreat
/-
  Layer 10: a file's map; a block's bytes.
-/
set_option linter.all false
set_option maxRecDepth 100000
namespace Go.Proofs.YteambknhlbiajaaGreat
open Go Go.Eng

/-- a card -/
structure Crd where
  kind : Int
  links : Int
  size : Int
  ver : UInt64
  d0 : Int
  d1 : Int
  d2 : Int
  d3 : Int
  d4 : Int
  more : Int
  deriving DecidableEq

def iv (x : Int) : Value := .int .i64 x
def Crd.cells (c : Crd) : List Value := [.int .i64 c.kind, .int .i64 c.links, .int .i64 c.size, wv c.ver, .int .i64 c.d0, .int .i64 c.d1, .int .i64 c.d2, .int .i64 c.d3, .int .i64 c.d4, .int .i64 c.more]
def Crd.direct (c : Crd) : List Int := [c.d0, c.d1, c.d2, c.d3, c.d4]
def Crd.zero : Crd := ⟨0, 0, 0, 0, 0, 0, 0, 0, 0, 0⟩
def Crd.ok (c : Crd) : Prop := inI64 c.kind ∧ inI64 c.links ∧ inI64 c.size ∧ (∀ x ∈ c.direct, inI64 x) ∧ inI64 c.more

/-- whole numbers in a block of one's own, and spare room behind -/
def IntsAt (h : Heap) (b : Nat) (m : List Int) (sp : List Value) : Prop := h[b]? = some (.cells ⟨m.map (fun x => Value.int .i64 x) ++ sp⟩ 3 (0, 0))

theorem IntsAt.sl {h : Heap} {b : Nat} {m : List Int} {sp : List Value} (o : IntsAt h b m sp) (hm : ∀ x ∈ m, inI64 x) {n cap : Nat} (hn : n = m.length) (hc : n ≤ cap) (hb : m.length ≤ 281474976710656) : Sl h (some ⟨b, 0, none⟩) n cap m := by
  subst hn
  exact Sl.of1 (α := Int) o (fun i hi => by rw [List.getElem?_append_left (by simpa using hi)]; simp [hi, One.val]) hm hc hb

theorem splice_set1 : ∀ (k : Nat) (L : List Value) (v : Value), k < L.length → spliceL k [v] L = L.set k v
  | 0, [], v, h => by simp at h
  | 0, a :: L, v, h => by cases L <;> rfl
  | k + 1, [], v, h => by simp at h
  | k + 1, a :: L, v, h => by simp only [spliceL, List.set_cons_succ]; rw [splice_set1 k L v (by simpa using h)]

theorem ints_set {m : List Int} {sp : List Value} {i : Nat} {x : Int} (hi : i < m.length) : spliceL (0 + i * 1) [Value.int .i64 x] (m.map (fun x => Value.int .i64 x) ++ sp) = (m.set i x).map (fun x => Value.int .i64 x) ++ sp := by
  rw [show 0 + i * 1 = i by omega, splice_set1 _ _ _ (by simp; omega), List.set_append, if_pos (by simpa using hi), List.map_set]

theorem IntsAt.nth {h : Heap} {b : Nat} {m : List Int} {sp : List Value} (o : IntsAt h b m sp) {i : Nat} (hi : i < m.length) : Heap.cell? h b (0 + i * 1) = some (.int .i64 m[i]) := by
  unfold IntsAt at o
  simp only [Heap.cell?, o]
  rw [show 0 + i * 1 = i by omega]
  simp [List.getElem?_append, hi]

def moreL (now : Int → UInt64) (k : Int) : List UInt64 := rdL now (1288 + k * 16) 16
def convW (w : UInt64) : Int := (w.toNat : Int) - 1
/-- a card's map over words -/
def mapOf (now : Int → UInt64) (c : Crd) : Option (List Int) :=
  if c.more = -1 then some (c.direct ++ List.replicate 16 (-1))
  else if 0 ≤ c.more ∧ c.more < 96 ∧ (moreL now c.more).all (fun w => decide (w.toNat ≤ 96)) = true ∧ ((moreL now c.more).map convW).any usedB = true then some (c.direct ++ (moreL now c.more).map convW)
  else none

theorem mapOf_length {now : Int → UInt64} {c : Crd} {m : List Int} (h : mapOf now c = some m) : m.length = 21 := by
  unfold mapOf at h
  split at h
  · simp at h; subst h; simp [Crd.direct]
  · split at h
    · simp at h; subst h; simp [Crd.direct, moreL, rdL]
    · cases h

theorem Rp.int_n : Rp.n Int = 1 := rfl

theorem map_full {h : Heap} {V : VL} {M : MemS} {X : VS} (A : At h V M X) (c : Crd) (hc : c.ok) : CallH Tryz.prog 23 [.pointer (some ⟨V.v, 0, none⟩), .agg ⟨c.cells⟩] h (fun v h' => Keeps [] h h' ∧
    match mapOf X.now c with
    | some m => ∃ b cap sp, v = .tuple #[.slice (some ⟨b, 0, none⟩) 21 cap, .int .i64 0] ∧ IntsAt h' b m sp ∧ h.size ≤ b ∧ 21 ≤ cap ∧ cap = 21 + sp.length
    | none => v = .tuple #[.slice none 0 0, .int .i64 15]) := by
  refine call_of hmix Tryz.func23 rfl ok23 (by simp [Tryz.f23]) ?_
  conv => whnf
  refine AllocR.i fun b1 h1 e1 s1 o1 k1 => ?_
  conv => whnf
  refine IfR.f rfl ?_
  conv => whnf
  refine PureR.i (v := .slice (some ⟨b1, 4, none⟩) 5 5) (fun w => rfl) ?_
  conv => whnf
  refine AllocR.i fun b2 h2 e2 s2 o2 k2 => ?_
  conv => whnf
  refine CallR.i (repeatI_spec o2) fun v h3 k3 hv => ?_
  obtain ⟨b3, rfl, o3, n3⟩ := hv
  conv => whnf
  refine AllocR.i fun b4 h4 e4 s4 o4 k4 => ?_
  have z3 := k3.size
  have b3lt : b3 < h3.size := obj_lt o3
  have S1 : Sl h4 (some ⟨b1, 4, none⟩) 5 5 c.direct := ⟨rfl, Nat.le_refl _, by simp [Crd.direct], fun i hi => ⟨b1, 4, rfl, [.int .i64 c.direct[i]], ⟨rfl, hc.2.2.2.1 _ (List.getElem_mem hi)⟩, fun j hj => by
    have hj0 : j = 0 := by simpa using hj
    subst hj0
    have o14 := (k2.trans (k3.trans k4)).obj o1 (by simp)
    simp only [Heap.cell?, o14]
    have hi' : i < 5 := hi
    have : i = 0 ∨ i = 1 ∨ i = 2 ∨ i = 3 ∨ i = 4 := by omega
    rcases this with rfl | rfl | rfl | rfl | rfl <;> rfl⟩⟩
  have S2 : Sl h4 (some ⟨b3, 0, none⟩) 16 16 (List.replicate 16 (-1 : Int)) := Sl.of1' (α := Int) (by rw [k4.obj o3 (by simp)]; rfl) (by intro x hx; rw [List.mem_replicate] at hx; rw [hx.2]; exact ⟨by decide, by decide⟩) rfl (by decide)
  have S : Sl h4 (some ⟨b4, 0, none⟩) 2 2 [c.direct, List.replicate 16 (-1 : Int)] := ⟨rfl, Nat.le_refl _, by simp, fun i hi => ⟨b4, 0, rfl, [if i = 0 then .slice (some ⟨b1, 4, none⟩) 5 5 else .slice (some ⟨b3, 0, none⟩) 16 16], by
    have hi' : i < 2 := hi
    have : i = 0 ∨ i = 1 := by omega
    rcases this with rfl | rfl
    · exact ⟨_, _, _, rfl, S1⟩
    · exact ⟨_, _, _, rfl, S2⟩, fun j hj => by
    have hj0 : j = 0 := by simpa using hj
    subst hj0
    have hi' : i < 2 := hi
    have : i = 0 ∨ i = 1 := by omega
    simp only [Heap.cell?, o4]
    rcases this with rfl | rfl <;> rfl⟩⟩
  conv => whnf
  refine CallR.i (concat_spec S ?_ (by simp [Crd.direct]) (by decide)) fun v h5 k5 hv => ?_
  · intro xs hxs x hx
    simp only [List.mem_cons, List.not_mem_nil, or_false] at hxs
    rcases hxs with rfl | rfl
    · exact hc.2.2.2.1 x hx
    · rw [List.mem_replicate] at hx; rw [hx.2]; exact ⟨by decide, by decide⟩
  obtain ⟨a5, c5, rfl, O5, n5⟩ := hv
  have hfl : [c.direct, List.replicate 16 (-1 : Int)].flatten = c.direct ++ List.replicate 16 (-1) := by simp
  have hlen : (c.direct ++ List.replicate 16 (-1 : Int)).length = 21 := by simp [Crd.direct]
  rw [hfl, hlen] at O5
  rw [hfl, hlen]
  have k05 : Keeps [] h h5 := k1.trans (k2.trans (k3.trans (k4.trans k5)))
  rcases O5 with ⟨_, h0, _⟩ | ⟨b5, L, rfl, o5, t5, l5, _, c5l⟩
  · omega
  have z15 := (k2.trans (k3.trans k4)).size
  have hb5 : h.size ≤ b5 := by have := n5 b5 (by simp [blkA]); omega
  obtain ⟨sp, hsp⟩ : ∃ sp, L = (c.direct ++ List.replicate 16 (-1 : Int)).map (fun x => Value.int .i64 x) ++ sp := ⟨L.drop 21, by
    have : ((c.direct ++ List.replicate 16 (-1 : Int)).map (fun x => Value.int .i64 x)).length = 21 := by simp [Crd.direct]
    rw [this] at t5
    rw [← t5, List.take_append_drop]⟩
  have I5 : IntsAt h5 b5 (c.direct ++ List.replicate 16 (-1)) sp := by rw [hsp] at o5; exact o5
  have hcap : c5 = 21 + sp.length := by
    have h1 : L.length = 21 + sp.length := by rw [hsp]; simp [Crd.direct]; omega
    omega
  clear t5 l5 S S1 S2
  have o15 := (k2.trans (k3.trans (k4.trans k5))).obj o1 (by simp)
  conv => whnf
  refine LoadR.o o15 rfl ?_
  conv => whnf
  refine IfR.i (fun hd => ?_) (fun hd => ?_)
  · have hm : c.more = -1 := by simpa using hd
    conv => whnf
    refine ⟨k05, ?_⟩
    unfold mapOf
    rw [if_pos hm]
    exact ⟨b5, c5, sp, rfl, I5, hb5, c5l, hcap⟩
  · have hm : ¬ c.more = -1 := by simpa using hd
    conv => whnf
    refine LoadR.o o15 rfl ?_
    conv => whnf
    refine CallR.i (block_spec (A.on k05) c.more) fun v h6 k6 hv => ?_
    rcases hv with ⟨q1, q2, b6, rfl, q3, q4, o6⟩ | ⟨q1, rfl⟩
    · conv => whnf
      refine IfR.f rfl ?_
      have hml : (moreL X.now c.more).length = 16 := by simp [moreL, rdL]
      have hne : b6 ≠ b5 := by have := obj_lt o5; omega
      conv => whnf
      refine LoopR.on [6, 32, 33, 34] [] (fun i : Nat => [(6, .v (.slice (some ⟨b5, 0, none⟩) 21 c5)), (32, .v (.slice (some ⟨b6, 0, none⟩) 16 16)), (33, .v (.int .i64 16)), (34, .v (.int .i64 (i : Int)))]) (fun _ => [])
        (fun i h' => i ≤ 16 ∧ Keeps [] h h' ∧ h6.size ≤ h'.size ∧ IntsAt h' b5 (c.direct ++ (((moreL X.now c.more).map convW).take i ++ List.replicate (16 - i) (-1))) sp ∧ h'[b6]? = some (.cells ⟨(moreL X.now c.more).map wv⟩ 35 (0, 0)) ∧ ∀ k (hk : k < (moreL X.now c.more).length), k < i → (moreL X.now c.more)[k].toNat ≤ 96) (fun i => 16 - i) 0 ?_ ?_
      · conv => whnf
        exact ⟨0, rfl, rfl, rfl, Nat.zero_le _, k05.trans k6, Nat.le_refl _, k6.obj I5 (by simp), o6, fun k _ hk => by omega⟩
      · rintro i h7 ⟨hi, k7, z7, I7, o7, all7⟩
        conv => whnf
        refine IfR.i (fun he => ?_) (fun he => ?_)
        · have hi1 : i < 16 := by simp at he; omega
          have hi2 : i < (moreL X.now c.more).length := by omega
          conv => whnf
          refine IdxS.i i rfl hi1 rfl ?_
          conv => whnf
          refine LoadR.o (v := wv (moreL X.now c.more)[i]) o7 ?_ ?_
          · rw [nth_eq]
            show ((moreL X.now c.more).map wv)[0 + i * 1]? = _
            rw [show 0 + i * 1 = i by omega]; simp [hi2]
          conv => whnf
          refine IfR.i (fun hf => ?_) (fun hf => ?_)
          · conv => whnf
            have hw : 96 < (moreL X.now c.more)[i].toNat := by simp at hf; omega
            refine ⟨k7, ?_⟩
            have : mapOf X.now c = none := by
              unfold mapOf
              rw [if_neg hm, if_neg]
              rintro ⟨_, _, hall, _⟩
              have := List.all_eq_true.1 hall _ (List.getElem_mem hi2)
              simp at this; omega
            rw [this]
          · have hw : (moreL X.now c.more)[i].toNat ≤ 96 := by simp at hf; omega
            have ew : IntKind.i64.wrap (IntKind.i64.wrap ((moreL X.now c.more)[i].toNat : Int) - 1) = convW (moreL X.now c.more)[i] := by
              rw [wrapI (x := ((moreL X.now c.more)[i].toNat : Int)) (by omega) (by omega), wrapI (by omega) (by omega)]; rfl
            conv => whnf
            refine IdxS.i (5 + i) ?_ (by omega) rfl ?_
            · rw [wrapN (n := 5 + i) (by simp) (by omega)]
            conv => whnf
            refine StoreR.i I7 ?_ (by simp [blocksOf]) fun h8 s8 o8 k8 => ?_
            · show 0 + (5 + i) * 1 + 1 ≤ _
              simp [Crd.direct, hml]; omega
            conv => whnf
            refine ⟨16 - (i + 1), by omega, ?_⟩
            conv => whnf
            refine ⟨i + 1, rfl, by rw [wrapN (n := i + 1) (by simp) (by omega)], rfl, by omega, k7.new1 k8 hb5, by omega, ?_, k8.obj o7 (by simpa using hne), fun k hk hki => ?_⟩
            · rw [ew] at o8
              have hlen2 : 5 + i < (c.direct ++ (((moreL X.now c.more).map convW).take i ++ List.replicate (16 - i) (-1))).length := by simp [Crd.direct, hml]; omega
              have e8 := ints_set (sp := sp) (x := convW (moreL X.now c.more)[i]) hlen2
              have e9 : (c.direct ++ (((moreL X.now c.more).map convW).take i ++ List.replicate (16 - i) (-1))).set (5 + i) (convW (moreL X.now c.more)[i]) = c.direct ++ (((moreL X.now c.more).map convW).take (i + 1) ++ List.replicate (16 - (i + 1)) (-1)) := by
                have hd5 : c.direct.length = 5 := rfl
                have ht : (((moreL X.now c.more).map convW).take i).length = i := by simp [hml]; omega
                rw [List.set_append, if_neg (by omega), hd5, show 5 + i - 5 = i by omega, List.set_append, if_neg (by omega), ht, Nat.sub_self, show 16 - i = (16 - (i + 1)) + 1 by omega, List.replicate_succ, List.set_cons_zero,
                  List.take_succ_eq_append_getElem (by simp [hml]; omega)]
                simp
              rw [e9] at e8
              unfold IntsAt
              rw [← e8]; exact o8
            · rcases Nat.lt_or_ge k i with h | h
              · exact all7 k hk h
              · have : k = i := by omega
                subst this; exact hw
        · have hi1 : i = 16 := by simp at he; omega
          subst hi1
          have hall : (moreL X.now c.more).all (fun w => decide (w.toNat ≤ 96)) = true := by
            rw [List.all_eq_true]
            intro w hw
            obtain ⟨k, hk, rfl⟩ := List.mem_iff_getElem.1 hw
            have := all7 k hk (by omega)
            simpa using this
          have et : ((moreL X.now c.more).map convW).take 16 ++ List.replicate (16 - 16) (-1) = (moreL X.now c.more).map convW := by
            rw [List.take_of_length_le (by simp [hml])]; simp
          rw [et] at I7
          have okm : ∀ x ∈ c.direct ++ (moreL X.now c.more).map convW, inI64 x := by
            intro x hx
            rcases List.mem_append.1 hx with hx | hx
            · exact hc.2.2.2.1 x hx
            · obtain ⟨w, hw, rfl⟩ := List.mem_map.1 hx
              have := List.all_eq_true.1 hall w hw
              simp at this
              unfold convW inI64; omega
          have SM := I7.sl okm (n := 21) (cap := c5) (by simp [Crd.direct, hml]) c5l (by simp [Crd.direct, hml])
          have SP := SM.part (l := 5) (r := 21) (by decide) (by decide)
          conv => whnf
          refine SliceR.i 5 21 rfl rfl (by decide) c5l ?_
          conv => whnf
          have hpart : (List.take 21 (c.direct ++ (moreL X.now c.more).map convW)).drop 5 = (moreL X.now c.more).map convW := by
            rw [List.take_of_length_le (by simp [Crd.direct, hml])]
            rw [List.drop_append]; simp [Crd.direct]
          rw [hpart] at SP
          refine CallR.i (containsFunc_spec 35 usedB (.inl ⟨rfl, rfl⟩) SP (by decide)) fun v h8 k8 hv => ?_
          subst hv
          conv => whnf
          refine IfR.i (fun hf => ?_) (fun hf => ?_)
          · conv => whnf
            refine ⟨k7.trans k8, ?_⟩
            have hn : ((moreL X.now c.more).map convW).any usedB = false := by simpa using hf
            have : mapOf X.now c = none := by
              unfold mapOf
              rw [if_neg hm, if_neg]
              rintro ⟨_, _, _, h⟩
              rw [hn] at h; cases h
            rw [this]
          · conv => whnf
            refine ⟨k7.trans k8, ?_⟩
            have hn : ((moreL X.now c.more).map convW).any usedB = true := by simpa using hf
            have : mapOf X.now c = some (c.direct ++ (moreL X.now c.more).map convW) := by
              unfold mapOf
              rw [if_neg hm, if_pos ⟨q1, q2, hall, hn⟩]
            rw [this]
            exact ⟨b5, c5, sp, rfl, k8.obj I7 (by simp), hb5, c5l, hcap⟩
    · conv => whnf
      refine IfR.t rfl ?_
      conv => whnf
      refine ⟨k05.trans k6, ?_⟩
      have : mapOf X.now c = none := by
        unfold mapOf
        rw [if_neg hm, if_neg]
        rintro ⟨h1, h2, _⟩
        exact q1 ⟨h1, h2⟩
      rw [this]

theorem map_spec {h : Heap} {V : VL} {M : MemS} {X : VS} (A : At h V M X) (c : Crd) (hc : c.ok) : CallH Tryz.prog 23 [.pointer (some ⟨V.v, 0, none⟩), .agg ⟨c.cells⟩] h (fun v h' => Keeps [] h h' ∧
    match mapOf X.now c with
    | some m => ∃ b cap sp, v = .tuple #[.slice (some ⟨b, 0, none⟩) 21 cap, .int .i64 0] ∧ IntsAt h' b m sp ∧ h.size ≤ b ∧ 21 ≤ cap
    | none => v = .tuple #[.slice none 0 0, .int .i64 15]) := CallH.mono (map_full A c hc) fun v h' ⟨k, H⟩ => ⟨k, by
  cases hm : mapOf X.now c with
  | none => rw [hm] at H; exact H
  | some m =>
    rw [hm] at H
    obtain ⟨b, cap, sp, h1, h2, h3, h4, _⟩ := H
    exact ⟨b, cap, sp, h1, h2, h3, h4⟩⟩

/-- a block's bytes; noughts of a hole -/
def bytesB (now : Int → UInt64) (n : Int) : List UInt8 := if n = -1 then zeros 128 else untextL (rdL now (1288 + n * 16) 16) 128
theorem bytesB_len (now : Int → UInt64) (n : Int) : (bytesB now n).length = 128 := by
  unfold bytesB; split
  · simp [zeros]
  · simp [untextL]

theorem textB_spec {h : Heap} {V : VL} {M : MemS} {X : VS} (A : At h V M X) (n : Int) : CallH Tryz.prog 37 [.pointer (some ⟨V.v, 0, none⟩), .int .i64 n] h (fun v h' => Keeps [] h h' ∧
    v = .tuple (if n = -1 ∨ (0 ≤ n ∧ n < 96) then #[.string ⟨(bytesB X.now n).toArray⟩, .int .i64 0] else #[.string ⟨#[]⟩, .int .i64 15])) := by
  refine call_of hmix Tryz.func37 rfl ok37 (by simp [Tryz.f37]) ?_
  conv => whnf
  refine CallR.i (used_spec n h) fun v h1 k1 hv => ?_
  subst hv
  conv => whnf
  refine IfR.i (fun hd => ?_) (fun hd => ?_)
  · have hn : n = -1 := by simpa [usedB] using hd
    conv => whnf
    refine CallR.i (repeat_spec h1) fun v h2 k2 hv => ?_
    subst hv
    conv => whnf
    refine ⟨k1.trans k2, ?_⟩
    rw [if_pos (.inl hn)]
    unfold bytesB
    rw [if_pos hn]
  · have hn : ¬ n = -1 := by simpa [usedB] using hd
    conv => whnf
    refine CallR.i (block_spec (A.on k1) n) fun v h2 k2 hv => ?_
    rcases hv with ⟨q1, q2, b6, rfl, q3, q4, o6⟩ | ⟨q1, rfl⟩
    · conv => whnf
      refine IfR.f rfl ?_
      have S := Sl.of1' (α := UInt64) (xs := rdL X.now (1288 + n * 16) 16) (n := 16) o6 (by simp [One.ok]) (by simp [rdL]) (by simp [rdL])
      conv => whnf
      refine CallR.i (untext_spec S 128 (by decide) (by decide)) fun v h3 k3 hv => ?_
      subst hv
      conv => whnf
      refine ⟨k1.trans (k2.trans k3), ?_⟩
      rw [if_pos (.inr ⟨q1, q2⟩)]
      unfold bytesB
      rw [if_neg hn]
    · conv => whnf
      refine IfR.t rfl ?_
      conv => whnf
      refine ⟨k1.trans k2, ?_⟩
      rw [if_neg (by rintro (h | h); exact hn h; exact q1 h)]

theorem putB_spec {h : Heap} {V : VL} {M : MemS} {X : VS} (A : At h V M X) (n : Int) (s : ByteArray) (hs : s.size ≤ 128) : CallH Tryz.prog 38 [.pointer (some ⟨V.v, 0, none⟩), .int .i64 n, .string s] h (fun v h' => Keeps [V.ob] h h' ∧
    v = .int .i64 (if 0 ≤ n ∧ n < 96 then 0 else 1) ∧ At h' V M (if 0 ≤ n ∧ n < 96 then { X with now := putBlk X.now n (textL s.data.toList 16) } else X)) := by
  refine call_of hmix Tryz.func38 rfl ok38 (by simp [Tryz.f38]) ?_
  conv => whnf
  refine CallR.i (text_spec s 16 h (by decide) (by omega)) fun v h1 k1 hv => ?_
  obtain ⟨b, rfl, q1, q2, o1⟩ := hv
  have A1 := A.on k1
  have hob := A.blt V.ob (by simp [VL.blocks])
  conv => whnf
  refine IfR.f rfl ?_
  have S := Sl.of1' (α := UInt64) (xs := textL s.data.toList 16) (n := 16) o1 (by simp [One.ok]) (by simp [textL]) (by simp [textL])
  conv => whnf
  refine CallR.m (setBlock_spec A1 n S (by simp [blkA]; omega)) (by simp [blocksOf]) fun v h2 k2 hv => ?_
  obtain ⟨rfl, A2⟩ := hv
  conv => whnf
  refine ⟨(k1.mono (by simp)).trans k2, ?_⟩
  by_cases hn : 0 ≤ n ∧ n < 96
  · have hn3 : 0 ≤ n ∧ n < 96 ∧ 16 ≤ 16 := ⟨hn.1, hn.2, Nat.le_refl _⟩
    rw [if_pos hn3] at A2
    rw [if_pos hn3, if_pos hn, if_pos hn]
    exact ⟨rfl, A2⟩
  · have hn3 : ¬ (0 ≤ n ∧ n < 96 ∧ 16 ≤ 16) := fun h => hn ⟨h.1, h.2.1⟩
    rw [if_neg hn3] at A2
    rw [if_neg hn3, if_neg hn, if_neg hn]
    exact ⟨rfl, A2⟩

theorem may_spec {v0 : Nat} (node : Int) (h : Heap) : CallH Tryz.prog 33 [.pointer (some ⟨v0, 0, none⟩), .int .i64 node] h (fun v h' => Keeps [] h h' ∧ v = .int .i64 (if 0 ≤ node ∧ node < 24 then 0 else 1)) := by
  refine call_of hmix Tryz.func33 rfl ok33 (by simp [Tryz.f33]) ?_
  conv => whnf
  refine CallR.i (cardAt_spec node h) fun v h1 k1 hv => ?_
  subst hv
  conv => whnf
  first | refine IfR.f rfl ?_ | (refine MeetR.pass ?_; (conv => whnf); refine IfR.f rfl ?_)
  conv => whnf
  exact ⟨k1, rfl⟩
theorem over_spec (n : Nat) (hn : n ≤ 1000000) (h : Heap) : CallH Tryz.prog 34 [.int .i64 (n : Int)] h (fun v h' => Keeps [] h h' ∧ v = .int .i64 (((n + 127) / 128 : Nat) : Int)) := by
  refine call_of hmix Tryz.func34 rfl ok34 (by simp [Tryz.f34]) ?_
  conv => whnf
  refine Need.i (by decide) ?_
  conv => whnf
  refine ⟨Keeps.refl _ _, ?_⟩
  rw [wrapN (x := (n : Int) + 128) (n := n + 128) (by simp) (by omega), wrapN (x := ((n + 128 : Nat) : Int) - 1) (n := n + 127) (by omega) (by omega)]
  have : ((n + 127 : Nat) : Int).tdiv 128 = (((n + 127) / 128 : Nat) : Int) := by rw [Int.tdiv_eq_ediv_of_nonneg (by omega)]; omega
  rw [this, wrapN (n := (n + 127) / 128) rfl (by omega)]
end Go.Proofs.YteambknhlbiajaaGreat
/-
  Layer 10: a card with a map.
-/
set_option linter.all false
set_option maxRecDepth 100000
namespace Go.Proofs.YteambknhlbiajaaGreat
open Go Go.Eng

def setD (c : Crd) (m : List Int) : Crd := { c with d0 := m[0]?.getD 0, d1 := m[1]?.getD 0, d2 := m[2]?.getD 0, d3 := m[3]?.getD 0, d4 := m[4]?.getD 0 }

/-- a card with a map -/
def keepP (B : Int → UInt64) (X : VS) (node : Int) (c : Crd) (m : List Int) : Crd × Int × VS :=
  if (0 ≤ node ∧ node < 24) ∧ m.length = 21 ∧ m.any oddB = false then
    (if (m.drop 5).any usedB = false then
      (if c.more = -1 then ({ setD c m with more := -1 }, 0, X)
      else if (dropP X c.more).1 = 0 then ({ setD c m with more := -1 }, 0, (dropP X c.more).2) else (Crd.zero, (dropP X c.more).1, (dropP X c.more).2))
    else
      let t := if c.more = -1 then takeP B X node else (c.more, 0, X)
      if t.2.1 = 0 then
        ({ setD c m with more := t.1 }, if 0 ≤ t.1 ∧ t.1 < 96 then 0 else 1, if 0 ≤ t.1 ∧ t.1 < 96 then { t.2.2 with now := putBlk t.2.2.now t.1 ((m.drop 5).map fun n => w64 (n + 1)) } else t.2.2)
      else (Crd.zero, t.2.1, t.2.2))
  else (Crd.zero, 1, X)

theorem zero_cells : Crd.zero.cells = [.int .i64 0, .int .i64 0, .int .i64 0, .int .u64 0, .int .i64 0, .int .i64 0, .int .i64 0, .int .i64 0, .int .i64 0, .int .i64 0] := rfl

theorem take5 {m : List Int} (h : m.length = 21) : ∃ a b c d e r, m = a :: b :: c :: d :: e :: r ∧ r.length = 16 := by
  match m, h with
  | a :: b :: c :: d :: e :: r, h => exact ⟨a, b, c, d, e, r, rfl, by simpa using h⟩

theorem usedB_t {n : Int} : usedB n = true ↔ ¬ n = -1 := by unfold usedB; exact decide_eq_true_iff
theorem usedB_f {n : Int} : usedB n = false ↔ n = -1 := by
  rw [← Bool.not_eq_true, usedB_t]
  first | done | exact Classical.not_not

theorem bnot_t {b : Bool} (h : (!b) = true) : b = false := by cases b <;> simp_all
theorem bnot_f {b : Bool} (h : (!b) = false) : b = true := by cases b <;> simp_all
theorem reps_w (h : Heap) : ∀ l : List UInt64, Reps h (l.map wv) l
  | [] => rfl
  | x :: l => ⟨[wv x], l.map wv, rfl, rfl, reps_w h l⟩

theorem keep_spec {h : Heap} {V : VL} {M : MemS} {X : VS} (A : At h V M X) (node : Int) (c : Crd) {sa : Option Addr} {n cap : Nat} {m : List Int} (S : Sl h sa n cap m) (hs : n = 21 → V.ob ∉ blkA sa) :
    CallH Tryz.prog 39 [.pointer (some ⟨V.v, 0, none⟩), .int .i64 node, .agg ⟨c.cells⟩, .slice sa n cap] h (fun v h' => Keeps [V.ob] h h' ∧
      v = .tuple #[.agg ⟨(keepP M.read X node c m).1.cells⟩, .int .i64 (keepP M.read X node c m).2.1] ∧ At h' V M (keepP M.read X node c m).2.2) := by
  have hl := S.hlen
  have hob := A.blt V.ob (by simp [VL.blocks])
  refine call_of hmix Tryz.func39 rfl ok39 (by simp [Tryz.f39]) ?_
  conv => whnf
  refine AllocR.i fun b1 h1 e1 s1 o1 k1 => ?_
  conv => whnf
  refine AllocR.i fun b2 h2 e2 s2 o2 k2 => ?_
  conv => whnf
  refine CallR.i (may_spec node h2) fun v h3 k3 hv => ?_
  subst hv
  have k03 := k1.trans (k2.trans k3)
  have z3 := k3.size
  -- no use
  have bad : ¬ ((0 ≤ node ∧ node < 24) ∧ m.length = 21 ∧ m.any oddB = false) → ∀ h4 h5 : Heap, Keeps [] h3 h4 → Keeps [b2] h4 h5 → Keeps [V.ob] h h5 ∧ Value.tuple #[.agg ⟨[.int .i64 0, .int .i64 0, .int .i64 0, .int .u64 0, .int .i64 0, .int .i64 0, .int .i64 0, .int .i64 0, .int .i64 0, .int .i64 0]⟩, .int .i64 1] = .tuple #[.agg ⟨(keepP M.read X node c m).1.cells⟩, .int .i64 (keepP M.read X node c m).2.1] ∧ At h5 V M (keepP M.read X node c m).2.2 := by
    intro hno h4 h5 k4 k5
    have k05 : Keeps [] h h5 := (k03.trans k4).new1 k5 (by omega)
    unfold keepP
    rw [if_neg hno]
    exact ⟨k05.mono (by simp), rfl, A.on k05⟩
  conv => whnf
  first | refine IfR.i (fun hc => ?_) (fun hc => ?_) | (refine MeetR.pass ?_; (conv => whnf); refine IfR.i (fun hc => ?_) (fun hc => ?_))
  · have hb : 0 ≤ node ∧ node < 24 := Classical.byContradiction fun hb => by rw [if_neg hb] at hc; simp [bif_and, bif_or] at hc
    rw [if_pos hb] at hc
    rw [if_pos hb]
    have h21 : n = 21 := by simp [bif_and, bif_or] at hc; omega
    subst h21
    conv => whnf
    refine CallR.i (containsFunc_spec 65 oddB (.inr ⟨rfl, rfl⟩) (S.keep k03) (by decide)) fun v h4 k4 hv => ?_
    subst hv
    have k04 := k03.trans k4
    have z4 := k4.size
    conv => whnf
    refine IfR.i (fun hd => ?_) (fun hd => ?_)
    · have ho : m.any oddB = true := by simpa [bif_and, bif_or] using hd
      conv => whnf
      refine IfR.t rfl ?_
      conv => whnf
      refine BoxR.i fun h5 s5 k5 => ?_
      conv => whnf
      exact bad (fun x => by rw [ho] at x; exact absurd x.2.2 (by decide)) h4 h5 k4 k5
    · have ho : m.any oddB = false := by simpa [bif_and, bif_or] using hd
      have hyes : (0 ≤ node ∧ node < 24) ∧ m.length = 21 ∧ m.any oddB = false := ⟨hb, hl.symm, ho⟩
      have rng : ∀ x ∈ m, -1 ≤ x ∧ x < 96 := by
        intro x hx
        have := List.any_eq_false.1 ho x hx
        simp [oddB] at this; omega
      obtain ⟨xb, xo, rfl⟩ := S.nonnil (by decide)
      have o14 := (k2.trans (k3.trans k4)).obj o1 (by simp)
      have Sm := S.keep k04
      conv => whnf
      refine IfR.f rfl ?_
      conv => whnf
      refine PureR.i (v := .slice (some ⟨b1, 4, none⟩) 5 5) (fun w => rfl) ?_
      conv => whnf
      refine SemR.copy (sz := 1) (new := (m.take 5).map fun x => .int .i64 x) rfl rfl rfl o14 (by simp [hl.symm]) (fun j hj => ?_) (allOne_ints _) ?_ ?_ fun h5 s5 o5 k5 => ?_
      · have hj5 : j < 5 := by simp [hl.symm] at hj; exact hj
        rw [Sm.cells1 j (by simp [hl.symm]; omega)]
        have hjm : j < m.length := by omega
        simp [One.val, List.getElem?_take, hj5]
      · show 4 + ((m.take 5).map fun x => Value.int .i64 x).length ≤ 10
        simp [hl.symm]
      · intro hx
        have hx2 : b1 ∈ [b2] := hx
        simp at hx2; omega
      have hb1 : b1 < h5.size := obj_lt o5
      have k05 : Keeps [] h h5 := k04.new1 k5 (by omega)
      -- the card with the map
      have o5' : h5[b1]? = some (.cells ⟨(setD c m).cells⟩ 38 (0, 0)) := by
        rw [o5]
        obtain ⟨a, b, c', d, e, r, rfl, _⟩ := take5 hl.symm
        rfl
      clear o5
      have Sp := (S.keep k05).part (l := 5) (r := 21) (by decide) (Nat.le_refl _)
      rw [List.take_of_length_le (by omega)] at Sp
      have hcap := S.hcap
      conv => whnf
      refine SliceR.i 5 21 rfl rfl (by decide) hcap ?_
      conv => whnf
      refine CallR.i (containsFunc_spec 35 usedB (.inl ⟨rfl, rfl⟩) Sp (by decide)) fun v h6 k6 hv => ?_
      subst hv
      have k06 := k05.trans k6
      have o6 := k6.obj o5' (by simp)
      conv => whnf
      first | refine IfR.i (fun hu => ?_) (fun hu => ?_) | (refine MeetR.pass ?_; (conv => whnf); refine IfR.i (fun hu => ?_) (fun hu => ?_))
      · have hu' : (m.drop 5).any usedB = false := by simpa using hu
        have hP : keepP M.read X node c m = (if c.more = -1 then ({ setD c m with more := -1 }, 0, X)
            else if (dropP X c.more).1 = 0 then ({ setD c m with more := -1 }, 0, (dropP X c.more).2) else (Crd.zero, (dropP X c.more).1, (dropP X c.more).2)) := by
          unfold keepP; rw [if_pos hyes, if_pos hu']
        rw [hP]
        have hob1 : V.ob ≠ b1 := by omega
        conv => whnf
        first | refine LoadR.o o6 rfl ?_ | (refine MeetR.pass ?_; (conv => whnf); refine LoadR.o o6 rfl ?_)
        conv => whnf
        refine CallR.i (used_spec _ h6) fun v h7 k7 hv => ?_
        subst hv
        have k07 := k06.trans k7
        have o7 := k7.obj o6 (by simp)
        have z7 := (k6.trans k7).size
        -- the end, where nothing is behind
        have fin : ∀ (X' : VS) (h8 : Heap), Keeps [V.ob] h h8 → At h8 V M X' → h7.size ≤ h8.size → h8[b1]? = some (.cells ⟨(setD c m).cells⟩ 38 (0, 0)) → ∀ h9, h9.size = h8.size → Keeps [b1] h8 h9 → ∀ h10, h10.size = h9.size → Keeps [b2] h9 h10 → Keeps [V.ob] h h10 ∧ At h10 V M X' := by
          intro X' h8 k8 A8 z8 o8 h9 s9 k9 h10 s10 k10
          have nv : ∀ b ∈ V.blocks, b ≠ b1 ∧ b ≠ b2 := fun b hb => by have := A.blt b hb; omega
          exact ⟨(k8.m1 k9 (by omega)).m1 k10 (by omega), (A8.keep k9 (fun b hb => by simpa using (nv b hb).1)).keep k10 (fun b hb => by simpa using (nv b hb).2)⟩
        conv => whnf
        first | refine IfR.i (fun hq => ?_) (fun hq => ?_) | (refine MeetR.pass ?_; (conv => whnf); refine IfR.i (fun hq => ?_) (fun hq => ?_))
        · have hm : ¬ c.more = -1 := usedB_t.1 hq
          rw [if_neg hm]
          conv => whnf
          refine LoadR.o o7 rfl ?_
          conv => whnf
          refine CallR.m (drop_spec (A.on k07) _) (by intro b hb hx; have hb2 : b ∈ [b2] := hb; simp at hb2 hx; omega) fun v h8 k8 hv => ?_
          obtain ⟨rfl, A8⟩ := hv
          have e8 : (setD c m).more = c.more := rfl
          rw [e8] at A8
          have k08 : Keeps [V.ob] h h8 := (k07.mono (by simp)).trans k8
          have o8 := k8.obj o7 (by simpa using hob1.symm)
          conv => whnf
          first | refine IfR.i (fun hr => ?_) (fun hr => ?_) | (refine MeetR.pass ?_; (conv => whnf); refine IfR.i (fun hr => ?_) (fun hr => ?_))
          all_goals rw [e8] at hr
          · have hd0 : ¬ (dropP X c.more).1 = 0 := by simpa using hr
            rw [if_neg hd0]
            conv => whnf
            refine BoxR.i fun h9 s9 k9 => ?_
            conv => whnf
            have nv : ∀ b ∈ V.blocks, b ≠ b1 ∧ b ≠ b2 := fun b hb => by have := A.blt b hb; omega
            exact ⟨k08.m1 k9 (by omega), rfl, A8.keep k9 (fun b hb => by simpa using (nv b hb).2)⟩
          · have hd0 : (dropP X c.more).1 = 0 := by simpa using hr
            rw [if_pos hd0]
            conv => whnf
            refine StoreR.i o8 (Nat.le_of_ble_eq_true rfl) (by intro hx; have hx2 : b1 ∈ [b2] := hx; simp at hx2; omega) fun h9 s9 o9 k9 => ?_
            conv => whnf
            refine LoadN.o o9 rfl ?_
            conv => whnf
            refine BoxR.i fun h10 s10 k10 => ?_
            conv => whnf
            obtain ⟨q1, q2⟩ := fin _ h8 k08 A8 k8.size o8 h9 s9 k9 h10 s10 k10
            exact ⟨q1, rfl, q2⟩
        · have hm : c.more = -1 := usedB_f.1 hq
          rw [if_pos hm]
          conv => whnf
          first | refine IfR.f rfl ?_ | (refine MeetR.pass ?_; (conv => whnf); refine IfR.f rfl ?_)
          conv => whnf
          refine StoreR.i o7 (Nat.le_of_ble_eq_true rfl) (by intro hx; have hx2 : b1 ∈ [b2] := hx; simp at hx2; omega) fun h9 s9 o9 k9 => ?_
          conv => whnf
          refine LoadN.o o9 rfl ?_
          conv => whnf
          refine BoxR.i fun h10 s10 k10 => ?_
          conv => whnf
          obtain ⟨q1, q2⟩ := fin _ h7 (k07.mono (by simp)) (A.on k07) (Nat.le_refl _) o7 h9 s9 k9 h10 s10 k10
          exact ⟨q1, rfl, q2⟩
      · have hu' : ¬ (m.drop 5).any usedB = false := by rw [show (m.drop 5).any usedB = true by simpa using hu]; decide
        have hP : ∀ (k : Int) (X1 : VS), (if c.more = -1 then takeP M.read X node else (c.more, 0, X)) = (k, 0, X1) → keepP M.read X node c m = ({ setD c m with more := k }, (if 0 ≤ k ∧ k < 96 then 0 else 1), if 0 ≤ k ∧ k < 96 then { X1 with now := putBlk X1.now k ((m.drop 5).map fun n => w64 (n + 1)) } else X1) := by
          intro k X1 he
          unfold keepP
          rw [if_pos hyes, if_neg hu']
          simp only [he, if_true]
        have hob1 : V.ob ≠ b1 := by omega
        have hob2 : V.ob ≠ b2 := by omega
        have nb2 : ∀ b ∈ blocksOf [(8, b2, Crd.zero.cells)], b ∉ [V.ob] := by intro b hb hx; have hb2 : b ∈ [b2] := hb; simp at hb2 hx; omega
        have nv : ∀ b ∈ V.blocks, b ≠ b1 ∧ b ≠ b2 := fun b hb => by have := A.blt b hb; omega
        conv => whnf
        first | refine LoadR.o o6 rfl ?_ | (refine MeetR.pass ?_; (conv => whnf); refine LoadR.o o6 rfl ?_)
        conv => whnf
        refine CallR.i (used_spec _ h6) fun v h7 k7 hv => ?_
        subst hv
        have k07 := k06.trans k7
        have o7 := k7.obj o6 (by simp)
        have z7 := (k6.trans k7).size
        conv => whnf
        first | refine IfR.i ?ca ?cb | (refine MeetR.pass ?_; (conv => whnf); refine IfR.i ?ca ?cb)
        case' ca =>
          intro hq
          have hm : c.more = -1 := usedB_f.1 (bnot_t hq)
          conv => whnf
          refine CallR.m (take_spec (A.on k07) node) nb2 fun v hy ky hv => ?_
          obtain ⟨rfl, Ay⟩ := hv
          have oy := ky.obj o7 (by simpa using hob1.symm)
          conv => whnf
          refine StoreR.i oy (Nat.le_of_ble_eq_true rfl) (by intro hx; have hx2 : b1 ∈ [b2] := hx; simp at hx2; omega) fun hx sx ox kx => ?_
          have Ax := Ay.keep kx (fun b hb => by simpa using (nv b hb).1)
          have zy := ky.size
          have k0x : Keeps [V.ob] h hx := ((k07.mono (by simp)).trans ky).m1 kx (by omega)
          conv => whnf
          refine IfR.i (fun hr => ?_) (fun hr => ?_)
          · have ht : ¬ (takeP M.read X node).2.1 = 0 := by simpa using hr
            conv => whnf
            refine BoxR.i fun h9 s9 k9 => ?_
            conv => whnf
            have : keepP M.read X node c m = (Crd.zero, (takeP M.read X node).2.1, (takeP M.read X node).2.2) := by
              unfold keepP
              rw [if_pos hyes, if_neg hu', if_pos hm]
              simp only [if_neg ht]
            rw [this]
            exact ⟨k0x.m1 k9 (by omega), rfl, Ax.keep k9 (fun b hb => by simpa using (nv b hb).2)⟩
          have ht : (takeP M.read X node).2.1 = 0 := by simpa using hr
          have hPx := hP (takeP M.read X node).1 (takeP M.read X node).2.2 (by rw [if_pos hm, ← ht])
          have zz : b2 < hx.size ∧ h.size ≤ hx.size := ⟨by omega, by omega⟩
          have ox' : hx[b1]? = some (.cells ⟨({ setD c m with more := (takeP M.read X node).1 } : Crd).cells⟩ 38 (0, 0)) := ox
          clear oy ox hr hq ht kx sx ky Ay zy
          rw [hPx]
          clear hPx
          generalize (takeP M.read X node).1 = k, (takeP M.read X node).2.2 = X1 at ox' Ax ⊢
        case' cb =>
          intro hq
          have hm : ¬ c.more = -1 := usedB_t.1 (bnot_f hq)
          have hPx := hP c.more X (by rw [if_neg hm])
          have Ax := A.on k07
          have k0x : Keeps [V.ob] h h7 := k07.mono (by simp)
          have zz : b2 < h7.size ∧ h.size ≤ h7.size := ⟨by omega, by omega⟩
          have ox' : h7[b1]? = some (.cells ⟨({ setD c m with more := c.more } : Crd).cells⟩ 38 (0, 0)) := o7
          rw [hPx]
          clear hPx hq
          obtain ⟨X1, hX1⟩ : ∃ X1, X1 = X := ⟨_, rfl⟩
          rw [← hX1] at Ax ⊢
          obtain ⟨hx, hhx⟩ : ∃ hx, hx = h7 := ⟨_, rfl⟩
          rw [← hhx] at Ax k0x ox' zz ⊢
          obtain ⟨k, hk⟩ : ∃ k, k = c.more := ⟨_, rfl⟩
          rw [← hk] at ox' ⊢
        all_goals
          have Sx := S.keepM k0x (fun b hb hx => by simp at hx; exact (hs rfl) (hx ▸ hb))
          have Sq := Sx.part (l := 5) (r := 21) (by decide) (Nat.le_refl _)
          rw [List.take_of_length_le (by omega)] at Sq
          have hml : (m.drop 5).length = 16 := by simp; omega
          conv => whnf
          refine SliceR.i 5 21 rfl rfl (by decide) hcap ?_
          conv => whnf
          refine LoopR.on [0, 6, 8, 11, 69, 70, 71] [8] (fun q : Nat × Option Addr × Nat => [(0, .v (.pointer (some ⟨V.v, 0, none⟩))), (6, .v (.pointer (some ⟨b1, 0, none⟩))), (8, .lp 8 0), (11, .v (.slice q.2.1 q.1 q.2.2)), (69, .v (.slice (slA (some ⟨xb, xo, none⟩) cap 5 1) 16 (cap - 5))), (70, .v (.int .i64 16)), (71, .v (.int .i64 (q.1 : Int)))])
            (fun _ => [(8, b2, Crd.zero.cells)]) (fun q h' => q.1 ≤ 16 ∧ Keeps [] hx h' ∧ Own h' 35 1 q.2.1 q.1 q.2.2 ((((m.drop 5).take q.1).map fun n => w64 (n + 1)).map wv) ∧ ∀ b ∈ blkA q.2.1, hx.size ≤ b) (fun q => 16 - q.1) (0, none, 0) ?_ ?_
          · conv => whnf
            exact ⟨(0, none, 0), rfl, rfl, rfl, by decide, Keeps.refl _ _, .inl ⟨rfl, rfl, rfl, rfl⟩, by simp [blkA]⟩
          · rintro ⟨i, a, ca⟩ h8 ⟨hi, k8, O8, n8⟩
            simp only at hi O8 n8
            conv => whnf
            refine IfR.i (fun hc => ?_) (fun hc => ?_)
            · have hi1 : i < (m.drop 5).length := by simp at hc; omega
              obtain ⟨yb, yo, hy, hyo, hcell⟩ := (Sq.keep k8).at1 i hi1
              have hr := rng (m.drop 5)[i] (List.mem_of_mem_drop (List.getElem_mem hi1))
              conv => whnf
              refine IdxS.i i rfl (by omega) hy ?_
              conv => whnf
              refine LoadR.i hcell ?_
              conv => whnf
              refine AllocR.i fun b9 h9 e9 s9 o9 k9 => ?_
              conv => whnf
              have ev : Value.int .u64 (IntKind.u64.wrap (IntKind.i64.wrap ((m.drop 5)[i] + 1))) = wv (w64 ((m.drop 5)[i] + 1)) := by
                rw [wrapI (x := (m.drop 5)[i] + 1) (by omega) (by omega), wv_w64]
              rw [ev] at o9 ⊢
              have z8 := k8.size
              refine append_own (e := 35) (sz := 1) (by_ := 8) (new := [wv (w64 ((m.drop 5)[i] + 1))]) rfl rfl rfl rfl rfl rfl rfl (O8.keep k9 (by simp)) rfl (fun j hj => ?_) rfl (by omega) (by decide) (fun b hb hx2 => ?_) ?_
              · have hj0 : j = 0 := by simpa using hj
                subst hj0
                simp only [Heap.cell?, o9]; rfl
              · have hb2 : b ∈ [b2] := hx2
                have := n8 b hb
                simp at hb2; omega
              intro a10 c10 h10 O10 k10 n10
              conv => whnf
              refine ⟨16 - (i + 1), by omega, ?_⟩
              conv => whnf
              refine ⟨(i + 1, a10, c10), rfl, by rw [wrapN (x := (i : Int) + 1) (n := i + 1) (by simp) (by omega)], rfl, by simp only; omega, (k8.trans k9).nil_of k10 n8, ?_, fun b hb => ?_⟩
              · simp only
                rw [List.take_succ_eq_append_getElem hi1, List.map_append, List.map_append]
                exact O10
              · rcases n10 b hb with h | h
                · exact n8 b h
                · omega
            · have hi1 : i = 16 := by simp at hc; omega
              subst hi1
              rw [List.take_of_length_le (by omega)] at O8
              have SL := O8.sl (reps_w h8 _) rfl (by decide) (by simp; omega)
              have z8 := k8.size
              have o8 := k8.obj ox' (by simp)
              have hsl : V.ob ∉ blkA a := fun hb => by have := n8 _ hb; omega
              have fin : ∀ h9 h10 : Heap, Keeps [V.ob] h8 h9 → At h9 V M (if 0 ≤ k ∧ k < 96 ∧ 16 ≤ 16 then { X1 with now := putBlk X1.now k ((m.drop 5).map fun n => w64 (n + 1)) } else X1) → Keeps [b2] h9 h10 →
                  Keeps [V.ob] h h10 ∧ Value.tuple #[.agg ⟨({ setD c m with more := k } : Crd).cells⟩, .int .i64 (if 0 ≤ k ∧ k < 96 ∧ 16 ≤ 16 then 0 else 1)] = .tuple #[.agg ⟨({ setD c m with more := k } : Crd).cells⟩, .int .i64 (if 0 ≤ k ∧ k < 96 then 0 else 1)] ∧ At h10 V M (if 0 ≤ k ∧ k < 96 then { X1 with now := putBlk X1.now k ((m.drop 5).map fun n => w64 (n + 1)) } else X1) := by
                intro h9 h10 k9 A9 k10
                have hk : (0 ≤ k ∧ k < 96 ∧ 16 ≤ 16) ↔ (0 ≤ k ∧ k < 96) := ⟨fun h => ⟨h.1, h.2.1⟩, fun h => ⟨h.1, h.2, Nat.le_refl _⟩⟩
                simp only [hk] at A9 ⊢
                exact ⟨((k0x.trans (k8.mono (by simp))).trans k9).m1 k10 (by omega), trivial, A9.keep k10 (fun b hb => by simpa using (nv b hb).2)⟩
              conv => whnf
              refine LoadR.o o8 rfl ?_
              conv => whnf
              refine BothR.i ?_ ?_
              · conv => whnf
                refine LoadN.o o8 rfl ?_
                conv => whnf
                refine CallR.m (setBlock_spec (Ax.on k8) k SL hsl) nb2 fun v h9 k9 hv => ?_
                obtain ⟨rfl, A9⟩ := hv
                conv => whnf
                refine BoxR.i fun h10 s10 k10 => ?_
                conv => whnf
                exact fin h9 h10 k9 A9 k10
              · conv => whnf
                refine CallR.m (setBlock_spec (Ax.on k8) k SL hsl) nb2 fun v h9 k9 hv => ?_
                obtain ⟨rfl, A9⟩ := hv
                conv => whnf
                refine LoadN.o (k9.obj o8 (by simpa using hob1.symm)) rfl ?_
                conv => whnf
                refine BoxR.i fun h10 s10 k10 => ?_
                conv => whnf
                exact fin h9 h10 k9 A9 k10
  · have hno : ¬ ((0 ≤ node ∧ node < 24) ∧ m.length = 21 ∧ m.any oddB = false) := by
      rintro ⟨h1, h2, _⟩
      rw [if_pos h1] at hc
      simp [bif_and, bif_or] at hc
      omega
    conv => whnf
    refine IfR.i (fun hd => ?_) (fun hd => ?_)
    · conv => whnf
      refine IfR.t rfl ?_
      conv => whnf
      refine BoxR.i fun h4 s4 k4 => ?_
      conv => whnf
      exact bad hno h3 h4 (Keeps.refl _ _) k4
    · have hb : ¬ (0 ≤ node ∧ node < 24) := fun hb => by
        rw [if_pos hb] at hc hd
        simp [bif_and, bif_or] at hc hd
        omega
      rw [if_neg hb]
      conv => whnf
      refine IfR.t rfl ?_
      conv => whnf
      refine BoxR.i fun h4 s4 k4 => ?_
      conv => whnf
      exact bad hno h3 h4 (Keeps.refl _ _) k4
end Go.Proofs.YteambknhlbiajaaGreat
/-
  Layer 10: a file's bytes are read.
-/
set_option linter.all false
set_option maxRecDepth 100000
namespace Go.Proofs.YteambknhlbiajaaGreat
open Go Go.Eng

/-- a file's bytes, and those behind its end -/
def fileB (now : Int → UInt64) (m : List Int) : List UInt8 := m.flatMap (bytesB now)

theorem flat_len {now : Int → UInt64} : ∀ m : List Int, (fileB now m).length = 128 * m.length
  | [] => rfl
  | x :: m => by
    have := flat_len (now := now) m
    simp only [fileB, List.flatMap_cons, List.length_append, bytesB_len, List.length_cons] at this ⊢
    omega
theorem flat_take {now : Int → UInt64} (m : List Int) (i : Nat) : (fileB now m).take (128 * i) = fileB now (m.take i) := by
  induction m generalizing i with
  | nil => simp [fileB]
  | cons x m ih =>
    cases i with
    | zero => simp [fileB]
    | succ i =>
      have := ih i
      simp only [fileB, List.flatMap_cons, List.take_succ_cons] at this ⊢
      rw [List.take_append, bytesB_len, show 128 * (i + 1) - 128 = 128 * i by omega, this, List.take_of_length_le (by rw [bytesB_len]; omega)]
theorem flat_step {now : Int → UInt64} (m : List Int) (i : Nat) (hi : i < m.length) : (fileB now m).take (128 * (i + 1)) = (fileB now m).take (128 * i) ++ bytesB now m[i] := by
  rw [flat_take, flat_take, List.take_succ_eq_append_getElem hi]
  unfold fileB
  rw [List.flatMap_append, List.flatMap_singleton]

/-- what is read behind 'i' blocks -/
def readTo (now : Int → UInt64) (m : List Int) (at_ end_ i : Nat) : List UInt8 := ((fileB now m).take (min (128 * i) end_)).drop at_

theorem readTo_step {now : Int → UInt64} (m : List Int) (a e i : Nat) (hi : i < m.length) (h1 : 128 * i < e) (h2 : a < 128 * i + 128) (h3 : a ≤ e) :
    readTo now m a e (i + 1) = readTo now m a e i ++ ((bytesB now m[i]).take (min (e - 128 * i) 128)).drop (a - 128 * i) := by
  unfold readTo
  have hl := flat_len (now := now) m
  have e1 : (fileB now m).take (min (128 * (i + 1)) e) = (fileB now m).take (128 * i) ++ (bytesB now m[i]).take (min (e - 128 * i) 128) := by
    have : (fileB now m).take (min (128 * (i + 1)) e) = ((fileB now m).take (128 * (i + 1))).take (min (128 * (i + 1)) e) := by
      rw [List.take_take]; congr 1; omega
    rw [this, flat_step m i hi, List.take_append]
    have h4 : ((fileB now m).take (128 * i)).length = 128 * i := by rw [List.length_take, hl]; omega
    rw [h4, List.take_of_length_le (by rw [h4]; omega)]
    congr 2; omega
  rw [e1, show min (128 * i) e = 128 * i by omega, List.drop_append]
  congr 2
  rw [List.length_take, hl]; omega

theorem readTo_skip {now : Int → UInt64} (m : List Int) (a e i : Nat) (h2 : 128 * i + 128 ≤ a) : readTo now m a e (i + 1) = readTo now m a e i := by
  unfold readTo
  rw [List.drop_eq_nil_of_le (by rw [List.length_take]; omega), List.drop_eq_nil_of_le (by rw [List.length_take]; omega)]

def okMap (now : Int → UInt64) (c : Crd) : Prop := ∀ m, mapOf now c = some m → ∀ x ∈ m, x = -1 ∨ (0 ≤ x ∧ x < 96)

/-- what is read of a file -/
def readP (now : Int → UInt64) (c : Crd) (at_ n : Int) : List UInt8 × Int :=
  if at_ < 0 ∨ n < 0 ∨ 4096 < n then ([], 1)
  else match mapOf now c with
    | none => ([], 15)
    | some m => if c.size ≤ at_ then ([], 0) else (((fileB now m).take (min c.size (at_ + n)).toNat).drop at_.toNat, 0)

theorem bread_spec {h : Heap} {V : VL} {M : MemS} {X : VS} (A : At h V M X) (c : Crd) (hc : c.ok) (hsz : 0 ≤ c.size ∧ c.size ≤ 2688) (hm : okMap X.now c) (at_ n : Int) :
    CallH Tryz.prog 16 [.pointer (some ⟨V.v, 0, none⟩), .agg ⟨c.cells⟩, .int .i64 at_, .int .i64 n] h (fun v h' => Keeps [] h h' ∧ v = .tuple #[.string ⟨(readP X.now c at_ n).1.toArray⟩, .int .i64 (readP X.now c at_ n).2]) := by
  refine call_of hmix Tryz.func16 rfl ok16 (by simp [Tryz.f16]) ?_
  conv => whnf
  refine AllocR.i fun b1 h1 e1 s1 o1 k1 => ?_
  conv => whnf
  first | refine IfR.i (fun hq => ?_) (fun hq => ?_) | (refine MeetR.pass ?_; (conv => whnf); refine IfR.i (fun hq => ?_) (fun hq => ?_))
  · conv => whnf
    have : at_ < 0 ∨ n < 0 ∨ 4096 < n := by
      simp [bif_or] at hq; omega
    refine ⟨k1, ?_⟩
    unfold readP
    rw [if_pos this]
  · have hno : ¬ (at_ < 0 ∨ n < 0 ∨ 4096 < n) := by
      simp [bif_or] at hq; omega
    have hP : readP X.now c at_ n = match mapOf X.now c with
        | none => ([], 1 * 15)
        | some m => if c.size ≤ at_ then ([], 0) else (((fileB X.now m).take (min c.size (at_ + n)).toNat).drop at_.toNat, 0) := by
      unfold readP; rw [if_neg hno]; rfl
    rw [hP]
    clear hP
    conv => whnf
    refine CallR.i (map_spec (A.on k1) c hc) fun v h2 k2 hv => ?_
    have k02 := k1.trans k2
    cases hmo : mapOf X.now c with
    | none =>
      rw [hmo] at hv
      simp only at hv
      subst hv
      conv => whnf
      refine IfR.t rfl ?_
      conv => whnf
      exact ⟨k02, rfl⟩
    | some m =>
      rw [hmo] at hv
      simp only at hv
      obtain ⟨b, cap, sp, rfl, I2, hb, hcap⟩ := hv
      have hml := mapOf_length hmo
      have hmr := hm m hmo
      conv => whnf
      refine IfR.i (fun hr => ?_) (fun hr => ?_)
      · have : c.size ≤ at_ := by simpa [bif_or] using hr
        conv => whnf
        simp only
        rw [if_pos this]
        exact ⟨k02, rfl⟩
      · have hs : ¬ c.size ≤ at_ := by simp [bif_or] at hr; omega
        simp only
        rw [if_neg hs]
        obtain ⟨a, rfl⟩ : ∃ a : Nat, at_ = (a : Int) := ⟨at_.toNat, by omega⟩
        obtain ⟨z, hz⟩ : ∃ z : Nat, c.size = (z : Int) := ⟨c.size.toNat, by omega⟩
        obtain ⟨r, rfl⟩ : ∃ r : Nat, n = (r : Int) := ⟨n.toNat, by omega⟩
        rw [hz] at hs hsz
        generalize hE : min z (a + r) = e
        have he : (if IntKind.i64.wrap ((a : Int) + (r : Int)) < (z : Int) then IntKind.i64.wrap ((a : Int) + (r : Int)) else (z : Int)) = (e : Int) := by
          rw [wrapN (x := (a : Int) + (r : Int)) (n := a + r) (by simp) (by omega)]
          split <;> omega
        have hE2 : (min c.size ((a : Int) + (r : Int))).toNat = e := by rw [hz]; omega
        rw [hE2, show ((a : Int)).toNat = a by omega]
        have hae : a ≤ e := by omega
        have hez : e ≤ 2688 := by omega
        conv => whnf
        rw [hz, he]
        refine AllocR.i fun b3 h3 e3 s3 o3 k3 => ?_
        have B3 : Bld h3 b3 none none 0 0 [] := ⟨o3, .inl ⟨rfl, rfl, rfl, rfl⟩, by simp [blkA], .inl rfl⟩
        have z2 := k02.size
        conv => whnf
        refine MeetR.pass ?_
        conv => whnf
        refine LoopR.on [0, 2, 12, 13, 54, 55, 56] [] (fun i : Nat => [(0, .v (.pointer (some ⟨V.v, 0, none⟩))), (2, .v (.int .i64 (a : Int))), (12, .v (.int .i64 (e : Int))), (13, .v (.pointer (some ⟨b3, 0, none⟩))), (54, .v (.slice (some ⟨b, 0, none⟩) 21 cap)), (55, .v (.int .i64 21)), (56, .v (.int .i64 (i : Int)))]) (fun _ => [])
          (fun i h' => i ≤ 21 ∧ Keeps [] h h' ∧ h3.size ≤ h'.size ∧ IntsAt h' b m sp ∧ ∃ p ba bn bc, Bld h' b3 p ba bn bc (readTo X.now m a e i) ∧ ∀ x ∈ blkA ba, h3.size ≤ x) (fun i => 21 - i) 0 ?_ ?_
        · conv => whnf
          exact ⟨0, rfl, rfl, rfl, by decide, k02.trans k3, Nat.le_refl _, k3.obj I2 (by simp), none, none, 0, 0, by simpa [readTo] using B3, by simp [blkA]⟩
        · rintro i h4 ⟨hi, k4, z4, I4, p, ba, bn, bc, B4, nb4⟩
          have hbl : b < h2.size := obj_lt I2
          have rlen : ∀ j, (readTo X.now m a e j).length ≤ 2688 := by
            intro j; unfold readTo
            rw [List.length_drop, List.length_take, flat_len]; omega
          have endC : ∀ h5 : Heap, Keeps [] h4 h5 → (readTo X.now m a e i = ((fileB X.now m).take e).drop a) → CallH Tryz.prog 41 [.pointer (some ⟨b3, 0, none⟩)] h5 (fun v h' => Keeps (blkA ba) h5 h' ∧ v = .string ⟨(((fileB X.now m).take e).drop a).toArray⟩) := by
            intro h5 k5 hr
            rw [← hr]
            exact CallH.mono (bstring_spec (B4.on k5) (by have := rlen i; omega)) fun v h' hh => ⟨hh.1, hh.2.1⟩
          conv => whnf
          refine IfR.i (fun hx => ?_) (fun hx => ?_)
          · have hi1 : i < m.length := by simp at hx; omega
            conv => whnf
            first | refine IdxS.i i rfl (by omega) rfl ?_ | (refine MeetR.pass ?_; (conv => whnf); refine IdxS.i i rfl (by omega) rfl ?_)
            conv => whnf
            refine LoadR.i (I4.nth hi1) ?_
            have ew : IntKind.i64.wrap ((i : Int) * 128) = ((128 * i : Nat) : Int) := wrapN (by omega) (by omega)
            conv => whnf
            rw [ew]
            refine IfR.i (fun hy => ?_) (fun hy => ?_)
            · have hge : e ≤ 128 * i := by simp at hy; omega
              conv => whnf
              refine CallR.m (endC h4 (Keeps.refl _ _) (by unfold readTo; rw [show min (128 * i) e = e by omega])) (by simp [blocksOf]) fun v h5 k5 hv => ?_
              subst hv
              conv => whnf
              exact ⟨k4.nil_of k5 (fun x hx => by have := nb4 x hx; omega), rfl⟩
            · have hlt : 128 * i < e := by simp at hy; omega
              have ew2 : IntKind.i64.wrap (((128 * i : Nat) : Int) + 128) = ((128 * i + 128 : Nat) : Int) := wrapN (by omega) (by omega)
              conv => whnf
              rw [ew2]
              refine IfR.i (fun hw => ?_) (fun hw => ?_)
              · have hle : 128 * i + 128 ≤ a := by simp at hw; omega
                conv => whnf
                refine ⟨21 - (i + 1), by omega, ?_⟩
                conv => whnf
                refine ⟨i + 1, rfl, by rw [wrapN (x := (i : Int) + 1) (n := i + 1) (by simp) (by omega)], rfl, by omega, k4, z4, I4, p, ba, bn, bc, ?_, nb4⟩
                rw [readTo_skip m a e i hle]; exact B4
              · have hle : a < 128 * i + 128 := by simp at hw; omega
                conv => whnf
                refine CallR.i (textB_spec (A.on k4) m[i]) fun v h5 k5 hv => ?_
                rw [if_pos (hmr _ (List.getElem_mem hi1))] at hv
                subst hv
                conv => whnf
                refine IfR.f rfl ?_
                have el : (if (0 : Int) > IntKind.i64.wrap ((a : Int) - ((128 * i : Nat) : Int)) then (0 : Int) else IntKind.i64.wrap ((a : Int) - ((128 * i : Nat) : Int))) = ((a - 128 * i : Nat) : Int) := by
                  rw [wrapI (x := (a : Int) - ((128 * i : Nat) : Int)) (by omega) (by omega)]
                  split <;> omega
                have er : (if (128 : Int) < IntKind.i64.wrap ((e : Int) - ((128 * i : Nat) : Int)) then (128 : Int) else IntKind.i64.wrap ((e : Int) - ((128 * i : Nat) : Int))) = ((min (e - 128 * i) 128 : Nat) : Int) := by
                  rw [wrapI (x := (e : Int) - ((128 * i : Nat) : Int)) (by omega) (by omega)]
                  split <;> omega
                have hbsz : (ByteArray.mk (bytesB X.now m[i]).toArray).size = 128 := by
                  show (bytesB X.now m[i]).toArray.size = 128
                  simp [bytesB_len]
                conv => whnf
                refine SliceR.i (a - 128 * i) (min (e - 128 * i) 128) el er (by omega) (by rw [hbsz]; omega) ?_
                have hx1 : (ByteArray.extract ⟨(bytesB X.now m[i]).toArray⟩ (a - 128 * i) (min (e - 128 * i) 128)).data.toList = ((bytesB X.now m[i]).take (min (e - 128 * i) 128)).drop (a - 128 * i) := by
                  rw [ByteArray.data_extract]
                  simp [List.drop_take]
                have hx2 : (ByteArray.extract ⟨(bytesB X.now m[i]).toArray⟩ (a - 128 * i) (min (e - 128 * i) 128)).size ≤ 128 := by
                  rw [ByteArray.size_extract, hbsz]; omega
                have hbn := (B4.buf.len).1
                conv => whnf
                refine CallR.m (writeString_spec (B4.on k5) _ (by have := rlen i; omega)) (by simp [blocksOf]) fun v h6 k6 hv => ?_
                obtain ⟨rfl, a6, c6, B6, n6, _⟩ := hv
                rw [hx1, ← readTo_step m a e i hi1 hlt hle hae] at B6
                conv => whnf
                refine ⟨21 - (i + 1), by omega, ?_⟩
                conv => whnf
                have z5 := k5.size
                have z6 := k6.size
                refine ⟨i + 1, rfl, by rw [wrapN (x := (i : Int) + 1) (n := i + 1) (by simp) (by omega)], rfl, by omega, (k4.trans k5).nil_of k6 (fun x hx => ?_), by omega, ?_, _, _, _, _, B6, fun x hx => ?_⟩
                · simp only [List.mem_cons] at hx
                  rcases hx with rfl | hx
                  · omega
                  · have := nb4 x hx; omega
                · refine k6.obj (k5.obj I4 (by simp)) (fun hx => ?_)
                  simp only [List.mem_cons] at hx
                  rcases hx with hx | hx
                  · omega
                  · have := nb4 b hx; omega
                · rcases n6 x hx with h | h
                  · exact nb4 x h
                  · omega
          · have hi1 : i = 21 := by simp at hx; omega
            subst hi1
            conv => whnf
            refine CallR.m (endC h4 (Keeps.refl _ _) (by unfold readTo; rw [show min (128 * 21) e = e by omega])) (by simp [blocksOf]) fun v h5 k5 hv => ?_
            subst hv
            conv => whnf
            exact ⟨k4.nil_of k5 (fun x hx => by have := nb4 x hx; omega), rfl⟩
end Go.Proofs.YteambknhlbiajaaGreat
