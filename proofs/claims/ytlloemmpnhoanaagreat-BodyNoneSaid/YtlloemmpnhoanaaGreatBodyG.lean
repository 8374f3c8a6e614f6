/-
  Builders of texts; functions of package slices.
-/
import Derived.Test.YtlloemmpnhoanaaGreatBodyF
set_option linter.all false
set_option maxRecDepth 100000
namespace Go.Proofs.YtlloemmpnhoanaaGreat
open Go Go.Eng

/-- a builder, and what is written -/
structure Bld (h : Heap) (b : Nat) (p : Option Addr) (a : Option Addr) (n c : Nat) (s : List UInt8) : Prop where
  obj : h[b]? = some (.cells ⟨[.pointer p, .slice a n c]⟩ 71 (0, 0))
  buf : Buf h 5 a n c s
  ap : b ∉ blkA a
  hp : p = none ∨ p = some ⟨b, 0, none⟩

theorem Bld.on {h h' : Heap} {b : Nat} {p a : Option Addr} {n c : Nat} {s : List UInt8} (B : Bld h b p a n c s) (k : Keeps [] h h') : Bld h' b p a n c s := ⟨k.obj B.obj (by simp), B.buf.keep k (by simp), B.ap, B.hp⟩
theorem Bld.keep {M : List Nat} {h h' : Heap} {b : Nat} {p a : Option Addr} {n c : Nat} {s : List UInt8} (B : Bld h b p a n c s) (k : Keeps M h h') (h1 : b ∉ M) (h2 : ∀ x ∈ blkA a, x ∉ M) : Bld h' b p a n c s := ⟨k.obj B.obj h1, B.buf.keep k h2, B.ap, B.hp⟩

theorem copyCheck_spec {h : Heap} {b : Nat} {p a : Option Addr} {n c : Nat} {s : List UInt8} (B : Bld h b p a n c s) : CallH Tryz.prog 61 [.pointer (some ⟨b, 0, none⟩)] h (fun v h' => Keeps [b] h h' ∧ Bld h' b (some ⟨b, 0, none⟩) a n c s) := by
  have hap := B.ap
  rcases B with ⟨o, hb, hap, rfl | rfl⟩
  · refine call_of hmix Tryz.func61 rfl ok61 (by simp [Tryz.f61]) ?_
    conv => whnf
    refine LoadR.o o rfl ?_
    conv => whnf
    refine IfR.t rfl ?_
    conv => whnf
    refine SemR.pure (v := .pointer (some ⟨b, 0, none⟩)) (fun w hw => Lib.run_to_unsafe (P := Tryz.prog) w ⟨b, 0, none⟩ rfl rfl rfl (by decide) (by unfold World.shape?; rw [hw, o]) (by show 0 < 2; decide)) ?_
    conv => whnf
    refine SemR.ext rfl (by kernel_rfl) (by kernel_rfl) (by kernel_rfl) (e := Extern.AbiNoEscape.same) (by kernel_rfl) (SemR.pure (fun w _ => Lib.run_noEscape w _) ?_)
    conv => whnf
    refine SemR.pure (v := .pointer (some ⟨b, 0, none⟩)) (fun w hw => Lib.run_from_unsafe (P := Tryz.prog) w ⟨b, 0, none⟩ rfl rfl rfl (by unfold World.shape?; rw [hw, o]) (by kernel_rfl)) ?_
    conv => whnf
    refine StoreR.i o (Nat.le_of_ble_eq_true rfl) (by simp [blocksOf]) fun h2 s2 o2 k2 => ?_
    conv => whnf
    exact ⟨k2, o2, hb.keep k2 (fun x hx hm => by simp at hm; exact hap (hm ▸ hx)), hap, .inr rfl⟩
  · refine call_of hmix Tryz.func61 rfl ok61 (by simp [Tryz.f61]) ?_
    conv => whnf
    refine LoadR.o o rfl ?_
    conv => whnf
    refine IfR.f rfl ?_
    conv => whnf
    refine LoadR.o o rfl ?_
    conv => whnf
    refine PureR.i (v := .bool false) (fun w => ?_) ?_
    · simp only [Sem.run_bind]
      rw [eqGuard_run _ _ _ _ _ _ _ _ (by simp) (by simp)]
      simp only [Result.andThen_ok]
      exact Lib.run_neq_ptr_same (P := Tryz.prog) w ⟨b, 0, none⟩ rfl rfl
    conv => whnf
    refine IfR.f rfl ?_
    conv => whnf
    exact ⟨Keeps.refl _ _, o, hb, hap, .inr rfl⟩

theorem writeString_spec {h : Heap} {b : Nat} {p a : Option Addr} {n c : Nat} {s : List UInt8} (B : Bld h b p a n c s) (x : ByteArray) (hx : n + x.size ≤ 70368744177664) : CallH Tryz.prog 31 [.pointer (some ⟨b, 0, none⟩), .string x] h
    (fun v h' => Keeps (b :: blkA a) h h' ∧ v = .tuple #[.int .i64 x.size, .nilIface] ∧ ∃ a' c', Bld h' b (some ⟨b, 0, none⟩) a' (n + x.size) c' (s ++ x.data.toList) ∧ (∀ y ∈ blkA a', y ∈ blkA a ∨ h.size ≤ y) ∧ (n + x.size ≤ c → c' = c ∧ a' = a)) := by
  refine call_of hmix Tryz.func31 rfl ok31 (by simp [Tryz.f31]) ?_
  conv => whnf
  refine CallR.m (copyCheck_spec B) (by simp [blocksOf]) fun v h1 k1 B1 => ?_
  have hb1 : b < h1.size := obj_lt B1.obj
  conv => whnf
  refine LoadR.o B1.obj rfl ?_
  conv => whnf
  refine SemR.appendStr rfl rfl rfl rfl rfl rfl rfl B1.buf hx (by simp [blocksOf]) fun a2 c2 h2 F2 k2 n2 m2 q2 => ?_
  have o2 := k2.obj B1.obj B1.ap
  conv => whnf
  refine StoreR.i o2 (Nat.le_of_ble_eq_true rfl) (by simp [blocksOf]) fun h3 s3 o3 k3 => ?_
  conv => whnf
  have z1 := k1.size
  have ap2 : b ∉ blkA a2 := fun hx => by
    rcases n2 b hx with h | h
    · exact B1.ap h
    · omega
  refine ⟨(k1.mono (by simp)).trans ((k2.mono (fun x hx => List.mem_cons_of_mem _ hx)).trans (k3.mono (by simp))), rfl, a2, c2, ⟨o3, F2.keep k3 (fun x hx hm => by simp at hm; exact ap2 (hm ▸ hx)), ap2, .inr rfl⟩, fun y hy => (n2 y hy).imp id (fun h => by omega), q2⟩

theorem blen_spec {h : Heap} {b : Nat} {p a : Option Addr} {n c : Nat} {s : List UInt8} (B : Bld h b p a n c s) : CallH Tryz.prog 81 [.pointer (some ⟨b, 0, none⟩)] h (fun v h' => Keeps [] h h' ∧ v = .int .i64 (n : Int)) := by
  refine call_of hmix Tryz.func81 rfl ok81 (by simp [Tryz.f81]) ?_
  conv => whnf
  refine LoadR.o B.obj rfl ?_
  conv => whnf
  exact ⟨Keeps.refl _ _, rfl⟩

theorem bstring_spec {h : Heap} {b : Nat} {p a : Option Addr} {n c : Nat} {s : List UInt8} (B : Bld h b p a n c s) (hs : s.length ≤ 70368744177664) : CallH Tryz.prog 32 [.pointer (some ⟨b, 0, none⟩)] h (fun v h' => Keeps (blkA a) h h' ∧ v = .string ⟨s.toArray⟩ ∧ Bld h' b p a n c s) := by
  have hbuf := B.buf
  rcases hbuf with ⟨rfl, rfl, rfl, rfl⟩ | ⟨g, cs, fz, rfl, h2, h3, h4, h5, h6, h7, h8⟩
  · refine call_of hmix Tryz.func32 rfl ok32 (by simp [Tryz.f32]) ?_
    conv => whnf
    refine LoadR.o B.obj rfl ?_
    conv => whnf
    refine BothR.i ?_ ?_
    · conv => whnf
      refine SemR.pure (fun w _ => Lib.run_unsafeSliceData_nil (P := Tryz.prog) w _ _ _ _) ?_
      conv => whnf
      refine LoadR.o B.obj rfl ?_
      conv => whnf
      refine SemR.pure (fun w _ => Lib.run_unsafeString_none (P := Tryz.prog) w _ _ _ none) ?_
      conv => whnf
      exact ⟨Keeps.refl _ _, rfl, B⟩
    · conv => whnf
      refine LoadR.o B.obj rfl ?_
      conv => whnf
      refine BothR.i ?_ ?_
      all_goals
        conv => whnf
        refine SemR.pure (fun w _ => Lib.run_unsafeSliceData_nil (P := Tryz.prog) w _ _ _ _) ?_
        conv => whnf
        refine SemR.pure (fun w _ => Lib.run_unsafeString_none (P := Tryz.prog) w _ _ _ none) ?_
        conv => whnf
        exact ⟨Keeps.refl _ _, rfl, B⟩
  · have fin : ∀ h', Buf h' 5 (some ⟨g, 0, none⟩) n c s → Keeps [g] h h' → Keeps (blkA (some ⟨g, 0, none⟩)) h h' ∧ Value.string ⟨s.toArray⟩ = .string ⟨s.toArray⟩ ∧ Bld h' b p (some ⟨g, 0, none⟩) n c s := fun h' F k => by
      exact ⟨k, rfl, k.obj B.obj (by simpa [blkA] using B.ap), F, B.ap, B.hp⟩
    refine call_of hmix Tryz.func32 rfl ok32 (by simp [Tryz.f32]) ?_
    conv => whnf
    refine LoadR.o B.obj rfl ?_
    conv => whnf
    refine BothR.i ?_ ?_
    · conv => whnf
      refine SemR.pure (fun w _ => Lib.run_unsafeSliceData_row (P := Tryz.prog) w _ _ _ _ _ (by omega)) ?_
      conv => whnf
      refine LoadR.o B.obj rfl ?_
      conv => whnf
      refine SemR.unsafeStr rfl rfl B.buf hs (by simp [blocksOf]) fun h' F s' k => ?_
      conv => whnf
      exact fin h' F k
    · conv => whnf
      refine LoadR.o B.obj rfl ?_
      conv => whnf
      refine BothR.i ?_ ?_
      all_goals
        conv => whnf
        refine SemR.pure (fun w _ => Lib.run_unsafeSliceData_row (P := Tryz.prog) w _ _ _ _ _ (by omega)) ?_
        conv => whnf
        refine SemR.unsafeStr rfl rfl B.buf hs (by simp [blocksOf]) fun h' F s' k => ?_
        conv => whnf
        exact fin h' F k
end Go.Proofs.YtlloemmpnhoanaaGreat
