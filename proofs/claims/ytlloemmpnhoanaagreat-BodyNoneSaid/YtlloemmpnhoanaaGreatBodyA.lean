/-
  Layers 5: where the words lie.
-/
import Derived.Test.YtlloemmpnhoanaaGreatCfg
import Derived.Test.YtlloemmpnhoanaaGreatEngQ
set_option linter.all false
set_option maxRecDepth 100000
namespace Go.Proofs.YtlloemmpnhoanaaGreat
open Go Go.Eng

/-- the parts' cells, the first 'i' of them laid -/
def partsC (i : Nat) : List Value := [.int .i64 1, .int .i64 0, .int .i64 1, .int .i64 8, .int .i64 2, .int .i64 (if 1 < i then 8 else 0), .int .i64 24, .int .i64 8, .int .i64 3, .int .i64 (if 2 < i then 200 else 0), .int .i64 96, .int .i64 1,
  .int .i64 4, .int .i64 (if 3 < i then 296 else 0), .int .i64 4, .int .i64 248, .int .i64 5, .int .i64 (if 4 < i then 1288 else 0), .int .i64 96, .int .i64 16]

theorem end_spec (k a b c : Int) (h : Heap) : CallH Tryz.prog 63 [.agg ⟨[.int .i64 k, .int .i64 a, .int .i64 b, .int .i64 c]⟩] h (fun v h' => Keeps [] h h' ∧ v = .int .i64 (IntKind.i64.wrap (a + IntKind.i64.wrap (b * c)))) := by
  refine call_of hmix Tryz.func63 rfl ok63 (by simp [Tryz.f63]) ?_
  conv => whnf
  refine AllocR.i fun b1 h1 e1 s1 o1 k1 => ?_
  conv => whnf
  exact ⟨k1, rfl⟩

theorem parts_spec (h : Heap) : CallH Tryz.prog 83 [] h (fun v h' => Keeps [] h h' ∧ ∃ b, v = .slice (some ⟨b, 0, none⟩) 5 5 ∧ h'[b]? = some (.cells ⟨partsC 5⟩ 110 (0, 0))) := by
  refine call_of hmix Tryz.func83 rfl ok83 (by simp [Tryz.f83]) ?_
  conv => whnf
  refine AllocR.i fun b1 h1 e1 s1 o1 k1 => ?_
  conv => whnf
  refine LoopR.on [1, 2] [] (fun i : Nat => [(1, .v (.slice (some ⟨b1, 0, none⟩) 5 5)), (2, .v (.int .i64 (i : Int)))]) (fun _ => []) (fun i h' => 1 ≤ i ∧ i ≤ 5 ∧ Keeps [] h h' ∧ h'[b1]? = some (.cells ⟨partsC i⟩ 110 (0, 0))) (fun i => 5 - i) 1 ?_ ?_
  · conv => whnf
    exact ⟨1, rfl, rfl, rfl, by decide, by decide, k1, o1⟩
  · rintro i h2 ⟨i1, i5, k2, o2⟩
    have hi : i = 1 ∨ i = 2 ∨ i = 3 ∨ i = 4 ∨ i = 5 := by omega
    rcases hi with rfl | rfl | rfl | rfl | rfl
    case inr.inr.inr.inr =>
      conv => whnf
      refine IfR.f (by decide) ?_
      conv => whnf
      exact ⟨k2, b1, rfl, o2⟩
    case inl =>
      conv => whnf
      refine IfR.t (by decide) ?_
      conv => whnf
      refine IdxS.i 0 (by decide) (by decide) rfl ?_
      conv => whnf
      refine LoadN.o o2 rfl ?_
      conv => whnf
      refine CallR.i (end_spec _ _ _ _ h2) fun v h3 k3 hv => ?_
      subst hv
      conv => whnf
      refine IdxS.i 1 (by decide) (by decide) rfl ?_
      conv => whnf
      refine StoreR.i (k3.obj o2 (by simp)) (by decide) (by simp [blocksOf]) fun h4 s4 o4 k4 => ?_
      conv => whnf
      refine ⟨3, by decide, ?_⟩
      conv => whnf
      exact ⟨2, rfl, rfl, rfl, by decide, by decide, (k2.trans k3).new1 k4 (by omega), o4⟩
    case inr.inl =>
      conv => whnf
      refine IfR.t (by decide) ?_
      conv => whnf
      refine IdxS.i 1 (by decide) (by decide) rfl ?_
      conv => whnf
      refine LoadN.o o2 rfl ?_
      conv => whnf
      refine CallR.i (end_spec _ _ _ _ h2) fun v h3 k3 hv => ?_
      subst hv
      conv => whnf
      refine IdxS.i 2 (by decide) (by decide) rfl ?_
      conv => whnf
      refine StoreR.i (k3.obj o2 (by simp)) (by decide) (by simp [blocksOf]) fun h4 s4 o4 k4 => ?_
      conv => whnf
      refine ⟨2, by decide, ?_⟩
      conv => whnf
      exact ⟨3, rfl, rfl, rfl, by decide, by decide, (k2.trans k3).new1 k4 (by omega), o4⟩
    case inr.inr.inl =>
      conv => whnf
      refine IfR.t (by decide) ?_
      conv => whnf
      refine IdxS.i 2 (by decide) (by decide) rfl ?_
      conv => whnf
      refine LoadN.o o2 rfl ?_
      conv => whnf
      refine CallR.i (end_spec _ _ _ _ h2) fun v h3 k3 hv => ?_
      subst hv
      conv => whnf
      refine IdxS.i 3 (by decide) (by decide) rfl ?_
      conv => whnf
      refine StoreR.i (k3.obj o2 (by simp)) (by decide) (by simp [blocksOf]) fun h4 s4 o4 k4 => ?_
      conv => whnf
      refine ⟨1, by decide, ?_⟩
      conv => whnf
      exact ⟨4, rfl, rfl, rfl, by decide, by decide, (k2.trans k3).new1 k4 (by omega), o4⟩
    case inr.inr.inr.inl =>
      conv => whnf
      refine IfR.t (by decide) ?_
      conv => whnf
      refine IdxS.i 3 (by decide) (by decide) rfl ?_
      conv => whnf
      refine LoadN.o o2 rfl ?_
      conv => whnf
      refine CallR.i (end_spec _ _ _ _ h2) fun v h3 k3 hv => ?_
      subst hv
      conv => whnf
      refine IdxS.i 4 (by decide) (by decide) rfl ?_
      conv => whnf
      refine StoreR.i (k3.obj o2 (by simp)) (by decide) (by simp [blocksOf]) fun h4 s4 o4 k4 => ?_
      conv => whnf
      refine ⟨0, by decide, ?_⟩
      conv => whnf
      exact ⟨5, rfl, rfl, rfl, by decide, by decide, (k2.trans k3).new1 k4 (by omega), o4⟩

/-- where a kind's things begin, how many there are, how wide each is -/
def fromK : Nat → Int | 1 => 0 | 2 => 8 | 3 => 200 | 4 => 296 | _ => 1288
def countK : Nat → Int | 1 => 1 | 2 => 24 | 3 => 96 | 4 => 4 | _ => 96
def wideK : Nat → Int | 1 => 8 | 2 => 8 | 3 => 1 | 4 => 248 | _ => 16

theorem of_spec (k : Nat) (hk : k = 1 ∨ k = 2 ∨ k = 3 ∨ k = 4 ∨ k = 5) (h : Heap) : CallH Tryz.prog 62 [.int .i64 (k : Int)] h (fun v h' => Keeps [] h h' ∧ v = .agg ⟨[.int .i64 (k : Int), .int .i64 (fromK k), .int .i64 (countK k), .int .i64 (wideK k)]⟩) := by
  refine call_of hmix Tryz.func62 rfl ok62 (by simp [Tryz.f62]) ?_
  conv => whnf
  refine AllocR.i fun b1 h1 e1 s1 o1 k1 => ?_
  conv => whnf
  refine CallR.i (parts_spec h1) fun v h2 k2 hv => ?_
  obtain ⟨b, rfl, o2⟩ := hv
  conv => whnf
  refine IdxS.i (k - 1) ?_ (by omega) rfl ?_
  · rcases hk with rfl | rfl | rfl | rfl | rfl <;> decide
  conv => whnf
  refine LoadN.o (vs := [.int .i64 (k : Int), .int .i64 (fromK k), .int .i64 (countK k), .int .i64 (wideK k)]) o2 (by rcases hk with rfl | rfl | rfl | rfl | rfl <;> rfl) ?_
  conv => whnf
  refine BoxR.i fun h3 s3 k3 => ?_
  conv => whnf
  exact ⟨(k1.trans k2).new1 k3 (by omega), rfl⟩

theorem size_spec (h : Heap) : CallH Tryz.prog 34 [] h (fun v h' => Keeps [] h h' ∧ v = .int .i64 2824) := by
  refine call_of hmix Tryz.func34 rfl ok34 (by simp [Tryz.f34]) ?_
  conv => whnf
  refine CallR.i (of_spec 5 (by decide) h) fun v h1 k1 hv => ?_
  subst hv
  conv => whnf
  refine CallR.i (end_spec _ _ _ _ h1) fun v h2 k2 hv => ?_
  subst hv
  conv => whnf
  exact ⟨k1.trans k2, rfl⟩

theorem first_spec (k : Nat) (hk : k = 1 ∨ k = 2 ∨ k = 3 ∨ k = 4 ∨ k = 5) (i : Int) (h : Heap) : CallH Tryz.prog 78 [.int .i64 (k : Int), .int .i64 i] h (fun v h' => Keeps [] h h' ∧ v = .tuple #[.int .i64 (if 0 ≤ i ∧ i < countK k then fromK k + i * wideK k else 0), .int .i64 (if 0 ≤ i ∧ i < countK k then 0 else 1)]) := by
  refine call_of hmix Tryz.func78 rfl ok78 (by simp [Tryz.f78]) ?_
  conv => whnf
  refine CallR.i (of_spec k hk h) fun v h1 k1 hv => ?_
  subst hv
  conv => whnf
  refine AllocR.i fun b2 h2 e2 s2 o2 k2 => ?_
  conv => whnf
  refine BoxR.i fun h3 s3 k3 => ?_
  have kk : Keeps [] h h3 := (k1.trans k2).new1 k3 (by have := k1.size; omega)
  conv => whnf
  refine IfR.i (fun hc => ?_) (fun hc => ?_)
  · conv => whnf
    have hn : ¬ (0 ≤ i ∧ i < countK k) := by simp [bif_or] at hc; omega
    exact ⟨kk, by rw [if_neg hn, if_neg hn]⟩
  · conv => whnf
    have hn : 0 ≤ i ∧ i < countK k := by simp [bif_or] at hc; omega
    refine ⟨kk, ?_⟩
    rw [if_pos hn, if_pos hn]
    have hb : 0 ≤ i ∧ i < 96 := by rcases hk with rfl | rfl | rfl | rfl | rfl <;> simp [countK] at hn <;> omega
    have e : IntKind.i64.wrap (fromK k + IntKind.i64.wrap (i * wideK k)) = fromK k + i * wideK k := by
      rcases hk with rfl | rfl | rfl | rfl | rfl <;> simp only [fromK, wideK] <;> rw [wrapI (x := i * _) (by omega) (by omega), wrapI (by omega) (by omega)]
    rw [e]

theorem cardAt_spec (i : Int) (h : Heap) : CallH Tryz.prog 64 [.int .i64 i] h (fun v h' => Keeps [] h h' ∧ v = .tuple #[.int .i64 (if 0 ≤ i ∧ i < 24 then 8 + i * 8 else 0), .int .i64 (if 0 ≤ i ∧ i < 24 then 0 else 1)]) := by
  refine call_of hmix Tryz.func64 rfl ok64 (by simp [Tryz.f64]) ?_
  conv => whnf
  refine CallR.i (first_spec 2 (by decide) i h) fun v h1 k1 hv => ?_
  subst hv
  conv => whnf
  exact ⟨k1, rfl⟩
theorem ownerAt_spec (i : Int) (h : Heap) : CallH Tryz.prog 56 [.int .i64 i] h (fun v h' => Keeps [] h h' ∧ v = .tuple #[.int .i64 (if 0 ≤ i ∧ i < 96 then 200 + i * 1 else 0), .int .i64 (if 0 ≤ i ∧ i < 96 then 0 else 1)]) := by
  refine call_of hmix Tryz.func56 rfl ok56 (by simp [Tryz.f56]) ?_
  conv => whnf
  refine CallR.i (first_spec 3 (by decide) i h) fun v h1 k1 hv => ?_
  subst hv
  conv => whnf
  exact ⟨k1, rfl⟩
theorem blockAt_spec (i : Int) (h : Heap) : CallH Tryz.prog 75 [.int .i64 i] h (fun v h' => Keeps [] h h' ∧ v = .tuple #[.int .i64 (if 0 ≤ i ∧ i < 96 then 1288 + i * 16 else 0), .int .i64 (if 0 ≤ i ∧ i < 96 then 0 else 1)]) := by
  refine call_of hmix Tryz.func75 rfl ok75 (by simp [Tryz.f75]) ?_
  conv => whnf
  refine CallR.i (first_spec 5 (by decide) i h) fun v h1 k1 hv => ?_
  subst hv
  conv => whnf
  exact ⟨k1, rfl⟩
end Go.Proofs.YtlloemmpnhoanaaGreat
