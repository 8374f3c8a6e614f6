/-
  Layer 10's law: a file's bytes, in whatever row.
-/
import Derived.Test.YtlloemmpnhoanaaGreatFileQ
set_option linter.all false
set_option maxRecDepth 100000
set_option maxHeartbeats 1000000
namespace Go.Proofs.YtlloemmpnhoanaaGreat
open Go Go.Eng

/-- a step of a script -/
structure Opn where
  k : Int
  a : Int
  n : Int
  d : ByteArray
instance : Rp Opn where
  n := 4
  rep _ vs x := vs = [.int .i64 x.k, .int .i64 x.a, .int .i64 x.n, .string x.d] ∧ inI64 x.k ∧ inI64 x.a ∧ inI64 x.n ∧ okStr x.d
  len h := by rw [h.1]; rfl
  keep _ h := h
instance : Flat Opn := ⟨fun h => h⟩

theorem _root_.Go.Eng.Sl.lt4 {h : Heap} {a : Option Addr} {n c : Nat} {xs : List Opn} (S : Sl h a n c xs) (hn : 0 < n) : ∀ b ∈ blkA a, b < h.size := by
  have hl := S.hlen
  obtain ⟨b, o, hb, cs, ⟨rfl, _⟩, hc⟩ := S.at_ 0 (by omega)
  intro x hx
  rw [hb] at hx
  simp [blkA] at hx
  subst hx
  exact cell_lt (hc 0 (by simp))

theorem early_spec {h : Heap} {a : Option Addr} {n c : Nat} {xs : List Opn} (S : Sl h a n c xs) : CallH Tryz.prog 8 [.slice a n c] h (fun v h' => Keeps [] h h' ∧ ∃ c', v = .slice a (min n 50) c' ∧ Sl h' a (min n 50) c' (xs.take 50)) := by
  have hl := S.hlen
  have hc := S.hcap
  refine call_of hmix Tryz.func8 rfl ok8 (by simp [Tryz.f8]) ?_
  conv => whnf
  refine SliceR.i 0 (min n 50) rfl (by split <;> omega) (Nat.zero_le _) (by omega) ?_
  conv => whnf
  have P := S.part (l := 0) (r := min n 50) (Nat.zero_le _) (by omega)
  rw [List.drop_zero] at P
  have e : xs.take (min n 50) = xs.take 50 := by
    rw [hl, ← List.take_take]
    exact List.take_of_length_le (by rw [List.length_take]; omega)
  rw [e, slA_zero] at P
  refine ⟨Keeps.refl _ _, _, ?_, P⟩
  rw [slA_zero]; rfl

/-- a run of a file's: what holds between steps -/
structure RunI (h0 h : Heap) (f : Nat) (node : Int) (V : VL) (M : MemS) (c : Crd) (m : List Int) (s : List UInt8) : Prop where
  k : Keeps [] h0 h
  idle : Idle h V M
  file : FileO h f V node c s
  good : FileI M.read node c m s
  out : f ∉ V.blocks
  newf : h0.size ≤ f
  new : ∀ b ∈ V.blocks, h0.size ≤ b

theorem RunI.on {h0 h h' : Heap} {f : Nat} {node : Int} {V : VL} {M : MemS} {c : Crd} {m : List Int} {s : List UInt8} (R : RunI h0 h f node V M c m s) (k : Keeps [] h h') : RunI h0 h' f node V M c m s :=
  ⟨R.k.trans k, R.idle.on k, k.obj R.file (by simp), R.good, R.out, R.newf, R.new⟩

theorem RunI.step {h0 h h' : Heap} {f : Nat} {node : Int} {V : VL} {M : MemS} {c : Crd} {m : List Int} {s : List UInt8} (R : RunI h0 h f node V M c m s) (k : Keeps [f, V.v, V.mem.m, V.mem.lb, V.ob] h h') {cut : Option Int} {V' : VL} {M' : MemS} {c' : Crd} {m' : List Int} {s' : List UInt8} (L : Left h h' f V M node m s cut V' M' c' m' s') : RunI h0 h' f node V' M' c' m' s' := by
  refine ⟨R.k.nil_of k ?_, L.idle, L.file, L.good, L.out, R.newf, fun b hb => ?_⟩
  · intro y hy
    have q0 := R.newf
    have q1 := R.new V.ob (by simp [VL.blocks])
    have q2 := R.new V.v (by simp [VL.blocks])
    have q3 := R.new V.mem.m (by simp [VL.blocks, ML.blocks])
    have q4 := R.new V.mem.lb (by simp [VL.blocks, ML.blocks])
    simp only [List.mem_cons, List.not_mem_nil, or_false] at hy
    omega
  · have hz := R.k.size
    rcases L.new b hb with h | h
    · exact R.new b h
    · omega

theorem plays_law {h : Heap} {a : Option Addr} {n c : Nat} {xs : List Opn} (S : Sl h a n c xs) : CallH Tryz.prog 3 [.slice a n c] h (fun v h' => Keeps [] h h' ∧ v = .bool true) := by
  refine call_of hmix Tryz.func3 rfl ok3 (by simp [Tryz.f3]) ?_
  conv => whnf
  refine CallR.i (lives_spec h) fun v h1 k1 hv => ?_
  subst hv
  conv => whnf
  first | refine IfR.f rfl ?_ | (refine MeetR.pass ?_; (conv => whnf); refine IfR.f rfl ?_)
  conv => whnf
  refine CallR.i (two_spec h1) fun v h2 k2 hv => ?_
  obtain ⟨V, f, g, rfl, I2, f2, g2, n1, n2, n3, n4, n5, n6⟩ := hv
  have z1 := k1.size
  have R2 : RunI h h2 f 2 V M0 (freshC 1 1) m0 [] := ⟨k1.trans k2, I2, f2, fresh_file (by decide) (fun x h0 h1 => by rw [read_img0, b0_owner h0 h1]; decide), n2, by omega, fun b hb => by have := n6 b hb; omega⟩
  conv => whnf
  refine IdxR.i 0 rfl (by decide) ?_
  conv => whnf
  refine NthR.i rfl ?_
  conv => whnf
  refine CallR.i (early_spec (S.keep R2.k)) fun v h3 k3 hv => ?_
  obtain ⟨c3, rfl, S3⟩ := hv
  have R3 := R2.on k3
  have hl3 := S3.hlen
  conv => whnf
  refine LoopR.on [0, 3, 4] [] (fun i : Nat => [(0, .v (.slice a (min n 50) c3)), (3, .v (.pointer (some ⟨f, 0, none⟩))), (4, .v (.int .i64 (i : Int)))]) (fun _ => []) (fun i h' => i ≤ min n 50 ∧ Sl h' a (min n 50) c3 (xs.take 50) ∧ ∃ V M c m s, RunI h h' f 2 V M c m s) (fun i => min n 50 - i) 0 ?_ ?_
  · conv => whnf
    exact ⟨0, rfl, rfl, rfl, Nat.zero_le _, S3, _, _, _, _, _, R3⟩
  · rintro i h4 ⟨hi, S4, V4, M4, c4, m4, s4, R4⟩
    conv => whnf
    refine IfR.i (fun hd => ?_) (fun hd => ?_)
    · have hi1 : i < (xs.take 50).length := by simp at hd; omega
      obtain ⟨b5, o5, hb5, cs, ⟨rfl, y1, y2, y3, y4⟩, hc5⟩ := S4.at_ i hi1
      generalize (xs.take 50)[i] = op at hc5 y1 y2 y3 y4
      obtain ⟨ok, oa, on_, od⟩ := op
      obtain ⟨data, rfl⟩ : ∃ l : List UInt8, od = ⟨l.toArray⟩ := ⟨od.data.toList, rfl⟩
      simp only at hc5 y1 y2 y3 y4
      have hdl : data.length ≤ 140737488351232 := by rw [← ba_size]; exact y4
      conv => whnf
      first | refine IdxS.i i rfl (by omega) hb5 ?_ | (refine MeetR.pass ?_; (conv => whnf); refine IdxS.i i rfl (by omega) hb5 ?_)
      conv => whnf
      refine LoadN.i (vs := [.int .i64 ok, .int .i64 oa, .int .i64 on_, .string ⟨data.toArray⟩]) rfl hc5 ?_
      conv => whnf
      refine CallR.m (step_spec R4.idle (by decide) R4.file R4.good R4.out ok oa on_ data hdl) (by simp [blocksOf]) fun v h6 k6 hv => ?_
      obtain ⟨rfl, V6, M6, c6, m6, s6, L6⟩ := hv
      conv => whnf
      refine IfR.f rfl ?_
      conv => whnf
      refine ⟨min n 50 - (i + 1), by omega, ?_⟩
      conv => whnf
      refine ⟨i + 1, rfl, by rw [wrapN (n := i + 1) (by simp) (by omega)], rfl, by omega, ?_, _, _, _, _, _, R4.step k6 L6⟩
      refine S4.keepM k6 fun b hb hx => ?_
      have hlt : b < h.size := S.lt4 (by have := S.hlen; rw [List.length_take] at hi1; omega) b hb
      have q0 := R4.newf
      have q1 := R4.new V4.ob (by simp [VL.blocks])
      have q2 := R4.new V4.v (by simp [VL.blocks])
      have q3 := R4.new V4.mem.m (by simp [VL.blocks, ML.blocks])
      have q4 := R4.new V4.mem.lb (by simp [VL.blocks, ML.blocks])
      simp only [List.mem_cons, List.not_mem_nil, or_false] at hx
      omega
    · conv => whnf
      refine CallR.i (whole_spec R4.idle R4.file R4.good) fun v h6 k6 hv => ?_
      subst hv
      conv => whnf
      exact ⟨R4.k.trans k6, rfl⟩
end Go.Proofs.YtlloemmpnhoanaaGreat
