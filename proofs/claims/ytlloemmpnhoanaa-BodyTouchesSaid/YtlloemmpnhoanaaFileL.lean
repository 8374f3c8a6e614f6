/-
  Layer 10's law: only the blocks that are touched are taken: the walk.
-/
import Derived.Test.YtlloemmpnhoanaaFileK
set_option linter.all false
set_option maxRecDepth 100000
set_option maxHeartbeats 600000
namespace Go.Proofs.Ytlloemmpnhoanaa
open Go Go.Eng

theorem touch_law (h : Heap) (at_ : Int) (hi : inI64 at_) (l : List UInt8) (hl : l.length ≤ 140737488351232) : CallH Try.prog 5 [.int .i64 at_, .string ⟨l.toArray⟩] h (fun v h' => Keeps [] h h' ∧ v = .bool true) := by
  refine call_of hmix Try.func5 rfl ok5 (by simp [Try.f5]) ?_
  conv => whnf
  refine CallR.i (lives_spec h) fun v h1 k1 hv => ?_
  subst hv
  conv => whnf
  first | refine IfR.f rfl ?_ | (refine MeetR.pass ?_; (conv => whnf); refine IfR.f rfl ?_)
  conv => whnf
  refine CallR.i (two_spec h1) fun v h2 k2 hv => ?_
  obtain ⟨V, f, g, rfl, I2, f2, g2, n1, n2, n3, n4, n5, n6⟩ := hv
  have hba := ba_size l
  have k02 := k1.trans k2
  conv => whnf
  refine IdxR.i 0 rfl (by decide) ?_
  conv => whnf
  refine NthR.i rfl ?_
  conv => whnf
  refine SliceR.i 0 (min l.length 400) rfl (by rw [hba]; split <;> omega) (Nat.zero_le _) (by rw [hba]; omega) ?_
  have hx : (ByteArray.extract ⟨l.toArray⟩ 0 (min l.length 400)) = ⟨(l.take (min l.length 400)).toArray⟩ := by rw [ba_extract]; rfl
  obtain ⟨d, hd⟩ : ∃ d, d = l.take (min l.length 400) := ⟨_, rfl⟩
  rw [hx, ← hd]
  have hdl : d.length ≤ 400 := by rw [hd, List.length_take]; omega
  have hbd := ba_size d
  have hw : IntKind.u64.wrap (IntKind.i64.wrap (2689 - ((ByteArray.mk d.toArray).size : Int))) = ((2689 - d.length : Nat) : Int) := by
    rw [hbd, wrapN (x := 2689 - (d.length : Int)) (n := 2689 - d.length) (by omega) (by omega), wrap_u64']
    omega
  have hK : (0 : Int) < ((2689 - d.length : Nat) : Int) := by omega
  have r0 := Int.emod_nonneg (at_ % 18446744073709551616) (Int.ne_of_gt hK)
  have r1 := Int.emod_lt_of_pos (at_ % 18446744073709551616) hK
  obtain ⟨q, hq⟩ : ∃ q, q = (at_ % 18446744073709551616) % ((2689 - d.length : Nat) : Int) := ⟨_, rfl⟩
  rw [← hq] at r0 r1
  obtain ⟨a, rfl⟩ : ∃ a : Nat, q = (a : Int) := ⟨q.toNat, by omega⟩
  have haw : IntKind.i64.wrap ((IntKind.u64.wrap at_).tmod (IntKind.u64.wrap (IntKind.i64.wrap (2689 - ((ByteArray.mk d.toArray).size : Int))))) = (a : Int) := by
    rw [hw, wrap_u64', Int.tmod_eq_emod_of_nonneg (by omega), ← hq, wrapN (n := a) (by omega) (by omega)]
  have hal : a + d.length ≤ 2688 := by omega
  conv => whnf
  refine Need.i (by rw [hw]; omega) ?_
  have f2o : h2[f]? = some (.cells ⟨fileC V 2 (freshC 1 1) ⟨[].toArray⟩⟩ 61 (0, 0)) := f2
  unfold FileO at f2
  rw [own_cells] at f2
  conv => whnf
  refine LoadR.o f2 rfl ?_
  conv => whnf
  refine LoadR.o f2 rfl ?_
  conv => whnf
  refine LoadN.o f2 rfl ?_
  obtain ⟨e0, W⟩ := touch_plain a d hdl hal
  have A2 := I2.at_
  have hX : (⟨M0.read, [], [], [], []⟩ : VS) = X0 := by rw [read_img0]; rfl
  rw [hX] at A2
  have hob : V.ob < h2.size := A2.blt _ (by simp [VL.blocks])
  have obf : f ≠ V.ob := fun e => n2 (e ▸ by simp [VL.blocks])
  have WS : ∀ hx, At hx V M0 X0 → CallH Try.prog 19 [.pointer (some ⟨V.v, 0, none⟩), .int .i64 2, .agg ⟨(freshC 1 1).cells⟩, .int .i64 (a : Int), .string ⟨d.toArray⟩] hx (fun v h' => Keeps [V.ob] hx h' ∧
      v = .tuple #[.agg ⟨(writeP b0 X0 2 (freshC 1 1) (a : Int) d).1.cells⟩, .int .i64 0] ∧ At h' V M0 (writeP b0 X0 2 (freshC 1 1) (a : Int) d).2.2) := by
    intro hx Ax
    have := write_spec Ax 2 (freshC 1 1) (fresh_ok 1 ⟨by decide, by decide⟩) (okMap_fresh _ _ _) (a : Int) d
    rw [read_img0, e0] at this
    exact this
  generalize writeP b0 X0 2 (freshC 1 1) (a : Int) d = R at WS W
  obtain ⟨c3, e3, X3⟩ := R
  simp only at WS W
  conv => whnf
  refine BothR.i ?c1 ?c2
  case' c1 =>
    conv => whnf
    rw [haw]
    refine CallR.m (WS h2 A2) (by simp [blocksOf]) fun v h3 k3 hv => ?_
    obtain ⟨rfl, A3⟩ := hv
    conv => whnf
    refine AllocR.i fun b4 h4 e4 s4 o4 k4 => ?_
    have z3 := k3.size
    conv => whnf
    refine BoxR.i fun h5 s5 k5 => ?_
    have k25 : Keeps [V.ob] h2 h5 := (k3.trans_nil k4).m1 k5 (by omega)
    have hb4 : h2.size ≤ b4 := by omega
    have A5 := (A3.on k4).keep k5 (fun b hb => by have := I2.at_.blt b hb; simp; omega)
  case' c2 =>
    conv => whnf
    refine AllocR.i fun b4 h4 e4 s4 o4 k4 => ?_
    conv => whnf
    rw [haw]
    refine CallR.m (WS h4 (A2.on k4)) (by intro y hy hx; have hy2 : y ∈ [b4] := hy; simp at hy2 hx; omega) fun v h3 k3 hv => ?_
    obtain ⟨rfl, A3⟩ := hv
    have z3 := k3.size
    conv => whnf
    refine BoxR.i fun h5 s5 k5 => ?_
    have k25 : Keeps [V.ob] h2 h5 := ((k4.mono (by simp)).trans k3).m1 k5 (by omega)
    have hb4 : h2.size ≤ b4 := by omega
    have A5 := A3.keep k5 (fun b hb => by have := I2.at_.blt b hb; simp; omega)
  all_goals
    have f5 := k25.obj f2 (by simpa using obf)
    conv => whnf
    conv => whnf
    refine IfR.t rfl ?_
    conv => whnf
    refine SemR.make (n := a) rfl rfl rfl rfl rfl (by show 1 * a ≤ _; omega) (by omega) fun b6 h6 e6 s6 o6 k6 => ?_
    conv => whnf
    refine IfR.t rfl ?_
    conv => whnf
    refine SemR.textOf (l := zeros a) rfl rfl rfl (by simp [zeros]) (fun j hj => ?_) ?_
    · have hj' : j < a := by simpa [zeros] using hj
      simp only [Heap.cell?, o6, Nat.zero_add]
      simp [zeros, hj']
    conv => whnf
    refine Need.i (by rw [ba_size, ba_size]; simp [zeros]; omega) ?_
    have hap : (ByteArray.mk (zeros a).toArray ++ ⟨d.toArray⟩) = ⟨(zeros a ++ d).toArray⟩ := ba_app _ _
    conv => whnf
    refine IfR.t rfl ?_
    have f6 := (k25.obj f2o (by simpa using obf))
    have f6 := k6.obj f6 (by simp)
    have hfl : f < h2.size := obj_lt f2
    have z2 := k25.size
    have z6 := k6.size
    have FS := fend_spec (A5.on k6) I2.ab I2.anb I2.calm I2.size f6 n2 c3 (⟨(zeros a).toArray⟩ ++ ⟨d.toArray⟩) 0 0
    conv => whnf
    refine CallR.m FS ?_ ?_
    · intro y hy hx
      have hy2 : y = b4 := by simpa [blocksOf, setB] using hy
      subst hy2
      have q1 := A2.blt V.v (by simp [VL.blocks])
      have q2 := A2.blt V.mem.m (by simp [VL.blocks, ML.blocks])
      have q3 := A2.blt V.mem.lb (by simp [VL.blocks, ML.blocks])
      clear hq r0 r1 haw hw
      simp only [List.mem_cons, List.not_mem_nil, or_false] at hx
      omega
    · intro v h7 k7 hv
      obtain ⟨rfl, ob, sb, mb, M', g1, g2, g3, g4, g5, g6, A7, f7⟩ := hv
      rw [if_pos ⟨rfl, rfl⟩] at g6
      rw [if_pos ⟨rfl, rfl⟩, if_pos ⟨rfl, rfl⟩, hap] at f7
      have k07 : Keeps [] h h7 := by
        have q1 := n6 V.ob (by simp [VL.blocks])
        have q2 := n6 V.v (by simp [VL.blocks])
        have q3 := n6 V.mem.m (by simp [VL.blocks, ML.blocks])
        have q4 := n6 V.mem.lb (by simp [VL.blocks, ML.blocks])
        have z1 := k1.size
        clear hq r0 r1 haw hw
        exact (((k02.nil_of k25 (by intro y hy; simp at hy; omega)).trans k6)).nil_of k7 (by intro y hy; simp only [List.mem_cons, List.not_mem_nil, or_false] at hy; omega)
      have hid : X3.away = [] ∧ X3.awayN = [] := by
        by_cases hdn : d = []
        · rw [if_pos hdn] at W
          rw [W.2]; exact ⟨rfl, rfl⟩
        · rw [if_neg hdn] at W
          obtain ⟨m', W⟩ := W
          have hx := W.x
          simp only at hx
          rw [hx]; exact ⟨rfl, rfl⟩
      have I7 : Idle h7 { V with ob := ob, sb := sb, mb := mb } M' := ⟨by rw [hid.1, hid.2] at A7; exact A7, I2.ab, I2.anb, g4, g5⟩
      have F7 : FileO h7 f { V with ob := ob, sb := sb, mb := mb } 2 c3 (zeros a ++ d) := f7
      conv => whnf
      refine IfR.f rfl ?_
      have hkind : ∀ (y : List UInt8), ((ByteArray.mk y.toArray).toList == (ByteArray.mk #[]).toList) = decide (y = []) := by
        intro y
        rw [toList_beq]
        refine decide_eq_decide.2 ⟨fun e => ?_, fun e => by rw [e]⟩
        have := congrArg ByteArray.size e
        rw [ba_size] at this
        exact List.eq_nil_of_length_eq_zero this
      conv => whnf
      refine IfR.i (fun hc => ?_) (fun hc => ?_)
      · have hdn : d = [] := by rw [hkind] at hc; simpa using hc
        rw [if_pos hdn] at W
        obtain ⟨rfl, rfl⟩ := W
        have hM : M'.read = b0 := g6
        have FF : FileI M'.read 2 (freshC 1 1) m0 [] := fresh_file (by decide) (fun x h0 h1 => by rw [hM, b0_owner h0 h1]; decide)
        conv => whnf
        refine CallR.i (own_spec I7 (by decide) F7 FF) fun v h8 k8 hv => ?_
        have hu0 : (usedL (freshC 1 1).more m0).length = 0 := by decide
        rw [hu0] at hv
        subst hv
        unfold FileO at F7
        rw [own_cells] at F7
        have F8 := k8.obj F7 (by simp)
        conv => whnf
        refine LoadR.o F8 rfl ?_
        conv => whnf
        exact ⟨k07.trans k8, rfl⟩
      · have hdn : ¬ d = [] := by rw [hkind] at hc; simpa using hc
        rw [if_neg hdn] at W
        obtain ⟨m', W⟩ := W
        have hM : M'.read = X3.now := g6
        have FF : FileI M'.read 2 c3 m' (zeros a ++ d) := by rw [hM]; exact W.file
        have hcnt := wrote_used W hdn hal
        have hdp : 0 < d.length := by
          cases d with
          | nil => exact absurd rfl hdn
          | cons x l => simp
        conv => whnf
        refine Need.i (by decide) ?_
        conv => whnf
        refine Need.i (by decide) ?_
        conv => whnf
        refine MeetR.pass ?_
        have hlast : IntKind.i64.wrap ((IntKind.i64.wrap (IntKind.i64.wrap ((a : Int) + ((ByteArray.mk d.toArray).size : Int)) - 1)).tdiv 128) = (((a + d.length - 1) / 128 : Nat) : Int) := by
          rw [hbd, wrapN (x := (a : Int) + (d.length : Int)) (n := a + d.length) (by simp) (by omega), wrapN (x := ((a + d.length : Nat) : Int) - 1) (n := a + d.length - 1) (by omega) (by omega), Int.tdiv_eq_ediv_of_nonneg (by omega), wrapN (n := (a + d.length - 1) / 128) (by omega) (by omega)]
        have hfirst : IntKind.i64.wrap ((a : Int).tdiv 128) = ((a / 128 : Nat) : Int) := by
          rw [Int.tdiv_eq_ediv_of_nonneg (by omega), wrapN (n := a / 128) (by omega) (by omega)]
        have hdiff : IntKind.i64.wrap (IntKind.i64.wrap ((((a + d.length - 1) / 128 : Nat) : Int) - ((a / 128 : Nat) : Int)) + 1) = (((a + d.length - 1) / 128 - a / 128 + 1 : Nat) : Int) := by
          rw [wrapN (x := (((a + d.length - 1) / 128 : Nat) : Int) - ((a / 128 : Nat) : Int)) (n := (a + d.length - 1) / 128 - a / 128) (by omega) (by omega), wrapN (n := (a + d.length - 1) / 128 - a / 128 + 1) (by omega) (by omega)]
        clear hq r0 r1 haw hw
        conv => whnf
        refine IfR.i (fun hd5 => ?_) (fun hd5 => ?_)
        · rw [hlast] at hd5
          have h5 : 5 ≤ (a + d.length - 1) / 128 := by simp at hd5; omega
          rw [if_pos h5] at hcnt
          conv => whnf
          refine CallR.i (own_spec I7 (by decide) F7 FF) fun v h8 k8 hv => ?_
          subst hv
          have F8 : FileO h8 f { V with ob := ob, sb := sb, mb := mb } 2 c3 (zeros a ++ d) := k8.obj F7 (by simp)
          conv => whnf
          refine IfR.t (by rw [hlast, hfirst, hdiff, hcnt, wrapN (n := (a + d.length - 1) / 128 - a / 128 + 1 + 1) (by omega) (by omega)]; simp; omega) ?_
          conv => whnf
          refine CallR.i (whole_spec (I7.on k8) F8 FF) fun v h9 k9 hv => ?_
          subst hv
          conv => whnf
          refine ⟨k07.trans (k8.trans k9), ?_⟩
          rw [hlast, hfirst, hdiff, hcnt, wrapN (n := (a + d.length - 1) / 128 - a / 128 + 1 + 1) (by omega) (by omega)]
          have he : (((1 + ((a + d.length - 1) / 128 - a / 128 + 1) : Nat) : Int) == (((a + d.length - 1) / 128 - a / 128 + 1 + 1 : Nat) : Int)) = true := by simp; omega
          rw [he]; rfl
        · rw [hlast] at hd5
          have h5 : ¬ 5 ≤ (a + d.length - 1) / 128 := by simp at hd5; omega
          rw [if_neg h5] at hcnt
          conv => whnf
          refine CallR.i (own_spec I7 (by decide) F7 FF) fun v h8 k8 hv => ?_
          subst hv
          have F8 : FileO h8 f { V with ob := ob, sb := sb, mb := mb } 2 c3 (zeros a ++ d) := k8.obj F7 (by simp)
          conv => whnf
          refine IfR.t (by rw [hlast, hfirst, hdiff, hcnt]; simp) ?_
          conv => whnf
          refine CallR.i (whole_spec (I7.on k8) F8 FF) fun v h9 k9 hv => ?_
          subst hv
          conv => whnf
          refine ⟨k07.trans (k8.trans k9), ?_⟩
          rw [hlast, hfirst, hdiff, hcnt]
          have he : (((0 + ((a + d.length - 1) / 128 - a / 128 + 1) : Nat) : Int) == (((a + d.length - 1) / 128 - a / 128 + 1 : Nat) : Int)) = true := by simp
          rw [he]; rfl
end Go.Proofs.Ytlloemmpnhoanaa
