/-
  Layers 8, 9: a new view; blocks that are taken and given back.
-/
import Derived.Test.YtlloemmpnhoanaaGreatBodyD
set_option linter.all false
set_option maxRecDepth 100000
namespace Go.Proofs.YtlloemmpnhoanaaGreat
open Go Go.Eng

theorem new_spec {h : Heap} {L : ML} {M : MemS} (A : MemAt h L M) : CallH Tryz.prog 14 [.pointer (some ⟨L.m, 0, none⟩)] h (fun v h' => Keeps [] h h' ∧
    if M.sure.length = 2824 then ∃ V : VL, v = .pointer (some ⟨V.v, 0, none⟩) ∧ V.mem = L ∧ V.ab = none ∧ V.anb = none ∧ (∀ x ∈ [V.v, V.ob, V.sb, V.mb], h.size ≤ x) ∧ At h' V M ⟨M.read, [], [], [], []⟩ else v = .pointer none) := by
  refine call_of hmix Tryz.func14 rfl ok14 (by simp [Tryz.f14]) ?_
  conv => whnf
  refine CallR.i (msize_spec A) fun v h1 k1 hv => ?_
  subst hv
  conv => whnf
  refine CallR.i (size_spec h1) fun v h2 k2 hv => ?_
  subst hv
  conv => whnf
  refine IfR.i (fun hc => ?_) (fun hc => ?_)
  · conv => whnf
    have hn : ¬ M.sure.length = 2824 := by intro e; rw [e] at hc; simp at hc
    rw [if_neg hn]
    exact ⟨k1.trans k2, rfl⟩
  · have hn : M.sure.length = 2824 := by simp at hc; omega
    conv => whnf
    refine AllocR.i fun b3 h3 e3 s3 o3 k3 => ?_
    conv => whnf
    refine AllocR.i fun b4 h4 e4 s4 o4 k4 => ?_
    conv => whnf
    refine AllocR.i fun b5 h5 e5 s5 o5 k5 => ?_
    conv => whnf
    refine AllocR.i fun b6 h6 e6 s6 o6 k6 => ?_
    conv => whnf
    rw [if_pos hn]
    have k06 := k1.trans (k2.trans (k3.trans (k4.trans (k5.trans k6))))
    have z1 := k1.size
    have z2 := k2.size
    have old := A.blt
    refine ⟨k06, ⟨b6, L, b3, b4, b5, none, none⟩, rfl, rfl, rfl, rfl, ?_, A.on k06, o6, ⟨[], (MapL.new o3).keep (k4.trans (k5.trans k6)) (by simp), fun a => rfl, fun a ha => absurd rfl ha⟩, (MapL.new o4).keep (k5.trans k6) (by simp), (MapL.new o5).keep k6 (by simp), rfl, rfl, ?_, ?_, by simp⟩
    · intro x hx
      simp only [List.mem_cons, List.not_mem_nil, or_false] at hx
      omega
    · show b3 ≠ b4 ∧ b3 ≠ b5 ∧ b4 ≠ b5
      omega
    · intro b hb hx
      have := old b hx
      simp only [List.mem_cons, List.not_mem_nil, or_false] at hb
      omega

theorem reset_spec {h : Heap} {V : VL} {M : MemS} {X : VS} (A : At h V M X) : CallH Tryz.prog 47 [.pointer (some ⟨V.v, 0, none⟩)] h (fun v h' => Keeps [V.v] h h' ∧
    ∃ ob sb mb, h.size ≤ ob ∧ h.size ≤ sb ∧ h.size ≤ mb ∧ At h' { V with ob := ob, sb := sb, mb := mb } M { X with now := M.read, seen := [], mine := [] }) := by
  refine call_of hmix Tryz.func47 rfl ok47 (by simp [Tryz.f47]) ?_
  conv => whnf
  refine IfR.t rfl ?_
  conv => whnf
  refine AllocR.i fun b3 h3 e3 s3 o3 k3 => ?_
  conv => whnf
  refine AllocR.i fun b4 h4 e4 s4 o4 k4 => ?_
  conv => whnf
  refine AllocR.i fun b5 h5 e5 s5 o5 k5 => ?_
  have k05 := k3.trans (k4.trans k5)
  have A5 := A.on k05
  conv => whnf
  refine StoreR.i A5.obj (Nat.le_of_ble_eq_true rfl) (by simp [blocksOf]) fun h6 s6 o6 k6 => ?_
  conv => whnf
  refine StoreR.i o6 (Nat.le_of_ble_eq_true rfl) (by simp [blocksOf]) fun h7 s7 o7 k7 => ?_
  conv => whnf
  refine StoreR.i o7 (Nat.le_of_ble_eq_true rfl) (by simp [blocksOf]) fun h8 s8 o8 k8 => ?_
  conv => whnf
  have kv : Keeps [V.v] h5 h8 := k6.trans (k7.trans k8)
  have o8' : h8[V.v]? = some (.cells ⟨[.pointer (some ⟨V.mem.m, 0, none⟩), .map (some b3), .map (some b4), .map (some b5), .map V.ab, .map V.anb]⟩ 82 (0, 0)) := o8
  have hv : V.v < h.size := obj_lt A.obj
  have lt : ∀ b ∈ V.mem.blocks ++ (V.ab.toList ++ V.anb.toList), b < h.size ∧ b ≠ V.v := by
    intro b hb
    refine ⟨A.blt b (by simp only [VL.blocks, List.mem_cons]; exact .inr (.inr (.inr (.inr hb)))), ?_⟩
    rcases List.mem_append.1 hb with hb | hb
    · intro e; exact A.ap2 V.v (by simp) (e ▸ hb)
    · exact (A.ap3 b hb).2.2.2
  refine ⟨(k05.mono (by simp)).trans kv, b3, b4, b5, by omega, by omega, by omega, ?_⟩
  exact {
    mem := A5.mem.keep kv (fun b hb => by simpa using (lt b (by simp [hb])).2)
    obj := o8'
    own := ⟨[], ((MapL.new o3).keep (k4.trans k5) (by simp)).keep kv (by simp; omega), fun a => rfl, fun a ha => absurd rfl ha⟩
    seen := ((MapL.new o4).keep k5 (by simp)).keep kv (by simp; omega)
    mine := (MapL.new o5).keep kv (by simp; omega)
    away := A5.away.keep kv (fun b hb => by simpa using (lt b (by simp [hb])).2)
    awayN := A5.awayN.keep kv (fun b hb => by simpa using (lt b (by simp [hb])).2)
    ap1 := by show b3 ≠ b4 ∧ b3 ≠ b5 ∧ b4 ≠ b5; omega
    ap2 := fun b hb hx => by
      have := lt b (List.mem_append_left _ hx)
      simp only [List.mem_cons, List.not_mem_nil, or_false] at hb
      omega
    ap3 := fun r hr => by
      have := lt r (List.mem_append_right _ hr)
      show r ≠ b3 ∧ r ≠ b4 ∧ r ≠ b5 ∧ r ≠ V.v
      omega }

theorem sowner_spec {h : Heap} {v : Nat} (k : Int) : CallH Tryz.prog 54 [.pointer (some ⟨v, 0, none⟩), .int .i64 k] h (fun v h' => Keeps [] h h' ∧ v = .tuple #[.int .i64 (if 0 ≤ k ∧ k < 96 then 200 + k * 1 else 0), .int .i64 (if 0 ≤ k ∧ k < 96 then 0 else 1)]) := by
  refine call_of hmix Tryz.func54 rfl ok54 (by simp [Tryz.f54]) ?_
  conv => whnf
  refine CallR.i (ownerAt_spec k h) fun v h1 k1 hv => ?_
  subst hv
  conv => whnf
  refine MeetR.pass ?_
  conv => whnf
  refine IfR.f rfl ?_
  conv => whnf
  exact ⟨k1, rfl⟩

theorem open_owner {k : Int} (h : 0 ≤ k ∧ k < 96) : openW (200 + k) = true := by simp [openW]; omega

/-- a block is given back -/
def dropP (X : VS) (k : Int) : Int × VS :=
  if 0 ≤ k ∧ k < 96 then (if X.now (200 + k) = 0 then (15, X) else (0, { X with now := upd X.now (200 + k) 0 })) else (1, X)

theorem drop_spec {h : Heap} {V : VL} {M : MemS} {X : VS} (A : At h V M X) (k : Int) : CallH Tryz.prog 48 [.pointer (some ⟨V.v, 0, none⟩), .int .i64 k] h (fun v h' => Keeps [V.ob] h h' ∧ v = .int .i64 (dropP X k).1 ∧ At h' V M (dropP X k).2) := by
  refine call_of hmix Tryz.func48 rfl ok48 (by simp [Tryz.f48]) ?_
  conv => whnf
  refine CallR.i (sowner_spec k) fun v h1 k1 hv => ?_
  subst hv
  have A1 := A.on k1
  conv => whnf
  refine IfR.i (fun hc => ?_) (fun hc => ?_)
  · have hk : ¬ (0 ≤ k ∧ k < 96) := fun hk => by rw [if_pos hk] at hc; simp at hc
    conv => whnf
    unfold dropP
    rw [if_neg hk, if_neg hk]
    exact ⟨k1.mono (by simp), rfl, A1⟩
  · have hk : 0 ≤ k ∧ k < 96 := Classical.byContradiction fun hk => by rw [if_neg hk] at hc; simp at hc
    rw [if_pos hk, Int.mul_one]
    conv => whnf
    refine CallR.i (vread_spec A1 (200 + k)) fun v h2 k2 hv => ?_
    subst hv
    have A2 := A1.on k2
    conv => whnf
    refine IfR.i (fun hd => ?_) (fun hd => ?_)
    · have hn : X.now (200 + k) = 0 := by simpa [wv_zero] using hd
      conv => whnf
      unfold dropP
      rw [if_pos hk, if_pos hn]
      exact ⟨(k1.trans k2).mono (by simp), rfl, A2⟩
    · have hn : ¬ X.now (200 + k) = 0 := by simpa [wv_zero] using hd
      conv => whnf
      refine CallR.m (vwrite_spec A2 (200 + k) 0) (by simp [blocksOf]) fun v h3 k3 hv => ?_
      obtain ⟨rfl, A3⟩ := hv
      rw [if_pos (open_owner hk)] at A3
      conv => whnf
      unfold dropP
      rw [if_pos hk, if_neg hn, if_pos (open_owner hk)]
      exact ⟨((k1.trans k2).mono (by simp)).trans k3, rfl, A3⟩

/-- the file that has a block -/
def ownerP (X : VS) (k : Int) : Int × Int :=
  if 0 ≤ k ∧ k < 96 then (if 24 < (X.now (200 + k)).toNat then (0, 15) else (((X.now (200 + k)).toNat : Int) - 1, 0)) else (0, 1)

theorem owner_spec {h : Heap} {V : VL} {M : MemS} {X : VS} (A : At h V M X) (k : Int) : CallH Tryz.prog 27 [.pointer (some ⟨V.v, 0, none⟩), .int .i64 k] h (fun v h' => Keeps [] h h' ∧ v = .tuple #[.int .i64 (ownerP X k).1, .int .i64 (ownerP X k).2]) := by
  refine call_of hmix Tryz.func27 rfl ok27 (by simp [Tryz.f27]) ?_
  conv => whnf
  refine CallR.i (sowner_spec k) fun v h1 k1 hv => ?_
  subst hv
  have A1 := A.on k1
  conv => whnf
  refine IfR.i (fun hc => ?_) (fun hc => ?_)
  · have hk : ¬ (0 ≤ k ∧ k < 96) := fun hk => by rw [if_pos hk] at hc; simp at hc
    conv => whnf
    unfold ownerP
    rw [if_neg hk, if_neg hk]
    exact ⟨k1, rfl⟩
  · have hk : 0 ≤ k ∧ k < 96 := Classical.byContradiction fun hk => by rw [if_neg hk] at hc; simp at hc
    rw [if_pos hk, if_pos hk, Int.mul_one]
    conv => whnf
    refine CallR.i (vread_spec A1 (200 + k)) fun v h2 k2 hv => ?_
    subst hv
    conv => whnf
    refine IfR.i (fun hd => ?_) (fun hd => ?_)
    · have hn : 24 < (X.now (200 + k)).toNat := by simp at hd; omega
      conv => whnf
      unfold ownerP
      rw [if_pos hk, if_pos hn]
      exact ⟨k1.trans k2, rfl⟩
    · have hn : ¬ 24 < (X.now (200 + k)).toNat := by simp at hd; omega
      conv => whnf
      unfold ownerP
      rw [if_pos hk, if_neg hn]
      refine ⟨k1.trans k2, ?_⟩
      have e1 : IntKind.i64.wrap ((X.now (200 + k)).toNat : Int) = ((X.now (200 + k)).toNat : Int) := wrapI (by omega) (by omega)
      rw [e1, wrapI (by omega) (by omega)]

/-- how many blocks are free, of the first 'n' -/
def freeN (B : Int → UInt64) (X : VS) (n : Nat) : Nat := ((List.range n).filter fun (i : Nat) => freshB B X (i : Int)).length

theorem freeN_succ (B : Int → UInt64) (X : VS) (n : Nat) : freeN B X (n + 1) = freeN B X n + (if freshB B X (n : Int) then 1 else 0) := by
  unfold freeN
  rw [List.range_succ, List.filter_append, List.length_append]
  congr 1
  simp only [List.filter_cons, List.filter_nil]
  split <;> rfl
theorem freeN_le (B : Int → UInt64) (X : VS) (n : Nat) : freeN B X n ≤ n := by
  unfold freeN
  exact Nat.le_trans (List.length_filter_le _ _) (by simp)

theorem free_spec {h : Heap} {V : VL} {M : MemS} {X : VS} (A : At h V M X) : CallH Tryz.prog 12 [.pointer (some ⟨V.v, 0, none⟩)] h (fun v h' => Keeps [] h h' ∧ v = .int .i64 (freeN M.read X 96 : Int)) := by
  refine call_of hmix Tryz.func12 rfl ok12 (by simp [Tryz.f12]) ?_
  conv => whnf
  refine LoopR.on [0, 3, 5] [] (fun i : Nat => [(0, .v (.pointer (some ⟨V.v, 0, none⟩))), (3, .v (.int .i64 (freeN M.read X i : Int))), (5, .v (.int .i64 (i : Int)))]) (fun _ => []) (fun i h' => i ≤ 96 ∧ Keeps [] h h') (fun i => 96 - i) 0 ?_ ?_
  · conv => whnf
    exact ⟨0, rfl, rfl, rfl, by decide, Keeps.refl _ _⟩
  · rintro i h2 ⟨hi, k2⟩
    conv => whnf
    refine IfR.i (fun hc => ?_) (fun hc => ?_)
    · have hi1 : i < 96 := by simp at hc; omega
      have hle := freeN_le M.read X i
      have hs := freeN_succ M.read X i
      conv => whnf
      refine MeetR.pass ?_
      conv => whnf
      refine CallR.i (fresh_spec (A.on k2) (i : Int)) fun v h3 k3 hv => ?_
      subst hv
      conv => whnf
      refine IfR.i (fun hd => ?_) (fun hd => ?_)
      all_goals
        conv => whnf
        refine ⟨96 - (i + 1), by omega, ?_⟩
        conv => whnf
        refine ⟨i + 1, rfl, ?_, rfl, by omega, k2.trans k3⟩
        rw [hd] at hs
        simp only [if_true, Bool.false_eq_true, if_false] at hs
        rw [hs, wrapN (x := (i : Int) + 1) (n := i + 1) (by simp) (by omega)]
        first | rfl | rw [wrapN (x := (freeN M.read X i : Int) + 1) (n := freeN M.read X i + 1) (by simp) (by omega)]
    · conv => whnf
      have hi1 : i = 96 := by simp at hc; omega
      subst hi1
      exact ⟨k2, rfl⟩

/-- the first block that is free, from 'i' on -/
def firstF (B : Int → UInt64) (X : VS) : Nat → Nat → Option Nat
  | 0, _ => none
  | f + 1, i => if freshB B X (i : Int) then some i else firstF B X f (i + 1)

theorem firstF_is {B : Int → UInt64} {X : VS} : ∀ {f i k : Nat}, firstF B X f i = some k → freshB B X (k : Int) = true ∧ i ≤ k ∧ k < i + f
  | 0, i, k, h => by cases h
  | f + 1, i, k, h => by
    simp only [firstF] at h
    split at h
    · simp at h; subst h; exact ⟨by assumption, Nat.le_refl _, by omega⟩
    · have := firstF_is h; exact ⟨this.1, by omega, by omega⟩

def w64 (n : Int) : UInt64 := UInt64.ofNat (n % 18446744073709551616).toNat
theorem w64_toNat (n : Int) : ((w64 n).toNat : Int) = n % 18446744073709551616 := by
  unfold w64
  rw [UInt64.toNat_ofNat']
  omega
theorem wv_w64 (n : Int) : wv (w64 n) = .int .u64 (IntKind.u64.wrap n) := by
  unfold wv
  rw [w64_toNat]
  rfl

/-- a block is taken for a file -/
def takeP (B : Int → UInt64) (X : VS) (node : Int) : Int × Int × VS :=
  if 0 ≤ node ∧ node < 24 then
    (match firstF B X 96 0 with
    | some k => ((k : Int), 0, { X with now := putBlk (upd X.now (200 + (k : Int)) (w64 (node + 1))) (k : Int) [] })
    | none => (0, 9, X))
  else (0, 1, X)

theorem take_spec {h : Heap} {V : VL} {M : MemS} {X : VS} (A : At h V M X) (node : Int) : CallH Tryz.prog 41 [.pointer (some ⟨V.v, 0, none⟩), .int .i64 node] h (fun v h' => Keeps [V.ob] h h' ∧ v = .tuple #[.int .i64 (takeP M.read X node).1, .int .i64 (takeP M.read X node).2.1] ∧ At h' V M (takeP M.read X node).2.2) := by
  refine call_of hmix Tryz.func41 rfl ok41 (by simp [Tryz.f41]) ?_
  conv => whnf
  refine CallR.i (cardAt_spec node h) fun v h1 k1 hv => ?_
  subst hv
  have A1 := A.on k1
  conv => whnf
  refine IfR.i (fun hc => ?_) (fun hc => ?_)
  · have hk : ¬ (0 ≤ node ∧ node < 24) := fun hk => by rw [if_pos hk] at hc; simp [bif_or] at hc
    conv => whnf
    unfold takeP
    rw [if_neg hk]
    exact ⟨k1.mono (by simp), rfl, A1⟩
  · have hk : 0 ≤ node ∧ node < 24 := Classical.byContradiction fun hk => by rw [if_neg hk] at hc; simp [bif_or] at hc
    have hT : takeP M.read X node = (match firstF M.read X 96 0 with
      | some k => ((k : Int), 0, { X with now := putBlk (upd X.now (200 + (k : Int)) (w64 (node + 1))) (k : Int) [] })
      | none => (0, 9, X)) := by unfold takeP; rw [if_pos hk]
    rw [hT]
    clear hT
    conv => whnf
    refine LoopR.on [0, 1, 23] [] (fun i : Nat => [(0, .v (.pointer (some ⟨V.v, 0, none⟩))), (1, .v (.int .i64 node)), (23, .v (.int .i64 (i : Int)))]) (fun _ => []) (fun i h' => i ≤ 96 ∧ Keeps [] h h' ∧ firstF M.read X 96 0 = firstF M.read X (96 - i) i) (fun i => 96 - i) 0 ?_ ?_
    · conv => whnf
      exact ⟨0, rfl, rfl, rfl, by decide, k1, rfl⟩
    · rintro i h2 ⟨hi, k2, hF⟩
      have A2 := A.on k2
      conv => whnf
      refine IfR.i (fun hc => ?_) (fun hc => ?_)
      · have hi1 : i < 96 := by simp at hc; omega
        have hF2 : firstF M.read X (96 - i) i = if freshB M.read X (i : Int) then some i else firstF M.read X (96 - (i + 1)) (i + 1) := by
          rw [show 96 - i = (96 - (i + 1)) + 1 by omega]; rfl
        rw [hF2] at hF
        clear hF2
        conv => whnf
        refine CallR.i (fresh_spec A2 (i : Int)) fun v h3 k3 hv => ?_
        subst hv
        have A3 := A2.on k3
        conv => whnf
        refine IfR.i (fun hd => ?_) (fun hd => ?_)
        · have hd' : freshB M.read X (i : Int) = false := by simpa using hd
          rw [hd'] at hF
          conv => whnf
          refine ⟨96 - (i + 1), by omega, ?_⟩
          conv => whnf
          exact ⟨i + 1, rfl, by rw [wrapN (n := i + 1) (by simp) (by omega)], rfl, by omega, k2.trans k3, by rw [hF, if_neg (by simp)]⟩
        · have hd' : freshB M.read X (i : Int) = true := by simpa using hd
          rw [hd', if_pos rfl] at hF
          rw [hF]
          conv => whnf
          refine CallR.i (ownerAt_spec (i : Int) h3) fun v h4 k4 hv => ?_
          subst hv
          have hib : (0 : Int) ≤ (i : Int) ∧ (i : Int) < 96 := ⟨by omega, by omega⟩
          rw [if_pos hib, Int.mul_one]
          have A4 := A3.on k4
          conv => whnf
          rw [wrapI (x := node + 1) (by omega) (by omega), ← wv_w64]
          refine CallR.m (vwrite_spec A4 (200 + (i : Int)) (w64 (node + 1))) (by simp [blocksOf]) fun v h5 k5 hv => ?_
          obtain ⟨rfl, A5⟩ := hv
          rw [if_pos (open_owner hib)] at A5
          rw [if_pos (open_owner hib)]
          conv => whnf
          refine IfR.f rfl ?_
          conv => whnf
          refine CallR.m (setBlock_spec A5 (i : Int) (Sl.nil (α := UInt64) (a := none) (cap := 0)) (by simp [blkA])) (by simp [blocksOf]) fun v h6 k6 hv => ?_
          obtain ⟨rfl, A6⟩ := hv
          have h3' : (0 : Int) ≤ (i : Int) ∧ (i : Int) < 96 ∧ 0 ≤ 16 := ⟨hib.1, hib.2, by omega⟩
          rw [if_pos h3'] at A6
          rw [if_pos h3']
          conv => whnf
          exact ⟨((k2.trans (k3.trans k4)).mono (by simp)).trans (k5.trans k6), rfl, A6⟩
      · have hi1 : i = 96 := by simp at hc; omega
        subst hi1
        conv => whnf
        rw [hF]
        exact ⟨k2.mono (by simp), rfl, A2⟩
end Go.Proofs.YtlloemmpnhoanaaGreat
