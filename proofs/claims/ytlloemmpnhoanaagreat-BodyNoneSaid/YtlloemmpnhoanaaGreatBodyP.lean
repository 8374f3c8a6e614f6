/-
  The references that layer 10's statements call, further; images.
-/
import Derived.Test.YtlloemmpnhoanaaGreatBodyO
set_option linter.all false
set_option maxRecDepth 100000
set_option maxHeartbeats 1000000
namespace Go.Proofs.YtlloemmpnhoanaaGreat
open Go Go.Eng

theorem right_spec (c : Crd) (h : Heap) : CallH Tryz.prog 25 [.agg ⟨c.cells⟩] h (fun v h' => Keeps [] h h' ∧ v = .bool (rightC c)) := by
  refine call_of hmix Tryz.func25 rfl ok25 (by simp [Tryz.f25]) ?_
  conv => whnf
  refine AllocR.i fun b1 h1 e1 s1 o1 k1 => ?_
  conv => whnf
  refine IfR.i (fun hc => ?_) (fun hc => ?_)
  · have h0 : c.kind = 0 := by simpa using hc
    conv => whnf
    refine CallR.i (refNone_spec c.ver h1) fun v h2 k2 hv => ?_
    subst hv
    conv => whnf
    refine PureR.eqAgg (by kernel_rfl) (eqT_crd c (noneC c.ver)) ?_
    conv => whnf
    refine ⟨k1.trans k2, ?_⟩
    unfold rightC; rw [if_pos h0]
  · have h0 : ¬ c.kind = 0 := by simpa using hc
    conv => whnf
    refine LoopR.on [1, 3] [1] (fun i : Nat => [(1, .lp 1 0), (3, .v (.int .i64 (i : Int)))]) (fun _ => [(1, b1, c.cells)]) (fun i h' => i ≤ 5 ∧ Keeps [] h h' ∧ (c.direct.take i).all blockC = true) (fun i => 5 - i) 0 ?_ ?_
    · conv => whnf
      exact ⟨0, rfl, rfl, rfl, by decide, k1, rfl⟩
    · rintro i h2 ⟨hi, k2, hall⟩
      conv => whnf
      refine IfR.i (fun hd => ?_) (fun hd => ?_)
      · have hi1 : i < c.direct.length := by show i < 5; simp at hd; omega
        have hi5 : i < 5 := hi1
        conv => whnf
        first | refine IdxR.i i rfl hi1 ?_ | (refine MeetR.pass ?_; (conv => whnf); refine IdxR.i i rfl hi1 ?_)
        conv => whnf
        refine NthR.i (v := .int .i64 c.direct[i]) ?_ ?_
        · have : i = 0 ∨ i = 1 ∨ i = 2 ∨ i = 3 ∨ i = 4 := by omega
          rcases this with rfl | rfl | rfl | rfl | rfl <;> rfl
        conv => whnf
        refine CallR.i (refBlock_spec c.direct[i] h2) fun v h3 k3 hv => ?_
        subst hv
        conv => whnf
        refine IfR.i (fun he => ?_) (fun he => ?_)
        · have hb := bnot_t he
          conv => whnf
          refine ⟨k2.trans k3, ?_⟩
          unfold rightC; rw [if_neg h0]
          have : c.direct.all blockC = false := by
            rw [← Bool.not_eq_true, List.all_eq_true]
            intro hx
            exact Bool.noConfusion (hb.symm.trans (hx _ (List.getElem_mem hi1)))
          rw [this]; rfl
        · have hb := bnot_f he
          conv => whnf
          refine ⟨5 - (i + 1), by omega, ?_⟩
          conv => whnf
          refine ⟨i + 1, rfl, by rw [wrapN (n := i + 1) (by simp) (by omega)], rfl, by omega, k2.trans k3, ?_⟩
          rw [List.take_succ_eq_append_getElem hi1, List.all_append, hall]
          simp
          exact hb
      · have hi1 : i = 5 := by simp at hd; omega
        subst hi1
        have hall' : c.direct.all blockC = true := hall
        conv => whnf
        refine IfR.i (fun he => ?_) (fun he => ?_)
        · conv => whnf
          refine CallR.i (refBlock_spec c.more h2) fun v h3 k3 hv => ?_
          subst hv
          conv => whnf
          refine ⟨k2.trans k3, ?_⟩
          unfold rightC; rw [if_neg h0, hall']
          simp only [bif_and]
          congr 1
        · conv => whnf
          refine ⟨k2, ?_⟩
          unfold rightC; rw [if_neg h0, hall']
          simp only [bif_and] at he ⊢
          congr 1
          rw [Bool.eq_iff_iff]
          simp at he ⊢
          intro h1 h2 h3 h4 h5 h6
          exfalso
          have := he h1 h2 h3 h4 h5
          omega

/-! ### Images -/

structure Chg where
  at_ : Int
  v : UInt64
instance : Rp Chg where
  n := 2
  rep _ vs x := vs = [.int .i64 x.at_, wv x.v] ∧ inI64 x.at_
  len h := by rw [h.1]; rfl
  keep _ h := h
instance : Flat Chg := ⟨fun h => h⟩

def idxC (a : Int) : Nat := ((a % 18446744073709551616) % 2824).toNat
theorem idxC_lt (a : Int) : idxC a < 2824 := by unfold idxC; omega

def img0 : List UInt64 := 7021221306412823411 :: 2824 :: List.replicate 2822 0
/-- words of a memory of the plan, with some others -/
def imgW (l : List Chg) : List UInt64 := (l.take 100).foldl (fun ws c => ws.set (idxC c.at_) c.v) img0

theorem foldl_set_len : ∀ (l : List Chg) (ws : List UInt64), (l.foldl (fun ws c => ws.set (idxC c.at_) c.v) ws).length = ws.length
  | [], ws => rfl
  | c :: l, ws => by simp only [List.foldl_cons]; rw [foldl_set_len l]; simp
theorem imgW_len (l : List Chg) : (imgW l).length = 2824 := by
  unfold imgW
  rw [foldl_set_len]
  simp [img0]

theorem head_spec (h : Heap) : CallH Tryz.prog 36 [] h (fun v h' => Keeps [] h h' ∧ ∃ b, v = .slice (some ⟨b, 0, none⟩) 8 8 ∧ h.size ≤ b ∧ b < h'.size ∧ h'[b]? = some (.cells ⟨([7021221306412823411, 2824, 0, 0, 0, 0, 0, 0] : List UInt64).map wv⟩ 36 (0, 0))) := by
  refine call_of hmix Tryz.func36 rfl ok36 (by simp [Tryz.f36]) ?_
  conv => whnf
  refine SemR.make (n := 8) rfl rfl rfl rfl rfl (by decide) (by decide) fun b1 h1 e1 s1 o1 k1 => ?_
  conv => whnf
  refine CallR.i (size_spec h1) fun v h2 k2 hv => ?_
  subst hv
  have o2 := k2.obj o1 (by simp)
  conv => whnf
  refine IdxS.i 0 rfl (by decide) rfl ?_
  conv => whnf
  refine StoreR.i o2 (Nat.le_of_ble_eq_true rfl) (by simp [blocksOf]) fun h3 s3 o3 k3 => ?_
  conv => whnf
  refine IdxS.i 1 rfl (by decide) rfl ?_
  conv => whnf
  refine StoreR.i o3 (Nat.le_of_ble_eq_true rfl) (by simp [blocksOf]) fun h4 s4 o4 k4 => ?_
  conv => whnf
  have z2 := k2.size
  exact ⟨((k1.trans k2).new1 k3 (by omega)).new1 k4 (by omega), b1, rfl, by omega, by omega, o4⟩

theorem setW_splice {ws : List UInt64} {i : Nat} {w : UInt64} (hi : i < ws.length) : spliceL (0 + i * 1) [wv w] (ws.map wv) = (ws.set i w).map wv := by
  rw [show 0 + i * 1 = i by omega, splice_set1 _ _ _ (by simpa using hi), List.map_set]

theorem image_spec {h : Heap} {a : Option Addr} {n c : Nat} {l : List Chg} (S : Sl h a n c l) : CallH Tryz.prog 16 [.slice a n c] h (fun v h' => Keeps [] h h' ∧ ∃ b, v = .slice (some ⟨b, 0, none⟩) 2824 2824 ∧ h.size ≤ b ∧ b < h'.size ∧ h'[b]? = some (.cells ⟨(imgW l).map wv⟩ 36 (0, 0))) := by
  have hl := S.hlen
  have hbig := S.hbig
  refine call_of hmix Tryz.func16 rfl ok16 (by simp [Tryz.f16]) ?_
  conv => whnf
  refine SemR.make (n := 2824) rfl rfl rfl rfl rfl (by decide) (by decide) fun b1 h1 e1 s1 o1 k1 => ?_
  conv => whnf
  refine CallR.i (head_spec h1) fun v h2 k2 hv => ?_
  obtain ⟨b2, rfl, q1, q2, o2⟩ := hv
  have o12 := k2.obj o1 (by simp)
  have z2 := k2.size
  have S2 := Sl.of1' (α := UInt64) (n := 8) o2 (by simp [One.ok]) rfl (by decide)
  conv => whnf
  refine SemR.copy (sz := 1) (new := ([7021221306412823411, 2824, 0, 0, 0, 0, 0, 0] : List UInt64).map wv) rfl rfl rfl o12 rfl S2.cells1 (allOne_wv _) (by simp) (by simp [blocksOf]) fun h3 s3 o3 k3 => ?_
  have o3' : h3[b1]? = some (.cells ⟨img0.map wv⟩ 36 (0, 0)) := by
    rw [o3]
    have : List.replicate 2824 (Value.int .u64 0) = List.replicate (([7021221306412823411, 2824, 0, 0, 0, 0, 0, 0] : List UInt64).map wv).length (Value.int .u64 0) ++ List.replicate 2816 (Value.int .u64 0) := by
      rw [List.replicate_append_replicate]; rfl
    rw [this, splice_head]
    congr 3
  clear o3
  have k03 : Keeps [] h h3 := (k1.trans k2).new1 k3 (by omega)
  conv => whnf
  refine LoopR.on [0, 3, 4] [] (fun i : Nat => [(0, .v (.slice a n c)), (3, .v (.slice (some ⟨b1, 0, none⟩) 2824 2824)), (4, .v (.int .i64 (i : Int)))]) (fun _ => [])
    (fun i h' => i ≤ n ∧ i ≤ 100 ∧ Keeps [] h h' ∧ h3.size ≤ h'.size ∧ h'[b1]? = some (.cells ⟨((l.take i).foldl (fun ws c => ws.set (idxC c.at_) c.v) img0).map wv⟩ 36 (0, 0))) (fun i => n - i) 0 ?_ ?_
  · conv => whnf
    exact ⟨0, rfl, rfl, rfl, Nat.zero_le _, Nat.zero_le _, k03, Nat.le_refl _, o3'⟩
  · rintro i h4 ⟨hi, hi100, k4, z4, o4⟩
    conv => whnf
    refine IfR.i (fun hd => ?_) (fun hd => ?_)
    · have hi1 : i < l.length ∧ i < 100 := by simp [bif_and] at hd; omega
      obtain ⟨b5, o5, hb5, _, ⟨rfl, hok⟩, hc5⟩ := (S.keep k4).at_ i hi1.1
      have hlen : ((l.take i).foldl (fun ws c => ws.set (idxC c.at_) c.v) img0).length = 2824 := by rw [foldl_set_len]; simp [img0]
      have hidx := idxC_lt l[i].at_
      conv => whnf
      refine IdxS.i i rfl (by omega) hb5 ?_
      conv => whnf
      refine LoadR.i (hc5 0 (by simp)) ?_
      conv => whnf
      refine Need.i (by decide) ?_
      conv => whnf
      refine IdxS.i i rfl (by omega) hb5 ?_
      conv => whnf
      refine LoadR.i (hc5 1 (by simp)) ?_
      conv => whnf
      refine IdxS.i (idxC l[i].at_) ?_ hidx rfl ?_
      · have e1 : IntKind.u64.wrap ((2824 : Nat) : Int) = 2824 := by rw [wrap_u64']; rfl
        rw [e1, wrap_u64', Int.tmod_eq_emod_of_nonneg (by omega), wrapN (n := idxC l[i].at_) (by unfold idxC; omega) (by omega)]
      conv => whnf
      refine StoreR.i o4 ?_ (by simp [blocksOf]) fun h6 s6 o6 k6 => ?_
      · show 0 + idxC l[i].at_ * 1 + 1 ≤ _
        rw [List.length_map, hlen]; omega
      conv => whnf
      refine ⟨n - (i + 1), by omega, ?_⟩
      conv => whnf
      refine ⟨i + 1, rfl, by rw [wrapN (x := (i : Int) + 1) (n := i + 1) (by simp) (by omega)], rfl, by omega, by omega, k4.new1 k6 (by omega), by omega, ?_⟩
      have e6 := setW_splice (w := l[i].v) (i := idxC l[i].at_) (show idxC l[i].at_ < _ by rw [hlen]; exact hidx)
      rw [List.take_succ_eq_append_getElem hi1.1, List.foldl_append]
      simp only [List.foldl_cons, List.foldl_nil]
      rw [← e6]; exact o6
    · conv => whnf
      refine ⟨k4, b1, rfl, by omega, by omega, ?_⟩
      have : l.take i = l.take 100 := by
        have hx : i = n ∨ i = 100 := by simp [bif_and] at hd; omega
        rcases hx with rfl | rfl
        · rw [List.take_of_length_le (by omega), List.take_of_length_le (by omega)]
        · rfl
      rw [this] at o4
      exact o4
end Go.Proofs.YtlloemmpnhoanaaGreat
