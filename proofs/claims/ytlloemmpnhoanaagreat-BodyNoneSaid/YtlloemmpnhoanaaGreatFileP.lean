/-
  Layer 10's law: the document's answers for bytes; a step.
-/
import Derived.Test.YtlloemmpnhoanaaGreatFileN
set_option linter.all false
set_option maxRecDepth 100000
set_option maxHeartbeats 1000000
namespace Go.Proofs.YtlloemmpnhoanaaGreat
open Go Go.Eng

theorem ba_eq (x y : List UInt8) : ((ByteArray.mk x.toArray).toList == (ByteArray.mk y.toArray).toList) = decide (x = y) := by
  rw [toList_beq]
  refine decide_eq_decide.2 ⟨fun e => ?_, fun e => by rw [e]⟩
  have := congrArg (fun b : ByteArray => b.data.toList) e
  simpa using this

theorem zerosS_spec (n : Nat) (hn : n ≤ 1000000) (h : Heap) : CallH Tryz.prog 44 [.int .i64 (n : Int)] h (fun v h' => Keeps [] h h' ∧ v = .string ⟨(zeros n).toArray⟩) := by
  refine call_of hmix Tryz.func44 rfl ok44 (by simp [Tryz.f44]) ?_
  conv => whnf
  refine SemR.make (n := n) rfl rfl rfl rfl rfl (by show 1 * n ≤ _; omega) (by omega) fun b1 h1 e1 s1 o1 k1 => ?_
  conv => whnf
  refine SemR.textOf (l := zeros n) rfl rfl rfl (by simp [zeros]) (fun j hj => ?_) ?_
  · have hj' : j < n := by simpa [zeros] using hj
    simp only [Heap.cell?, o1, Nat.zero_add]
    simp [zeros, hj']
  conv => whnf
  exact ⟨k1, rfl⟩

theorem refRead10_spec (s : List UInt8) (hs : s.length ≤ 2688) (at_ n : Int) (h : Heap) : CallH Tryz.prog 24 [.string ⟨s.toArray⟩, .int .i64 at_, .int .i64 n] h (fun v h' => Keeps [] h h' ∧ v = .tuple #[.string ⟨(refReadL s at_ n).1.toArray⟩, .int .i64 (refReadL s at_ n).2]) := by
  have hb := ba_size s
  refine call_of hmix Tryz.func24 rfl ok24 (by simp [Tryz.f24]) ?_
  conv => whnf
  refine IfR.i (fun hc => ?_) (fun hc => ?_)
  · have h1 : at_ < 0 ∨ n < 0 ∨ 4096 < n := by simp [bif_or] at hc; omega
    conv => whnf
    unfold refReadL
    rw [if_pos h1]
    exact ⟨Keeps.refl _ _, rfl⟩
  · have h1 : ¬ (at_ < 0 ∨ n < 0 ∨ 4096 < n) := by simp [bif_or] at hc; omega
    conv => whnf
    refine IfR.i (fun hd => ?_) (fun hd => ?_)
    · have h2 : (s.length : Int) ≤ at_ := by
        have : at_ ≥ ((ByteArray.mk s.toArray).size : Int) := by simpa using hd
        rw [hb] at this; exact this
      conv => whnf
      unfold refReadL
      rw [if_neg h1, if_pos h2]
      exact ⟨Keeps.refl _ _, rfl⟩
    · have h2 : ¬ (s.length : Int) ≤ at_ := by
        have : ¬ at_ ≥ ((ByteArray.mk s.toArray).size : Int) := by simpa using hd
        rw [hb] at this; exact this
      conv => whnf
      refine SliceR.i at_.toNat (min (s.length : Int) (at_ + n)).toNat (by omega) (by rw [hb, wrapI (by omega) (by omega)]; split <;> omega) (by omega) (by rw [hb]; omega) ?_
      conv => whnf
      refine ⟨Keeps.refl _ _, ?_⟩
      unfold refReadL
      rw [if_neg h1, if_neg h2, ba_extract]

theorem refCut10_spec (s : List UInt8) (hs : s.length ≤ 2688) (size : Int) (h : Heap) : CallH Tryz.prog 23 [.string ⟨s.toArray⟩, .int .i64 size] h (fun v h' => Keeps [] h h' ∧ v = .tuple #[.string ⟨(refCutL s size).1.toArray⟩, .int .i64 (refCutL s size).2]) := by
  have hb := ba_size s
  refine call_of hmix Tryz.func23 rfl ok23 (by simp [Tryz.f23]) ?_
  conv => whnf
  refine IfR.i (fun hc => ?_) (fun hc => ?_)
  · have h1 : size < 0 := by simpa using hc
    conv => whnf
    unfold refCutL
    rw [if_pos h1]
    exact ⟨Keeps.refl _ _, rfl⟩
  · have h1 : ¬ size < 0 := by simpa using hc
    conv => whnf
    refine IfR.i (fun hd => ?_) (fun hd => ?_)
    · have h2 : 2688 < size := by simp at hd; omega
      conv => whnf
      unfold refCutL
      rw [if_neg h1, if_pos h2]
      exact ⟨Keeps.refl _ _, rfl⟩
    · have h2 : ¬ 2688 < size := by simp at hd; omega
      conv => whnf
      refine IfR.i (fun he => ?_) (fun he => ?_)
      · have h3 : size ≤ (s.length : Int) := by
          have : size ≤ ((ByteArray.mk s.toArray).size : Int) := by simpa using he
          rw [hb] at this; exact this
        conv => whnf
        refine SliceR.i 0 size.toNat rfl (by omega) (Nat.zero_le _) (by rw [hb]; omega) ?_
        conv => whnf
        refine ⟨Keeps.refl _ _, ?_⟩
        unfold refCutL
        rw [if_neg h1, if_neg h2, if_pos h3, ba_extract]
        rfl
      · have h3 : ¬ size ≤ (s.length : Int) := by
          have : ¬ size ≤ ((ByteArray.mk s.toArray).size : Int) := by simpa using he
          rw [hb] at this; exact this
        have hw : IntKind.i64.wrap (size - ((ByteArray.mk s.toArray).size : Int)) = ((size.toNat - s.length : Nat) : Int) := by
          rw [hb, wrapN (n := size.toNat - s.length) (by omega) (by omega)]
        conv => whnf
        rw [hw]
        refine CallR.i (zerosS_spec (size.toNat - s.length) (by omega) h) fun v h1 k1 hv => ?_
        subst hv
        conv => whnf
        refine Need.i (by rw [ba_size, ba_size]; simp [zeros]; omega) ?_
        conv => whnf
        refine ⟨k1, ?_⟩
        unfold refCutL
        rw [if_neg (by omega), if_neg h2, if_neg h3, ba_app]

theorem refWrite10_spec (s : List UInt8) (hs : s.length ≤ 2688) (at_ : Int) (data : List UInt8) (hdl : data.length ≤ 140737488351232) (h : Heap) : CallH Tryz.prog 20 [.string ⟨s.toArray⟩, .int .i64 at_, .string ⟨data.toArray⟩] h (fun v h' => Keeps [] h h' ∧ v = .tuple #[.string ⟨(refWriteL s at_ data).1.toArray⟩, .int .i64 (refWriteL s at_ data).2]) := by
  have hb := ba_size s
  have hbd := ba_size data
  refine call_of hmix Tryz.func20 rfl ok20 (by simp [Tryz.f20]) ?_
  conv => whnf
  refine IfR.i (fun hc => ?_) (fun hc => ?_)
  · have h1 : at_ < 0 ∨ 400 < data.length := by
      simp [bif_or] at hc
      rcases hc with h | h
      · exact .inl h
      · right
        have : (400 : Int) < ((ByteArray.mk data.toArray).size : Int) := h
        rw [hbd] at this; omega
    conv => whnf
    unfold refWriteL
    rw [if_pos h1]
    exact ⟨Keeps.refl _ _, rfl⟩
  · have h1' : ¬ (at_ < 0 ∨ 400 < data.length) := by
      simp [bif_or] at hc
      rintro (h | h)
      · omega
      · have h' := hc.2
        have : ((ByteArray.mk data.toArray).size : Int) ≤ 400 := h'
        rw [hbd] at this; omega
    conv => whnf
    refine IfR.i (fun hd => ?_) (fun hd => ?_)
    · have h2 : data = [] := by
        have := ba_eq data []
        rw [show ((ByteArray.mk data.toArray).toList == (ByteArray.mk ([] : List UInt8).toArray).toList) = true from hd] at this
        simpa using this.symm
      conv => whnf
      unfold refWriteL
      rw [if_neg h1', if_pos h2]
      exact ⟨Keeps.refl _ _, rfl⟩
    · have h2 : ¬ data = [] := by
        have := ba_eq data []
        rw [show ((ByteArray.mk data.toArray).toList == (ByteArray.mk ([] : List UInt8).toArray).toList) = false from hd] at this
        simpa using this.symm
      have hw : IntKind.i64.wrap (2688 - ((ByteArray.mk data.toArray).size : Int)) = 2688 - (data.length : Int) := by
        rw [hbd, wrapI (by omega) (by omega)]
      conv => whnf
      refine IfR.i (fun he => ?_) (fun he => ?_)
      · have h3 : 2688 - (data.length : Int) < at_ := by rw [hw] at he; simpa using he
        conv => whnf
        unfold refWriteL
        rw [if_neg h1', if_neg h2, if_pos h3]
        exact ⟨Keeps.refl _ _, rfl⟩
      · have h3 : ¬ 2688 - (data.length : Int) < at_ := by rw [hw] at he; simpa using he
        obtain ⟨a, rfl⟩ : ∃ a : Nat, at_ = (a : Int) := ⟨at_.toNat, by omega⟩
        have hadd : IntKind.i64.wrap ((a : Int) + ((ByteArray.mk data.toArray).size : Int)) = ((a + data.length : Nat) : Int) := by
          rw [hbd, wrapN (n := a + data.length) (by simp) (by omega)]
        conv => whnf
        refine MeetR.pass ?_
        conv => whnf
        refine IfR.i (fun hf => ?c1) (fun hf => ?c2)
        case' c1 =>
          have h4 : s.length < a + data.length := by
            rw [hadd, hb] at hf
            have : (s.length : Int) < ((a + data.length : Nat) : Int) := by simpa using hf
            omega
          have hw2 : IntKind.i64.wrap (IntKind.i64.wrap ((a : Int) + ((ByteArray.mk data.toArray).size : Int)) - ((ByteArray.mk s.toArray).size : Int)) = ((a + data.length - s.length : Nat) : Int) := by
            rw [hadd, hb, wrapN (n := a + data.length - s.length) (by omega) (by omega)]
          conv => whnf
          rw [hw2]
          refine CallR.i (zerosS_spec (a + data.length - s.length) (by omega) h) fun v h1 k1 hv => ?_
          subst hv
          conv => whnf
          refine Need.i (by rw [ba_size, ba_size]; simp [zeros]; omega) ?_
          have hs1 : (ByteArray.mk s.toArray ++ ⟨(zeros (a + data.length - s.length)).toArray⟩) = ⟨(s ++ zeros (a + data.length - s.length)).toArray⟩ := ba_app _ _
          rw [hs1]
        case' c2 =>
          have h4 : ¬ s.length < a + data.length := by
            rw [hadd, hb] at hf
            have : ¬ (s.length : Int) < ((a + data.length : Nat) : Int) := by simpa using hf
            omega
          obtain ⟨h1, rfl⟩ : ∃ x, x = h := ⟨_, rfl⟩
          have k1 : Keeps [] h1 h1 := Keeps.refl _ _
          have hs1 : s = s ++ zeros (a + data.length - s.length) := by
            rw [show a + data.length - s.length = 0 by omega]; simp [zeros]
          rw [show (ByteArray.mk s.toArray) = ⟨(s ++ zeros (a + data.length - s.length)).toArray⟩ from congrArg (fun l : List UInt8 => ByteArray.mk l.toArray) hs1]
        all_goals
          obtain ⟨w, hwe⟩ : ∃ w, w = s ++ zeros (a + data.length - s.length) := ⟨_, rfl⟩
          rw [← hwe]
          have hwl : a + data.length ≤ w.length ∧ w.length ≤ 2688 := by
            rw [hwe, List.length_append]; simp only [zeros, List.length_replicate]; omega
          have hbw := ba_size w
          conv => whnf
          refine SliceR.i 0 a rfl rfl (Nat.zero_le _) (by rw [hbw]; omega) ?_
          rw [ba_extract]
          conv => whnf
          refine Need.i (by rw [ba_size, ba_size, List.length_drop, List.length_take]; omega) ?_
          rw [ba_app]
          conv => whnf
          refine SliceR.i (a + data.length) w.length hadd (by rw [hbw]) hwl.1 (by rw [hbw]; omega) ?_
          rw [ba_extract]
          conv => whnf
          refine Need.i (by rw [ba_size, ba_size, List.length_append, List.length_drop, List.length_take, List.length_drop, List.length_take]; omega) ?_
          conv => whnf
          refine ⟨k1, ?_⟩
          rw [ba_app]
          unfold refWriteL
          rw [if_neg h1', if_neg h2, if_neg h3, Int.toNat_natCast, ← hwe, List.take_of_length_le (Nat.le_refl w.length), List.drop_zero]
end Go.Proofs.YtlloemmpnhoanaaGreat
