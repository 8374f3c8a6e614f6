/-
  Joined texts: WrdA, CrdC, CrdD, CrdE, CrdF, VieA, NamA, NamB.
-/
import Derived.Test.YtdfgkdoplagelaaGreatDoorJLawWNilj
import Derived.Test.YtdfgkdoplagelaaGreatDoorJLawWNilf
import Derived.Test.YtdfgkdoplagelaaGreatDoorJLawWNilg
/-
  Layer 1: a field of a word.
-/
set_option linter.all false
set_option maxRecDepth 100000
set_option maxHeartbeats 1000000
namespace Go.Proofs.YtdfgkdoplagelaaGreatDoor
open Go Go.Eng

/-- the fields that there are -/
def fldOk (at_ width : Nat) : Prop := at_ + width ≤ 64 ∧ 1 ≤ width ∧ width ≤ 32 ∧ (width = 8 ∨ width = 16 ∨ width = 32)

theorem mask_spec (at_ width : Nat) (hf : fldOk at_ width) (h : Heap) : CallH Tryz.prog 106 [.int .i64 (at_ : Int), .int .i64 (width : Int)] h (fun v h' => Keeps [] h h' ∧ v = wv (maskW width)) := by
  unfold fldOk at hf
  have e : IntKind.i64.wrap (64 - (width : Int)) = ((64 - width : Nat) : Int) := wrapN (by omega) (by omega)
  refine call_of hmix Tryz.func106 rfl ok106 (by simp [Tryz.f106]) ?_
  conv => whnf
  refine IfR.f (by simp [bif_or, e]; omega) ?_
  conv => whnf
  refine Need.i (by rw [e]; omega) ?_
  conv => whnf
  refine ⟨Keeps.refl _ _, ?_⟩
  rw [e]
  rcases hf.2.2.2 with rfl | rfl | rfl <;> rfl
theorem len64_spec (n : Nat) (hn : n < 65536) (h : Heap) : CallH Tryz.prog 139 [.int .u64 (n : Int)] h (fun v h' => Keeps [] h h' ∧ ∃ L : Nat, v = .int .i64 (L : Int) ∧ L ≤ 16 ∧ (n < 256 → L ≤ 8)) := by
  refine call_of hmix Tryz.func139 rfl ok139 (by simp [Tryz.f139]) ?_
  conv => whnf
  refine MeetR.pass ?_
  conv => whnf
  first | refine IfR.f (by simp; omega) ?_ | (refine MeetR.pass ?_; (conv => whnf); refine IfR.f (by simp; omega) ?_)
  conv => whnf
  first | refine IfR.f (by simp; omega) ?_ | (refine MeetR.pass ?_; (conv => whnf); refine IfR.f (by simp; omega) ?_)
  conv => whnf
  first | refine IfR.i (fun hc => ?_) (fun hc => ?_) | (refine MeetR.pass ?_; (conv => whnf); refine IfR.i (fun hc => ?_) (fun hc => ?_))
  · conv => whnf
    refine Need.i (by decide) ?_
    conv => whnf
    have e : IntKind.u8.wrap ((n : Int).fdiv (2 ^ min (Int.toNat 8) IntKind.u64.bits)) = ((n / 256 : Nat) : Int) := by
      have : (2 : Int) ^ min (Int.toNat 8) IntKind.u64.bits = 256 := by decide
      rw [this]
      have h2 : (n : Int).fdiv 256 = ((n / 256 : Nat) : Int) := by rw [Int.fdiv_eq_ediv_of_nonneg _ (by decide)]; simp
      rw [h2]
      rw [wrap_u8]; omega
    generalize hB : ByteArray.mk _ = B
    have hs : B.size = 256 := by rw [← hB]; rfl
    have hv : ∀ j, j < 256 → 0 ≤ byteN B j ∧ byteN B j ≤ 8 := by rw [← hB]; decide +kernel
    refine IdxR.i (n / 256) e (by omega) ?_
    conv => whnf
    have ⟨b0, b1⟩ := hv (n / 256) (by omega)
    refine ⟨Keeps.refl _ _, (8 + byteN B (n / 256)).toNat, ?_, by omega, fun hn => ?_⟩
    · rw [wrapI (x := (0 : Int) + 8) (by omega) (by omega), wrapI (x := byteN B (n / 256)) (by omega) (by omega), wrapI (by omega) (by omega)]
      (first | (congr 1; done) | (congr 1; omega))
    · simp at hc
      omega
  · conv => whnf
    have e : IntKind.u8.wrap (n : Int) = ((n : Nat) : Int) := by
      simp at hc
      rw [wrap_u8]; omega
    generalize hB : ByteArray.mk _ = B
    have hs : B.size = 256 := by rw [← hB]; rfl
    have hv : ∀ j, j < 256 → 0 ≤ byteN B j ∧ byteN B j ≤ 8 := by rw [← hB]; decide +kernel
    have hn2 : n < 256 := by simp at hc; omega
    refine IdxR.i n e (by omega) ?_
    conv => whnf
    have ⟨b0, b1⟩ := hv n hn2
    refine ⟨Keeps.refl _ _, (byteN B n).toNat, ?_, by omega, fun hn => by omega⟩
    rw [wrapI (x := byteN B n) (by omega) (by omega), wrapI (by omega) (by omega)]
    (first | (congr 1; done) | (congr 1; omega))

theorem bv_of (x : UInt64) : BitVec.ofInt 64 (x.toNat : Int) = x.toBitVec := by
  apply BitVec.eq_of_toNat_eq
  rw [BitVec.toNat_ofInt]
  have := x.toNat_lt
  show ((x.toNat : Int) % ((2 ^ 64 : Nat) : Int)).toNat = x.toNat
  omega
theorem shl_of (x : UInt64) {n : Nat} (h : n ≤ 63) : IntKind.u64.wrap ((x.toNat : Int) * 2 ^ min ((n : Int)).toNat IntKind.u64.bits) = (((x <<< UInt64.ofNat n).toNat : Nat) : Int) := by
  have hb : IntKind.u64.bits = 64 := rfl
  have hm : min ((n : Int)).toNat IntKind.u64.bits = n := by rw [hb]; omega
  rw [hm, UInt64.toNat_shiftLeft, ofN_nat h, Nat.mod_eq_of_lt (show n < 64 by omega), Nat.shiftLeft_eq, wrap_u64']
  have : (x.toNat : Int) * 2 ^ n = ((x.toNat * 2 ^ n : Nat) : Int) := by simp
  rw [this]
  omega
theorem shr_of (x : UInt64) {n : Nat} (h : n ≤ 63) : ((x.toNat : Int)).fdiv (2 ^ min ((n : Int)).toNat IntKind.u64.bits) = (((x >>> UInt64.ofNat n).toNat : Nat) : Int) := by
  have hb : IntKind.u64.bits = 64 := rfl
  have hm : min ((n : Int)).toNat IntKind.u64.bits = n := by rw [hb]; omega
  rw [hm, UInt64.toNat_shiftRight, ofN_nat h, Nat.mod_eq_of_lt (show n < 64 by omega), Nat.shiftRight_eq_div_pow, Int.fdiv_eq_ediv_of_nonneg _ (Int.le_of_lt (Int.pow_pos (by decide)))]
  simp
theorem wrap_bv (x : UInt64) : IntKind.u64.wrap (x.toBitVec.toNat : Int) = (x.toNat : Int) := by
  have := x.toNat_lt
  rw [wrap_u64']
  show ((x.toNat : Nat) : Int) % _ = _
  omega

theorem get_spec (w : UInt64) (at_ width : Nat) (hf : fldOk at_ width) (h : Heap) : CallH Tryz.prog 61 [wv w, .int .i64 (at_ : Int), .int .i64 (width : Int)] h (fun v h' => Keeps [] h h' ∧ v = .tuple #[wv (getF w at_ width), .int .i64 0]) := by
  refine call_of hmix Tryz.func61 rfl ok61 (by simp [Tryz.f61]) ?_
  conv => whnf
  refine CallR.i (mask_spec at_ width hf h) fun v h1 k1 hv => ?_
  subst hv
  unfold fldOk at hf
  have hm : (maskW width).toNat = 2 ^ width - 1 := maskW_nat (by omega)
  have hp : 2 ≤ 2 ^ width := by
    have : 2 ^ 1 ≤ 2 ^ width := Nat.pow_le_pow_right (by decide) hf.2.1
    simpa using this
  conv => whnf
  refine IfR.f (by simp; omega) ?_
  conv => whnf
  refine Need.i (by omega) ?_
  conv => whnf
  refine ⟨k1, ?_⟩
  have hb : IntKind.u64.bits = 64 := rfl
  have e := wrap_bv (getF w at_ width)
  unfold getF at e
  rw [UInt64.toBitVec_and] at e
  rw [shr_of w (show at_ ≤ 63 by omega), hb, bv_of, bv_of, e]
  rfl

theorem put_spec (w : UInt64) (at_ width : Nat) (hf : fldOk at_ width) (v : UInt64) (hv : v.toNat < 2 ^ width) (hs : v.toNat < 65536) (h : Heap) : CallH Tryz.prog 103 [wv w, .int .i64 (at_ : Int), .int .i64 (width : Int), wv v] h (fun r h' => Keeps [] h h' ∧ r = .tuple #[wv (putF w at_ width v), .int .i64 0]) := by
  refine call_of hmix Tryz.func103 rfl ok103 (by simp [Tryz.f103]) ?_
  conv => whnf
  refine CallR.i (mask_spec at_ width hf h) fun r h1 k1 hr => ?_
  subst hr
  unfold fldOk at hf
  have hm : (maskW width).toNat = 2 ^ width - 1 := maskW_nat (by omega)
  have hp : 2 ≤ 2 ^ width := by
    have : 2 ^ 1 ≤ 2 ^ width := Nat.pow_le_pow_right (by decide) hf.2.1
    simpa using this
  conv => whnf
  first | refine IfR.f (by simp; omega) ?_ | (refine MeetR.pass ?_; (conv => whnf); refine IfR.f (by simp; omega) ?_)
  conv => whnf
  refine CallR.i (len64_spec v.toNat hs h1) fun r h2 k2 hr => ?_
  obtain ⟨L, rfl, l1, l2⟩ := hr
  have hL : L ≤ width := by
    rcases hf.2.2.2 with rfl | rfl | rfl
    · exact l2 (by simpa using hv)
    · exact l1
    · omega
  conv => whnf
  refine IfR.f (by simp; omega) ?_
  conv => whnf
  refine Need.i (by omega) ?_
  conv => whnf
  refine Need.i (by omega) ?_
  conv => whnf
  refine ⟨k1.trans k2, ?_⟩
  have hb : IntKind.u64.bits = 64 := rfl
  rw [shl_of (maskW width) (show at_ ≤ 63 by omega), shl_of v (show at_ ≤ 63 by omega), hb, bv_of, bv_of, bv_of, ← UInt64.toBitVec_not, ← UInt64.toBitVec_and, wrap_bv (w &&& ~~~(maskW width <<< UInt64.ofNat at_)), bv_of, ← UInt64.toBitVec_or, wrap_bv]
  rfl
end Go.Proofs.YtdfgkdoplagelaaGreatDoor
/-
  Layer 6: a card's words are written, and read.
-/
set_option linter.all false
set_option maxRecDepth 100000
set_option maxHeartbeats 1000000
namespace Go.Proofs.YtdfgkdoplagelaaGreatDoor
open Go Go.Eng

/-- where the numbers of a card stand: word, place, width -/
def fldA (i : Nat) : Nat := if i < 3 then 0 else 2 + (i - 3) / 4
def fldP (i : Nat) : Nat := if i = 0 then 0 else if i = 1 then 8 else if i = 2 then 24 else 16 * ((i - 3) % 4)
def fldW (i : Nat) : Nat := if i = 0 then 8 else if i = 1 then 16 else if i = 2 then 32 else 16
def fldC (i : Nat) : List Value := [.int .i64 (fldA i), .int .i64 (fldP i), .int .i64 (fldW i)]
def fldsC : Nat → List Value
  | 0 => []
  | n + 1 => fldsC n ++ fldC n

theorem fields_spec (h : Heap) : CallH Tryz.prog 102 [] h (fun v h' => Keeps [] h h' ∧ ∃ b c fz sp, v = .slice (some ⟨b, 0, none⟩) 9 c ∧ 9 ≤ c ∧ h.size ≤ b ∧ h'[b]? = some (.cells ⟨fldsC 9 ++ sp⟩ 167 fz)) := by
  refine call_of hmix Tryz.func102 rfl ok102 (by simp [Tryz.f102]) ?_
  conv => whnf
  refine AllocR.i fun b1 h1 e1 s1 o1 k1 => ?_
  conv => whnf
  refine LoopR.on [1, 7] [] (fun q : Nat × Option Addr × Nat => [(1, .v (.slice q.2.1 (3 + q.1) q.2.2)), (7, .v (.int .i64 (q.1 : Int)))]) (fun _ => [])
    (fun q h' => q.1 ≤ 6 ∧ Keeps [] h h' ∧ Own h' 167 3 q.2.1 (3 + q.1) q.2.2 (fldsC (3 + q.1)) ∧ ∀ b ∈ blkA q.2.1, h.size ≤ b) (fun q => 6 - q.1) (0, some ⟨b1, 0, none⟩, 3) ?_ ?_
  · conv => whnf
    refine ⟨(0, some ⟨b1, 0, none⟩, 3), rfl, rfl, rfl, Nat.zero_le _, k1, ?_, fun b hb => by simp [blkA] at hb; omega⟩
    exact .inr ⟨b1, _, rfl, o1, rfl, rfl, rfl, Nat.le_refl _⟩
  · rintro ⟨i, ai, ci⟩ h2 ⟨hi, k2, O2, n2⟩
    simp only at hi O2 n2
    conv => whnf
    refine IfR.i (fun hc => ?_) (fun hc => ?_)
    · have hi6 : i < 6 := by simp at hc; omega
      conv => whnf
      refine Need.i (by decide) ?_
      conv => whnf
      refine Need.i (by decide) ?_
      conv => whnf
      refine AllocR.i fun b3 h3 e3 s3 o3 k3 => ?_
      have hval : ([.int .i64 (IntKind.i64.wrap (2 + IntKind.i64.wrap ((i : Int).tdiv 4))), .int .i64 (IntKind.i64.wrap (16 * ((i : Int).tmod 4))), .int .i64 16] : List Value) = fldC (3 + i) := by
        have : i = 0 ∨ i = 1 ∨ i = 2 ∨ i = 3 ∨ i = 4 ∨ i = 5 := by omega
        rcases this with rfl | rfl | rfl | rfl | rfl | rfl <;> rfl
      conv => whnf
      refine append_own (e := 167) (sz := 3) (by_ := 24) (n := 1) (new := fldC (3 + i)) rfl rfl rfl rfl rfl rfl rfl (O2.keep k3 (by simp)) rfl (fun j hj => ?_) rfl (by omega) (by decide) (by simp [blocksOf]) ?_
      · rw [← hval]
        have o3' : h3[b3]? = some (.cells ⟨[.int .i64 (IntKind.i64.wrap (2 + IntKind.i64.wrap ((i : Int).tdiv 4))), .int .i64 (IntKind.i64.wrap (16 * ((i : Int).tmod 4))), .int .i64 16]⟩ 167 (0, 0)) := o3
        simp only [Heap.cell?, o3']
        rw [Nat.zero_add]; simp
      intro a5 c5 h5 O5 k5 n5
      conv => whnf
      refine ⟨6 - (i + 1), by omega, ?_⟩
      conv => whnf
      refine ⟨(i + 1, a5, c5), rfl, ?_, rfl, by simp only; omega, (k2.trans k3).nil_of k5 n2, ?_, fun b hb => ?_⟩
      · simp only
        rw [wrapN (x := (i : Int) + 1) (n := i + 1) (by simp) (by omega)]
        rfl
      · exact O5
      · rcases n5 b hb with h | h
        · exact n2 b h
        · have := k2.size; omega
    · have hi6 : i = 6 := by simp at hc; omega
      subst hi6
      conv => whnf
      rcases O2 with ⟨_, h, _⟩ | ⟨b, c, rfl, o, t, l1, _, cl⟩
      · cases h
      · refine ⟨k2, b, ci, (0, 0), c.drop 27, rfl, cl, n2 b (by simp [blkA]), ?_⟩
        rw [o]
        have : c = fldsC 9 ++ c.drop 27 := by
          have e : (fldsC (3 + 6)).length = 27 := rfl
          rw [e] at t
          rw [show fldsC 9 = fldsC (3 + 6) from rfl, ← t, List.take_append_drop]
        rw [← this]

/-- a card's numbers, as its fields have them -/
def numsL (c : Crd) : List Int := [c.kind, c.links, c.size, c.d0 + 1, c.d1 + 1, c.d2 + 1, c.d3 + 1, c.d4 + 1, c.more + 1]

theorem numbers_spec (c : Crd) (B : CrdB c) (h : Heap) : CallH Tryz.prog 101 [.agg ⟨c.cells⟩] h (fun v h' => Keeps [] h h' ∧ ∃ b q, v = .slice (some ⟨b, 0, none⟩) 9 q ∧ Sl h' (some ⟨b, 0, none⟩) 9 q (numsL c) ∧ h.size ≤ b) := by
  have B0 := B.d0
  have B1 := B.d1
  have B2 := B.d2
  have B3 := B.d3
  have B4 := B.d4
  have Bm := B.m
  refine call_of hmix Tryz.func101 rfl ok101 (by simp [Tryz.f101]) ?_
  conv => whnf
  refine AllocR.i fun b1 h1 e1 s1 o1 k1 => ?_
  conv => whnf
  refine AllocR.i fun b2 h2 e2 s2 o2 k2 => ?_
  conv => whnf
  refine LoopR.on [1, 3, 14, 15] [1] (fun q : Nat × Option Addr × Nat => [(1, .lp 1 0), (3, .v (.slice q.2.1 (3 + q.1) q.2.2)), (14, .v (.agg ⟨[.int .i64 c.d0, .int .i64 c.d1, .int .i64 c.d2, .int .i64 c.d3, .int .i64 c.d4]⟩)), (15, .v (.int .i64 (q.1 : Int)))]) (fun _ => [(1, b1, c.cells)])
    (fun q h' => q.1 ≤ 5 ∧ Keeps [] h1 h' ∧ Own h' 3 1 q.2.1 (3 + q.1) q.2.2 (((numsL c).take (3 + q.1)).map fun x => .int .i64 x) ∧ ∀ b ∈ blkA q.2.1, h1.size ≤ b) (fun q => 5 - q.1) (0, some ⟨b2, 0, none⟩, 3) ?_ ?_
  · conv => whnf
    refine ⟨(0, some ⟨b2, 0, none⟩, 3), rfl, rfl, rfl, Nat.zero_le _, k2, ?_, fun b hb => by simp [blkA] at hb; omega⟩
    exact .inr ⟨b2, _, rfl, o2, rfl, rfl, rfl, Nat.le_refl _⟩
  · rintro ⟨i, ai, ci⟩ h3 ⟨hi, k3, O3, n3⟩
    simp only at hi O3 n3
    conv => whnf
    refine IfR.i (fun hc => ?_) (fun hc => ?_)
    · have hi5 : i < 5 := by simp at hc; omega
      conv => whnf
      refine IdxR.i i rfl hi5 ?_
      conv => whnf
      refine NthR.i (v := .int .i64 (c.direct[i]'(by simpa [Crd.direct] using hi5))) ?_ ?_
      · have : i = 0 ∨ i = 1 ∨ i = 2 ∨ i = 3 ∨ i = 4 := by omega
        rcases this with rfl | rfl | rfl | rfl | rfl <;> rfl
      conv => whnf
      refine AllocR.i fun b4 h4 e4 s4 o4 k4 => ?_
      have hw : IntKind.i64.wrap ((c.direct[i]'(by simpa [Crd.direct] using hi5)) + 1) = (numsL c)[3 + i]'(by simp [numsL]; omega) := by
        have : i = 0 ∨ i = 1 ∨ i = 2 ∨ i = 3 ∨ i = 4 := by omega
        rcases this with rfl | rfl | rfl | rfl | rfl <;> exact wrapI (by simp [Crd.direct]; omega) (by simp [Crd.direct]; omega)
      conv => whnf
      refine append_own (e := 3) (sz := 1) (by_ := 8) (n := 1) (new := [.int .i64 ((numsL c)[3 + i]'(by simp [numsL]; omega))]) rfl rfl rfl rfl rfl rfl rfl (O3.keep k4 (by simp)) rfl (fun j hj => ?_) rfl (by omega) (by decide) (fun x hx hm => by
        have := n3 x hx
        have e : x = b1 := by simpa [blocksOf] using hm
        omega) ?_
      · rw [← hw]
        have o4' : h4[b4]? = some (.cells ⟨[.int .i64 (IntKind.i64.wrap ((c.direct[i]'(by simpa [Crd.direct] using hi5)) + 1))]⟩ 3 (0, 0)) := o4
        simp only [Heap.cell?, o4']
        rw [Nat.zero_add]; simp
      intro a5 c5 h5 O5 k5 n5
      conv => whnf
      refine ⟨5 - (i + 1), by omega, ?_⟩
      conv => whnf
      refine ⟨(i + 1, a5, c5), rfl, ?_, rfl, by simp only; omega, (k3.trans k4).nil_of k5 n3, ?_, fun b hb => ?_⟩
      · simp only
        rw [wrapN (x := (i : Int) + 1) (n := i + 1) (by simp) (by omega)]
        rfl
      · simp only
        rw [show 3 + (i + 1) = (3 + i) + 1 by omega, List.take_succ_eq_append_getElem (by simp [numsL]; omega), List.map_append]
        exact O5
      · rcases n5 b hb with h | h
        · exact n3 b h
        · have := k3.size; omega
    · have hi5 : i = 5 := by simp at hc; omega
      subst hi5
      conv => whnf
      refine AllocR.i fun b4 h4 e4 s4 o4 k4 => ?_
      have hw : IntKind.i64.wrap (c.more + 1) = c.more + 1 := wrapI (by omega) (by omega)
      conv => whnf
      refine append_own (e := 3) (sz := 1) (by_ := 8) (n := 1) (new := [.int .i64 (c.more + 1)]) rfl rfl rfl rfl rfl rfl rfl (O3.keep k4 (by simp)) rfl (fun j hj => ?_) rfl (by omega) (by decide) (fun x hx hm => by
        have := n3 x hx
        have e : x = b1 := by simpa [blocksOf] using hm
        omega) ?_
      · rw [← hw]
        have o4' : h4[b4]? = some (.cells ⟨[.int .i64 (IntKind.i64.wrap (c.more + 1))]⟩ 3 (0, 0)) := o4
        simp only [Heap.cell?, o4']
        rw [Nat.zero_add]; simp
      intro a5 c5 h5 O5 k5 n5
      conv => whnf
      have n5' : ∀ b ∈ blkA a5, h.size ≤ b := fun b hb => by
        rcases n5 b hb with h | h
        · have := n3 b h; omega
        · have := k3.size; omega
      have Q : Own h5 3 1 a5 9 c5 ((numsL c).map fun x => .int .i64 x) := O5
      have R := Q.sl (α := Int) (xs := numsL c) (reps_ints _ _ (by
        intro x hx
        have h1 := B.k
        have h2 := B.l
        have h3 := B.s
        simp only [numsL, List.mem_cons, List.not_mem_nil, or_false] at hx
        unfold inI64; omega)) rfl (by decide) (by simp [numsL])
      rcases O5 with ⟨_, h, _⟩ | ⟨b, cs, rfl, _⟩
      · cases h
      · exact ⟨k1.trans ((k3.trans k4).nil_of k5 n3), b, c5, rfl, R, n5' b (by simp [blkA])⟩
end Go.Proofs.YtdfgkdoplagelaaGreatDoor
/-
  Layer 6: new cards; may a card be.
-/
set_option linter.all false
set_option maxRecDepth 100000
set_option maxHeartbeats 1000000
namespace Go.Proofs.YtdfgkdoplagelaaGreatDoor
open Go Go.Eng

theorem none6_spec (v : UInt64) (h : Heap) : CallH Tryz.prog 64 [wv v] h (fun r h' => Keeps [] h h' ∧ r = .agg ⟨(noneC v).cells⟩) := by
  refine call_of hmix Tryz.func64 rfl ok64 (by simp [Tryz.f64]) ?_
  conv => whnf
  refine AllocR.i fun b1 h1 e1 s1 o1 k1 => ?_
  conv => whnf
  refine AllocR.i fun b2 h2 e2 s2 o2 k2 => ?_
  conv => whnf
  refine BoxR.i fun h3 s3 k3 => ?_
  conv => whnf
  refine LoopR.on [2, 3, 7] [2, 3] (fun i : Nat => [(2, .lp 2 0), (3, .lp 3 0), (7, .v (.int .i64 (i : Int)))]) (fun i => [(2, b1, Crd.zero.cells), (3, b2, [.int .i64 0, .int .i64 0, .int .i64 0, wv v, .int .i64 (if 0 < i then -1 else 0), .int .i64 (if 1 < i then -1 else 0), .int .i64 (if 2 < i then -1 else 0), .int .i64 (if 3 < i then -1 else 0), .int .i64 (if 4 < i then -1 else 0), .int .i64 (-1)])])
    (fun i h' => i ≤ 5 ∧ Keeps [] h h' ∧ h3.size ≤ h'.size) (fun i => 5 - i) 0 ?_ ?_
  · conv => whnf
    exact ⟨0, rfl, rfl, rfl, Nat.zero_le _, ((k1.trans k2).new1 k3 (by omega)), Nat.le_refl _⟩
  · rintro i h4 ⟨hi, k4, z4⟩
    conv => whnf
    refine IfR.i (fun hc => ?_) (fun hc => ?_)
    · have hi5 : i < 5 := by simp at hc; omega
      conv => whnf
      refine IdxR.i i rfl hi5 ?_
      conv => whnf
      refine Need.i (by show 4 + i * 1 + 1 ≤ 10; omega) ?_
      conv => whnf
      refine BoxR.i fun h5 s5 k5 => ?_
      conv => whnf
      refine ⟨5 - (i + 1), by omega, ?_⟩
      conv => whnf
      refine ⟨i + 1, rfl, by rw [wrapN (x := (i : Int) + 1) (n := i + 1) (by simp) (by omega)], ?_, by omega, k4.new1 k5 (by omega), by omega⟩
      have : i = 0 ∨ i = 1 ∨ i = 2 ∨ i = 3 ∨ i = 4 := by omega
      rcases this with rfl | rfl | rfl | rfl | rfl <;> rfl
    · have hi5 : i = 5 := by simp at hc; omega
      subst hi5
      conv => whnf
      refine BoxR.i fun h5 s5 k5 => ?_
      conv => whnf
      exact ⟨k4.new1 k5 (by omega), rfl⟩

theorem fresh6_spec (kind : Int) (v : UInt64) (h : Heap) : CallH Tryz.prog 53 [.int .i64 kind, wv v] h (fun r h' => Keeps [] h h' ∧ r = .tuple (if 1 ≤ kind ∧ kind ≤ 3 then #[.agg ⟨(freshC kind v).cells⟩, .int .i64 0] else #[.agg ⟨Crd.zero.cells⟩, .int .i64 1])) := by
  refine call_of hmix Tryz.func53 rfl ok53 (by simp [Tryz.f53]) ?_
  conv => whnf
  refine AllocR.i fun b1 h1 e1 s1 o1 k1 => ?_
  by_cases hk : 1 ≤ kind ∧ kind ≤ 3
  · rw [if_pos hk]
    have hk3 : kind = 1 ∨ kind = 2 ∨ kind = 3 := by omega
    rcases hk3 with rfl | rfl | rfl
    case' inl =>
      conv => whnf
      first | refine IfR.t rfl ?_ | (refine MeetR.pass ?_; (conv => whnf); refine IfR.t rfl ?_)
    case' inr.inl =>
      conv => whnf
      first | refine IfR.f rfl ?_ | (refine MeetR.pass ?_; (conv => whnf); refine IfR.f rfl ?_)
      conv => whnf
      first | refine IfR.t rfl ?_ | (refine MeetR.pass ?_; (conv => whnf); refine IfR.t rfl ?_)
    case' inr.inr =>
      conv => whnf
      first | refine IfR.f rfl ?_ | (refine MeetR.pass ?_; (conv => whnf); refine IfR.f rfl ?_)
      conv => whnf
      first | refine IfR.f rfl ?_ | (refine MeetR.pass ?_; (conv => whnf); refine IfR.f rfl ?_)
    all_goals
      conv => whnf
      first | refine IfR.t rfl ?_ | (refine MeetR.pass ?_; (conv => whnf); refine IfR.t rfl ?_)
      conv => whnf
      refine CallR.i (none6_spec v h1) fun v2 h2 k2 hv => ?_
      subst hv
      conv => whnf
      refine AllocR.i fun b3 h3 e3 s3 o3 k3 => ?_
      conv => whnf
      refine BoxR.i fun h4 s4 k4 => ?_
      conv => whnf
      refine BoxR.i fun h5 s5 k5 => ?_
      conv => whnf
      refine BoxR.i fun h6 s6 k6 => ?_
      conv => whnf
      refine BoxR.i fun h7 s7 k7 => ?_
      conv => whnf
      have z2 := k2.size
      exact ⟨((((k1.trans (k2.trans k3)).new1 k4 (by omega)).new1 k5 (by omega)).new1 k6 (by omega)).new1 k7 (by omega), rfl⟩
  · rw [if_neg hk]
    conv => whnf
    first | refine IfR.f (by simp; omega) ?_ | (refine MeetR.pass ?_; (conv => whnf); refine IfR.f (by simp; omega) ?_)
    conv => whnf
    first | refine IfR.f (by simp; omega) ?_ | (refine MeetR.pass ?_; (conv => whnf); refine IfR.f (by simp; omega) ?_)
    conv => whnf
    first | refine IfR.f (by simp; omega) ?_ | (refine MeetR.pass ?_; (conv => whnf); refine IfR.f (by simp; omega) ?_)
    conv => whnf
    refine BoxR.i fun h2 s2 k2 => ?_
    conv => whnf
    exact ⟨k1.new1 k2 (by omega), rfl⟩

theorem odd6_spec (n : Int) (h : Heap) : CallH Tryz.prog 138 [.int .i64 n] h (fun v h' => Keeps [] h h' ∧ v = .bool (oddB n)) := by
  refine call_of hmix Tryz.func138 rfl ok138 (by simp [Tryz.f138]) ?_
  conv => whnf
  refine ⟨Keeps.refl _ _, ?_⟩
  congr 1

theorem indexOdd6_spec {h : Heap} {a : Option Addr} {n c : Nat} {xs : List Int} (S : Sl h a n c xs) (hn : n ≤ 1000000000) :
    CallH Tryz.prog 141 [.slice a n c, .func (.func 138) #[] #[]] h (fun v h' => Keeps [] h h' ∧ v = .int .i64 (idxF oddB xs 0)) := by
  have hl := S.hlen
  refine call_of hmix Tryz.func141 rfl ok141 (by simp [Tryz.f141]) ?_
  conv => whnf
  refine LoopR.on [0, 1, 7, 8] [] (fun i : Nat => [(0, .v (.slice a n c)), (1, .v (.func (.func 138) #[] #[])), (7, .v (.int .i64 (n : Int))), (8, .v (.int .i64 (i : Int)))]) (fun _ => [])
    (fun i h' => i ≤ n ∧ Keeps [] h h' ∧ idxF oddB xs 0 = idxF oddB (xs.drop i) i) (fun i => n - i) 0 ?_ ?_
  · conv => whnf
    exact ⟨0, rfl, rfl, rfl, Nat.zero_le _, Keeps.refl _ _, rfl⟩
  · rintro i h2 ⟨hi, k2, hI⟩
    conv => whnf
    refine IfR.i (fun hc => ?_) (fun hc => ?_)
    · have hi1 : i < xs.length := by simp at hc; omega
      obtain ⟨b, off, hb, _, hcell⟩ := (S.keep k2).at1 i hi1
      rw [List.drop_eq_getElem_cons hi1] at hI
      simp only [idxF] at hI
      conv => whnf
      refine IdxS.i i rfl (by omega) hb ?_
      conv => whnf
      refine LoadR.i hcell ?_
      conv => whnf
      refine CallR.i (odd6_spec xs[i] h2) fun v h3 k3 hv => ?_
      subst hv
      conv => whnf
      refine IfR.i (fun hd => ?_) (fun hd => ?_)
      · conv => whnf
        rw [if_pos (by simpa using hd)] at hI
        exact ⟨k2.trans k3, by rw [hI]⟩
      · rw [if_neg (by simpa using hd)] at hI
        conv => whnf
        refine ⟨n - (i + 1), by omega, ?_⟩
        conv => whnf
        exact ⟨i + 1, rfl, by rw [wrapN (n := i + 1) (by simp) (by omega)], rfl, by omega, k2.trans k3, hI⟩
    · have hi1 : i = xs.length := by simp at hc; omega
      conv => whnf
      refine ⟨k2, ?_⟩
      rw [hI, hi1, List.drop_length]; rfl
theorem containsOdd6_spec {h : Heap} {a : Option Addr} {n c : Nat} {xs : List Int} (S : Sl h a n c xs) (hn : n ≤ 1000000000) :
    CallH Tryz.prog 113 [.slice a n c, .func (.func 138) #[] #[]] h (fun v h' => Keeps [] h h' ∧ v = .bool (xs.any oddB)) := by
  refine call_of hmix Tryz.func113 rfl ok113 (by simp [Tryz.f113]) ?_
  conv => whnf
  refine CallR.i (indexOdd6_spec S hn) fun v h1 k1 hv => ?_
  subst hv
  conv => whnf
  refine ⟨k1, ?_⟩
  rw [← idxF_any oddB xs 0]

theorem eqT_five (a b : Crd) : eqT Tryz.prog 10000 27 (.agg ⟨[.int .i64 a.d0, .int .i64 a.d1, .int .i64 a.d2, .int .i64 a.d3, .int .i64 a.d4]⟩) (.agg ⟨[.int .i64 b.d0, .int .i64 b.d1, .int .i64 b.d2, .int .i64 b.d3, .int .i64 b.d4]⟩) = some (decide (a.direct = b.direct)) := by
  have h : eqT Tryz.prog 10000 27 (.agg ⟨[.int .i64 a.d0, .int .i64 a.d1, .int .i64 a.d2, .int .i64 a.d3, .int .i64 a.d4]⟩) (.agg ⟨[.int .i64 b.d0, .int .i64 b.d1, .int .i64 b.d2, .int .i64 b.d3, .int .i64 b.d4]⟩) = some ((a.d0 == b.d0) && ((a.d1 == b.d1) && ((a.d2 == b.d2) && ((a.d3 == b.d3) && ((a.d4 == b.d4) && true))))) := rfl
  rw [h]
  congr 1
  rw [Bool.eq_iff_iff]
  simp [Crd.direct]

theorem right6_spec (c : Crd) (h : Heap) (hc : c.ok) : CallH Tryz.prog 100 [.agg ⟨c.cells⟩] h (fun v h' => Keeps [] h h' ∧ v = .bool (rightC c)) := by
  refine call_of hmix Tryz.func100 rfl ok100 (by simp [Tryz.f100]) ?_
  conv => whnf
  refine AllocR.i fun b1 h1 e1 s1 o1 k1 => ?_
  conv => whnf
  refine LoadR.o o1 rfl ?_
  conv => whnf
  first | refine IfR.i (fun hd => ?_) (fun hd => ?_) | (refine MeetR.pass ?_; (conv => whnf); refine IfR.i (fun hd => ?_) (fun hd => ?_))
  · have h0 : c.kind = 0 := by simpa using hd
    conv => whnf
    refine LoadR.o o1 rfl ?_
    conv => whnf
    refine CallR.i (none6_spec c.ver h1) fun v h2 k2 hv => ?_
    subst hv
    conv => whnf
    refine AllocR.i fun b3 h3 e3 s3 o3 k3 => ?_
    conv => whnf
    refine BoxR.i fun h4 s4 k4 => ?_
    have k14 : Keeps [] h1 h4 := (k2.trans k3).new1 k4 (by have := k2.size; omega)
    conv => whnf
    refine LoadN.o (k14.obj o1 (by simp)) rfl ?_
    conv => whnf
    refine PureR.eqAgg (by kernel_rfl) (eqT_five c (noneC c.ver)) ?_
    conv => whnf
    refine LoadN.o (k14.obj o1 (by simp)) rfl ?_
    conv => whnf
    refine PureR.eqAgg (by kernel_rfl) (eqT_crd c (noneC c.ver)) ?_
    conv => whnf
    refine ⟨k1.trans k14, ?_⟩
    unfold rightC; rw [if_pos h0, bif_and]
    congr 1
    by_cases e : c = noneC c.ver
    · rw [decide_eq_true e, ← e]; simp
    · rw [decide_eq_false e]; simp
  · have h0 : ¬ c.kind = 0 := by simpa using hd
    by_cases hk : 1 ≤ c.kind ∧ c.kind ≤ 3
    · have hk3 : c.kind = 1 ∨ c.kind = 2 ∨ c.kind = 3 := by omega
      have fin : ∀ b : Bool, (b = true ↔ (0 ≤ c.links ∧ c.links ≤ 255 ∧ 0 ≤ c.size ∧ c.size ≤ 2688) ∧ oddB c.more = false ∧ c.direct.any oddB = false) → Value.bool b = Value.bool (rightC c) := by
        intro b hb
        congr 1
        rw [Bool.eq_iff_iff, hb]
        unfold rightC
        rw [if_neg h0]
        have hd : (c.direct.any oddB = false) ↔ c.direct.all blockC = true := by
          rw [List.any_eq_false, List.all_eq_true]
          refine ⟨fun h x hx => ?_, fun h x hx => ?_⟩
          · have := h x hx
            simp [oddB, blockC] at this ⊢; omega
          · have := h x hx
            simp [oddB, blockC] at this ⊢; omega
        rw [hd]
        simp [oddB, blockC]
        constructor
        · rintro ⟨a1, a2, a3⟩; exact ⟨a3, by omega⟩
        · rintro ⟨a1, a2⟩; exact ⟨by omega, by omega, a1⟩
      rcases hk3 with hk3 | hk3 | hk3
      case' inl =>
        conv => whnf
        first | refine IfR.t (by rw [hk3]; rfl) ?_ | (refine MeetR.pass ?_; (conv => whnf); refine IfR.t (by rw [hk3]; rfl) ?_)
      case' inr.inl =>
        conv => whnf
        first | refine IfR.f (by rw [hk3]; rfl) ?_ | (refine MeetR.pass ?_; (conv => whnf); refine IfR.f (by rw [hk3]; rfl) ?_)
        conv => whnf
        first | refine IfR.t (by rw [hk3]; rfl) ?_ | (refine MeetR.pass ?_; (conv => whnf); refine IfR.t (by rw [hk3]; rfl) ?_)
      case' inr.inr =>
        conv => whnf
        first | refine IfR.f (by rw [hk3]; rfl) ?_ | (refine MeetR.pass ?_; (conv => whnf); refine IfR.f (by rw [hk3]; rfl) ?_)
        conv => whnf
        first | refine IfR.f (by rw [hk3]; rfl) ?_ | (refine MeetR.pass ?_; (conv => whnf); refine IfR.f (by rw [hk3]; rfl) ?_)
      all_goals
        conv => whnf
        first | refine IfR.t (by first | rfl | (rw [hk3]; rfl)) ?_ | (refine MeetR.pass ?_; (conv => whnf); refine IfR.t (by first | rfl | (rw [hk3]; rfl)) ?_)
        conv => whnf
        refine LoadR.o o1 rfl ?_
        conv => whnf
        refine LoadR.o o1 rfl ?_
        conv => whnf
        refine LoadR.o o1 rfl ?_
        conv => whnf
        refine LoadR.o o1 rfl ?_
        conv => whnf
        refine LoadR.o o1 rfl ?_
        have S5 : ∀ h', Keeps [] h1 h' → Sl h' (some ⟨b1, 4, none⟩) 5 5 c.direct := fun h' kk => ⟨rfl, Nat.le_refl _, by simp [Crd.direct], fun i hi => ⟨b1, 4, rfl, [.int .i64 c.direct[i]], ⟨rfl, hc.2.2.2.1 _ (List.getElem_mem hi)⟩, fun j hj => by
          have hj0 : j = 0 := by simpa using hj
          subst hj0
          have o14 := kk.obj o1 (by simp)
          simp only [Heap.cell?, o14]
          have hi' : i < 5 := hi
          have : i = 0 ∨ i = 1 ∨ i = 2 ∨ i = 3 ∨ i = 4 := by omega
          rcases this with rfl | rfl | rfl | rfl | rfl <;> rfl⟩⟩
        conv => whnf
        refine IfR.i (fun g1 => ?_) (fun g1 => ?_)
        · conv => whnf
          refine CallR.i (odd6_spec c.more h1) fun v h2 k2 hv => ?_
          subst hv
          conv => whnf
          refine PureR.i (v := .slice (some ⟨b1, 4, none⟩) 5 5) (fun w => rfl) ?_
          conv => whnf
          refine IfR.i (fun g2 => ?_) (fun g2 => ?_)
          · conv => whnf
            refine CallR.i (containsOdd6_spec (S5 h2 k2) (by decide)) fun v h3 k3 hv => ?_
            subst hv
            conv => whnf
            refine ⟨k1.trans (k2.trans k3), fin _ ?_⟩
            simp [bif_and] at g1 g2 ⊢
            constructor
            · rintro ⟨⟨⟨⟨⟨a, b⟩, c⟩, d⟩, e⟩, f⟩; exact ⟨⟨a, b, c, d⟩, e, f⟩
            · rintro ⟨⟨a, b, c, d⟩, e, f⟩; exact ⟨⟨⟨⟨⟨a, b⟩, c⟩, d⟩, e⟩, f⟩
          · conv => whnf
            refine ⟨k1.trans k2, fin _ ?_⟩
            simp [bif_and] at g1 g2 ⊢
            have := g2 g1.1.1.1 g1.1.1.2 g1.1.2 g1.2
            rw [this]; simp
        · conv => whnf
          refine PureR.i (v := .slice (some ⟨b1, 4, none⟩) 5 5) (fun w => rfl) ?_
          conv => whnf
          refine IfR.i (fun g2 => ?_) (fun g2 => ?_)
          · exfalso
            simp [bif_and] at g1 g2
            have := g1 g2.1.1.1 g2.1.1.2 g2.1.2
            omega
          · conv => whnf
            refine ⟨k1, fin _ ?_⟩
            simp [bif_and] at g1 g2 ⊢
            constructor
            · rintro ⟨⟨⟨a, b⟩, c⟩, d⟩
              have := g1 a b c
              omega
            · rintro ⟨⟨a, b, c, d⟩, _⟩
              have := g1 a b c
              omega
    · conv => whnf
      first | refine IfR.f (by simp; omega) ?_ | (refine MeetR.pass ?_; (conv => whnf); refine IfR.f (by simp; omega) ?_)
      conv => whnf
      first | refine IfR.f (by simp; omega) ?_ | (refine MeetR.pass ?_; (conv => whnf); refine IfR.f (by simp; omega) ?_)
      conv => whnf
      first | refine IfR.f (by simp; omega) ?_ | (refine MeetR.pass ?_; (conv => whnf); refine IfR.f (by simp; omega) ?_)
      conv => whnf
      refine ⟨k1, ?_⟩
      unfold rightC
      rw [if_neg h0]
      have : (decide (1 ≤ c.kind) && decide (c.kind ≤ 3)) = false := by simp; omega
      rw [this]; simp
end Go.Proofs.YtdfgkdoplagelaaGreatDoor
/-
  Layer 6: a card's words are written.
-/
set_option linter.all false
set_option maxRecDepth 100000
set_option maxHeartbeats 4000000
namespace Go.Proofs.YtdfgkdoplagelaaGreatDoor
open Go Go.Eng

def kWi (c : Crd) : Nat → UInt64
  | 0 => 0
  | 1 => putF 0 0 8 (w64 c.kind)
  | 2 => putF (putF 0 0 8 (w64 c.kind)) 8 16 (w64 c.links)
  | _ + 3 => fldK c
def dWi (c : Crd) : Nat → UInt64
  | 0 => 0
  | 1 => 0
  | 2 => 0
  | 3 => 0
  | 4 => putF 0 0 16 (w64 (c.d0 + 1))
  | 5 => putF (putF 0 0 16 (w64 (c.d0 + 1))) 16 16 (w64 (c.d1 + 1))
  | 6 => putF (putF (putF 0 0 16 (w64 (c.d0 + 1))) 16 16 (w64 (c.d1 + 1))) 32 16 (w64 (c.d2 + 1))
  | _ + 7 => fldD c
def mWi (c : Crd) : Nat → UInt64
  | 0 => 0
  | 1 => 0
  | 2 => 0
  | 3 => 0
  | 4 => 0
  | 5 => 0
  | 6 => 0
  | 7 => 0
  | 8 => putF 0 0 16 (w64 (c.d4 + 1))
  | _ + 9 => fldM c
/-- a card's words, so many fields laid -/
def cWi (c : Crd) (i : Nat) : List UInt64 := [kWi c i, c.ver, dWi c i, mWi c i, 0, 0, 0, 0]

theorem num_small {c : Crd} (B : CrdB c) : ∀ i (hi : i < (numsL c).length), 0 ≤ (numsL c)[i] ∧ (numsL c)[i] < 65536 ∧ (numsL c)[i] < 2 ^ fldW i := by
  intro i hi
  have h1 := B.k
  have h2 := B.l
  have h3 := B.s
  have h4 := B.d0
  have h5 := B.d1
  have h6 := B.d2
  have h7 := B.d3
  have h8 := B.d4
  have h9 := B.m
  have hi' : i < 9 := hi
  have : i = 0 ∨ i = 1 ∨ i = 2 ∨ i = 3 ∨ i = 4 ∨ i = 5 ∨ i = 6 ∨ i = 7 ∨ i = 8 := by omega
  rcases this with rfl | rfl | rfl | rfl | rfl | rfl | rfl | rfl | rfl <;> simp [numsL, fldW] <;> omega

theorem write6_spec (c : Crd) (hc : c.ok) (h : Heap) : CallH Tryz.prog 54 [.agg ⟨c.cells⟩] h (fun v h' => Keeps [] h h' ∧
    if rightC c = true then ∃ b, v = .tuple #[.slice (some ⟨b, 0, none⟩) 8 8, .int .i64 0] ∧ h.size ≤ b ∧ h'[b]? = some (.cells ⟨(cardW c).map wv⟩ 26 (0, 0)) else v = .tuple #[.slice none 0 0, .int .i64 1]) := by
  refine call_of hmix Tryz.func54 rfl ok54 (by simp [Tryz.f54]) ?_
  conv => whnf
  refine AllocR.i fun b1 h1 e1 s1 o1 k1 => ?_
  conv => whnf
  refine CallR.i (right6_spec c h1 hc) fun v h2 k2 hv => ?_
  subst hv
  cases hr : rightC c with
  | false =>
    conv => whnf
    refine IfR.t rfl ?_
    conv => whnf
    exact ⟨k1.trans k2, rfl⟩
  | true =>
    have B := rightC_b hr
    conv => whnf
    refine IfR.f rfl ?_
    conv => whnf
    refine SemR.make (n := 8) rfl rfl rfl rfl rfl (by decide) (by decide) fun b3 h3 e3 s3 o3 k3 => ?_
    have z2 := k2.size
    conv => whnf
    refine IdxS.i 1 rfl (by decide) rfl ?_
    conv => whnf
    refine StoreR.i o3 (Nat.le_of_ble_eq_true rfl) (by simp [blocksOf, setB]; omega) fun h4 s4 o4 k4 => ?_
    have k04 : Keeps [] h h4 := (k1.trans (k2.trans k3)).new1 k4 (by omega)
    conv => whnf
    refine CallR.i (numbers_spec c B h4) fun v h5 k5 hv => ?_
    obtain ⟨b5, q5, rfl, S5, hb5⟩ := hv
    have o4' : h4[b3]? = some (.cells ⟨(cWi c 0).map wv⟩ 26 (0, 0)) := o4
    conv => whnf
    refine LoopR.on [4, 19, 20, 21] [] (fun i : Nat => [(4, .v (.slice (some ⟨b3, 0, none⟩) 8 8)), (19, .v (.slice (some ⟨b5, 0, none⟩) 9 q5)), (20, .v (.int .i64 9)), (21, .v (.int .i64 (i : Int)))]) (fun _ => [])
      (fun i h' => i ≤ 9 ∧ Keeps [b3] h4 h' ∧ h5.size ≤ h'.size ∧ Sl h' (some ⟨b5, 0, none⟩) 9 q5 (numsL c) ∧ h'[b3]? = some (.cells ⟨(cWi c i).map wv⟩ 26 (0, 0))) (fun i => 9 - i) 0 ?_ ?_
    · conv => whnf
      exact ⟨0, rfl, rfl, rfl, Nat.zero_le _, k5.mono (by simp), Nat.le_refl _, S5, k5.obj o4' (by simp)⟩
    · rintro i h6 ⟨hi, k6, z6, S6, o6⟩
      conv => whnf
      refine IfR.i (fun hd => ?_) (fun hd => ?_)
      · have hi9 : i < 9 := by simp at hd; omega
        obtain ⟨n0, n1, n2⟩ := num_small B i hi9
        obtain ⟨b, off, hb', _, hcell⟩ := S6.at1 i hi9
        conv => whnf
        refine IdxS.i i rfl hi9 hb' ?_
        conv => whnf
        refine LoadR.i hcell ?_
        conv => whnf
        refine CallR.i (fields_spec h6) fun v h7 k7 hv => ?_
        obtain ⟨bf, cf, fz, sp, rfl, hcf, hbf, o7⟩ := hv
        conv => whnf
        refine IdxS.i i rfl hi9 rfl ?_
        have o6' := k7.obj o6 (by simp)
        have hfield : takeL 3 (dropL (0 + i * 3) (fldsC 9 ++ sp)) = some (fldC i) := by
          have : i = 0 ∨ i = 1 ∨ i = 2 ∨ i = 3 ∨ i = 4 ∨ i = 5 ∨ i = 6 ∨ i = 7 ∨ i = 8 := by omega
          rcases this with rfl | rfl | rfl | rfl | rfl | rfl | rfl | rfl | rfl <;> rfl
        conv => whnf
        refine LoadN.o (vs := fldC i) o7 hfield ?_
        conv => whnf
        refine AllocR.i fun b8 h8 e8 s8 o8 k8 => ?_
        conv => whnf
        refine BoxR.i fun h9 s9 k9 => ?_
        have k79 : Keeps [] h7 h9 := k8.new1 k9 (by omega)
        have hA : fldA i < 8 := by
          unfold fldA; split <;> omega
        have hF : fldOk (fldP i) (fldW i) := by
          have : i = 0 ∨ i = 1 ∨ i = 2 ∨ i = 3 ∨ i = 4 ∨ i = 5 ∨ i = 6 ∨ i = 7 ∨ i = 8 := by omega
          rcases this with rfl | rfl | rfl | rfl | rfl | rfl | rfl | rfl | rfl <;> (unfold fldOk; decide)
        have hcl : (cWi c i).length = 8 := rfl
        conv => whnf
        refine IdxS.i (fldA i) rfl hA rfl ?_
        conv => whnf
        refine LoadR.o (v := wv ((cWi c i)[fldA i]'(by omega))) (k79.obj o6' (by simp)) ?_ ?_
        · rw [nth_eq]
          show ((cWi c i).map wv)[0 + fldA i * 1]? = _
          rw [show 0 + fldA i * 1 = fldA i by omega]
          simp [hA, hcl]
        conv => whnf
        rw [← wv_w64]
        have hws : (w64 (numsL c)[i]).toNat < 65536 ∧ (w64 (numsL c)[i]).toNat < 2 ^ fldW i := by
          rw [w64_sm n0 (by omega)]
          have h2 : (((numsL c)[i].toNat : Nat) : Int) < ((2 ^ fldW i : Nat) : Int) := by
            rw [Int.toNat_of_nonneg n0]
            exact_mod_cast n2
          omega
        refine CallR.i (put_spec _ (fldP i) (fldW i) hF _ hws.2 hws.1 h9) fun v h10 k10 hv => ?_
        subst hv
        conv => whnf
        refine IfR.f rfl ?_
        have hnew : (cWi c i).set (fldA i) (putF ((cWi c i)[fldA i]'(by omega)) (fldP i) (fldW i) (w64 (numsL c)[i])) = cWi c (i + 1) := by
          have : i = 0 ∨ i = 1 ∨ i = 2 ∨ i = 3 ∨ i = 4 ∨ i = 5 ∨ i = 6 ∨ i = 7 ∨ i = 8 := by omega
          rcases this with rfl | rfl | rfl | rfl | rfl | rfl | rfl | rfl | rfl <;> rfl
        conv => whnf
        refine IdxS.i (fldA i) rfl hA rfl ?_
        have k610 : Keeps [] h6 h10 := k7.trans (k79.trans k10)
        conv => whnf
        refine StoreR.i (k610.obj o6 (by simp)) ?_ ?_ fun h11 s11 o11 k11 => ?_
        · show 0 + fldA i * 1 + 1 ≤ _
          simp [hcl]; omega
        · have := obj_lt o6
          have := k7.size
          simp [blocksOf, setB]; omega
        conv => whnf
        refine ⟨9 - (i + 1), by omega, ?_⟩
        conv => whnf
        refine ⟨i + 1, rfl, by rw [wrapN (x := (i : Int) + 1) (n := i + 1) (by simp) (by omega)], rfl, by omega, (k6.trans (k610.mono (by simp))).trans k11, by have := k610.size; omega, (S6.keep k610).keepM k11 (fun x hx hm => ?_), ?_⟩
        · simp [blkA] at hx hm; omega
        · have e5 : spliceL (0 + fldA i * 1) [wv (putF ((cWi c i)[fldA i]'(by omega)) (fldP i) (fldW i) (w64 (numsL c)[i]))] ((cWi c i).map wv) = (cWi c (i + 1)).map wv := by
            rw [show 0 + fldA i * 1 = fldA i by omega, splice_set1 _ _ _ (by simp [hcl]; omega), ← hnew, List.map_set]
          rw [← e5]; exact o11
      · have hi9 : i = 9 := by simp at hd; omega
        subst hi9
        conv => whnf
        exact ⟨k04.nil_of k6 (by intro x hx; have : x = b3 := by simpa using hx
                                 omega), b3, rfl, by omega, o6⟩
end Go.Proofs.YtdfgkdoplagelaaGreatDoor
/-
  Layer 6: a card is read from words.
-/
set_option linter.all false
set_option maxRecDepth 100000
set_option maxHeartbeats 4000000
namespace Go.Proofs.YtdfgkdoplagelaaGreatDoor
open Go Go.Eng

theorem equalW_spec {h : Heap} {a b : Option Addr} {n c m d : Nat} {x y : List UInt64} (S : Sl h a n c x) (T : Sl h b m d y) (hn : n ≤ 1000) : CallH Tryz.prog 107 [.slice a n c, .slice b m d] h (fun v h' => Keeps [] h h' ∧ v = .bool (decide (x = y))) := by
  have hl := S.hlen
  have hm := T.hlen
  refine call_of hmix Tryz.func107 rfl ok107 (by simp [Tryz.f107]) ?_
  conv => whnf
  refine IfR.i (fun hc => ?_) (fun hc => ?_)
  · conv => whnf
    have : ¬ x = y := by
      rintro rfl
      simp at hc; omega
    rw [decide_eq_false this]
    exact ⟨Keeps.refl _ _, rfl⟩
  · have hnm : n = m := by simp at hc; omega
    conv => whnf
    refine LoopR.on [0, 1, 12, 13] [] (fun i : Nat => [(0, .v (.slice a n c)), (1, .v (.slice b m d)), (12, .v (.int .i64 (n : Int))), (13, .v (.int .i64 (i : Int)))]) (fun _ => [])
      (fun i h' => i ≤ n ∧ Keeps [] h h' ∧ x.take i = y.take i) (fun i => n - i) 0 ?_ ?_
    · conv => whnf
      exact ⟨0, rfl, rfl, rfl, Nat.zero_le _, Keeps.refl _ _, rfl⟩
    · rintro i h2 ⟨hi, k2, he⟩
      conv => whnf
      refine IfR.i (fun hd => ?_) (fun hd => ?_)
      · have hi1 : i < x.length := by simp at hd; omega
        have hi2 : i < y.length := by omega
        obtain ⟨b1, off1, hb1, _, hc1⟩ := (S.keep k2).at1 i hi1
        obtain ⟨b2, off2, hb2, _, hc2⟩ := (T.keep k2).at1 i hi2
        conv => whnf
        refine IdxS.i i rfl (by omega) hb1 ?_
        conv => whnf
        refine LoadR.i hc1 ?_
        conv => whnf
        refine IdxS.i i rfl (by omega) hb2 ?_
        conv => whnf
        refine LoadR.i hc2 ?_
        conv => whnf
        refine IfR.i (fun hq => ?_) (fun hq => ?_)
        · conv => whnf
          have : ¬ x = y := by
            rintro rfl
            simp at hq
          rw [decide_eq_false this]
          exact ⟨k2, rfl⟩
        · have hxy : x[i] = y[i] := by
            have : ((x[i].toNat : Nat) : Int) = ((y[i].toNat : Nat) : Int) := by simpa using hq
            exact UInt64.toNat_inj.1 (by omega)
          conv => whnf
          refine ⟨n - (i + 1), by omega, ?_⟩
          conv => whnf
          refine ⟨i + 1, rfl, by rw [wrapN (x := (i : Int) + 1) (n := i + 1) (by simp) (by omega)], rfl, by omega, k2, ?_⟩
          rw [List.take_succ_eq_append_getElem hi1, List.take_succ_eq_append_getElem hi2, he, hxy]
      · have hi1 : i = n := by simp at hd; omega
        conv => whnf
        refine ⟨k2, ?_⟩
        have e1 : x.take i = x := by rw [hi1, hl]; exact List.take_length
        have e2 : y.take i = y := by rw [hi1, hnm, hm]; exact List.take_length
        rw [e1, e2] at he
        rw [decide_eq_true he]

/-- the numbers that words tell -/
def gNum (ws : List UInt64) (i : Nat) : Int := gAt ws (fldA i) (fldP i) (fldW i)
def gNums (ws : List UInt64) (i : Nat) : List Int := (List.range i).map (gNum ws)

theorem read6_spec {h : Heap} {a : Option Addr} {cp : Nat} {ws : List UInt64} (S : Sl h a 8 cp ws) : CallH Tryz.prog 65 [.slice a 8 cp] h (fun v h' => Keeps [] h h' ∧
    v = match cardR ws with | some c => .tuple #[.agg ⟨c.cells⟩, .int .i64 0] | none => .tuple #[.agg ⟨Crd.zero.cells⟩, .int .i64 15]) := by
  have hl := S.hlen
  refine call_of hmix Tryz.func65 rfl ok65 (by simp [Tryz.f65]) ?_
  conv => whnf
  refine AllocR.i fun b1 h1 e1 s1 o1 k1 => ?_
  conv => whnf
  refine IfR.f rfl ?_
  conv => whnf
  refine CallR.i (fields_spec h1) fun v h2 k2 hv => ?_
  obtain ⟨bf, cf, fz, sp, rfl, hcf, hbf, o2⟩ := hv
  conv => whnf
  refine LoopR.on [0, 2, 4, 17, 18, 19] [2] (fun q : Nat × Option Addr × Nat => [(0, .v (.slice a 8 cp)), (2, .lp 2 0), (4, .v (.slice q.2.1 q.1 q.2.2)), (17, .v (.slice (some ⟨bf, 0, none⟩) 9 cf)), (18, .v (.int .i64 9)), (19, .v (.int .i64 (q.1 : Int)))]) (fun _ => [(2, b1, Crd.zero.cells)])
    (fun q h' => q.1 ≤ 9 ∧ Keeps [] h1 h' ∧ h2.size ≤ h'.size ∧ Own h' 3 1 q.2.1 q.1 q.2.2 ((gNums ws q.1).map fun x => .int .i64 x) ∧ (∀ b ∈ blkA q.2.1, h2.size ≤ b) ∧ h'[bf]? = some (.cells ⟨fldsC 9 ++ sp⟩ 167 fz)) (fun q => 9 - q.1) (0, none, 0) ?_ ?_
  · conv => whnf
    exact ⟨(0, none, 0), rfl, rfl, rfl, Nat.zero_le _, k2, Nat.le_refl _, .inl ⟨rfl, rfl, rfl, rfl⟩, by simp [blkA], o2⟩
  · rintro ⟨i, a4, c4⟩ h3 ⟨hi, k3, z3, O3, n3, o3⟩
    simp only at hi O3 n3
    conv => whnf
    refine IfR.i (fun hd => ?_) (fun hd => ?_)
    · have hi9 : i < 9 := by simp at hd; omega
      conv => whnf
      refine IdxS.i i rfl hi9 rfl ?_
      have hfield : takeL 3 (dropL (0 + i * 3) (fldsC 9 ++ sp)) = some (fldC i) := by
        have : i = 0 ∨ i = 1 ∨ i = 2 ∨ i = 3 ∨ i = 4 ∨ i = 5 ∨ i = 6 ∨ i = 7 ∨ i = 8 := by omega
        rcases this with rfl | rfl | rfl | rfl | rfl | rfl | rfl | rfl | rfl <;> rfl
      conv => whnf
      refine LoadN.o (vs := fldC i) o3 hfield ?_
      conv => whnf
      refine AllocR.i fun b8 h8 e8 s8 o8 k8 => ?_
      conv => whnf
      refine BoxR.i fun h9 s9 k9 => ?_
      have k39 : Keeps [] h3 h9 := k8.new1 k9 (by omega)
      have hA : fldA i < 8 := by
        unfold fldA; split <;> omega
      have hF : fldOk (fldP i) (fldW i) := by
        have : i = 0 ∨ i = 1 ∨ i = 2 ∨ i = 3 ∨ i = 4 ∨ i = 5 ∨ i = 6 ∨ i = 7 ∨ i = 8 := by omega
        rcases this with rfl | rfl | rfl | rfl | rfl | rfl | rfl | rfl | rfl <;> (unfold fldOk; decide)
      obtain ⟨b, off, hb', _, hcell⟩ := (S.keep (k1.trans (k3.trans k39))).at1 (fldA i) (by omega)
      conv => whnf
      refine IdxS.i (fldA i) rfl hA hb' ?_
      conv => whnf
      refine LoadR.i hcell ?_
      conv => whnf
      refine CallR.i (get_spec _ (fldP i) (fldW i) hF h9) fun v h10 k10 hv => ?_
      subst hv
      conv => whnf
      refine AllocR.i fun b11 h11 e11 s11 o11 k11 => ?_
      have hg : (getF (ws[fldA i]'(by omega)) (fldP i) (fldW i)).toNat < 4294967296 := by
        unfold fldOk at hF
        rw [getF_nat _ (by omega) (by omega)]
        have h1 := Nat.mod_lt ((ws[fldA i]'(by omega)).toNat / 2 ^ fldP i) (Nat.two_pow_pos (fldW i))
        have h2 : 2 ^ fldW i ≤ 2 ^ 32 := Nat.pow_le_pow_right (by decide) hF.2.2.1
        omega
      have hval : IntKind.i64.wrap ((getF (ws[fldA i]'(by omega)) (fldP i) (fldW i)).toNat : Int) = gNum ws i := by
        rw [wrapI (by omega) (by omega)]
        unfold gNum gAt
        rw [List.getElem?_eq_getElem (by omega)]; rfl
      have o11' : h11[b11]? = some (.cells ⟨[.int .i64 (gNum ws i)]⟩ 3 (0, 0)) := by
        rw [← hval]; exact o11
      have kk : Keeps [] h3 h11 := k39.trans (k10.trans k11)
      have hgl : (gNums ws i).length = i := by simp [gNums]
      conv => whnf
      refine one_append (O3.keep kk (by simp)) hgl.symm (by omega) o11' (fun b hb hx => ?_) fun a12 c12 h12 O12 k12 n12 => ?_
      · have hx2 : b = b1 ∨ b = b8 := by simpa [blocksOf, setB] using hx
        have := n3 b hb
        have := O3.lt b hb
        have := k2.size
        omega
      conv => whnf
      refine ⟨9 - (i + 1), by omega, ?_⟩
      conv => whnf
      have hz := kk.size
      refine ⟨(i + 1, a12, c12), rfl, ?_, rfl, by simp only; omega, (k3.trans kk).nil_of k12 (fun x hx => by have := n3 x hx; have := k2.size; omega), by have := k12.size; omega, ?_, fun b hb => ?_, (kk.obj o3 (by simp)) |> fun o => k12.obj o (fun hb => by have := n3 bf hb; have := obj_lt o2; omega)⟩
      · simp only
        rw [wrapN (x := (i : Int) + 1) (n := i + 1) (by simp) (by omega)]
      · have : gNums ws (i + 1) = gNums ws i ++ [gNum ws i] := by simp [gNums, List.range_succ]
        simp only [this]
        exact O12
      · rcases n12 b hb with h | h
        · exact n3 b h
        · omega
    · have hi9 : i = 9 := by simp at hd; omega
      subst hi9
      have hG : ∀ x ∈ gNums ws 9, 0 ≤ x ∧ x < 4294967296 := by
        intro x hx
        obtain ⟨i, hi, rfl⟩ := List.mem_map.1 hx
        have hi : i < 9 := by simpa using hi
        unfold gNum gAt
        have hF : fldOk (fldP i) (fldW i) := by
          have : i = 0 ∨ i = 1 ∨ i = 2 ∨ i = 3 ∨ i = 4 ∨ i = 5 ∨ i = 6 ∨ i = 7 ∨ i = 8 := by omega
          rcases this with rfl | rfl | rfl | rfl | rfl | rfl | rfl | rfl | rfl <;> (unfold fldOk; decide)
        unfold fldOk at hF
        rw [getF_nat _ (by omega) (by omega)]
        have h1 := Nat.mod_lt ((ws[fldA i]?.getD 0).toNat / 2 ^ fldP i) (Nat.two_pow_pos (fldW i))
        have h2 : 2 ^ fldW i ≤ 2 ^ 32 := Nat.pow_le_pow_right (by decide) hF.2.2.1
        omega
      have S9 : Sl h3 a4 9 c4 (gNums ws 9) := O3.sl (α := Int) (reps_ints _ _ (fun x hx => by have := hG x hx; unfold inI64; omega)) rfl (by decide) (by simp [gNums])
      have g9 : (gNums ws 9).length = 9 := by simp [gNums]
      obtain ⟨p0, q0, hp0, _, hc0⟩ := S9.at1 0 (by omega)
      obtain ⟨p1, q1, hp1, _, hc1⟩ := S9.at1 1 (by omega)
      obtain ⟨p2, q2, hp2, _, hc2⟩ := S9.at1 2 (by omega)
      obtain ⟨p8, q8, hp8, _, hc8⟩ := S9.at1 8 (by omega)
      obtain ⟨pw, qw, hpw, _, hcw⟩ := (S.keep (k1.trans k3)).at1 1 (by omega)
      conv => whnf
      refine IdxS.i 0 rfl (show (0 : Nat) < 9 by decide) hp0 ?_
      conv => whnf
      refine LoadR.i hc0 ?_
      conv => whnf
      refine IdxS.i 1 rfl (show (1 : Nat) < 9 by decide) hp1 ?_
      conv => whnf
      refine LoadR.i hc1 ?_
      conv => whnf
      refine IdxS.i 2 rfl (show (2 : Nat) < 9 by decide) hp2 ?_
      conv => whnf
      refine LoadR.i hc2 ?_
      conv => whnf
      refine IdxS.i 1 rfl (by decide) hpw ?_
      conv => whnf
      refine LoadR.i hcw ?_
      conv => whnf
      refine IdxS.i 8 rfl (show (8 : Nat) < 9 by decide) hp8 ?_
      conv => whnf
      refine LoadR.i hc8 ?_
      conv => whnf
      refine AllocR.i fun b10 h10 e10 s10 o10 k10 => ?_
      conv => whnf
      refine BoxR.i fun h11 s11 k11 => ?_
      have k311 : Keeps [] h3 h11 := k10.new1 k11 (by omega)
      have hgn : ∀ i (hi : i < 9), (gNums ws 9)[i]'(by omega) = gNum ws i := fun i hi => by simp [gNums]
      have hgb : ∀ i, i < 9 → 0 ≤ gNum ws i ∧ gNum ws i < 4294967296 := fun i hi => hG _ (by rw [← hgn i hi]; exact List.getElem_mem _)
      have hv1 : ws[1]'(by omega) = ws[1]?.getD 0 := by rw [List.getElem?_eq_getElem (by omega)]; rfl
      have hm8 : IntKind.i64.wrap (gNum ws 8 - 1) = gNum ws 8 - 1 := by
        have := hgb 8 (by decide)
        exact wrapI (by omega) (by omega)
      conv => whnf
      refine LoopR.on [0, 2, 4, 9, 62] [2, 9] (fun i : Nat => [(0, .v (.slice a 8 cp)), (2, .lp 2 0), (4, .v (.slice a4 9 c4)), (9, .lp 9 0), (62, .v (.int .i64 (i : Int)))]) (fun i => [(2, b1, Crd.zero.cells), (9, b10, [.int .i64 (gNum ws 0), .int .i64 (gNum ws 1), .int .i64 (gNum ws 2), wv (ws[1]?.getD 0), .int .i64 (if 0 < i then gNum ws 3 - 1 else 0), .int .i64 (if 1 < i then gNum ws 4 - 1 else 0), .int .i64 (if 2 < i then gNum ws 5 - 1 else 0), .int .i64 (if 3 < i then gNum ws 6 - 1 else 0), .int .i64 (if 4 < i then gNum ws 7 - 1 else 0), .int .i64 (gNum ws 8 - 1)])])
        (fun i h' => i ≤ 5 ∧ Keeps [] h3 h' ∧ h11.size ≤ h'.size) (fun i => 5 - i) 0 ?_ ?_
      · conv => whnf
        refine ⟨0, rfl, rfl, ?_, Nat.zero_le _, k311, Nat.le_refl _⟩
        rw [← hm8, ← hv1, ← hgn 0 (by decide), ← hgn 1 (by decide), ← hgn 2 (by decide), ← hgn 8 (by decide)]
        rfl
      · rintro i h12 ⟨hi, k12, z12⟩
        conv => whnf
        refine IfR.i (fun hd => ?_) (fun hd => ?_)
        · have hi5 : i < 5 := by simp at hd; omega
          obtain ⟨p, q, hp, _, hc⟩ := (S9.keep k12).at1 (3 + i) (by omega)
          have ei : IntKind.i64.wrap (3 + (i : Int)) = ((3 + i : Nat) : Int) := wrapN (by omega) (by omega)
          conv => whnf
          refine IdxS.i (3 + i) ei (show 3 + i < 9 by omega) hp ?_
          conv => whnf
          refine LoadR.i hc ?_
          conv => whnf
          refine IdxR.i i rfl hi5 ?_
          conv => whnf
          refine Need.i (by show 4 + i * 1 + 1 ≤ 10; omega) ?_
          conv => whnf
          refine BoxR.i fun h13 s13 k13 => ?_
          conv => whnf
          refine ⟨5 - (i + 1), by omega, ?_⟩
          conv => whnf
          refine ⟨i + 1, rfl, by rw [wrapN (x := (i : Int) + 1) (n := i + 1) (by simp) (by omega)], ?_, by omega, k12.new1 k13 (by omega), by omega⟩
          have hw : IntKind.i64.wrap ((gNums ws 9)[3 + i]'(by omega) - 1) = gNum ws (3 + i) - 1 := by
            rw [hgn (3 + i) (by omega)]
            have := hgb (3 + i) (by omega)
            exact wrapI (by omega) (by omega)
          refine congrArg (fun x => [(2, b1, Crd.zero.cells), (9, b10, x)]) ?_
          show spliceL (4 + i * 1) [.int .i64 (IntKind.i64.wrap ((gNums ws 9)[3 + i]'(by omega) - 1))] _ = _
          rw [hw]
          have : i = 0 ∨ i = 1 ∨ i = 2 ∨ i = 3 ∨ i = 4 := by omega
          rcases this with rfl | rfl | rfl | rfl | rfl <;> rfl
        · have hi5 : i = 5 := by simp at hd; omega
          subst hi5
          have gb0 := hgb 0 (by decide)
          have gb1 := hgb 1 (by decide)
          have gb2 := hgb 2 (by decide)
          have gb3 := hgb 3 (by decide)
          have gb4 := hgb 4 (by decide)
          have gb5 := hgb 5 (by decide)
          have gb6 := hgb 6 (by decide)
          have gb7 := hgb 7 (by decide)
          have gb8 := hgb 8 (by decide)
          have hok : (cardG ws).ok := by
            refine ⟨?_, ?_, ?_, fun x hx => ?_, ?_⟩
            · show inI64 (gNum ws 0); unfold inI64; omega
            · show inI64 (gNum ws 1); unfold inI64; omega
            · show inI64 (gNum ws 2); unfold inI64; omega
            · have hx : x ∈ [gNum ws 3 - 1, gNum ws 4 - 1, gNum ws 5 - 1, gNum ws 6 - 1, gNum ws 7 - 1] := hx
              simp only [List.mem_cons, List.not_mem_nil, or_false] at hx
              unfold inI64; omega
            · show inI64 (gNum ws 8 - 1); unfold inI64; omega
          conv => whnf
          refine CallR.i (write6_spec (cardG ws) hok h12) fun v h13 k13 hv => ?_
          have kk := k1.trans (k3.trans (k12.trans k13))
          by_cases hr : rightC (cardG ws) = true
          · rw [if_pos hr] at hv
            obtain ⟨b14, rfl, hb14, o14⟩ := hv
            have S14 : Sl h13 (some ⟨b14, 0, none⟩) 8 8 (cardW (cardG ws)) := Sl.of1' o14 (by simp [One.ok]) rfl (by show 8 ≤ 281474976710656; decide)
            conv => whnf
            refine IfR.t rfl ?_
            conv => whnf
            refine CallR.i (equalW_spec S14 (S.keep kk) (by decide)) fun v h15 k15 hv => ?_
            subst hv
            by_cases he : cardW (cardG ws) = ws
            · have hR : cardR ws = some (cardG ws) := by
                unfold cardR
                rw [if_pos ⟨hl.symm, hr, he⟩]
              rw [hR, decide_eq_true he]
              conv => whnf
              refine IfR.f rfl ?_
              conv => whnf
              refine BoxR.i fun h16 s16 k16 => ?_
              conv => whnf
              exact ⟨(kk.trans k15).new1 k16 (by omega), rfl⟩
            · have hR : cardR ws = none := by
                unfold cardR
                rw [if_neg (fun x => he x.2.2)]
              rw [hR, decide_eq_false he]
              conv => whnf
              refine IfR.t rfl ?_
              conv => whnf
              refine BoxR.i fun h16 s16 k16 => ?_
              conv => whnf
              exact ⟨(kk.trans k15).new1 k16 (by omega), rfl⟩
          · rw [if_neg hr] at hv
            subst hv
            have hR : cardR ws = none := by
              unfold cardR
              rw [if_neg (fun x => hr x.2.1)]
            rw [hR]
            conv => whnf
            refine IfR.f rfl ?_
            conv => whnf
            refine IfR.t rfl ?_
            conv => whnf
            refine BoxR.i fun h16 s16 k16 => ?_
            conv => whnf
            exact ⟨kk.new1 k16 (by omega), rfl⟩
end Go.Proofs.YtdfgkdoplagelaaGreatDoor
/-
  Layers 8, 9: a view's cards; numbers for files.
-/
set_option linter.all false
set_option maxRecDepth 100000
set_option maxHeartbeats 1000000
namespace Go.Proofs.YtdfgkdoplagelaaGreatDoor
open Go Go.Eng

def seeS (X : VS) (n : Int) : VS := { X with seen := addS X.seen n }
def setS (X : VS) (n : Int) (c : Crd) : VS := { X with now := setW X.now n c, seen := addS X.seen n, mine := addS X.mine n }

theorem At.see {h h' : Heap} {V : VL} {M : MemS} {X : VS} (A : At h V M X) {s : List Int} (k : Keeps [V.sb] h h') (m : MapL h' V.sb (setV s)) : At h' V M { X with seen := s } := by
  have a1 := A.ap1
  have ne := A.vne
  refine ⟨A.mem.keep k (fun b hb hx => ?_), k.obj A.obj (by simp; exact ne.2.1), ?_, m, A.mine.keep k (by simp; exact fun e => a1.2.2 e.symm), A.away.keep k (fun b hb => ?_), A.awayN.keep k (fun b hb => ?_), A.ap1, A.ap2, A.ap3⟩
  · have e : b = V.sb := by simpa using hx
    exact A.ap2 V.sb (by simp) (e ▸ hb)
  · obtain ⟨own, q1, q2⟩ := A.own
    exact ⟨own, q1.keep k (by simp; exact a1.1), q2⟩
  · have := A.ap3 b (by simp at hb ⊢; exact .inl hb)
    simp; exact this.2.1
  · have := A.ap3 b (by simp at hb ⊢; exact .inr hb)
    simp; exact this.2.1
theorem At.min_ {h h' : Heap} {V : VL} {M : MemS} {X : VS} (A : At h V M X) {s : List Int} (k : Keeps [V.mb] h h') (m : MapL h' V.mb (setV s)) : At h' V M { X with mine := s } := by
  have a1 := A.ap1
  have ne := A.vne
  refine ⟨A.mem.keep k (fun b hb hx => ?_), k.obj A.obj (by simp; exact ne.2.2), ?_, A.seen.keep k (by simp; exact a1.2.2), m, A.away.keep k (fun b hb => ?_), A.awayN.keep k (fun b hb => ?_), A.ap1, A.ap2, A.ap3⟩
  · have e : b = V.mb := by simpa using hx
    exact A.ap2 V.mb (by simp) (e ▸ hb)
  · obtain ⟨own, q1, q2⟩ := A.own
    exact ⟨own, q1.keep k (by simp; exact a1.2.1), q2⟩
  · have := A.ap3 b (by simp at hb ⊢; exact .inl hb)
    simp; exact this.2.2.1
  · have := A.ap3 b (by simp at hb ⊢; exact .inr hb)
    simp; exact this.2.2.1

def cardT (o : Option Crd) : Value := match o with | some c => .tuple #[.agg ⟨c.cells⟩, .int .i64 0] | none => .tuple #[.agg ⟨Crd.zero.cells⟩, .int .i64 15]

theorem vcard_spec {h : Heap} {V : VL} {M : MemS} {X : VS} (A : At h V M X) (n : Int) : CallH Tryz.prog 35 [.pointer (some ⟨V.v, 0, none⟩), .int .i64 n] h (fun v h' => Keeps [V.sb] h h' ∧
    (if 0 ≤ n ∧ n < 24 then v = cardT (cardR (rdL X.now (8 + n * 8) 8)) ∧ At h' V M (seeS X n) else v = .tuple #[.agg ⟨Crd.zero.cells⟩, .int .i64 1] ∧ At h' V M X)) := by
  have bl := A.blt
  refine call_of hmix Tryz.func35 rfl ok35 (by simp [Tryz.f35]) ?_
  conv => whnf
  refine AllocR.i fun b1 h1 e1 s1 o1 k1 => ?_
  conv => whnf
  refine CallR.i (cardAt_spec n h1) fun v h2 k2 hv => ?_
  subst hv
  have A2 := A.on (k1.trans k2)
  by_cases hn : 0 ≤ n ∧ n < 24
  · rw [if_pos hn, if_pos hn]
    conv => whnf
    refine IfR.f rfl ?_
    conv => whnf
    refine LoadR.o A2.obj rfl ?_
    conv => whnf
    refine SemR.put rfl rfl A2.seen (by simp [blocksOf, setB]; have := bl V.sb (by simp [VL.blocks]); omega) fun h3 s3 M3 k3 => ?_
    have A3 := A2.see k3 (by rw [← putI_set]; exact M3)
    conv => whnf
    refine CallR.i (read_spec A3 (8 + n * 8) 8 (by omega) (by decide)) fun v h4 k4 hv => ?_
    obtain ⟨b4, rfl, q1, q2, o4⟩ := hv
    have S4 : Sl h4 (some ⟨b4, 0, none⟩) 8 8 (rdL X.now (8 + n * 8) 8) := Sl.of1' o4 (by simp [One.ok]) (by simp [rdL]) (by simp [rdL])
    conv => whnf
    refine CallR.i (read6_spec S4) fun v h5 k5 hv => ?_
    have kk : Keeps [V.sb] h h5 := (((k1.trans k2).mono (by simp)).trans k3).trans_nil (k4.trans k5)
    have A5 := A3.on (k4.trans k5)
    have hb1 : ∀ b ∈ V.blocks, b ≠ b1 := fun b hb => by have := bl b hb; omega
    cases hc : cardR (rdL X.now (8 + n * 8) 8) with
    | some c =>
      rw [hc] at hv
      subst hv
      conv => whnf
      refine BoxR.i fun h6 s6 k6 => ?_
      conv => whnf
      refine ⟨kk.m1 k6 (by omega), ?_⟩
      rw [if_pos hn]
      exact ⟨rfl, A5.keep k6 (fun b hb => by simp; exact hb1 b hb)⟩
    | none =>
      rw [hc] at hv
      subst hv
      conv => whnf
      refine BoxR.i fun h6 s6 k6 => ?_
      conv => whnf
      refine ⟨kk.m1 k6 (by omega), ?_⟩
      rw [if_pos hn]
      exact ⟨rfl, A5.keep k6 (fun b hb => by simp; exact hb1 b hb)⟩
  · rw [if_neg hn, if_neg hn]
    conv => whnf
    refine IfR.t rfl ?_
    conv => whnf
    refine BoxR.i fun h3 s3 k3 => ?_
    conv => whnf
    have hb1 : ∀ b ∈ V.blocks, b ≠ b1 := fun b hb => by have := bl b hb; omega
    refine ⟨((k1.trans k2).mono (by simp)).m1 k3 (by omega), ?_⟩
    rw [if_neg hn]
    exact ⟨rfl, A2.keep k3 (fun b hb => by simp; exact hb1 b hb)⟩

theorem vset_spec {h : Heap} {V : VL} {M : MemS} {X : VS} (A : At h V M X) (n : Int) (hn : 0 ≤ n ∧ n < 24) (c : Crd) (hc : c.ok) (hr : rightC c = true) : CallH Tryz.prog 37 [.pointer (some ⟨V.v, 0, none⟩), .int .i64 n, .agg ⟨c.cells⟩] h (fun v h' => Keeps [V.ob, V.sb, V.mb] h h' ∧ v = .int .i64 0 ∧ At h' V M (setS X n c)) := by
  have bl := A.blt
  refine call_of hmix Tryz.func37 rfl ok37 (by simp [Tryz.f37]) ?_
  conv => whnf
  refine AllocR.i fun b1 h1 e1 s1 o1 k1 => ?_
  conv => whnf
  refine CallR.i (cardAt_spec n h1) fun v h2 k2 hv => ?_
  subst hv
  rw [if_pos hn, if_pos hn]
  conv => whnf
  refine CallR.i (write6_spec c hc h2) fun v h3 k3 hv => ?_
  rw [if_pos hr] at hv
  obtain ⟨b3, rfl, hb3, o3⟩ := hv
  have A3 := A.on (k1.trans (k2.trans k3))
  conv => whnf
  refine IfR.f rfl ?_
  conv => whnf
  refine LoadR.o A3.obj rfl ?_
  conv => whnf
  refine LoadR.o A3.obj rfl ?_
  have z1 := k1.size
  have z2 := k2.size
  have z3 := k3.size
  have nb1 : ∀ b ∈ V.blocks, b ≠ b1 := fun b hb => by have := bl b hb; omega
  have msb : V.sb ∈ V.blocks := by simp [VL.blocks]
  have mmb : V.mb ∈ V.blocks := by simp [VL.blocks]
  have a1 := A.ap1
  conv => whnf
  refine SemR.entryAny rfl rfl rfl rfl A3.seen (by simp [blocksOf, setB]; exact nb1 _ msb) fun h4 v4 born4 s4 Q4 k4 => ?_
  conv => whnf
  refine SemR.entryStoreAny Q4 (by simp [blocksOf, setB]; exact nb1 _ msb) fun h5 s5 M5 k5 => ?_
  rw [putI_set] at M5
  have A5 := A3.see (k4.trans k5) M5
  conv => whnf
  refine SemR.entryAny rfl rfl rfl rfl A5.mine (by simp [blocksOf, setB]; exact nb1 _ mmb) fun h6 v6 born6 s6 Q6 k6 => ?_
  conv => whnf
  refine SemR.entryStoreAny Q6 (by simp [blocksOf, setB]; exact nb1 _ mmb) fun h7 s7 M7 k7 => ?_
  rw [putI_set] at M7
  have A7 := A5.min_ (k6.trans k7) M7
  have nb3 : ∀ b ∈ V.blocks, b ≠ b3 := fun b hb => by have := bl b hb; omega
  have o7 := (k6.trans k7).obj ((k4.trans k5).obj o3 (by simp; exact fun e => nb3 _ msb e.symm)) (by simp; exact fun e => nb3 _ mmb e.symm)
  have S7 : Sl h7 (some ⟨b3, 0, none⟩) 8 8 (cardW c) := Sl.of1' o7 (by simp [One.ok]) rfl (by show 8 ≤ 281474976710656; decide)
  conv => whnf
  refine CallR.m (writes_spec A7 (8 + n * 8) S7 (by omega) (by decide) (fun i hi => by simp [openW]; omega) (by simp [blkA]; exact nb3 V.ob (by simp [VL.blocks]))) (fun y hy hx => by
    have hy2 : y = b1 := by simpa [blocksOf, setB] using hy
    have hx2 : y = V.ob := by simpa using hx
    exact nb1 V.ob (by simp [VL.blocks]) (hx2.symm.trans hy2)) fun v h8 k8 hv => ?_
  conv => whnf
  refine ⟨?_, rfl, hv⟩
  exact ((((k1.trans (k2.trans k3)).mono (by simp)).trans ((k4.trans k5).mono (by simp))).trans ((k6.trans k7).mono (by simp))).trans (k8.mono (by simp))

theorem avoidsN_spec {h : Heap} {V : VL} {M : MemS} {X : VS} (A : At h V M X) (k : Int) : CallH Tryz.prog 63 [.pointer (some ⟨V.v, 0, none⟩), .int .i64 k] h (fun v h' => Keeps [] h h' ∧ v = .bool (decide (k ∈ X.awayN))) := by
  have ha := A.awayN
  have ho := A.obj
  cases hab : V.anb with
  | none =>
    rw [hab] at ha ho
    refine call_of hmix Tryz.func63 rfl ok63 (by simp [Tryz.f63]) ?_
    conv => whnf
    refine LoadR.u (.map none) (fun _ => by unfold Heap.cell?; rw [ho]; rfl) ?_
    conv => whnf
    have : X.awayN = [] := ha
    exact ⟨Keeps.refl _ _, by rw [this]; rfl⟩
  | some r =>
    rw [hab] at ha ho
    refine call_of hmix Tryz.func63 rfl ok63 (by simp [Tryz.f63]) ?_
    conv => whnf
    refine LoadR.u (.map (some r)) (fun _ => by unfold Heap.cell?; rw [ho]; rfl) ?_
    conv => whnf
    refine LookR.z (.bool false) ha rfl (setV_get _ _) ?_
    conv => whnf
    exact ⟨Keeps.refl _ _, rfl⟩

/-! ### Numbers for files -/

/-- is a number free? -/
def freeC (X : VS) (n : Int) : Bool := decide (getF (X.now (8 + n * 8)) 0 8 = 0) && !decide (n ∈ X.awayN)
def firstC (X : VS) : Nat → Nat → Option Nat
  | 0, _ => none
  | f + 1, i => if freeC X (i : Int) then some i else firstC X f (i + 1)
theorem firstC_is {X : VS} : ∀ {f i k : Nat}, firstC X f i = some k → freeC X (k : Int) = true ∧ i ≤ k ∧ k < i + f
  | 0, _, _, h => by cases h
  | f + 1, i, k, h => by
    unfold firstC at h
    split at h
    · cases h; rename_i hh; exact ⟨hh, Nat.le_refl _, by omega⟩
    · have := firstC_is h; exact ⟨this.1, by omega, by omega⟩
def nodeP (X : VS) (kind : Int) : Int × Int × VS :=
  if 1 ≤ kind ∧ kind ≤ 3 then (match firstC X 22 2 with | some n => ((n : Int), 0, setS X n (freshC kind (X.now (8 + (n : Int) * 8 + 1) + 1))) | none => (0, 9, X)) else (0, 1, X)

theorem freshC_ok {kind : Int} (hk : 1 ≤ kind ∧ kind ≤ 3) (v : UInt64) : (freshC kind v).ok ∧ rightC (freshC kind v) = true := by
  have e1 : (freshC kind v).kind = kind := rfl
  have hr : rightC (freshC kind v) = true := by
    unfold rightC
    rw [e1, if_neg (by omega)]
    have : (freshC kind v).direct.all blockC = true := rfl
    rw [this]
    have e2 : (freshC kind v).links = 1 := rfl
    have e3 : (freshC kind v).size = 0 := rfl
    have e4 : (freshC kind v).more = -1 := rfl
    rw [e2, e3, e4]
    simp [blockC]; omega
  exact ⟨crdB_ok (rightC_b hr), hr⟩

theorem wv_succ (w : UInt64) : Value.int .u64 (IntKind.u64.wrap ((w.toNat : Int) + 1)) = wv (w + 1) := by
  have h : IntKind.u64.wrap ((w.toNat : Int) + 1) = (((w + 1).toNat : Nat) : Int) := by
    have h1 : (1 : UInt64).toNat = 1 := rfl
    rw [wrap_u64', UInt64.toNat_add, h1]
    have := w.toNat_lt
    omega
  rw [h]; rfl

theorem node_spec {h : Heap} {V : VL} {M : MemS} {X : VS} (A : At h V M X) (kind : Int) : CallH Tryz.prog 33 [.pointer (some ⟨V.v, 0, none⟩), .int .i64 kind] h (fun v h' => Keeps [V.ob, V.sb, V.mb] h h' ∧ v = .tuple #[.int .i64 (nodeP X kind).1, .int .i64 (nodeP X kind).2.1] ∧ At h' V M (nodeP X kind).2.2) := by
  have bl := A.blt
  refine call_of hmix Tryz.func33 rfl ok33 (by simp [Tryz.f33]) ?_
  conv => whnf
  refine CallR.i (fresh6_spec kind 0 h) fun v h1 k1 hv => ?_
  subst hv
  unfold nodeP
  by_cases hk : 1 ≤ kind ∧ kind ≤ 3
  · rw [if_pos hk, if_pos hk]
    conv => whnf
    refine AllocR.i fun b2 h2 e2 s2 o2 k2 => ?_
    conv => whnf
    refine BoxR.i fun h3 s3 k3 => ?_
    conv => whnf
    refine IfR.f rfl ?_
    have kk : Keeps [] h h3 := (k1.trans k2).new1 k3 (by have := k1.size; omega)
    conv => whnf
    refine LoopR.on [0, 1, 8] [] (fun i : Nat => [(0, .v (.pointer (some ⟨V.v, 0, none⟩))), (1, .v (.int .i64 kind)), (8, .v (.int .i64 (i : Int)))]) (fun _ => [])
      (fun i h' => 2 ≤ i ∧ i ≤ 24 ∧ Keeps [] h h' ∧ firstC X 22 2 = firstC X (24 - i) i) (fun i => 24 - i) 2 ?_ ?_
    · conv => whnf
      exact ⟨2, rfl, rfl, rfl, by decide, by decide, kk, rfl⟩
    · rintro i h4 ⟨hi2, hi, k4, hf⟩
      have A4 := A.on k4
      conv => whnf
      refine IfR.i (fun hc => ?_) (fun hc => ?_)
      · have hi1 : i < 24 := by simp at hc; omega
        rw [show 24 - i = (24 - (i + 1)) + 1 by omega] at hf
        have hstep : firstC X (24 - (i + 1) + 1) i = if freeC X (i : Int) then some i else firstC X (24 - (i + 1)) (i + 1) := rfl
        rw [hstep] at hf
        conv => whnf
        refine CallR.i (cardAt_spec (i : Int) h4) fun v h5 k5 hv => ?_
        subst hv
        rw [if_pos (show 0 ≤ (i : Int) ∧ (i : Int) < 24 by omega), if_pos (show 0 ≤ (i : Int) ∧ (i : Int) < 24 by omega)]
        have A5 := A4.on k5
        conv => whnf
        refine CallR.i (vread_spec A5 (8 + (i : Int) * 8)) fun v h6 k6 hv => ?_
        subst hv
        have A6 := A5.on k6
        conv => whnf
        refine CallR.i (get_spec (X.now (8 + (i : Int) * 8)) 0 8 (by unfold fldOk; decide) h6) fun v h7 k7 hv => ?_
        subst hv
        have A7 := A6.on k7
        have hz0 : (((getF (X.now (8 + (i : Int) * 8)) 0 8).toNat : Int) = 0) ↔ getF (X.now (8 + (i : Int) * 8)) 0 8 = 0 := by
          constructor
          · intro e
            exact UInt64.toNat_inj.1 (by simpa using e)
          · intro e; rw [e]; rfl
        have next : ∀ h8, Keeps [] h7 h8 → freeC X (i : Int) = false → Keeps [] h h8 ∧ firstC X 22 2 = firstC X (24 - (i + 1)) (i + 1) := by
          intro h8 k8 hfree
          refine ⟨k4.trans (k5.trans (k6.trans (k7.trans k8))), ?_⟩
          rw [hf, if_neg (by rw [hfree]; simp)]
        conv => whnf
        refine IfR.i (fun hq => ?_) (fun hq => ?_)
        · have hw0 : getF (X.now (8 + (i : Int) * 8)) 0 8 = 0 := hz0.1 (by simpa using hq)
          conv => whnf
          refine CallR.i (avoidsN_spec A7 (i : Int)) fun v h8 k8 hv => ?_
          subst hv
          have A8 := A7.on k8
          by_cases hav : (i : Int) ∈ X.awayN
          · conv => whnf
            refine IfR.t (by simp [hav, bif_or]) ?_
            conv => whnf
            refine ⟨24 - (i + 1), by omega, ?_⟩
            conv => whnf
            obtain ⟨n1, n2⟩ := next h8 k8 (by unfold freeC; rw [decide_eq_true hav]; simp)
            exact ⟨i + 1, rfl, by rw [wrapN (x := (i : Int) + 1) (n := i + 1) (by simp) (by omega)], rfl, by omega, by omega, n1, n2⟩
          · conv => whnf
            refine IfR.f (by simp [hav, bif_or, hw0]) ?_
            have hfree : freeC X (i : Int) = true := by unfold freeC; rw [decide_eq_true hw0, decide_eq_false hav]; rfl
            rw [if_pos hfree] at hf
            rw [hf]
            have e1 : IntKind.i64.wrap (8 + (i : Int) * 8 + 1) = 8 + (i : Int) * 8 + 1 := wrapI (by omega) (by omega)
            conv => whnf
            rw [e1]
            refine CallR.i (vread_spec A8 (8 + (i : Int) * 8 + 1)) fun v h9 k9 hv => ?_
            subst hv
            have A9 := A8.on k9
            conv => whnf
            rw [wv_succ]
            refine CallR.i (fresh6_spec kind _ h9) fun v h10 k10 hv => ?_
            rw [if_pos hk] at hv
            subst hv
            have A10 := A9.on k10
            conv => whnf
            refine AllocR.i fun b11 h11 e11 s11 o11 k11 => ?_
            conv => whnf
            refine BoxR.i fun h12 s12 k12 => ?_
            have A11 := A10.on k11
            have z11 : ∀ b ∈ V.blocks, b < h10.size := fun b hb => A10.blt b hb
            have A12 := A11.keep k12 (fun b hb => by simp; have := z11 b hb; omega)
            obtain ⟨fo, fr⟩ := freshC_ok hk (X.now (8 + (i : Int) * 8 + 1) + 1)
            conv => whnf
            refine CallR.m (vset_spec A12 (i : Int) (by omega) (freshC kind (X.now (8 + (i : Int) * 8 + 1) + 1)) fo fr) (fun y hy hx => by
                have hy2 : y = b11 := by simpa [blocksOf, setB] using hy
                have q1 := z11 V.ob (by simp [VL.blocks])
                have q2 := z11 V.sb (by simp [VL.blocks])
                have q3 := z11 V.mb (by simp [VL.blocks])
                simp at hx; omega) fun v h13 k13 hv => ?_
            obtain ⟨rfl, A13⟩ := hv
            conv => whnf
            have k0 : Keeps [] h h10 := k4.trans (k5.trans (k6.trans (k7.trans (k8.trans (k9.trans k10)))))
            have z0 := k0.size
            exact ⟨((k0.trans k11).new1 k12 (by omega)).mono (by simp) |>.trans k13, rfl, A13⟩
        · have hw0 : ¬ getF (X.now (8 + (i : Int) * 8)) 0 8 = 0 := fun e => by
            have := hz0.2 e
            rw [this] at hq; simp at hq
          conv => whnf
          refine IfR.t (by
              have : ¬ ((getF (X.now (8 + (i : Int) * 8)) 0 8).toNat : Int) = 0 := fun e => hw0 (hz0.1 e)
              simp [bif_or]
              omega) ?_
          conv => whnf
          refine ⟨24 - (i + 1), by omega, ?_⟩
          conv => whnf
          obtain ⟨n1, n2⟩ := next h7 (Keeps.refl _ _) (by unfold freeC; rw [decide_eq_false hw0]; rfl)
          exact ⟨i + 1, rfl, by rw [wrapN (x := (i : Int) + 1) (n := i + 1) (by simp) (by omega)], rfl, by omega, by omega, n1, n2⟩
      · have hi1 : i = 24 := by simp at hc; omega
        subst hi1
        conv => whnf
        have hf0 : firstC X 22 2 = none := hf
        rw [hf0]
        exact ⟨k4.mono (by simp), rfl, A4⟩
  · rw [if_neg hk, if_neg hk]
    conv => whnf
    refine AllocR.i fun b2 h2 e2 s2 o2 k2 => ?_
    conv => whnf
    refine BoxR.i fun h3 s3 k3 => ?_
    conv => whnf
    refine IfR.t rfl ?_
    conv => whnf
    have kk : Keeps [] h h3 := (k1.trans k2).new1 k3 (by have := k1.size; omega)
    exact ⟨kk.mono (by simp), rfl, A.on kk⟩

/-! ### A number is given back -/

def releaseP (X : VS) (n : Int) : Int × VS :=
  if 0 ≤ n ∧ n < 24 then (match cardR (rdL X.now (8 + n * 8) 8) with | none => (15, seeS X n) | some c => if c.kind = 0 then (15, seeS X n) else (0, setS (seeS X n) n (noneC (c.ver + 1)))) else (1, X)

theorem noneC_ok (v : UInt64) : (noneC v).ok ∧ rightC (noneC v) = true := by
  have hr : rightC (noneC v) = true := by
    unfold rightC
    rw [if_pos (show (noneC v).kind = 0 from rfl)]
    exact decide_eq_true rfl
  exact ⟨crdB_ok (rightC_b hr), hr⟩

theorem release_spec {h : Heap} {V : VL} {M : MemS} {X : VS} (A : At h V M X) (n : Int) : CallH Tryz.prog 34 [.pointer (some ⟨V.v, 0, none⟩), .int .i64 n] h (fun v h' => Keeps [V.ob, V.sb, V.mb] h h' ∧ v = .int .i64 (releaseP X n).1 ∧ At h' V M (releaseP X n).2) := by
  refine call_of hmix Tryz.func34 rfl ok34 (by simp [Tryz.f34]) ?_
  conv => whnf
  refine CallR.m (vcard_spec A n) (by simp [blocksOf]) fun v h1 k1 hv => ?_
  unfold releaseP
  have fin : ∀ (e : Int) (Y : VS) (h2 h3 : Heap) (b2 : Nat), b2 = h1.size → Keeps [] h1 h2 → Keeps [b2] h2 h3 → At h1 V M Y → Keeps [V.ob, V.sb, V.mb] h h3 ∧ At h3 V M Y := by
    intro e Y h2 h3 b2 e2 k2 k3 AY
    have kk : Keeps [] h1 h3 := k2.new1 k3 (by omega)
    exact ⟨(k1.mono (by simp)).trans_nil kk, AY.on kk⟩
  by_cases hn : 0 ≤ n ∧ n < 24
  · rw [if_pos hn] at hv ⊢
    obtain ⟨rfl, A1⟩ := hv
    cases hc : cardR (rdL X.now (8 + n * 8) 8) with
    | none =>
      unfold cardT
      conv => whnf
      refine AllocR.i fun b2 h2 e2 s2 o2 k2 => ?_
      conv => whnf
      refine BoxR.i fun h3 s3 k3 => ?_
      conv => whnf
      refine IfR.t rfl ?_
      conv => whnf
      obtain ⟨f1, f2⟩ := fin 0 _ h2 h3 b2 e2 k2 k3 A1
      exact ⟨f1, rfl, f2⟩
    | some c =>
      unfold cardT
      conv => whnf
      refine AllocR.i fun b2 h2 e2 s2 o2 k2 => ?_
      conv => whnf
      refine BoxR.i fun h3 s3 k3 => ?_
      conv => whnf
      refine IfR.f rfl ?_
      obtain ⟨f1, f2⟩ := fin 0 _ h2 h3 b2 e2 k2 k3 A1
      conv => whnf
      refine IfR.i (fun hk => ?_) (fun hk => ?_)
      · conv => whnf
        have h0 : c.kind = 0 := by simpa using hk
        refine ⟨f1, ?_⟩
        simp only
        rw [if_pos h0]
        exact ⟨rfl, f2⟩
      · have h0 : ¬ c.kind = 0 := by simpa using hk
        conv => whnf
        rw [wv_succ]
        refine CallR.i (none6_spec _ h3) fun v h4 k4 hv => ?_
        subst hv
        obtain ⟨no, nr⟩ := noneC_ok (c.ver + 1)
        have A4 := f2.on k4
        have z1 := fun b hb => A1.blt b hb
        conv => whnf
        refine CallR.m (vset_spec A4 n hn (noneC (c.ver + 1)) no nr) (fun y hy hx => by
            have hy2 : y = b2 := by simpa [blocksOf, setB] using hy
            have q1 := z1 V.ob (by simp [VL.blocks])
            have q2 := z1 V.sb (by simp [VL.blocks])
            have q3 := z1 V.mb (by simp [VL.blocks])
            simp at hx; omega) fun v h5 k5 hv => ?_
        obtain ⟨rfl, A5⟩ := hv
        conv => whnf
        refine ⟨(f1.trans_nil k4).trans k5, ?_⟩
        simp only
        rw [if_neg h0]
        exact ⟨rfl, A5⟩
  · rw [if_neg hn] at hv ⊢
    obtain ⟨rfl, A1⟩ := hv
    conv => whnf
    refine AllocR.i fun b2 h2 e2 s2 o2 k2 => ?_
    conv => whnf
    refine BoxR.i fun h3 s3 k3 => ?_
    conv => whnf
    refine IfR.t rfl ?_
    conv => whnf
    obtain ⟨f1, f2⟩ := fin 0 _ h2 h3 b2 e2 k2 k3 A1
    exact ⟨f1, rfl, f2⟩
end Go.Proofs.YtdfgkdoplagelaaGreatDoor
/-
  Layer 4: a path's names; functions of package strings that cut texts.
-/
set_option linter.all false
set_option maxRecDepth 100000
set_option maxHeartbeats 1000000
namespace Go.Proofs.YtdfgkdoplagelaaGreatDoor
open Go Go.Eng

/-- texts, as a program has them -/
def ba (l : List UInt8) : ByteArray := ⟨l.toArray⟩
def bas (l : List (List UInt8)) : List ByteArray := l.map ba
theorem ba_list (l : List UInt8) : (ba l).data.toList = l := by simp [ba]

theorem odd4_spec (l : List UInt8) (hl : l.length ≤ 140737488351232) (h : Heap) : CallH Tryz.prog 42 [.string (ba l)] h (fun v h' => Keeps [] h h' ∧ v = .bool (!nameB l)) := by
  refine call_of hmix Tryz.func42 rfl ok42 (by simp [Tryz.f42]) ?_
  conv => whnf
  refine CallR.i (right4_spec l hl h) fun v h1 k1 hv => ?_
  subst hv
  conv => whnf
  exact ⟨k1, rfl⟩

def idxO : List (List UInt8) → Nat → Int
  | [], _ => -1
  | x :: l, i => if nameB x = false then (i : Int) else idxO l (i + 1)
theorem idxO_all : ∀ (l : List (List UInt8)) (i : Nat), decide (0 ≤ idxO l i) = !(l.all nameB)
  | [], i => rfl
  | x :: l, i => by
    simp only [idxO, List.all_cons]
    split
    · rename_i hp; rw [hp]; simp
    · rename_i hp
      rw [idxO_all l (i + 1)]
      simp [hp]

theorem indexOdd_spec {h : Heap} {a : Option Addr} {n c : Nat} {xs : List (List UInt8)} (S : Sl h a n c (bas xs)) (hn : n ≤ 1000000000) (hx : ∀ x ∈ xs, x.length ≤ 140737488351232) :
    CallH Tryz.prog 84 [.slice a n c, .func (.func 42) #[] #[]] h (fun v h' => Keeps [] h h' ∧ v = .int .i64 (idxO xs 0)) := by
  have hl := S.hlen
  have hb : (bas xs).length = xs.length := by simp [bas]
  refine call_of hmix Tryz.func84 rfl ok84 (by simp [Tryz.f84]) ?_
  conv => whnf
  refine LoopR.on [0, 1, 7, 8] [] (fun i : Nat => [(0, .v (.slice a n c)), (1, .v (.func (.func 42) #[] #[])), (7, .v (.int .i64 (n : Int))), (8, .v (.int .i64 (i : Int)))]) (fun _ => [])
    (fun i h' => i ≤ n ∧ Keeps [] h h' ∧ idxO xs 0 = idxO (xs.drop i) i) (fun i => n - i) 0 ?_ ?_
  · conv => whnf
    exact ⟨0, rfl, rfl, rfl, Nat.zero_le _, Keeps.refl _ _, rfl⟩
  · rintro i h2 ⟨hi, k2, hI⟩
    conv => whnf
    refine IfR.i (fun hc => ?_) (fun hc => ?_)
    · have hi1 : i < xs.length := by simp at hc; omega
      obtain ⟨b, off, hb', _, hcell⟩ := (S.keep k2).at1 i (by omega)
      have e : (bas xs)[i]'(by omega) = ba xs[i] := by simp [bas]
      rw [e] at hcell
      rw [List.drop_eq_getElem_cons hi1] at hI
      simp only [idxO] at hI
      conv => whnf
      refine IdxS.i i rfl (by omega) hb' ?_
      conv => whnf
      refine LoadR.i hcell ?_
      conv => whnf
      refine CallR.i (odd4_spec xs[i] (hx _ (List.getElem_mem _)) h2) fun v h3 k3 hv => ?_
      subst hv
      conv => whnf
      refine IfR.i (fun hd => ?_) (fun hd => ?_)
      · conv => whnf
        rw [if_pos (by simpa using hd)] at hI
        exact ⟨k2.trans k3, by rw [hI]⟩
      · rw [if_neg (by simpa using hd)] at hI
        conv => whnf
        refine ⟨n - (i + 1), by omega, ?_⟩
        conv => whnf
        exact ⟨i + 1, rfl, by rw [wrapN (n := i + 1) (by simp) (by omega)], rfl, by omega, k2.trans k3, hI⟩
    · have hi1 : i = xs.length := by simp at hc; omega
      conv => whnf
      refine ⟨k2, ?_⟩
      rw [hI, hi1, List.drop_length]; rfl
theorem containsOdd_spec {h : Heap} {a : Option Addr} {n c : Nat} {xs : List (List UInt8)} (S : Sl h a n c (bas xs)) (hn : n ≤ 1000000000) (hx : ∀ x ∈ xs, x.length ≤ 140737488351232) :
    CallH Tryz.prog 41 [.slice a n c, .func (.func 42) #[] #[]] h (fun v h' => Keeps [] h h' ∧ v = .bool (!(xs.all nameB))) := by
  refine call_of hmix Tryz.func41 rfl ok41 (by simp [Tryz.f41]) ?_
  conv => whnf
  refine CallR.i (indexOdd_spec S hn hx) fun v h1 k1 hv => ?_
  subst hv
  conv => whnf
  refine ⟨k1, ?_⟩
  rw [← idxO_all xs 0]

/-! ### Cutting -/

theorem hasPrefix_spec (l : List UInt8) (hl : l.length ≤ 140737488351232) (h : Heap) : CallH Tryz.prog 123 [.string (ba l), .string ⟨#[47]⟩] h (fun v h' => Keeps [] h h' ∧ v = .bool (decide (l.head? = some 47))) := by
  have hs : (ba l).size = l.length := bs_size l
  refine call_of hmix Tryz.func123 rfl ok123 (by simp [Tryz.f123]) ?_
  conv => whnf
  refine SliceR.u 0 1 (fun hg => ?_) ?_
  · have hz : (ByteArray.mk #[47]).size = 1 := rfl
    rw [hz] at hg
    simp at hg
    exact ⟨rfl, rfl, by omega, by omega⟩
  conv => whnf
  refine ⟨Keeps.refl _ _, ?_⟩
  have e0 : (ByteArray.mk #[47]) = ⟨([47] : List UInt8).toArray⟩ := rfl
  have e1 : (ba l).extract 0 1 = ⟨((l.take 1).drop 0).toArray⟩ := bs_extract l 0 1
  rw [e1, e0, bs_eq, hs, bs_size]
  congr 1
  cases l with
  | nil => simp
  | cons c r =>
    simp [bif_and]
    intro _; omega

theorem cutPre_spec (l : List UInt8) (hl : l.length ≤ 140737488351232) (h : Heap) : CallH Tryz.prog 39 [.string (ba l), .string ⟨#[47]⟩] h (fun v h' => Keeps [] h h' ∧ v = if l.head? = some 47 then .tuple #[.string (ba (l.drop 1)), .bool true] else .tuple #[.string (ba l), .bool false]) := by
  have hs : (ba l).size = l.length := bs_size l
  refine call_of hmix Tryz.func39 rfl ok39 (by simp [Tryz.f39]) ?_
  conv => whnf
  refine CallR.i (?_ : CallH Tryz.prog 82 [.string (ba l), .string ⟨#[47]⟩] h (fun v h' => Keeps [] h h' ∧ v = if l.head? = some 47 then .tuple #[.string (ba (l.drop 1)), .bool true] else .tuple #[.string (ba l), .bool false])) fun v h1 k1 hv => ?_
  · refine call_of hmix Tryz.func82 rfl ok82 (by simp [Tryz.f82]) ?_
    conv => whnf
    refine CallR.i (hasPrefix_spec l hl h) fun v h1 k1 hv => ?_
    subst hv
    conv => whnf
    refine IfR.i (fun hc => ?_) (fun hc => ?_)
    · conv => whnf
      have : ¬ l.head? = some 47 := by simpa using hc
      rw [if_neg this]
      exact ⟨k1, rfl⟩
    · have hh : l.head? = some 47 := by simpa using hc
      have hpos : 1 ≤ l.length := by
        cases l with
        | nil => simp at hh
        | cons c r => simp
      conv => whnf
      refine SliceR.i 1 l.length rfl (by rw [hs]) (by omega) (by omega) ?_
      conv => whnf
      rw [if_pos hh]
      refine ⟨k1, ?_⟩
      have e1 : (ba l).extract 1 l.length = ⟨((l.take l.length).drop 1).toArray⟩ := bs_extract l 1 l.length
      rw [e1, List.take_length]; rfl
  · subst hv
    by_cases hh : l.head? = some 47
    · rw [if_pos hh]
      conv => whnf
      exact ⟨k1, rfl⟩
    · rw [if_neg hh]
      conv => whnf
      exact ⟨k1, rfl⟩

theorem index47_spec (l : List UInt8) (h : Heap) : CallH Tryz.prog 152 [.string ⟨l.toArray⟩, .string ⟨#[47]⟩] h (fun v h' => Keeps [] h h' ∧ v = .int .i64 (Lib.indexByte l 47)) := by
  refine call_of hmix Tryz.func152 rfl ok152 (by simp [Tryz.f152]) ?_
  conv => whnf
  have e0 : (ByteArray.mk #[47]) = ⟨([47] : List UInt8).toArray⟩ := rfl
  refine IfR.i (fun h1 => ?_) (fun h1 => ?_)
  · conv => whnf
    refine ⟨Keeps.refl _ _, ?_⟩
    have : l = [47] := by
      have h1 : ((ByteArray.mk #[47]).toList == (ByteArray.mk l.toArray).toList) = true := h1
      rw [e0, bs_eq] at h1
      simpa [eq_comm] using h1
    subst this; rfl
  · conv => whnf
    refine IfR.t rfl ?_
    conv => whnf
    refine IdxR.i 0 rfl (by decide) ?_
    conv => whnf
    refine CallR.i (slIndexByte_spec l 47 h) fun v h1 k1 hv => ?_
    subst hv
    conv => whnf
    exact ⟨k1, rfl⟩
theorem strIndex_spec (l : List UInt8) (h : Heap) : CallH Tryz.prog 126 [.string ⟨l.toArray⟩, .string ⟨#[47]⟩] h (fun v h' => Keeps [] h h' ∧ v = .int .i64 (Lib.indexByte l 47)) := by
  refine call_of hmix Tryz.func126 rfl ok126 (by simp [Tryz.f126]) ?_
  conv => whnf
  refine CallR.i (index47_spec l h) fun v h1 k1 hv => ?_
  subst hv
  conv => whnf
  exact ⟨k1, rfl⟩
theorem count_spec (l : List UInt8) (h : Heap) : CallH Tryz.prog 125 [.string ⟨l.toArray⟩, .string ⟨#[47]⟩] h (fun v h' => Keeps [] h h' ∧ v = .int .i64 (l.count 47 : Nat)) := by
  refine call_of hmix Tryz.func125 rfl ok125 (by simp [Tryz.f125]) ?_
  conv => whnf
  refine IfR.f rfl ?_
  conv => whnf
  refine IfR.t rfl ?_
  conv => whnf
  refine IdxR.i 0 rfl (by decide) ?_
  conv => whnf
  refine SemR.ext rfl (by kernel_rfl) (by kernel_rfl) (by kernel_rfl) (e := Extern.BytealgCount.count) (by kernel_rfl) (SemR.pure (fun w _ => Lib.run_countString (P := Tryz.prog) _ _ w) ?_)
  conv => whnf
  refine ⟨Keeps.refl _ _, ?_⟩
  have e1 : (byteN (ByteArray.mk #[47]) 0).toNat.toUInt8 = 47 := by decide
  rw [e1]
  simp [Lib.countByte]

theorem cutS_index : ∀ s : List UInt8, (Lib.indexByte s 47 = -1 ∧ cutS s = [s] ∧ s.count 47 = 0) ∨ (∃ i : Nat, i < s.length ∧ Lib.indexByte s 47 = (i : Int) ∧ cutS s = s.take i :: cutS (s.drop (i + 1)) ∧ s.count 47 = (s.drop (i + 1)).count 47 + 1)
  | [] => .inl ⟨rfl, rfl, rfl⟩
  | c :: l => by
    by_cases hc : c = 47
    · subst hc
      exact .inr ⟨0, by simp, by simp [Lib.indexByte], by simp [cutS], by simp⟩
    · rcases cutS_index l with ⟨h1, h2, h3⟩ | ⟨i, h1, h2, h3, h4⟩
      · refine .inl ⟨by simp [Lib.indexByte, hc, h1], ?_, by rw [List.count_cons_of_ne hc]; exact h3⟩
        unfold cutS
        rw [if_neg hc, h2]
      · refine .inr ⟨i + 1, by simpa using h1, by simp [Lib.indexByte, hc, h2], ?_, ?_⟩
        · have e : cutS (c :: l) = (match cutS l with | [] => [[c]] | x :: r => (c :: x) :: r) := by
            conv => lhs; unfold cutS
            rw [if_neg hc]
            rfl
          rw [e, h3]
          simp
        · rw [List.count_cons_of_ne hc, h4]
          simp

theorem cutS_count : ∀ s : List UInt8, (cutS s).length = s.count 47 + 1
  | [] => rfl
  | c :: l => by
    have ih := cutS_count l
    unfold cutS
    by_cases h : c = 47
    · rw [if_pos h, h]; simp [ih]
    · rw [if_neg h, List.count_cons_of_ne h]
      cases hc : cutS l with
      | nil => exact absurd hc (cutS_ne l)
      | cons x r => rw [hc] at ih; simpa using ih

theorem split_spec (l : List UInt8) (hl : l.length ≤ 10000) (h : Heap) : CallH Tryz.prog 83 [.string ⟨l.toArray⟩, .string ⟨#[47]⟩, .int .i64 0, .int .i64 (-1)] h (fun v h' => Keeps [] h h' ∧ ∃ b, v = .slice (some ⟨b, 0, none⟩) (l.count 47 + 1) (l.count 47 + 1) ∧ h.size ≤ b ∧ h'[b]? = some (.cells ⟨(bas (cutS l)).map fun x => .string x⟩ 9 (0, 0))) := by
  have hcl : l.count 47 ≤ l.length := List.count_le_length
  refine call_of hmix Tryz.func83 rfl ok83 (by simp [Tryz.f83]) ?_
  conv => whnf
  refine IfR.f rfl ?_
  conv => whnf
  refine IfR.f (by rw [toList_beq]; rfl) ?_
  conv => whnf
  first | refine IfR.t rfl ?_ | (refine MeetR.pass ?_; (conv => whnf); refine IfR.t rfl ?_)
  conv => whnf
  refine CallR.i (count_spec l h) fun v h1 k1 hv => ?_
  subst hv
  conv => whnf
  have hs : (ByteArray.mk l.toArray).size = l.length := bs_size l
  have e1 : IntKind.i64.wrap ((l.count 47 : Nat) + 1 : Int) = ((l.count 47 + 1 : Nat) : Int) := wrapN (by omega) (by omega)
  have e2 : IntKind.i64.wrap (((ByteArray.mk l.toArray).size : Int) + 1) = ((l.length + 1 : Nat) : Int) := by rw [hs]; exact wrapN (by omega) (by omega)
  have e4 : (if IntKind.i64.wrap (((ByteArray.mk l.toArray).size : Int) + 1) < IntKind.i64.wrap ((l.count 47 : Nat) + 1 : Int) then IntKind.i64.wrap (((ByteArray.mk l.toArray).size : Int) + 1) else IntKind.i64.wrap ((l.count 47 : Nat) + 1 : Int)) = ((l.count 47 + 1 : Nat) : Int) := by
    rw [e1, e2]; split <;> omega
  rw [e4]
  refine SemR.make (n := l.count 47 + 1) rfl rfl rfl rfl rfl (by show 16 * _ ≤ _; omega) (by omega) fun b2 h2 e2' s2 o2 k2 => ?_
  conv => whnf
  have e5 : IntKind.i64.wrap (((l.count 47 + 1 : Nat) : Int) - 1) = ((l.count 47 : Nat) : Int) := wrapN (by omega) (by omega)
  rw [e5]
  generalize hm : l.count 47 = m at *
  refine MeetR.pass ?_
  conv => whnf
  refine LoopR.on [0, 1, 2, 3, 9, 10] [] (fun q : Nat × List UInt8 => [(0, .v (.string ⟨q.2.toArray⟩)), (1, .v (.string ⟨#[47]⟩)), (2, .v (.int .i64 0)), (3, .v (.int .i64 (m : Int))), (9, .v (.slice (some ⟨b2, 0, none⟩) (m + 1) (m + 1))), (10, .v (.int .i64 (q.1 : Int)))]) (fun _ => [])
    (fun q h' => q.1 + q.2.count 47 = m ∧ q.2.length ≤ l.length ∧ Keeps [] h h' ∧ ∃ done : List (List UInt8), done.length = q.1 ∧ cutS l = done ++ cutS q.2 ∧ h'[b2]? = some (.cells ⟨((bas done).map fun x => .string x) ++ List.replicate (m + 1 - q.1) (.string ⟨#[]⟩)⟩ 9 (0, 0))) (fun q => m - q.1) (0, l) ?_ ?_
  · conv => whnf
    refine ⟨(0, l), rfl, rfl, rfl, by simp [hm], Nat.le_refl _, k1.trans k2, [], rfl, rfl, ?_⟩
    exact o2
  · rintro ⟨i, s⟩ h3 ⟨hi, hsl, k3, done, hd, hcut, o3⟩
    simp only at hi hsl hd hcut o3
    conv => whnf
    refine IfR.i (fun hc => ?_) (fun hc => ?_)
    · have hi1 : i < m := by simpa using hc
      conv => whnf
      refine CallR.i (strIndex_spec s h3) fun v h4 k4 hv => ?_
      subst hv
      rcases cutS_index s with ⟨c1, c2, c3⟩ | ⟨j, c1, c2, c3, c4⟩
      · omega
      · rw [c2]
        conv => whnf
        refine IfR.f (by simp) ?_
        have hj0 : IntKind.i64.wrap ((j : Int) + 0) = (j : Int) := wrapN (by omega) (by omega)
        have hss : (ByteArray.mk s.toArray).size = s.length := bs_size s
        conv => whnf
        refine SliceR.i 0 j rfl hj0 (Nat.zero_le _) (by rw [hss]; omega) ?_
        conv => whnf
        refine IdxS.i i rfl (by omega) rfl ?_
        have er : List.replicate (m + 1 - i) (Value.string ⟨#[]⟩) = .string ⟨#[]⟩ :: List.replicate (m + 1 - (i + 1)) (.string ⟨#[]⟩) := by
          rw [show m + 1 - i = (m + 1 - (i + 1)) + 1 by omega, List.replicate_succ]
        rw [er] at o3
        have hlen : ((bas done).map fun x => Value.string x).length = i := by simp [bas, hd]
        conv => whnf
        refine StoreR.i (k4.obj o3 (by simp)) ?_ (by simp [blocksOf]) fun h5 s5 o5 k5 => ?_
        · simp only [List.length_append, List.length_cons, hlen, List.length_replicate]
          show 0 + i * 1 + 1 ≤ _
          omega
        have hj1 : IntKind.i64.wrap ((j : Int) + 1) = ((j + 1 : Nat) : Int) := wrapN (by omega) (by omega)
        conv => whnf
        refine SliceR.i (j + 1) s.length hj1 (by rw [hss]) (by omega) (by rw [hss]; omega) ?_
        conv => whnf
        refine ⟨m - (i + 1), by omega, ?_⟩
        conv => whnf
        refine ⟨(i + 1, s.drop (j + 1)), rfl, ?_, rfl, by simp only; omega, by simp only [List.length_drop]; omega, (k3.trans k4).new1 k5 (by have := k1.size; omega), done ++ [s.take j], by simp [hd], by rw [hcut, c3]; simp, ?_⟩
        · simp only
          rw [wrapN (x := (i : Int) + 1) (n := i + 1) (by simp) (by omega), bs_extract, List.take_length]
        · have e5 : spliceL (0 + i * 1) [Value.string (ByteArray.extract ⟨s.toArray⟩ 0 j)] (((bas done).map fun x => Value.string x) ++ .string ⟨#[]⟩ :: List.replicate (m + 1 - (i + 1)) (.string ⟨#[]⟩)) = ((bas (done ++ [s.take j])).map fun x => Value.string x) ++ List.replicate (m + 1 - (i + 1)) (.string ⟨#[]⟩) := by
            have := splice_at (A := (bas done).map fun x => Value.string x) (x := .string ⟨#[]⟩) (v := Value.string (ByteArray.extract ⟨s.toArray⟩ 0 j)) (B := List.replicate (m + 1 - (i + 1)) (.string ⟨#[]⟩))
            rw [hlen] at this
            rw [show 0 + i * 1 = i by omega, this, bs_extract, List.drop_zero]
            simp [bas, ba]
          rw [← e5]; exact o5
    · have hi1 : i = m := by
        have : ¬ (i < m) := by simpa using hc
        omega
      subst hi1
      conv => whnf
      refine IdxS.i i rfl (by omega) rfl ?_
      have er : List.replicate (i + 1 - i) (Value.string ⟨#[]⟩) = [.string ⟨#[]⟩] := by
        rw [show i + 1 - i = 1 by omega]; rfl
      rw [er] at o3
      have hlen : ((bas done).map fun x => Value.string x).length = i := by simp [bas, hd]
      conv => whnf
      refine StoreR.i o3 ?_ (by simp [blocksOf]) fun h5 s5 o5 k5 => ?_
      · simp only [List.length_append, List.length_cons, hlen]
        show 0 + i * 1 + 1 ≤ _
        omega
      conv => whnf
      refine SliceR.i 0 (i + 1) rfl (wrapN (by simp) (by omega)) (Nat.zero_le _) (Nat.le_refl _) ?_
      conv => whnf
      have hlast : cutS s = [s] := by
        rcases cutS_index s with ⟨_, c2, _⟩ | ⟨j, _, _, _, c4⟩
        · exact c2
        · omega
      rw [slA_zero]
      refine ⟨k3.new1 k5 (by have := k1.size; omega), b2, rfl, by have := k1.size; omega, ?_⟩
      rw [hcut, hlast]
      have e5 : spliceL (0 + i * 1) [Value.string ⟨s.toArray⟩] (((bas done).map fun x => Value.string x) ++ [.string ⟨#[]⟩]) = (bas (done ++ [s])).map fun x => Value.string x := by
        have := splice_at (A := (bas done).map fun x => Value.string x) (x := .string ⟨#[]⟩) (v := Value.string ⟨s.toArray⟩) (B := [])
        rw [hlen] at this
        rw [show 0 + i * 1 = i by omega, this]
        simp [bas, ba]
      rw [← e5]; exact o5

theorem bas_len (l : List (List UInt8)) : (bas l).length = l.length := by simp [bas]
theorem bas_ok {l : List (List UInt8)} (h : ∀ x ∈ l, x.length ≤ 140737488351232) : ∀ x ∈ bas l, One.ok x := by
  intro x hx
  obtain ⟨y, hy, rfl⟩ := List.mem_map.1 hx
  show okStr (ba y)
  unfold okStr
  have := h y hy
  have e : (ba y).size = y.length := bs_size y
  omega
theorem cutS_short : ∀ {s x : List UInt8}, x ∈ cutS s → x.length ≤ s.length
  | [], x, h => by simp [cutS] at h; simp [h]
  | c :: l, x, h => by
    unfold cutS at h
    by_cases hc : c = 47
    · rw [if_pos hc] at h
      rcases List.mem_cons.1 h with rfl | h
      · simp
      · have := cutS_short h; simp only [List.length_cons]; omega
    · rw [if_neg hc] at h
      cases hl : cutS l with
      | nil => exact absurd hl (cutS_ne l)
      | cons y r =>
        rw [hl] at h
        rcases List.mem_cons.1 h with rfl | h
        · have := cutS_short (s := l) (x := y) (by rw [hl]; simp)
          simp only [List.length_cons]; omega
        · have := cutS_short (s := l) (x := x) (by rw [hl]; simp [h])
          simp only [List.length_cons]; omega

theorem strSplit_spec (l : List UInt8) (hl : l.length ≤ 10000) (h : Heap) : CallH Tryz.prog 40 [.string ⟨l.toArray⟩, .string ⟨#[47]⟩] h (fun v h' => Keeps [] h h' ∧ ∃ b, v = .slice (some ⟨b, 0, none⟩) (l.count 47 + 1) (l.count 47 + 1) ∧ h.size ≤ b ∧ h'[b]? = some (.cells ⟨(bas (cutS l)).map fun x => .string x⟩ 9 (0, 0))) := by
  refine call_of hmix Tryz.func40 rfl ok40 (by simp [Tryz.f40]) ?_
  conv => whnf
  refine CallR.i (split_spec l hl h) fun v h1 k1 hv => ?_
  obtain ⟨b, rfl, h1, h2⟩ := hv
  conv => whnf
  exact ⟨k1, b, rfl, h1, h2⟩

end Go.Proofs.YtdfgkdoplagelaaGreatDoor
/-
  Layer 4: a path's names; names' path.
-/
set_option linter.all false
set_option maxRecDepth 100000
set_option maxHeartbeats 1000000
namespace Go.Proofs.YtdfgkdoplagelaaGreatDoor
open Go Go.Eng

/-- what a path's names come to -/
def SplitR (p : Option (List (List UInt8))) (h : Heap) (v : Value) (h' : Heap) : Prop :=
  match p with
  | none => v = .tuple #[.slice none 0 0, .int .i64 3]
  | some l => ∃ a c, v = .tuple #[.slice a l.length c, .int .i64 0] ∧ Sl h' a l.length c (bas l) ∧ ∀ b ∈ blkA a, h.size ≤ b

theorem nsplit_spec (l : List UInt8) (hl : l.length ≤ 140737488351232) (h : Heap) : CallH Tryz.prog 17 [.string (ba l)] h (fun v h' => Keeps [] h h' ∧ SplitR (pathP l) h v h') := by
  have hs : (ba l).size = l.length := bs_size l
  refine call_of hmix Tryz.func17 rfl ok17 (by simp [Tryz.f17]) ?_
  conv => whnf
  refine CallR.i (cutPre_spec l hl h) fun v h1 k1 hv => ?_
  by_cases hh : l.head? = some 47
  · rw [if_pos hh] at hv
    subst hv
    obtain ⟨r, rfl⟩ : ∃ r, l = 47 :: r := by
      cases l with
      | nil => simp at hh
      | cons c r => simp at hh; exact ⟨r, by rw [hh]⟩
    have hd : (47 :: r).drop 1 = r := rfl
    rw [hd]
    conv => whnf
    refine IfR.i (fun hc => ?_) (fun hc => ?_)
    · conv => whnf
      have h120 : 120 < (47 :: r).length := by
        rw [hs] at hc
        simp at hc
        simp only [List.length_cons]; omega
      refine ⟨k1, ?_⟩
      have : pathP (47 :: r) = none := by
        unfold pathP
        simp only
        rw [if_pos (.inr h120)]
      rw [this]; rfl
    · have h120 : ¬ 120 < (47 :: r).length := by
        rw [hs] at hc
        simp at hc
        simp only [List.length_cons]; omega
      have hcond : ¬ ((47 : UInt8) ≠ 47 ∨ 120 < (47 :: r).length) := by
        rintro (h | h)
        · exact h rfl
        · exact h120 h
      have e0 : (ByteArray.mk #[]) = ⟨([] : List UInt8).toArray⟩ := rfl
      conv => whnf
      refine IfR.i (fun hd => ?_) (fun hd => ?_)
      · conv => whnf
        have hr : r = [] := by
          have hd : ((ByteArray.mk r.toArray).toList == (ByteArray.mk #[]).toList) = true := hd
          rw [e0, bs_eq] at hd
          simpa using hd
        refine ⟨k1, ?_⟩
        have : pathP (47 :: r) = some [] := by
          unfold pathP
          simp only
          rw [if_neg hcond, if_pos hr]
        rw [this]
        exact ⟨none, 0, rfl, Sl.nil, by simp [blkA]⟩
      · have hr : ¬ r = [] := by
          have hd : ((ByteArray.mk r.toArray).toList == (ByteArray.mk #[]).toList) = false := hd
          rw [e0, bs_eq] at hd
          simpa using hd
        have hrl : r.length ≤ 120 := by simp only [List.length_cons] at h120; omega
        conv => whnf
        refine CallR.i (strSplit_spec r (by omega) h1) fun v h2 k2 hv => ?_
        obtain ⟨b, rfl, hb, o2⟩ := hv
        have hcl := cutS_count r
        have hcc : r.count 47 ≤ r.length := List.count_le_length
        have hsh : ∀ x ∈ cutS r, x.length ≤ 140737488351232 := fun x hx => by have := cutS_short hx; omega
        have S2 : Sl h2 (some ⟨b, 0, none⟩) (r.count 47 + 1) (r.count 47 + 1) (bas (cutS r)) := Sl.of1' o2 (bas_ok hsh) (by rw [bas_len, hcl]) (by rw [bas_len, hcl]; omega)
        conv => whnf
        refine CallR.i (containsOdd_spec S2 (by omega) hsh) fun v h3 k3 hv => ?_
        subst hv
        have hp : pathP (47 :: r) = if (cutS r).all nameB = true then some (cutS r) else none := by
          unfold pathP
          simp only
          rw [if_neg hcond, if_neg hr]
        conv => whnf
        refine IfR.i (fun he => ?_) (fun he => ?_)
        · conv => whnf
          have : ¬ (cutS r).all nameB = true := by
            intro h; rw [h] at he; cases he
          refine ⟨k1.trans (k2.trans k3), ?_⟩
          rw [hp, if_neg this]; rfl
        · conv => whnf
          have : (cutS r).all nameB = true := by
            cases h : (cutS r).all nameB with
            | true => rfl
            | false => rw [h] at he; cases he
          refine ⟨k1.trans (k2.trans k3), ?_⟩
          rw [hp, if_pos this]
          refine ⟨some ⟨b, 0, none⟩, r.count 47 + 1, by rw [hcl], ?_, fun x hx => ?_⟩
          · rw [hcl]; exact S2.keep k3
          · simp [blkA] at hx
            have := k1.size
            omega
  · rw [if_neg hh] at hv
    subst hv
    conv => whnf
    refine IfR.t rfl ?_
    conv => whnf
    refine ⟨k1, ?_⟩
    have : pathP l = none := by
      unfold pathP
      cases l with
      | nil => rfl
      | cons c r =>
        simp only
        rw [if_pos (.inl (by simpa using hh))]
    rw [this]; rfl
end Go.Proofs.YtdfgkdoplagelaaGreatDoor
