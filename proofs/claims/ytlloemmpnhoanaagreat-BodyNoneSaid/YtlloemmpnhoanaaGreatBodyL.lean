/-
  Layer 10: a file's bytes are read.
-/
import Derived.Test.YtlloemmpnhoanaaGreatBodyK
set_option linter.all false
set_option maxRecDepth 100000
namespace Go.Proofs.YtlloemmpnhoanaaGreat
open Go Go.Eng

/-- a file's bytes, and those behind its end -/
def fileB (now : Int → UInt64) (m : List Int) : List UInt8 := m.flatMap (bytesB now)

theorem flat_len {now : Int → UInt64} : ∀ m : List Int, (fileB now m).length = 128 * m.length
  | [] => rfl
  | x :: m => by
    have := flat_len (now := now) m
    simp only [fileB, List.flatMap_cons, List.length_append, bytesB_len, List.length_cons] at this ⊢
    omega
theorem flat_take {now : Int → UInt64} (m : List Int) (i : Nat) : (fileB now m).take (128 * i) = fileB now (m.take i) := by
  induction m generalizing i with
  | nil => simp [fileB]
  | cons x m ih =>
    cases i with
    | zero => simp [fileB]
    | succ i =>
      have := ih i
      simp only [fileB, List.flatMap_cons, List.take_succ_cons] at this ⊢
      rw [List.take_append, bytesB_len, show 128 * (i + 1) - 128 = 128 * i by omega, this, List.take_of_length_le (by rw [bytesB_len]; omega)]
theorem flat_step {now : Int → UInt64} (m : List Int) (i : Nat) (hi : i < m.length) : (fileB now m).take (128 * (i + 1)) = (fileB now m).take (128 * i) ++ bytesB now m[i] := by
  rw [flat_take, flat_take, List.take_succ_eq_append_getElem hi]
  unfold fileB
  rw [List.flatMap_append, List.flatMap_singleton]

/-- what is read behind 'i' blocks -/
def readTo (now : Int → UInt64) (m : List Int) (at_ end_ i : Nat) : List UInt8 := ((fileB now m).take (min (128 * i) end_)).drop at_

theorem readTo_step {now : Int → UInt64} (m : List Int) (a e i : Nat) (hi : i < m.length) (h1 : 128 * i < e) (h2 : a < 128 * i + 128) (h3 : a ≤ e) :
    readTo now m a e (i + 1) = readTo now m a e i ++ ((bytesB now m[i]).take (min (e - 128 * i) 128)).drop (a - 128 * i) := by
  unfold readTo
  have hl := flat_len (now := now) m
  have e1 : (fileB now m).take (min (128 * (i + 1)) e) = (fileB now m).take (128 * i) ++ (bytesB now m[i]).take (min (e - 128 * i) 128) := by
    have : (fileB now m).take (min (128 * (i + 1)) e) = ((fileB now m).take (128 * (i + 1))).take (min (128 * (i + 1)) e) := by
      rw [List.take_take]; congr 1; omega
    rw [this, flat_step m i hi, List.take_append]
    have h4 : ((fileB now m).take (128 * i)).length = 128 * i := by rw [List.length_take, hl]; omega
    rw [h4, List.take_of_length_le (by rw [h4]; omega)]
    congr 2; omega
  rw [e1, show min (128 * i) e = 128 * i by omega, List.drop_append]
  congr 2
  rw [List.length_take, hl]; omega

theorem readTo_skip {now : Int → UInt64} (m : List Int) (a e i : Nat) (h2 : 128 * i + 128 ≤ a) : readTo now m a e (i + 1) = readTo now m a e i := by
  unfold readTo
  rw [List.drop_eq_nil_of_le (by rw [List.length_take]; omega), List.drop_eq_nil_of_le (by rw [List.length_take]; omega)]

def okMap (now : Int → UInt64) (c : Crd) : Prop := ∀ m, mapOf now c = some m → ∀ x ∈ m, x = -1 ∨ (0 ≤ x ∧ x < 96)

/-- what is read of a file -/
def readP (now : Int → UInt64) (c : Crd) (at_ n : Int) : List UInt8 × Int :=
  if at_ < 0 ∨ n < 0 ∨ 4096 < n then ([], 1)
  else match mapOf now c with
    | none => ([], 15)
    | some m => if c.size ≤ at_ then ([], 0) else (((fileB now m).take (min c.size (at_ + n)).toNat).drop at_.toNat, 0)

theorem bread_spec {h : Heap} {V : VL} {M : MemS} {X : VS} (A : At h V M X) (c : Crd) (hc : c.ok) (hsz : 0 ≤ c.size ∧ c.size ≤ 2688) (hm : okMap X.now c) (at_ n : Int) :
    CallH Tryz.prog 13 [.pointer (some ⟨V.v, 0, none⟩), .agg ⟨c.cells⟩, .int .i64 at_, .int .i64 n] h (fun v h' => Keeps [] h h' ∧ v = .tuple #[.string ⟨(readP X.now c at_ n).1.toArray⟩, .int .i64 (readP X.now c at_ n).2]) := by
  refine call_of hmix Tryz.func13 rfl ok13 (by simp [Tryz.f13]) ?_
  conv => whnf
  refine AllocR.i fun b1 h1 e1 s1 o1 k1 => ?_
  conv => whnf
  first | refine IfR.i (fun hq => ?_) (fun hq => ?_) | (refine MeetR.pass ?_; (conv => whnf); refine IfR.i (fun hq => ?_) (fun hq => ?_))
  · conv => whnf
    have : at_ < 0 ∨ n < 0 ∨ 4096 < n := by
      simp [bif_or] at hq; omega
    refine ⟨k1, ?_⟩
    unfold readP
    rw [if_pos this]
  · have hno : ¬ (at_ < 0 ∨ n < 0 ∨ 4096 < n) := by
      simp [bif_or] at hq; omega
    have hP : readP X.now c at_ n = match mapOf X.now c with
        | none => ([], 1 * 15)
        | some m => if c.size ≤ at_ then ([], 0) else (((fileB X.now m).take (min c.size (at_ + n)).toNat).drop at_.toNat, 0) := by
      unfold readP; rw [if_neg hno]; rfl
    rw [hP]
    clear hP
    conv => whnf
    refine CallR.i (map_spec (A.on k1) c hc) fun v h2 k2 hv => ?_
    have k02 := k1.trans k2
    cases hmo : mapOf X.now c with
    | none =>
      rw [hmo] at hv
      simp only at hv
      subst hv
      conv => whnf
      refine IfR.t rfl ?_
      conv => whnf
      exact ⟨k02, rfl⟩
    | some m =>
      rw [hmo] at hv
      simp only at hv
      obtain ⟨b, cap, sp, rfl, I2, hb, hcap⟩ := hv
      have hml := mapOf_length hmo
      have hmr := hm m hmo
      conv => whnf
      refine IfR.i (fun hr => ?_) (fun hr => ?_)
      · have : c.size ≤ at_ := by simpa [bif_or] using hr
        conv => whnf
        simp only
        rw [if_pos this]
        exact ⟨k02, rfl⟩
      · have hs : ¬ c.size ≤ at_ := by simp [bif_or] at hr; omega
        simp only
        rw [if_neg hs]
        obtain ⟨a, rfl⟩ : ∃ a : Nat, at_ = (a : Int) := ⟨at_.toNat, by omega⟩
        obtain ⟨z, hz⟩ : ∃ z : Nat, c.size = (z : Int) := ⟨c.size.toNat, by omega⟩
        obtain ⟨r, rfl⟩ : ∃ r : Nat, n = (r : Int) := ⟨n.toNat, by omega⟩
        rw [hz] at hs hsz
        generalize hE : min z (a + r) = e
        have he : (if IntKind.i64.wrap ((a : Int) + (r : Int)) < (z : Int) then IntKind.i64.wrap ((a : Int) + (r : Int)) else (z : Int)) = (e : Int) := by
          rw [wrapN (x := (a : Int) + (r : Int)) (n := a + r) (by simp) (by omega)]
          split <;> omega
        have hE2 : (min c.size ((a : Int) + (r : Int))).toNat = e := by rw [hz]; omega
        rw [hE2, show ((a : Int)).toNat = a by omega]
        have hae : a ≤ e := by omega
        have hez : e ≤ 2688 := by omega
        conv => whnf
        rw [hz, he]
        refine AllocR.i fun b3 h3 e3 s3 o3 k3 => ?_
        have B3 : Bld h3 b3 none none 0 0 [] := ⟨o3, .inl ⟨rfl, rfl, rfl, rfl⟩, by simp [blkA], .inl rfl⟩
        have z2 := k02.size
        conv => whnf
        refine MeetR.pass ?_
        conv => whnf
        refine LoopR.on [0, 2, 12, 13, 54, 55, 56] [] (fun i : Nat => [(0, .v (.pointer (some ⟨V.v, 0, none⟩))), (2, .v (.int .i64 (a : Int))), (12, .v (.int .i64 (e : Int))), (13, .v (.pointer (some ⟨b3, 0, none⟩))), (54, .v (.slice (some ⟨b, 0, none⟩) 21 cap)), (55, .v (.int .i64 21)), (56, .v (.int .i64 (i : Int)))]) (fun _ => [])
          (fun i h' => i ≤ 21 ∧ Keeps [] h h' ∧ h3.size ≤ h'.size ∧ IntsAt h' b m sp ∧ ∃ p ba bn bc, Bld h' b3 p ba bn bc (readTo X.now m a e i) ∧ ∀ x ∈ blkA ba, h3.size ≤ x) (fun i => 21 - i) 0 ?_ ?_
        · conv => whnf
          exact ⟨0, rfl, rfl, rfl, by decide, k02.trans k3, Nat.le_refl _, k3.obj I2 (by simp), none, none, 0, 0, by simpa [readTo] using B3, by simp [blkA]⟩
        · rintro i h4 ⟨hi, k4, z4, I4, p, ba, bn, bc, B4, nb4⟩
          have hbl : b < h2.size := obj_lt I2
          have rlen : ∀ j, (readTo X.now m a e j).length ≤ 2688 := by
            intro j; unfold readTo
            rw [List.length_drop, List.length_take, flat_len]; omega
          have endC : ∀ h5 : Heap, Keeps [] h4 h5 → (readTo X.now m a e i = ((fileB X.now m).take e).drop a) → CallH Tryz.prog 32 [.pointer (some ⟨b3, 0, none⟩)] h5 (fun v h' => Keeps (blkA ba) h5 h' ∧ v = .string ⟨(((fileB X.now m).take e).drop a).toArray⟩) := by
            intro h5 k5 hr
            rw [← hr]
            exact CallH.mono (bstring_spec (B4.on k5) (by have := rlen i; omega)) fun v h' hh => ⟨hh.1, hh.2.1⟩
          conv => whnf
          refine IfR.i (fun hx => ?_) (fun hx => ?_)
          · have hi1 : i < m.length := by simp at hx; omega
            conv => whnf
            first | refine IdxS.i i rfl (by omega) rfl ?_ | (refine MeetR.pass ?_; (conv => whnf); refine IdxS.i i rfl (by omega) rfl ?_)
            conv => whnf
            refine LoadR.i (I4.nth hi1) ?_
            have ew : IntKind.i64.wrap ((i : Int) * 128) = ((128 * i : Nat) : Int) := wrapN (by omega) (by omega)
            conv => whnf
            rw [ew]
            refine IfR.i (fun hy => ?_) (fun hy => ?_)
            · have hge : e ≤ 128 * i := by simp at hy; omega
              conv => whnf
              refine CallR.m (endC h4 (Keeps.refl _ _) (by unfold readTo; rw [show min (128 * i) e = e by omega])) (by simp [blocksOf]) fun v h5 k5 hv => ?_
              subst hv
              conv => whnf
              exact ⟨k4.nil_of k5 (fun x hx => by have := nb4 x hx; omega), rfl⟩
            · have hlt : 128 * i < e := by simp at hy; omega
              have ew2 : IntKind.i64.wrap (((128 * i : Nat) : Int) + 128) = ((128 * i + 128 : Nat) : Int) := wrapN (by omega) (by omega)
              conv => whnf
              rw [ew2]
              refine IfR.i (fun hw => ?_) (fun hw => ?_)
              · have hle : 128 * i + 128 ≤ a := by simp at hw; omega
                conv => whnf
                refine ⟨21 - (i + 1), by omega, ?_⟩
                conv => whnf
                refine ⟨i + 1, rfl, by rw [wrapN (x := (i : Int) + 1) (n := i + 1) (by simp) (by omega)], rfl, by omega, k4, z4, I4, p, ba, bn, bc, ?_, nb4⟩
                rw [readTo_skip m a e i hle]; exact B4
              · have hle : a < 128 * i + 128 := by simp at hw; omega
                conv => whnf
                refine CallR.i (textB_spec (A.on k4) m[i]) fun v h5 k5 hv => ?_
                rw [if_pos (hmr _ (List.getElem_mem hi1))] at hv
                subst hv
                conv => whnf
                refine IfR.f rfl ?_
                have el : (if (0 : Int) > IntKind.i64.wrap ((a : Int) - ((128 * i : Nat) : Int)) then (0 : Int) else IntKind.i64.wrap ((a : Int) - ((128 * i : Nat) : Int))) = ((a - 128 * i : Nat) : Int) := by
                  rw [wrapI (x := (a : Int) - ((128 * i : Nat) : Int)) (by omega) (by omega)]
                  split <;> omega
                have er : (if (128 : Int) < IntKind.i64.wrap ((e : Int) - ((128 * i : Nat) : Int)) then (128 : Int) else IntKind.i64.wrap ((e : Int) - ((128 * i : Nat) : Int))) = ((min (e - 128 * i) 128 : Nat) : Int) := by
                  rw [wrapI (x := (e : Int) - ((128 * i : Nat) : Int)) (by omega) (by omega)]
                  split <;> omega
                have hbsz : (ByteArray.mk (bytesB X.now m[i]).toArray).size = 128 := by
                  show (bytesB X.now m[i]).toArray.size = 128
                  simp [bytesB_len]
                conv => whnf
                refine SliceR.i (a - 128 * i) (min (e - 128 * i) 128) el er (by omega) (by rw [hbsz]; omega) ?_
                have hx1 : (ByteArray.extract ⟨(bytesB X.now m[i]).toArray⟩ (a - 128 * i) (min (e - 128 * i) 128)).data.toList = ((bytesB X.now m[i]).take (min (e - 128 * i) 128)).drop (a - 128 * i) := by
                  rw [ByteArray.data_extract]
                  simp [List.drop_take]
                have hx2 : (ByteArray.extract ⟨(bytesB X.now m[i]).toArray⟩ (a - 128 * i) (min (e - 128 * i) 128)).size ≤ 128 := by
                  rw [ByteArray.size_extract, hbsz]; omega
                have hbn := (B4.buf.len).1
                conv => whnf
                refine CallR.m (writeString_spec (B4.on k5) _ (by have := rlen i; omega)) (by simp [blocksOf]) fun v h6 k6 hv => ?_
                obtain ⟨rfl, a6, c6, B6, n6, _⟩ := hv
                rw [hx1, ← readTo_step m a e i hi1 hlt hle hae] at B6
                conv => whnf
                refine ⟨21 - (i + 1), by omega, ?_⟩
                conv => whnf
                have z5 := k5.size
                have z6 := k6.size
                refine ⟨i + 1, rfl, by rw [wrapN (x := (i : Int) + 1) (n := i + 1) (by simp) (by omega)], rfl, by omega, (k4.trans k5).nil_of k6 (fun x hx => ?_), by omega, ?_, _, _, _, _, B6, fun x hx => ?_⟩
                · simp only [List.mem_cons] at hx
                  rcases hx with rfl | hx
                  · omega
                  · have := nb4 x hx; omega
                · refine k6.obj (k5.obj I4 (by simp)) (fun hx => ?_)
                  simp only [List.mem_cons] at hx
                  rcases hx with hx | hx
                  · omega
                  · have := nb4 b hx; omega
                · rcases n6 x hx with h | h
                  · exact nb4 x h
                  · omega
          · have hi1 : i = 21 := by simp at hx; omega
            subst hi1
            conv => whnf
            refine CallR.m (endC h4 (Keeps.refl _ _) (by unfold readTo; rw [show min (128 * 21) e = e by omega])) (by simp [blocksOf]) fun v h5 k5 hv => ?_
            subst hv
            conv => whnf
            exact ⟨k4.nil_of k5 (fun x hx => by have := nb4 x hx; omega), rfl⟩
end Go.Proofs.YtlloemmpnhoanaaGreat
