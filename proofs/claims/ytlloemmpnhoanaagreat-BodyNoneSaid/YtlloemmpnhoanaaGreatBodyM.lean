/-
  Layer 10: a file's bytes are written.
-/
import Derived.Test.YtlloemmpnhoanaaGreatBodyL
set_option linter.all false
set_option maxRecDepth 100000
set_option maxHeartbeats 4000000
namespace Go.Proofs.YtlloemmpnhoanaaGreat
open Go Go.Eng

/-- a block's bytes, where others are written: 'a' is where they begin, 'e' where they end, 'f' where the block begins -/
def wblk (old data : List UInt8) (a e f : Nat) : List UInt8 := old.take (a - f) ++ (data.drop (f + (a - f) - a)).take (min (e - f) 128 - (a - f)) ++ old.drop (min (e - f) 128)

def wStep (B : Int → UInt64) (node : Int) (a : Nat) (data : List UInt8) (i : Nat) (X : VS) (m : List Int) : Int × VS × List Int :=
  let t : Int × VS × List Int := if m[i]?.getD 0 = -1 then ((takeP B X node).2.1, (takeP B X node).2.2, m.set i (takeP B X node).1) else (0, X, m)
  if t.1 = 0 then (0, { t.2.1 with now := putBlk t.2.1.now (t.2.2[i]?.getD 0) (textL (wblk (bytesB t.2.1.now (t.2.2[i]?.getD 0)) data a (a + data.length) (128 * i)) 16) }, t.2.2)
  else t

def writeL (B : Int → UInt64) (node : Int) (a : Nat) (data : List UInt8) : Nat → Nat → VS → List Int → Int × VS × List Int
  | 0, _, X, m => (0, X, m)
  | f + 1, i, X, m => if (wStep B node a data i X m).1 = 0 then writeL B node a data f (i + 1) (wStep B node a data i X m).2.1 (wStep B node a data i X m).2.2 else wStep B node a data i X m

/-- bytes are written -/
def writeP (B : Int → UInt64) (X : VS) (node : Int) (c : Crd) (at_ : Int) (data : List UInt8) : Crd × Int × VS :=
  if ¬ (0 ≤ node ∧ node < 24) ∨ at_ < 0 ∨ 400 < data.length then (Crd.zero, 1, X)
  else if data = [] then (match mapOf X.now c with | none => (Crd.zero, 15, X) | some _ => (c, 0, X))
  else if 2688 - (data.length : Int) < at_ then (Crd.zero, 10, X)
  else match mapOf X.now c with
    | none => (Crd.zero, 15, X)
    | some m =>
      let r := writeL B node at_.toNat data ((at_.toNat + data.length + 127) / 128 - at_.toNat / 128) (at_.toNat / 128) X m
      if r.1 = 0 then keepP B r.2.1 node { c with size := max c.size (at_ + data.length) } r.2.2 else (Crd.zero, r.1, r.2.1)

theorem takeP_rng {B : Int → UInt64} {X : VS} {node : Int} (h : (takeP B X node).2.1 = 0) : 0 ≤ (takeP B X node).1 ∧ (takeP B X node).1 < 96 := by
  unfold takeP at h ⊢
  split at h
  · rename_i hn
    rw [if_pos hn]
    split at h
    · rename_i k hk
      have := firstF_is hk
      simp only
      have h2 := this.2
      omega
    · simp at h
  · simp at h

theorem ba_size (l : List UInt8) : (ByteArray.mk l.toArray).size = l.length := by show l.toArray.size = _; simp
theorem ba_extract (l : List UInt8) (i j : Nat) : (ByteArray.extract ⟨l.toArray⟩ i j) = ⟨((l.take j).drop i).toArray⟩ := by
  apply ByteArray.ext
  rw [ByteArray.data_extract]
  simp [List.drop_take]
theorem ba_app (l r : List UInt8) : (ByteArray.mk l.toArray) ++ ⟨r.toArray⟩ = ⟨(l ++ r).toArray⟩ := by
  apply ByteArray.ext
  rw [ByteArray.data_append]
  simp

theorem maxI (x y : Int) : (if y > x then y else x) = max x y := by omega

theorem write_spec {h : Heap} {V : VL} {M : MemS} {X : VS} (A : At h V M X) (node : Int) (c : Crd) (hc : c.ok) (hm : okMap X.now c) (at_ : Int) (data : List UInt8) :
    CallH Tryz.prog 18 [.pointer (some ⟨V.v, 0, none⟩), .int .i64 node, .agg ⟨c.cells⟩, .int .i64 at_, .string ⟨data.toArray⟩] h (fun v h' => Keeps [V.ob] h h' ∧
      v = .tuple #[.agg ⟨(writeP M.read X node c at_ data).1.cells⟩, .int .i64 (writeP M.read X node c at_ data).2.1] ∧ At h' V M (writeP M.read X node c at_ data).2.2) := by
  have hob := A.blt V.ob (by simp [VL.blocks])
  have hdl := ba_size data
  refine call_of hmix Tryz.func18 rfl ok18 (by simp [Tryz.f18]) ?_
  conv => whnf
  refine AllocR.i fun b1 h1 e1 s1 o1 k1 => ?_
  conv => whnf
  refine AllocR.i fun b2 h2 e2 s2 o2 k2 => ?_
  conv => whnf
  refine CallR.i (may_spec node h2) fun v h3 k3 hv => ?_
  subst hv
  have k03 := k1.trans (k2.trans k3)
  have z3 := k3.size
  have nv : ∀ b ∈ V.blocks, b ≠ b1 ∧ b ≠ b2 := fun b hb => by have := A.blt b hb; omega
  conv => whnf
  refine IfR.i (fun hq => ?_) (fun hq => ?_)
  · have hb : ¬ (0 ≤ node ∧ node < 24) ∨ at_ < 0 ∨ 400 < data.length := by
      by_cases hn : 0 ≤ node ∧ node < 24
      · rw [if_pos hn] at hq
        simp [bif_or] at hq
        rcases hq with h | h
        · exact .inr (.inl h)
        · right; right
          have : (400 : Int) < ((ByteArray.mk data.toArray).size : Int) := h
          rw [hdl] at this; omega
      · exact .inl hn
    conv => whnf
    refine BoxR.i fun h4 s4 k4 => ?_
    conv => whnf
    unfold writeP
    rw [if_pos hb]
    exact ⟨(k03.new1 k4 (by omega)).mono (by simp), rfl, A.on (k03.new1 k4 (by omega))⟩
  · have hb : ¬ (¬ (0 ≤ node ∧ node < 24) ∨ at_ < 0 ∨ 400 < data.length) := by
      by_cases hn : 0 ≤ node ∧ node < 24
      · rw [if_pos hn] at hq
        simp [bif_or] at hq
        have h2 := hq.2
        have : ((ByteArray.mk data.toArray).size : Int) ≤ 400 := h2
        rw [hdl] at this; omega
      · rw [if_neg hn] at hq
        simp [bif_or] at hq
    have hnode : 0 ≤ node ∧ node < 24 := Classical.byContradiction fun h => hb (.inl h)
    have hPw : writeP M.read X node c at_ data = if data = [] then (match mapOf X.now c with | none => (Crd.zero, 15, X) | some _ => (c, 0, X))
        else if 2688 - (data.length : Int) < at_ then (Crd.zero, 10, X)
        else match mapOf X.now c with
          | none => (Crd.zero, 15, X)
          | some m =>
            if (writeL M.read node at_.toNat data ((at_.toNat + data.length + 127) / 128 - at_.toNat / 128) (at_.toNat / 128) X m).1 = 0 then keepP M.read (writeL M.read node at_.toNat data ((at_.toNat + data.length + 127) / 128 - at_.toNat / 128) (at_.toNat / 128) X m).2.1 node { c with size := max c.size (at_ + data.length) } (writeL M.read node at_.toNat data ((at_.toNat + data.length + 127) / 128 - at_.toNat / 128) (at_.toNat / 128) X m).2.2
            else (Crd.zero, (writeL M.read node at_.toNat data ((at_.toNat + data.length + 127) / 128 - at_.toNat / 128) (at_.toNat / 128) X m).1, (writeL M.read node at_.toNat data ((at_.toNat + data.length + 127) / 128 - at_.toNat / 128) (at_.toNat / 128) X m).2.1) := by
      unfold writeP; rw [if_neg hb]
    rw [hPw]
    clear hPw
    conv => whnf
    first | refine IfR.i (fun hr => ?_) (fun hr => ?_) | (refine MeetR.pass ?_; (conv => whnf); refine IfR.i (fun hr => ?_) (fun hr => ?_))
    · have hd : data = [] := by
        rw [toList_beq] at hr
        have : (ByteArray.mk data.toArray) = ⟨#[]⟩ := by simpa using hr
        have := congrArg (fun b => b.data.toList) this
        simpa using this
      rw [if_pos hd]
      conv => whnf
      refine CallR.i (map_spec (A.on k03) c hc) fun v h4 k4 hv => ?_
      cases hmo : mapOf X.now c with
      | none =>
        rw [hmo] at hv; simp only at hv; subst hv
        conv => whnf
        first | refine IfR.t rfl ?_ | (refine MeetR.pass ?_; (conv => whnf); refine IfR.t rfl ?_)
        conv => whnf
        refine BoxR.i fun h5 s5 k5 => ?_
        conv => whnf
        have z4 := k4.size
        exact ⟨((k03.trans k4).new1 k5 (by omega)).mono (by simp), rfl, A.on ((k03.trans k4).new1 k5 (by omega))⟩
      | some m =>
        rw [hmo] at hv; simp only at hv
        obtain ⟨b, cap, sp, rfl, _⟩ := hv
        conv => whnf
        first | refine IfR.f rfl ?_ | (refine MeetR.pass ?_; (conv => whnf); refine IfR.f rfl ?_)
        conv => whnf
        refine BoxR.i fun h5 s5 k5 => ?_
        conv => whnf
        have z4 := k4.size
        exact ⟨((k03.trans k4).new1 k5 (by omega)).mono (by simp), rfl, A.on ((k03.trans k4).new1 k5 (by omega))⟩
    · have hd : ¬ data = [] := by
        rintro rfl
        rw [toList_beq] at hr
        simp at hr
      rw [if_neg hd]
      have hdp : 0 < data.length := List.length_pos_iff.2 hd
      conv => whnf
      rw [hdl, wrapI (x := 2688 - (data.length : Int)) (by omega) (by omega)]
      refine IfR.i (fun hs => ?_) (fun hs => ?_)
      · have hs' : 2688 - (data.length : Int) < at_ := by simpa using hs
        rw [if_pos hs']
        conv => whnf
        refine BoxR.i fun h4 s4 k4 => ?_
        conv => whnf
        exact ⟨(k03.new1 k4 (by omega)).mono (by simp), rfl, A.on (k03.new1 k4 (by omega))⟩
      · have hs' : ¬ 2688 - (data.length : Int) < at_ := by simpa using hs
        rw [if_neg hs']
        conv => whnf
        refine CallR.i (map_spec (A.on k03) c hc) fun v h4 k4 hv => ?_
        have k04 := k03.trans k4
        have z4 := k4.size
        cases hmo : mapOf X.now c with
        | none =>
          rw [hmo] at hv; simp only at hv; subst hv
          conv => whnf
          first | refine IfR.t rfl ?_ | (refine MeetR.pass ?_; (conv => whnf); refine IfR.t rfl ?_)
          conv => whnf
          refine BoxR.i fun h5 s5 k5 => ?_
          conv => whnf
          exact ⟨(k04.new1 k5 (by omega)).mono (by simp), rfl, A.on (k04.new1 k5 (by omega))⟩
        | some m0 =>
          rw [hmo] at hv; simp only at hv
          obtain ⟨b, cap, sp, rfl, I4, hb4, hcap⟩ := hv
          have hml := mapOf_length hmo
          have hmr := hm m0 hmo
          obtain ⟨a, rfl⟩ : ∃ a : Nat, at_ = (a : Int) := ⟨at_.toNat, by omega⟩
          have ha : ((a : Int)).toNat = a := by omega
          rw [ha]
          simp only
          have hae : a + data.length ≤ 2688 := by omega
          have eEnd : IntKind.i64.wrap ((a : Int) + (data.length : Int)) = ((a + data.length : Nat) : Int) := wrapN (by simp) (by omega)
          generalize hN : (a + data.length + 127) / 128 = N0
          generalize hR : writeL M.read node a data (N0 - a / 128) (a / 128) X m0 = R
          have hN1 : N0 ≤ 21 := by omega
          have hbl : b < h4.size := obj_lt I4
          conv => whnf
          refine IfR.f rfl ?_
          conv => whnf
          refine Need.i (by decide) ?_
          have eq0 : IntKind.i64.wrap ((a : Int).tdiv 128) = ((a / 128 : Nat) : Int) := by
            have : (a : Int).tdiv 128 = ((a / 128 : Nat) : Int) := by rw [Int.tdiv_eq_ediv_of_nonneg (by omega)]; omega
            rw [this, wrapN (n := a / 128) rfl (by omega)]
          conv => whnf
          rw [hdl, eEnd, eq0]
          refine LoopR.on [0, 1, 3, 4, 7, 10, 15, 17, 18] [7, 10] (fun q : Nat × VS × List Int => [(0, .v (.pointer (some ⟨V.v, 0, none⟩))), (1, .v (.int .i64 node)), (3, .v (.int .i64 (a : Int))), (4, .v (.string ⟨data.toArray⟩)), (7, .lp 7 0), (10, .lp 10 0), (15, .v (.slice (some ⟨b, 0, none⟩) 21 cap)), (17, .v (.int .i64 ((a + data.length : Nat) : Int))), (18, .v (.int .i64 (q.1 : Int)))])
            (fun _ => [(7, b1, c.cells), (10, b2, Crd.zero.cells)]) (fun q h' => a / 128 ≤ q.1 ∧ q.1 ≤ N0 ∧ Keeps [V.ob] h h' ∧ h4.size ≤ h'.size ∧ IntsAt h' b q.2.2 sp ∧ q.2.2.length = 21 ∧ (∀ x ∈ q.2.2, x = -1 ∨ (0 ≤ x ∧ x < 96)) ∧ At h' V M q.2.1 ∧ R = writeL M.read node a data (N0 - q.1) q.1 q.2.1 q.2.2) (fun q => N0 - q.1) (a / 128, X, m0) ?_ ?_
          · conv => whnf
            exact ⟨(a / 128, X, m0), rfl, rfl, rfl, Nat.le_refl _, by simp only; omega, k04.mono (by simp), Nat.le_refl _, I4, hml, hmr, A.on k04, hR.symm⟩
          · rintro ⟨i, Xi, mi⟩ h5 ⟨hi0, hi, k5, z5, I5, ml5, mr5, A5, hRi⟩
            simp only at hi0 hi I5 ml5 mr5 A5 hRi
            have nbs : ∀ y ∈ blocksOf [(7, b1, c.cells), (10, b2, Crd.zero.cells)], y ∉ [V.ob] := by
              intro y hy hx
              have hy2 : y ∈ [b1, b2] := hy
              simp at hy2 hx; omega
            conv => whnf
            refine CallR.i (over_spec (a + data.length) (by omega) h5) fun v h6 k6 hv => ?_
            subst hv
            rw [hN]
            have A6 := A5.on k6
            have k06 := k5.trans_nil k6
            have I6 : IntsAt h6 b mi sp := k6.obj I5 (by simp)
            have z6 := k6.size
            conv => whnf
            refine IfR.i (fun hc => ?_) (fun hc => ?_)
            · have hi1 : i < N0 := by simp at hc; omega
              have him : i < mi.length := by omega
              have hstep : writeL M.read node a data (N0 - i) i Xi mi = if (wStep M.read node a data i Xi mi).1 = 0 then writeL M.read node a data (N0 - (i + 1)) (i + 1) (wStep M.read node a data i Xi mi).2.1 (wStep M.read node a data i Xi mi).2.2 else wStep M.read node a data i Xi mi := by
                rw [show N0 - i = (N0 - (i + 1)) + 1 by omega]; rfl
              rw [hstep] at hRi
              clear hstep
              conv => whnf
              first | refine IdxS.i i rfl (by omega) rfl ?_ | (refine MeetR.pass ?_; (conv => whnf); refine IdxS.i i rfl (by omega) rfl ?_)
              conv => whnf
              refine LoadR.i (I6.nth him) ?_
              conv => whnf
              refine CallR.i (used_spec _ h6) fun v h7 k7 hv => ?_
              subst hv
              have A7 := A6.on k7
              have k07 := k06.trans_nil k7
              have I7 : IntsAt h7 b mi sp := k7.obj I6 (by simp)
              have z7 := k7.size
              have hgi : mi[i]?.getD 0 = mi[i] := by simp [him]
              conv => whnf
              first | refine IfR.i ?ca ?cb | (refine MeetR.pass ?_; (conv => whnf); refine IfR.i ?ca ?cb)
              case' ca =>
                intro hu
                have hu1 : mi[i] = -1 := usedB_f.1 (bnot_t hu)
                conv => whnf
                refine CallR.m (take_spec A7 node) nbs fun v hy ky hv => ?_
                obtain ⟨rfl, Ay⟩ := hv
                have zy := ky.size
                have Iy : IntsAt hy b mi sp := ky.obj I7 (by simp; omega)
                conv => whnf
                refine IdxS.i i rfl (by omega) rfl ?_
                conv => whnf
                refine StoreR.i Iy ?_ (by intro hx; have hx2 : b ∈ [b1, b2] := hx; simp at hx2; omega) fun hx sx ox kx => ?_
                · show 0 + i * 1 + 1 ≤ _
                  simp; omega
                have Ix : IntsAt hx b (mi.set i (takeP M.read Xi node).1) sp := by
                  unfold IntsAt
                  rw [← ints_set him]; exact ox
                have nvb : ∀ y ∈ V.blocks, y ≠ b := fun y hy => by have := A.blt y hy; omega
                have Ax := Ay.keep kx (fun y hy => by simpa using nvb y hy)
                have k0x : Keeps [V.ob] h hx := (k07.trans ky).m1 kx (by omega)
                have hw : wStep M.read node a data i Xi mi = if (takeP M.read Xi node).2.1 = 0 then (0, { (takeP M.read Xi node).2.2 with now := putBlk (takeP M.read Xi node).2.2.now (takeP M.read Xi node).1 (textL (wblk (bytesB (takeP M.read Xi node).2.2.now (takeP M.read Xi node).1) data a (a + data.length) (128 * i)) 16) }, mi.set i (takeP M.read Xi node).1) else ((takeP M.read Xi node).2.1, (takeP M.read Xi node).2.2, mi.set i (takeP M.read Xi node).1) := by
                  have hg2 : (mi.set i (takeP M.read Xi node).1)[i]?.getD 0 = (takeP M.read Xi node).1 := by simp [him]
                  unfold wStep
                  rw [hgi, if_pos hu1]
                  simp only [hg2]
                conv => whnf
                first | refine IfR.i (fun hr => ?_) (fun hr => ?_) | (refine MeetR.pass ?_; (conv => whnf); refine IfR.i (fun hr => ?_) (fun hr => ?_))
                · have ht : ¬ (takeP M.read Xi node).2.1 = 0 := by simpa using hr
                  rw [if_neg ht] at hw
                  rw [hw] at hRi
                  simp only [if_neg ht] at hRi
                  subst hRi
                  conv => whnf
                  refine BoxR.i fun h9 s9 k9 => ?_
                  conv => whnf
                  simp only [if_neg ht]
                  exact ⟨k0x.m1 k9 (by omega), rfl, Ax.keep k9 (fun y hy => by simpa using (nv y hy).2)⟩
                have ht : (takeP M.read Xi node).2.1 = 0 := by simpa using hr
                rw [if_pos ht] at hw
                have hkr := takeP_rng ht
                have zx : h4.size ≤ hx.size := by omega
                clear Iy ky Ay sx ox kx hr hu hu1 ht zy
                generalize (takeP M.read Xi node).1 = k, (takeP M.read Xi node).2.2 = X1 at *
                generalize hm1 : mi.set i k = m1 at *
                have m1l : m1.length = 21 := by rw [← hm1]; simp [ml5]
                have m1i : ∀ hh : i < m1.length, m1[i] = k := by intro hh; subst hm1; simp
                have m1r : ∀ x ∈ m1, x = -1 ∨ (0 ≤ x ∧ x < 96) := by
                  intro x hx2
                  rw [← hm1] at hx2
                  rcases List.mem_or_eq_of_mem_set hx2 with h | h
                  · exact mr5 x h
                  · subst h; exact .inr hkr
              case' cb =>
                intro hu
                have hu1 : ¬ mi[i] = -1 := usedB_t.1 (bnot_f hu)
                have hkr : 0 ≤ mi[i] ∧ mi[i] < 96 := (mr5 _ (List.getElem_mem him)).resolve_left hu1
                have hw : wStep M.read node a data i Xi mi = (0, { Xi with now := putBlk Xi.now mi[i] (textL (wblk (bytesB Xi.now mi[i]) data a (a + data.length) (128 * i)) 16) }, mi) := by
                  unfold wStep
                  rw [hgi, if_neg hu1]
                  simp only [hgi, if_true]
                obtain ⟨k, hk⟩ : ∃ k, k = mi[i] := ⟨_, rfl⟩
                obtain ⟨X1, hX1⟩ : ∃ X1, X1 = Xi := ⟨_, rfl⟩
                obtain ⟨m1, hm1⟩ : ∃ m1, m1 = mi := ⟨_, rfl⟩
                obtain ⟨hx, hhx⟩ : ∃ hx, hx = h7 := ⟨_, rfl⟩
                have Ix : IntsAt hx b m1 sp := by rw [hhx, hm1]; exact I7
                have Ax : At hx V M X1 := by rw [hhx, hX1]; exact A7
                have k0x : Keeps [V.ob] h hx := by rw [hhx]; exact k07
                have zx : h4.size ≤ hx.size := by rw [hhx]; omega
                have m1l : m1.length = 21 := by rw [hm1]; exact ml5
                have m1i : ∀ hh : i < m1.length, m1[i] = k := by intro hh; subst hm1; exact hk.symm
                have m1r : ∀ x ∈ m1, x = -1 ∨ (0 ≤ x ∧ x < 96) := by rw [hm1]; exact mr5
                have hw : wStep M.read node a data i Xi mi = (0, { X1 with now := putBlk X1.now k (textL (wblk (bytesB X1.now k) data a (a + data.length) (128 * i)) 16) }, m1) := by rw [hk, hX1, hm1]; exact hw
                rw [← hk] at hkr
                rw [← hhx]
              all_goals
                have hi2 : i < m1.length := by omega
                conv => whnf
                refine IdxS.i i rfl (by omega) rfl ?_
                conv => whnf
                refine LoadR.i (Ix.nth hi2) ?_
                conv => whnf
                rw [m1i hi2]
                refine CallR.i (textB_spec Ax k) fun v h8 k8 hv => ?_
                rw [if_pos (.inr hkr)] at hv
                subst hv
                have A8 := Ax.on k8
                have I8 : IntsAt h8 b m1 sp := k8.obj Ix (by simp)
                conv => whnf
                refine IfR.f rfl ?_
                have ew : IntKind.i64.wrap ((i : Int) * 128) = ((128 * i : Nat) : Int) := wrapN (by omega) (by omega)
                have hia : a < 128 * i + 128 := by omega
                have hie : 128 * i < a + data.length := by omega
                have el : (if (0 : Int) > IntKind.i64.wrap ((a : Int) - IntKind.i64.wrap ((i : Int) * 128)) then (0 : Int) else IntKind.i64.wrap ((a : Int) - IntKind.i64.wrap ((i : Int) * 128))) = ((a - 128 * i : Nat) : Int) := by
                  rw [ew, wrapI (x := (a : Int) - ((128 * i : Nat) : Int)) (by omega) (by omega)]
                  split <;> omega
                have er : (if (128 : Int) < IntKind.i64.wrap (((a + data.length : Nat) : Int) - IntKind.i64.wrap ((i : Int) * 128)) then (128 : Int) else IntKind.i64.wrap (((a + data.length : Nat) : Int) - IntKind.i64.wrap ((i : Int) * 128))) = ((min (a + data.length - 128 * i) 128 : Nat) : Int) := by
                  rw [ew, wrapI (x := ((a + data.length : Nat) : Int) - ((128 * i : Nat) : Int)) (by omega) (by omega)]
                  split <;> omega
                have hL : a - 128 * i ≤ min (a + data.length - 128 * i) 128 := by omega
                have d1 : ∀ x : Int, x = ((a - 128 * i : Nat) : Int) → IntKind.i64.wrap (IntKind.i64.wrap (IntKind.i64.wrap ((i : Int) * 128) + x) - (a : Int)) = ((128 * i + (a - 128 * i) - a : Nat) : Int) := by
                  rintro x rfl
                  rw [ew, wrapN (x := ((128 * i : Nat) : Int) + ((a - 128 * i : Nat) : Int)) (n := 128 * i + (a - 128 * i)) (by omega) (by omega), wrapN (n := 128 * i + (a - 128 * i) - a) (by omega) (by omega)]
                have d2 : ∀ x : Int, x = ((min (a + data.length - 128 * i) 128 : Nat) : Int) → IntKind.i64.wrap (IntKind.i64.wrap (IntKind.i64.wrap ((i : Int) * 128) + x) - (a : Int)) = ((128 * i + min (a + data.length - 128 * i) 128 - a : Nat) : Int) := by
                  rintro x rfl
                  rw [ew, wrapN (x := ((128 * i : Nat) : Int) + ((min (a + data.length - 128 * i) 128 : Nat) : Int)) (n := 128 * i + min (a + data.length - 128 * i) 128) (by omega) (by omega), wrapN (n := 128 * i + min (a + data.length - 128 * i) 128 - a) (by omega) (by omega)]
                have hbs : (ByteArray.mk (bytesB X1.now k).toArray).size = 128 := by rw [ba_size, bytesB_len]
                have hstr : (ByteArray.extract ⟨(bytesB X1.now k).toArray⟩ 0 (a - 128 * i) ++ ByteArray.extract ⟨data.toArray⟩ (128 * i + (a - 128 * i) - a) (128 * i + min (a + data.length - 128 * i) 128 - a)) ++ ByteArray.extract ⟨(bytesB X1.now k).toArray⟩ (min (a + data.length - 128 * i) 128) 128 = ⟨(wblk (bytesB X1.now k) data a (a + data.length) (128 * i)).toArray⟩ := by
                  rw [ba_extract, ba_extract, ba_extract, ba_app, ba_app]
                  have t1 : ((bytesB X1.now k).take 128).drop (min (a + data.length - 128 * i) 128) = (bytesB X1.now k).drop (min (a + data.length - 128 * i) 128) := by rw [List.take_of_length_le (by rw [bytesB_len]; exact Nat.le_refl _)]
                  have t2 : (data.take (128 * i + min (a + data.length - 128 * i) 128 - a)).drop (128 * i + (a - 128 * i) - a) = (data.drop (128 * i + (a - 128 * i) - a)).take (min (a + data.length - 128 * i) 128 - (a - 128 * i)) := by
                    rw [List.drop_take]; congr 1; omega
                  rw [t1, t2, List.drop_zero]; rfl
                have hwl : (wblk (bytesB X1.now k) data a (a + data.length) (128 * i)).length ≤ 128 := by
                  unfold wblk
                  simp only [List.length_append, List.length_take, List.length_drop, bytesB_len]; omega
                conv => whnf
                refine IdxS.i i rfl (by omega) rfl ?_
                conv => whnf
                refine LoadR.i (I8.nth hi2) ?_
                conv => whnf
                refine SliceR.i 0 (a - 128 * i) rfl el (Nat.zero_le _) (by rw [hbs]; omega) ?_
                conv => whnf
                refine SliceR.i (128 * i + (a - 128 * i) - a) (128 * i + min (a + data.length - 128 * i) 128 - a) (d1 _ el) (d2 _ er) (by omega) (by rw [hdl]; omega) ?_
                conv => whnf
                refine Need.i (by rw [ByteArray.size_extract, ByteArray.size_extract, hbs, hdl]; omega) ?_
                conv => whnf
                refine SliceR.i (min (a + data.length - 128 * i) 128) 128 er (by rw [hbs]) (by omega) (by rw [hbs]; exact Nat.le_refl _) ?_
                conv => whnf
                refine Need.i (by rw [ByteArray.size_append, ByteArray.size_extract, ByteArray.size_extract, ByteArray.size_extract, hbs, hdl]; omega) ?_
                conv => whnf
                rw [hstr, m1i hi2]
                refine CallR.m (putB_spec A8 k ⟨(wblk (bytesB X1.now k) data a (a + data.length) (128 * i)).toArray⟩ (by rw [ba_size]; exact hwl)) nbs fun v h9 k9 hv => ?_
                obtain ⟨rfl, A9⟩ := hv
                rw [if_pos hkr] at A9
                rw [if_pos hkr]
                conv => whnf
                refine IfR.f rfl ?_
                conv => whnf
                refine ⟨N0 - (i + 1), by omega, ?_⟩
                conv => whnf
                rw [hw] at hRi
                simp only [if_true] at hRi
                have z8 := k8.size
                have z9 := k9.size
                exact ⟨(i + 1, { X1 with now := putBlk X1.now k (textL (wblk (bytesB X1.now k) data a (a + data.length) (128 * i)) 16) }, m1), rfl, by simp only; rw [wrapN (x := (i : Int) + 1) (n := i + 1) (by simp) (by omega)], rfl, by simp only; omega, by simp only; omega, (k0x.trans_nil k8).trans k9, by omega, k9.obj I8 (by simp; omega), m1l, m1r, A9, hRi⟩
            · have hi1 : i = N0 := by simp at hc; omega
              subst hi1
              rw [Nat.sub_self] at hRi
              have hR0 : R = (0, Xi, mi) := hRi
              rw [hR0]
              simp only [if_true]
              have SM := I6.sl (n := 21) (cap := cap) (fun x hx => by have := mr5 x hx; unfold inI64; omega) ml5.symm hcap (by omega)
              conv => whnf
              refine BoxR.i fun h7 s7 k7 => ?_
              have k7' : Keeps [V.ob] h h7 := k06.m1 k7 (by omega)
              have A7 := A6.keep k7 (fun y hy => by simpa using (nv y hy).1)
              have SM7 := SM.keepM k7 (by simp [blkA]; omega)
              conv => whnf
              have em : (if ((a + data.length : Nat) : Int) > c.size then ((a + data.length : Nat) : Int) else c.size) = max c.size ((a : Int) + (data.length : Int)) := by
                rw [maxI]; simp
              rw [em]
              refine CallR.m (keep_spec A7 node { c with size := max c.size ((a : Int) + (data.length : Int)) } SM7 (by simp [blkA]; omega)) nbs fun v h8 k8 hv => ?_
              obtain ⟨rfl, A8⟩ := hv
              conv => whnf
              refine BoxR.i fun h9 s9 k9 => ?_
              conv => whnf
              have z7 : h7.size = h6.size := s7
              exact ⟨(k7'.trans k8).m1 k9 (by omega), rfl, A8.keep k9 (fun y hy => by simpa using (nv y hy).2)⟩
end Go.Proofs.YtlloemmpnhoanaaGreat
