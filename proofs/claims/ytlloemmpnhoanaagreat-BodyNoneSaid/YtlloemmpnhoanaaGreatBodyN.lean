/-
  Layer 10: a file is cut.
-/
import Derived.Test.YtlloemmpnhoanaaGreatBodyM
set_option linter.all false
set_option maxRecDepth 100000
set_option maxHeartbeats 4000000
namespace Go.Proofs.YtlloemmpnhoanaaGreat
open Go Go.Eng

def cutStep (z : Nat) (size : Int) (i : Nat) (X : VS) (m : List Int) : Int × VS × List Int :=
  if m[i]?.getD 0 = -1 ∨ size ≤ (z : Int) ∨ 128 * i + 128 ≤ z then (0, X, m)
  else if z ≤ 128 * i then ((dropP X (m[i]?.getD 0)).1, (dropP X (m[i]?.getD 0)).2, m.set i (-1))
  else (0, { X with now := putBlk X.now (m[i]?.getD 0) (textL ((bytesB X.now (m[i]?.getD 0)).take (z - 128 * i)) 16) }, m)

def cutL (z : Nat) (size : Int) : Nat → Nat → VS → List Int → Int × VS × List Int
  | 0, _, X, m => (0, X, m)
  | f + 1, i, X, m => if (cutStep z size i X m).1 = 0 then cutL z size f (i + 1) (cutStep z size i X m).2.1 (cutStep z size i X m).2.2 else cutStep z size i X m

/-- a file is cut -/
def cutP (B : Int → UInt64) (X : VS) (node : Int) (c : Crd) (size : Int) : Crd × Int × VS :=
  if ¬ (0 ≤ node ∧ node < 24) ∨ size < 0 then (Crd.zero, 1, X)
  else if 2688 < size then (Crd.zero, 10, X)
  else match mapOf X.now c with
    | none => (Crd.zero, 15, X)
    | some m =>
      let r := cutL size.toNat c.size 21 0 X m
      if r.1 = 0 then keepP B r.2.1 node { c with size := size } r.2.2 else (Crd.zero, r.1, r.2.1)

theorem cut_spec {h : Heap} {V : VL} {M : MemS} {X : VS} (A : At h V M X) (node : Int) (c : Crd) (hc : c.ok) (hm : okMap X.now c) (size : Int) :
    CallH Tryz.prog 22 [.pointer (some ⟨V.v, 0, none⟩), .int .i64 node, .agg ⟨c.cells⟩, .int .i64 size] h (fun v h' => Keeps [V.ob] h h' ∧
      v = .tuple #[.agg ⟨(cutP M.read X node c size).1.cells⟩, .int .i64 (cutP M.read X node c size).2.1] ∧ At h' V M (cutP M.read X node c size).2.2) := by
  have hob := A.blt V.ob (by simp [VL.blocks])
  refine call_of hmix Tryz.func22 rfl ok22 (by simp [Tryz.f22]) ?_
  conv => whnf
  refine AllocR.i fun b1 h1 e1 s1 o1 k1 => ?_
  conv => whnf
  refine AllocR.i fun b2 h2 e2 s2 o2 k2 => ?_
  conv => whnf
  refine CallR.i (may_spec node h2) fun v h3 k3 hv => ?_
  subst hv
  have k03 := k1.trans (k2.trans k3)
  have z3 := k3.size
  have nv : ∀ b ∈ V.blocks, b ≠ b1 ∧ b ≠ b2 := fun b hb => by have := A.blt b hb; omega
  conv => whnf
  first | refine IfR.i (fun hq => ?_) (fun hq => ?_) | (refine MeetR.pass ?_; (conv => whnf); refine IfR.i (fun hq => ?_) (fun hq => ?_))
  · have hb : ¬ (0 ≤ node ∧ node < 24) ∨ size < 0 := by
      by_cases hn : 0 ≤ node ∧ node < 24
      · rw [if_pos hn] at hq
        simp [bif_or] at hq
        exact .inr hq
      · exact .inl hn
    conv => whnf
    refine BoxR.i fun h4 s4 k4 => ?_
    conv => whnf
    unfold cutP
    rw [if_pos hb]
    exact ⟨(k03.new1 k4 (by omega)).mono (by simp), rfl, A.on (k03.new1 k4 (by omega))⟩
  · have hb : ¬ (¬ (0 ≤ node ∧ node < 24) ∨ size < 0) := by
      by_cases hn : 0 ≤ node ∧ node < 24
      · rw [if_pos hn] at hq
        simp [bif_or] at hq
        omega
      · rw [if_neg hn] at hq
        simp [bif_or] at hq
    conv => whnf
    refine IfR.i (fun hr => ?_) (fun hr => ?_)
    · have hs : 2688 < size := by simpa using hr
      conv => whnf
      refine BoxR.i fun h4 s4 k4 => ?_
      conv => whnf
      unfold cutP
      rw [if_neg hb, if_pos hs]
      exact ⟨(k03.new1 k4 (by omega)).mono (by simp), rfl, A.on (k03.new1 k4 (by omega))⟩
    · have hs : ¬ 2688 < size := by simpa using hr
      conv => whnf
      refine CallR.i (map_spec (A.on k03) c hc) fun v h4 k4 hv => ?_
      have k04 := k03.trans k4
      have z4 := k4.size
      have hPw : cutP M.read X node c size = match mapOf X.now c with
        | none => (Crd.zero, 15, X)
        | some m => if (cutL size.toNat c.size 21 0 X m).1 = 0 then keepP M.read (cutL size.toNat c.size 21 0 X m).2.1 node { c with size := size } (cutL size.toNat c.size 21 0 X m).2.2 else (Crd.zero, (cutL size.toNat c.size 21 0 X m).1, (cutL size.toNat c.size 21 0 X m).2.1) := by
        unfold cutP; rw [if_neg hb, if_neg hs]
      rw [hPw]
      clear hPw
      cases hmo : mapOf X.now c with
      | none =>
        rw [hmo] at hv; simp only at hv; subst hv
        conv => whnf
        first | refine IfR.t rfl ?_ | (refine MeetR.pass ?_; (conv => whnf); refine IfR.t rfl ?_)
        conv => whnf
        refine BoxR.i fun h5 s5 k5 => ?_
        conv => whnf
        exact ⟨(k04.new1 k5 (by omega)).mono (by simp), rfl, A.on (k04.new1 k5 (by omega))⟩
      | some m0 =>
        rw [hmo] at hv; simp only at hv
        obtain ⟨b, cap, sp, rfl, I4, hb4, hcap⟩ := hv
        have hml := mapOf_length hmo
        have hmr := hm m0 hmo
        obtain ⟨z, rfl⟩ : ∃ z : Nat, size = (z : Int) := ⟨size.toNat, by omega⟩
        rw [show ((z : Int)).toNat = z by omega]
        simp only
        generalize hR : cutL z c.size 21 0 X m0 = R
        have hbl : b < h4.size := obj_lt I4
        have nbs : ∀ y ∈ blocksOf [(6, b1, c.cells), (8, b2, Crd.zero.cells)], y ∉ [V.ob] := by
          intro y hy hx
          have hy2 : y ∈ [b1, b2] := hy
          simp at hy2 hx; omega
        have nvb : ∀ y ∈ V.blocks, y ≠ b := fun y hy => by have := A.blt y hy; omega
        conv => whnf
        first | refine IfR.f rfl ?_ | (refine MeetR.pass ?_; (conv => whnf); refine IfR.f rfl ?_)
        conv => whnf
        refine LoopR.on [0, 1, 3, 6, 8, 11, 12, 42, 43, 44] [6, 8] (fun q : Nat × VS × List Int => [(0, .v (.pointer (some ⟨V.v, 0, none⟩))), (1, .v (.int .i64 node)), (3, .v (.int .i64 (z : Int))), (6, .lp 6 0), (8, .lp 8 0), (11, .v (.slice (some ⟨b, 0, none⟩) 21 cap)), (12, .v (.int .i64 0)), (43, .v (.int .i64 21)), (44, .v (.int .i64 (q.1 : Int)))])
          (fun _ => [(6, b1, c.cells), (8, b2, Crd.zero.cells)]) (fun q h' => q.1 ≤ 21 ∧ Keeps [V.ob] h h' ∧ h4.size ≤ h'.size ∧ IntsAt h' b q.2.2 sp ∧ q.2.2.length = 21 ∧ (∀ x ∈ q.2.2, x = -1 ∨ (0 ≤ x ∧ x < 96)) ∧ At h' V M q.2.1 ∧ R = cutL z c.size (21 - q.1) q.1 q.2.1 q.2.2) (fun q => 21 - q.1) (0, X, m0) ?_ ?_
        · conv => whnf
          exact ⟨(0, X, m0), rfl, rfl, rfl, Nat.zero_le _, k04.mono (by simp), Nat.le_refl _, I4, hml, hmr, A.on k04, hR.symm⟩
        · rintro ⟨i, Xi, mi⟩ h5 ⟨hi, k5, z5, I5, ml5, mr5, A5, hRi⟩
          simp only at hi I5 ml5 mr5 A5 hRi
          conv => whnf
          refine IfR.i (fun hc2 => ?_) (fun hc2 => ?_)
          · have hi1 : i < 21 := by simp at hc2; omega
            have him : i < mi.length := by omega
            have hgi : mi[i]?.getD 0 = mi[i] := by simp [him]
            have hstep : cutL z c.size (21 - i) i Xi mi = if (cutStep z c.size i Xi mi).1 = 0 then cutL z c.size (21 - (i + 1)) (i + 1) (cutStep z c.size i Xi mi).2.1 (cutStep z c.size i Xi mi).2.2 else cutStep z c.size i Xi mi := by
              rw [show 21 - i = (21 - (i + 1)) + 1 by omega]; rfl
            rw [hstep] at hRi
            clear hstep
            have ew : IntKind.i64.wrap ((i : Int) * 128) = ((128 * i : Nat) : Int) := wrapN (by omega) (by omega)
            have ew2 : IntKind.i64.wrap (((128 * i : Nat) : Int) + 128) = ((128 * i + 128 : Nat) : Int) := wrapN (by omega) (by omega)
            conv => whnf
            first | refine IdxS.i i rfl (by omega) rfl ?_ | (refine MeetR.pass ?_; (conv => whnf); refine IdxS.i i rfl (by omega) rfl ?_)
            conv => whnf
            refine LoadR.i (I5.nth him) ?_
            conv => whnf
            refine CallR.i (used_spec _ h5) fun v h6 k6 hv => ?_
            subst hv
            have A6 := A5.on k6
            have k06 := k5.trans_nil k6
            have I6 : IntsAt h6 b mi sp := k6.obj I5 (by simp)
            have z6 := k6.size
            conv => whnf
            refine IfR.i (fun hu => ?_) (fun hu => ?_)
            · have hskip : mi[i]?.getD 0 = -1 ∨ c.size ≤ (z : Int) ∨ 128 * i + 128 ≤ z := by
                rw [hgi]
                by_cases h1 : mi[i] = -1
                · exact .inl h1
                · rw [usedB_t.2 h1, ew, ew2] at hu
                  simp [bif_or] at hu
                  omega
              conv => whnf
              refine ⟨21 - (i + 1), by omega, ?_⟩
              conv => whnf
              unfold cutStep at hRi
              rw [if_pos hskip] at hRi
              simp only [if_true] at hRi
              exact ⟨(i + 1, Xi, mi), rfl, by simp only; rw [wrapN (x := (i : Int) + 1) (n := i + 1) (by simp) (by omega)], rfl, by simp only; omega, k06, by omega, I6, ml5, mr5, A6, hRi⟩
            · have hskip : ¬ (mi[i]?.getD 0 = -1 ∨ c.size ≤ (z : Int) ∨ 128 * i + 128 ≤ z) := by
                rw [hgi]
                by_cases h1 : mi[i] = -1
                · rw [usedB_f.2 h1] at hu
                  simp [bif_or] at hu
                · rw [usedB_t.2 h1, ew, ew2] at hu
                  simp [bif_or] at hu
                  omega
              have hu1 : ¬ mi[i] = -1 := fun h => hskip (.inl (by rw [hgi]; exact h))
              have hkr : 0 ≤ mi[i] ∧ mi[i] < 96 := (mr5 _ (List.getElem_mem him)).resolve_left hu1
              conv => whnf
              first | refine IfR.i (fun hx => ?_) (fun hx => ?_) | (refine MeetR.pass ?_; (conv => whnf); refine IfR.i (fun hx => ?_) (fun hx => ?_))
              · have hge : z ≤ 128 * i := by rw [ew] at hx; simp at hx; omega
                have hw : cutStep z c.size i Xi mi = ((dropP Xi mi[i]).1, (dropP Xi mi[i]).2, mi.set i (-1)) := by
                  unfold cutStep
                  rw [if_neg hskip, if_pos hge, hgi]
                rw [hw] at hRi
                conv => whnf
                refine IdxS.i i rfl (by omega) rfl ?_
                conv => whnf
                refine LoadR.i (I6.nth him) ?_
                conv => whnf
                refine CallR.m (drop_spec A6 mi[i]) nbs fun v h7 k7 hv => ?_
                obtain ⟨rfl, A7⟩ := hv
                have z7 := k7.size
                have I7 : IntsAt h7 b mi sp := k7.obj I6 (by simp; omega)
                conv => whnf
                refine IdxS.i i rfl (by omega) rfl ?_
                conv => whnf
                refine StoreR.i I7 ?_ (by intro hx; have hx2 : b ∈ [b1, b2] := hx; simp at hx2; omega) fun h8 s8 o8 k8 => ?_
                · show 0 + i * 1 + 1 ≤ _
                  simp; omega
                have I8 : IntsAt h8 b (mi.set i (-1)) sp := by
                  unfold IntsAt
                  rw [← ints_set him]; exact o8
                have A8 := A7.keep k8 (fun y hy => by simpa using nvb y hy)
                have k08 : Keeps [V.ob] h h8 := (k06.trans k7).m1 k8 (by omega)
                conv => whnf
                first | refine IfR.i (fun hy => ?_) (fun hy => ?_) | (refine MeetR.pass ?_; (conv => whnf); refine IfR.i (fun hy => ?_) (fun hy => ?_))
                · have ht : ¬ (dropP Xi mi[i]).1 = 0 := by simpa using hy
                  simp only [if_neg ht] at hRi
                  subst hRi
                  conv => whnf
                  refine BoxR.i fun h9 s9 k9 => ?_
                  conv => whnf
                  simp only [if_neg ht]
                  exact ⟨k08.m1 k9 (by omega), rfl, A8.keep k9 (fun y hy => by simpa using (nv y hy).2)⟩
                · have ht : (dropP Xi mi[i]).1 = 0 := by simpa using hy
                  simp only [ht, if_true] at hRi
                  conv => whnf
                  refine ⟨21 - (i + 1), by omega, ?_⟩
                  conv => whnf
                  refine ⟨(i + 1, (dropP Xi mi[i]).2, mi.set i (-1)), rfl, ?_, rfl, by simp only; omega, k08, by omega, I8, by simp [ml5], fun x hx => ?_, A8, hRi⟩
                  · simp only
                    rw [wrapN (x := (i : Int) + 1) (n := i + 1) (by simp) (by omega), ht]
                  · rcases List.mem_or_eq_of_mem_set hx with h | h
                    · exact mr5 x h
                    · exact .inl h
              · have hge : ¬ z ≤ 128 * i := by rw [ew] at hx; simp at hx; omega
                have hw : cutStep z c.size i Xi mi = (0, { Xi with now := putBlk Xi.now mi[i] (textL ((bytesB Xi.now mi[i]).take (z - 128 * i)) 16) }, mi) := by
                  unfold cutStep
                  rw [if_neg hskip, if_neg hge, hgi]
                rw [hw] at hRi
                simp only [if_true] at hRi
                conv => whnf
                refine IdxS.i i rfl (by omega) rfl ?_
                conv => whnf
                refine LoadR.i (I6.nth him) ?_
                conv => whnf
                refine CallR.i (textB_spec A6 mi[i]) fun v h7 k7 hv => ?_
                rw [if_pos (.inr hkr)] at hv
                subst hv
                have A7 := A6.on k7
                have z7 := k7.size
                have I7 : IntsAt h7 b mi sp := k7.obj I6 (by simp)
                conv => whnf
                first | refine IfR.t rfl ?_ | (refine MeetR.pass ?_; (conv => whnf); refine IfR.t rfl ?_)
                conv => whnf
                refine IdxS.i i rfl (by omega) rfl ?_
                conv => whnf
                refine LoadR.i (I7.nth him) ?_
                have hz1 : z < 128 * i + 128 := by omega
                have er : IntKind.i64.wrap ((z : Int) - IntKind.i64.wrap ((i : Int) * 128)) = ((z - 128 * i : Nat) : Int) := by
                  rw [ew, wrapN (n := z - 128 * i) (by omega) (by omega)]
                conv => whnf
                refine SliceR.i 0 (z - 128 * i) rfl er (Nat.zero_le _) (by rw [ba_size, bytesB_len]; omega) ?_
                conv => whnf
                rw [ba_extract, List.drop_zero]
                refine CallR.m (putB_spec A7 mi[i] ⟨((bytesB Xi.now mi[i]).take (z - 128 * i)).toArray⟩ (by rw [ba_size, List.length_take]; omega)) nbs fun v h8 k8 hv => ?_
                obtain ⟨rfl, A8⟩ := hv
                rw [if_pos hkr] at A8
                rw [if_pos hkr]
                conv => whnf
                first | refine IfR.f rfl ?_ | (refine MeetR.pass ?_; (conv => whnf); refine IfR.f rfl ?_)
                conv => whnf
                refine ⟨21 - (i + 1), by omega, ?_⟩
                conv => whnf
                have z8 := k8.size
                exact ⟨(i + 1, { Xi with now := putBlk Xi.now mi[i] (textL ((bytesB Xi.now mi[i]).take (z - 128 * i)) 16) }, mi), rfl, by simp only; rw [wrapN (x := (i : Int) + 1) (n := i + 1) (by simp) (by omega)], rfl, by simp only; omega, (k06.trans_nil k7).trans k8, by omega, k8.obj I7 (by simp; omega), ml5, mr5, A8, hRi⟩
          · have hi1 : i = 21 := by simp at hc2; omega
            subst hi1
            have hR0 : R = (0, Xi, mi) := hRi
            rw [hR0]
            simp only [if_true]
            have SM := I5.sl (n := 21) (cap := cap) (fun x hx => by have := mr5 x hx; unfold inI64; omega) ml5.symm hcap (by omega)
            conv => whnf
            refine BoxR.i fun h7 s7 k7 => ?_
            have k7' : Keeps [V.ob] h h7 := k5.m1 k7 (by omega)
            have A7 := A5.keep k7 (fun y hy => by simpa using (nv y hy).1)
            have SM7 := SM.keepM k7 (by simp [blkA]; omega)
            conv => whnf
            refine CallR.m (keep_spec A7 node { c with size := (z : Int) } SM7 (by simp [blkA]; omega)) nbs fun v h8 k8 hv => ?_
            obtain ⟨rfl, A8⟩ := hv
            conv => whnf
            refine BoxR.i fun h9 s9 k9 => ?_
            conv => whnf
            exact ⟨(k7'.trans k8).m1 k9 (by omega), rfl, A8.keep k9 (fun y hy => by simpa using (nv y hy).2)⟩
end Go.Proofs.YtlloemmpnhoanaaGreat
