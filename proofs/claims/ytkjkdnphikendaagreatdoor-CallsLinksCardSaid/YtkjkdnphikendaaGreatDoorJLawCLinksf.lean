/-
  Joined texts: BodyK, BodyL, BodyM, BodyN, EngE, BodyO, BodyP, BodyQ, BodyR, BodyU, BodyV, BodyW, BodyX, FileA, FileB.
-/
import Derived.Test.YtkjkdnphikendaaGreatDoorJLawCLinkse
import Derived.Laws.StructEq
import Derived.ChangeKeysEq
import Derived.Test.YtkjkdnphikendaaGreatDoorJLawCLinksc
/-
  Layer 10: a card with a map.
-/
set_option linter.all false
set_option maxRecDepth 100000
namespace Go.Proofs.YtkjkdnphikendaaGreatDoor
open Go Go.Eng

def setD (c : Crd) (m : List Int) : Crd := { c with d0 := m[0]?.getD 0, d1 := m[1]?.getD 0, d2 := m[2]?.getD 0, d3 := m[3]?.getD 0, d4 := m[4]?.getD 0 }

/-- a card with a map -/
def keepP (B : Int → UInt64) (X : VS) (node : Int) (c : Crd) (m : List Int) : Crd × Int × VS :=
  if (0 ≤ node ∧ node < 24) ∧ m.length = 21 ∧ m.any oddB = false then
    (if (m.drop 5).any usedB = false then
      (if c.more = -1 then ({ setD c m with more := -1 }, 0, X)
      else if (dropP X c.more).1 = 0 then ({ setD c m with more := -1 }, 0, (dropP X c.more).2) else (Crd.zero, (dropP X c.more).1, (dropP X c.more).2))
    else
      let t := if c.more = -1 then takeP B X node else (c.more, 0, X)
      if t.2.1 = 0 then
        ({ setD c m with more := t.1 }, if 0 ≤ t.1 ∧ t.1 < 96 then 0 else 1, if 0 ≤ t.1 ∧ t.1 < 96 then { t.2.2 with now := putBlk t.2.2.now t.1 ((m.drop 5).map fun n => w64 (n + 1)) } else t.2.2)
      else (Crd.zero, t.2.1, t.2.2))
  else (Crd.zero, 1, X)

theorem take5 {m : List Int} (h : m.length = 21) : ∃ a b c d e r, m = a :: b :: c :: d :: e :: r ∧ r.length = 16 := by
  match m, h with
  | a :: b :: c :: d :: e :: r, h => exact ⟨a, b, c, d, e, r, rfl, by simpa using h⟩

theorem usedB_t {n : Int} : usedB n = true ↔ ¬ n = -1 := by unfold usedB; exact decide_eq_true_iff
theorem usedB_f {n : Int} : usedB n = false ↔ n = -1 := by
  rw [← Bool.not_eq_true, usedB_t]
  first | done | exact Classical.not_not

theorem bnot_t {b : Bool} (h : (!b) = true) : b = false := by cases b <;> simp_all
theorem bnot_f {b : Bool} (h : (!b) = false) : b = true := by cases b <;> simp_all
theorem reps_w (h : Heap) : ∀ l : List UInt64, Reps h (l.map wv) l
  | [] => rfl
  | x :: l => ⟨[wv x], l.map wv, rfl, rfl, reps_w h l⟩

theorem keep_spec {h : Heap} {V : VL} {M : MemS} {X : VS} (A : At h V M X) (node : Int) (c : Crd) {sa : Option Addr} {n cap : Nat} {m : List Int} (S : Sl h sa n cap m) (hs : n = 21 → V.ob ∉ blkA sa) :
    CallH Tryz.prog 80 [.pointer (some ⟨V.v, 0, none⟩), .int .i64 node, .agg ⟨c.cells⟩, .slice sa n cap] h (fun v h' => Keeps [V.ob] h h' ∧
      v = .tuple #[.agg ⟨(keepP M.read X node c m).1.cells⟩, .int .i64 (keepP M.read X node c m).2.1] ∧ At h' V M (keepP M.read X node c m).2.2) := by
  have hl := S.hlen
  have hob := A.blt V.ob (by simp [VL.blocks])
  refine call_of hmix Tryz.func80 rfl ok80 (by simp [Tryz.f80]) ?_
  conv => whnf
  refine AllocR.i fun b1 h1 e1 s1 o1 k1 => ?_
  conv => whnf
  refine AllocR.i fun b2 h2 e2 s2 o2 k2 => ?_
  conv => whnf
  refine CallR.i (may_spec node h2) fun v h3 k3 hv => ?_
  subst hv
  have k03 := k1.trans (k2.trans k3)
  have z3 := k3.size
  -- no use
  have bad : ¬ ((0 ≤ node ∧ node < 24) ∧ m.length = 21 ∧ m.any oddB = false) → ∀ h4 h5 : Heap, Keeps [] h3 h4 → Keeps [b2] h4 h5 → Keeps [V.ob] h h5 ∧ Value.tuple #[.agg ⟨[.int .i64 0, .int .i64 0, .int .i64 0, .int .u64 0, .int .i64 0, .int .i64 0, .int .i64 0, .int .i64 0, .int .i64 0, .int .i64 0]⟩, .int .i64 1] = .tuple #[.agg ⟨(keepP M.read X node c m).1.cells⟩, .int .i64 (keepP M.read X node c m).2.1] ∧ At h5 V M (keepP M.read X node c m).2.2 := by
    intro hno h4 h5 k4 k5
    have k05 : Keeps [] h h5 := (k03.trans k4).new1 k5 (by omega)
    unfold keepP
    rw [if_neg hno]
    exact ⟨k05.mono (by simp), rfl, A.on k05⟩
  conv => whnf
  first | refine IfR.i (fun hc => ?_) (fun hc => ?_) | (refine MeetR.pass ?_; (conv => whnf); refine IfR.i (fun hc => ?_) (fun hc => ?_))
  · have hb : 0 ≤ node ∧ node < 24 := Classical.byContradiction fun hb => by rw [if_neg hb] at hc; simp [bif_and, bif_or] at hc
    rw [if_pos hb] at hc
    rw [if_pos hb]
    have h21 : n = 21 := by simp [bif_and, bif_or] at hc; omega
    subst h21
    conv => whnf
    refine CallR.i (containsFunc_spec 144 oddB (.inr ⟨rfl, rfl⟩) (S.keep k03) (by decide)) fun v h4 k4 hv => ?_
    subst hv
    have k04 := k03.trans k4
    have z4 := k4.size
    conv => whnf
    refine IfR.i (fun hd => ?_) (fun hd => ?_)
    · have ho : m.any oddB = true := by simpa [bif_and, bif_or] using hd
      conv => whnf
      refine IfR.t rfl ?_
      conv => whnf
      refine BoxR.i fun h5 s5 k5 => ?_
      conv => whnf
      exact bad (fun x => by rw [ho] at x; exact absurd x.2.2 (by decide)) h4 h5 k4 k5
    · have ho : m.any oddB = false := by simpa [bif_and, bif_or] using hd
      have hyes : (0 ≤ node ∧ node < 24) ∧ m.length = 21 ∧ m.any oddB = false := ⟨hb, hl.symm, ho⟩
      have rng : ∀ x ∈ m, -1 ≤ x ∧ x < 96 := by
        intro x hx
        have := List.any_eq_false.1 ho x hx
        simp [oddB] at this; omega
      obtain ⟨xb, xo, rfl⟩ := S.nonnil (by decide)
      have o14 := (k2.trans (k3.trans k4)).obj o1 (by simp)
      have Sm := S.keep k04
      conv => whnf
      refine IfR.f rfl ?_
      conv => whnf
      refine PureR.i (v := .slice (some ⟨b1, 4, none⟩) 5 5) (fun w => rfl) ?_
      conv => whnf
      refine SemR.copy (sz := 1) (new := (m.take 5).map fun x => .int .i64 x) rfl rfl rfl o14 (by simp [hl.symm]) (fun j hj => ?_) (allOne_ints _) ?_ ?_ fun h5 s5 o5 k5 => ?_
      · have hj5 : j < 5 := by simp [hl.symm] at hj; exact hj
        rw [Sm.cells1 j (by simp [hl.symm]; omega)]
        have hjm : j < m.length := by omega
        simp [One.val, List.getElem?_take, hj5]
      · show 4 + ((m.take 5).map fun x => Value.int .i64 x).length ≤ 10
        simp [hl.symm]
      · intro hx
        have hx2 : b1 ∈ [b2] := hx
        simp at hx2; omega
      have hb1 : b1 < h5.size := obj_lt o5
      have k05 : Keeps [] h h5 := k04.new1 k5 (by omega)
      -- the card with the map
      have o5' : h5[b1]? = some (.cells ⟨(setD c m).cells⟩ 64 (0, 0)) := by
        rw [o5]
        obtain ⟨a, b, c', d, e, r, rfl, _⟩ := take5 hl.symm
        rfl
      clear o5
      have Sp := (S.keep k05).part (l := 5) (r := 21) (by decide) (Nat.le_refl _)
      rw [List.take_of_length_le (by omega)] at Sp
      have hcap := S.hcap
      conv => whnf
      refine SliceR.i 5 21 rfl rfl (by decide) hcap ?_
      conv => whnf
      refine CallR.i (containsFunc_spec 76 usedB (.inl ⟨rfl, rfl⟩) Sp (by decide)) fun v h6 k6 hv => ?_
      subst hv
      have k06 := k05.trans k6
      have o6 := k6.obj o5' (by simp)
      conv => whnf
      first | refine IfR.i (fun hu => ?_) (fun hu => ?_) | (refine MeetR.pass ?_; (conv => whnf); refine IfR.i (fun hu => ?_) (fun hu => ?_))
      · have hu' : (m.drop 5).any usedB = false := by simpa using hu
        have hP : keepP M.read X node c m = (if c.more = -1 then ({ setD c m with more := -1 }, 0, X)
            else if (dropP X c.more).1 = 0 then ({ setD c m with more := -1 }, 0, (dropP X c.more).2) else (Crd.zero, (dropP X c.more).1, (dropP X c.more).2)) := by
          unfold keepP; rw [if_pos hyes, if_pos hu']
        rw [hP]
        have hob1 : V.ob ≠ b1 := by omega
        conv => whnf
        first | refine LoadR.o o6 rfl ?_ | (refine MeetR.pass ?_; (conv => whnf); refine LoadR.o o6 rfl ?_)
        conv => whnf
        refine CallR.i (used_spec _ h6) fun v h7 k7 hv => ?_
        subst hv
        have k07 := k06.trans k7
        have o7 := k7.obj o6 (by simp)
        have z7 := (k6.trans k7).size
        -- the end, where nothing is behind
        have fin : ∀ (X' : VS) (h8 : Heap), Keeps [V.ob] h h8 → At h8 V M X' → h7.size ≤ h8.size → h8[b1]? = some (.cells ⟨(setD c m).cells⟩ 64 (0, 0)) → ∀ h9, h9.size = h8.size → Keeps [b1] h8 h9 → ∀ h10, h10.size = h9.size → Keeps [b2] h9 h10 → Keeps [V.ob] h h10 ∧ At h10 V M X' := by
          intro X' h8 k8 A8 z8 o8 h9 s9 k9 h10 s10 k10
          have nv : ∀ b ∈ V.blocks, b ≠ b1 ∧ b ≠ b2 := fun b hb => by have := A.blt b hb; omega
          exact ⟨(k8.m1 k9 (by omega)).m1 k10 (by omega), (A8.keep k9 (fun b hb => by simpa using (nv b hb).1)).keep k10 (fun b hb => by simpa using (nv b hb).2)⟩
        conv => whnf
        first | refine IfR.i (fun hq => ?_) (fun hq => ?_) | (refine MeetR.pass ?_; (conv => whnf); refine IfR.i (fun hq => ?_) (fun hq => ?_))
        · have hm : ¬ c.more = -1 := usedB_t.1 hq
          rw [if_neg hm]
          conv => whnf
          refine LoadR.o o7 rfl ?_
          conv => whnf
          refine CallR.m (drop_spec (A.on k07) _) (by intro b hb hx; have hb2 : b ∈ [b2] := hb; simp at hb2 hx; omega) fun v h8 k8 hv => ?_
          obtain ⟨rfl, A8⟩ := hv
          have e8 : (setD c m).more = c.more := rfl
          rw [e8] at A8
          have k08 : Keeps [V.ob] h h8 := (k07.mono (by simp)).trans k8
          have o8 := k8.obj o7 (by simpa using hob1.symm)
          conv => whnf
          first | refine IfR.i (fun hr => ?_) (fun hr => ?_) | (refine MeetR.pass ?_; (conv => whnf); refine IfR.i (fun hr => ?_) (fun hr => ?_))
          all_goals rw [e8] at hr
          · have hd0 : ¬ (dropP X c.more).1 = 0 := by simpa using hr
            rw [if_neg hd0]
            conv => whnf
            refine BoxR.i fun h9 s9 k9 => ?_
            conv => whnf
            have nv : ∀ b ∈ V.blocks, b ≠ b1 ∧ b ≠ b2 := fun b hb => by have := A.blt b hb; omega
            exact ⟨k08.m1 k9 (by omega), rfl, A8.keep k9 (fun b hb => by simpa using (nv b hb).2)⟩
          · have hd0 : (dropP X c.more).1 = 0 := by simpa using hr
            rw [if_pos hd0]
            conv => whnf
            refine StoreR.i o8 (Nat.le_of_ble_eq_true rfl) (by intro hx; have hx2 : b1 ∈ [b2] := hx; simp at hx2; omega) fun h9 s9 o9 k9 => ?_
            conv => whnf
            refine LoadN.o o9 rfl ?_
            conv => whnf
            refine BoxR.i fun h10 s10 k10 => ?_
            conv => whnf
            obtain ⟨q1, q2⟩ := fin _ h8 k08 A8 k8.size o8 h9 s9 k9 h10 s10 k10
            exact ⟨q1, rfl, q2⟩
        · have hm : c.more = -1 := usedB_f.1 hq
          rw [if_pos hm]
          conv => whnf
          first | refine IfR.f rfl ?_ | (refine MeetR.pass ?_; (conv => whnf); refine IfR.f rfl ?_)
          conv => whnf
          refine StoreR.i o7 (Nat.le_of_ble_eq_true rfl) (by intro hx; have hx2 : b1 ∈ [b2] := hx; simp at hx2; omega) fun h9 s9 o9 k9 => ?_
          conv => whnf
          refine LoadN.o o9 rfl ?_
          conv => whnf
          refine BoxR.i fun h10 s10 k10 => ?_
          conv => whnf
          obtain ⟨q1, q2⟩ := fin _ h7 (k07.mono (by simp)) (A.on k07) (Nat.le_refl _) o7 h9 s9 k9 h10 s10 k10
          exact ⟨q1, rfl, q2⟩
      · have hu' : ¬ (m.drop 5).any usedB = false := by rw [show (m.drop 5).any usedB = true by simpa using hu]; decide
        have hP : ∀ (k : Int) (X1 : VS), (if c.more = -1 then takeP M.read X node else (c.more, 0, X)) = (k, 0, X1) → keepP M.read X node c m = ({ setD c m with more := k }, (if 0 ≤ k ∧ k < 96 then 0 else 1), if 0 ≤ k ∧ k < 96 then { X1 with now := putBlk X1.now k ((m.drop 5).map fun n => w64 (n + 1)) } else X1) := by
          intro k X1 he
          unfold keepP
          rw [if_pos hyes, if_neg hu']
          simp only [he, if_true]
        have hob1 : V.ob ≠ b1 := by omega
        have hob2 : V.ob ≠ b2 := by omega
        have nb2 : ∀ b ∈ blocksOf [(8, b2, Crd.zero.cells)], b ∉ [V.ob] := by intro b hb hx; have hb2 : b ∈ [b2] := hb; simp at hb2 hx; omega
        have nv : ∀ b ∈ V.blocks, b ≠ b1 ∧ b ≠ b2 := fun b hb => by have := A.blt b hb; omega
        conv => whnf
        first | refine LoadR.o o6 rfl ?_ | (refine MeetR.pass ?_; (conv => whnf); refine LoadR.o o6 rfl ?_)
        conv => whnf
        refine CallR.i (used_spec _ h6) fun v h7 k7 hv => ?_
        subst hv
        have k07 := k06.trans k7
        have o7 := k7.obj o6 (by simp)
        have z7 := (k6.trans k7).size
        conv => whnf
        first | refine IfR.i ?ca ?cb | (refine MeetR.pass ?_; (conv => whnf); refine IfR.i ?ca ?cb)
        case' ca =>
          intro hq
          have hm : c.more = -1 := usedB_f.1 (bnot_t hq)
          conv => whnf
          refine CallR.m (take_spec (A.on k07) node) nb2 fun v hy ky hv => ?_
          obtain ⟨rfl, Ay⟩ := hv
          have oy := ky.obj o7 (by simpa using hob1.symm)
          conv => whnf
          refine StoreR.i oy (Nat.le_of_ble_eq_true rfl) (by intro hx; have hx2 : b1 ∈ [b2] := hx; simp at hx2; omega) fun hx sx ox kx => ?_
          have Ax := Ay.keep kx (fun b hb => by simpa using (nv b hb).1)
          have zy := ky.size
          have k0x : Keeps [V.ob] h hx := ((k07.mono (by simp)).trans ky).m1 kx (by omega)
          conv => whnf
          refine IfR.i (fun hr => ?_) (fun hr => ?_)
          · have ht : ¬ (takeP M.read X node).2.1 = 0 := by simpa using hr
            conv => whnf
            refine BoxR.i fun h9 s9 k9 => ?_
            conv => whnf
            have : keepP M.read X node c m = (Crd.zero, (takeP M.read X node).2.1, (takeP M.read X node).2.2) := by
              unfold keepP
              rw [if_pos hyes, if_neg hu', if_pos hm]
              simp only [if_neg ht]
            rw [this]
            exact ⟨k0x.m1 k9 (by omega), rfl, Ax.keep k9 (fun b hb => by simpa using (nv b hb).2)⟩
          have ht : (takeP M.read X node).2.1 = 0 := by simpa using hr
          have hPx := hP (takeP M.read X node).1 (takeP M.read X node).2.2 (by rw [if_pos hm, ← ht])
          have zz : b2 < hx.size ∧ h.size ≤ hx.size := ⟨by omega, by omega⟩
          have ox' : hx[b1]? = some (.cells ⟨({ setD c m with more := (takeP M.read X node).1 } : Crd).cells⟩ 64 (0, 0)) := ox
          clear oy ox hr hq ht kx sx ky Ay zy
          rw [hPx]
          clear hPx
          generalize (takeP M.read X node).1 = k, (takeP M.read X node).2.2 = X1 at ox' Ax ⊢
        case' cb =>
          intro hq
          have hm : ¬ c.more = -1 := usedB_t.1 (bnot_f hq)
          have hPx := hP c.more X (by rw [if_neg hm])
          have Ax := A.on k07
          have k0x : Keeps [V.ob] h h7 := k07.mono (by simp)
          have zz : b2 < h7.size ∧ h.size ≤ h7.size := ⟨by omega, by omega⟩
          have ox' : h7[b1]? = some (.cells ⟨({ setD c m with more := c.more } : Crd).cells⟩ 64 (0, 0)) := o7
          rw [hPx]
          clear hPx hq
          obtain ⟨X1, hX1⟩ : ∃ X1, X1 = X := ⟨_, rfl⟩
          rw [← hX1] at Ax ⊢
          obtain ⟨hx, hhx⟩ : ∃ hx, hx = h7 := ⟨_, rfl⟩
          rw [← hhx] at Ax k0x ox' zz ⊢
          obtain ⟨k, hk⟩ : ∃ k, k = c.more := ⟨_, rfl⟩
          rw [← hk] at ox' ⊢
        all_goals
          have Sx := S.keepM k0x (fun b hb hx => by simp at hx; exact (hs rfl) (hx ▸ hb))
          have Sq := Sx.part (l := 5) (r := 21) (by decide) (Nat.le_refl _)
          rw [List.take_of_length_le (by omega)] at Sq
          have hml : (m.drop 5).length = 16 := by simp; omega
          conv => whnf
          refine SliceR.i 5 21 rfl rfl (by decide) hcap ?_
          conv => whnf
          refine LoopR.on [0, 6, 8, 11, 69, 70, 71] [8] (fun q : Nat × Option Addr × Nat => [(0, .v (.pointer (some ⟨V.v, 0, none⟩))), (6, .v (.pointer (some ⟨b1, 0, none⟩))), (8, .lp 8 0), (11, .v (.slice q.2.1 q.1 q.2.2)), (69, .v (.slice (slA (some ⟨xb, xo, none⟩) cap 5 1) 16 (cap - 5))), (70, .v (.int .i64 16)), (71, .v (.int .i64 (q.1 : Int)))])
            (fun _ => [(8, b2, Crd.zero.cells)]) (fun q h' => q.1 ≤ 16 ∧ Keeps [] hx h' ∧ Own h' 56 1 q.2.1 q.1 q.2.2 ((((m.drop 5).take q.1).map fun n => w64 (n + 1)).map wv) ∧ ∀ b ∈ blkA q.2.1, hx.size ≤ b) (fun q => 16 - q.1) (0, none, 0) ?_ ?_
          · conv => whnf
            exact ⟨(0, none, 0), rfl, rfl, rfl, by decide, Keeps.refl _ _, .inl ⟨rfl, rfl, rfl, rfl⟩, by simp [blkA]⟩
          · rintro ⟨i, a, ca⟩ h8 ⟨hi, k8, O8, n8⟩
            simp only at hi O8 n8
            conv => whnf
            refine IfR.i (fun hc => ?_) (fun hc => ?_)
            · have hi1 : i < (m.drop 5).length := by simp at hc; omega
              obtain ⟨yb, yo, hy, hyo, hcell⟩ := (Sq.keep k8).at1 i hi1
              have hr := rng (m.drop 5)[i] (List.mem_of_mem_drop (List.getElem_mem hi1))
              conv => whnf
              refine IdxS.i i rfl (by omega) hy ?_
              conv => whnf
              refine LoadR.i hcell ?_
              conv => whnf
              refine AllocR.i fun b9 h9 e9 s9 o9 k9 => ?_
              conv => whnf
              have ev : Value.int .u64 (IntKind.u64.wrap (IntKind.i64.wrap ((m.drop 5)[i] + 1))) = wv (w64 ((m.drop 5)[i] + 1)) := by
                rw [wrapI (x := (m.drop 5)[i] + 1) (by omega) (by omega), wv_w64]
              rw [ev] at o9 ⊢
              have z8 := k8.size
              refine append_own (e := 56) (sz := 1) (by_ := 8) (new := [wv (w64 ((m.drop 5)[i] + 1))]) rfl rfl rfl rfl rfl rfl rfl (O8.keep k9 (by simp)) rfl (fun j hj => ?_) rfl (by omega) (by decide) (fun b hb hx2 => ?_) ?_
              · have hj0 : j = 0 := by simpa using hj
                subst hj0
                simp only [Heap.cell?, o9]; rfl
              · have hb2 : b ∈ [b2] := hx2
                have := n8 b hb
                simp at hb2; omega
              intro a10 c10 h10 O10 k10 n10
              conv => whnf
              refine ⟨16 - (i + 1), by omega, ?_⟩
              conv => whnf
              refine ⟨(i + 1, a10, c10), rfl, by rw [wrapN (x := (i : Int) + 1) (n := i + 1) (by simp) (by omega)], rfl, by simp only; omega, (k8.trans k9).nil_of k10 n8, ?_, fun b hb => ?_⟩
              · simp only
                rw [List.take_succ_eq_append_getElem hi1, List.map_append, List.map_append]
                exact O10
              · rcases n10 b hb with h | h
                · exact n8 b h
                · omega
            · have hi1 : i = 16 := by simp at hc; omega
              subst hi1
              rw [List.take_of_length_le (by omega)] at O8
              have SL := O8.sl (reps_w h8 _) rfl (by decide) (by simp; omega)
              have z8 := k8.size
              have o8 := k8.obj ox' (by simp)
              have hsl : V.ob ∉ blkA a := fun hb => by have := n8 _ hb; omega
              have fin : ∀ h9 h10 : Heap, Keeps [V.ob] h8 h9 → At h9 V M (if 0 ≤ k ∧ k < 96 ∧ 16 ≤ 16 then { X1 with now := putBlk X1.now k ((m.drop 5).map fun n => w64 (n + 1)) } else X1) → Keeps [b2] h9 h10 →
                  Keeps [V.ob] h h10 ∧ Value.tuple #[.agg ⟨({ setD c m with more := k } : Crd).cells⟩, .int .i64 (if 0 ≤ k ∧ k < 96 ∧ 16 ≤ 16 then 0 else 1)] = .tuple #[.agg ⟨({ setD c m with more := k } : Crd).cells⟩, .int .i64 (if 0 ≤ k ∧ k < 96 then 0 else 1)] ∧ At h10 V M (if 0 ≤ k ∧ k < 96 then { X1 with now := putBlk X1.now k ((m.drop 5).map fun n => w64 (n + 1)) } else X1) := by
                intro h9 h10 k9 A9 k10
                have hk : (0 ≤ k ∧ k < 96 ∧ 16 ≤ 16) ↔ (0 ≤ k ∧ k < 96) := ⟨fun h => ⟨h.1, h.2.1⟩, fun h => ⟨h.1, h.2, Nat.le_refl _⟩⟩
                simp only [hk] at A9 ⊢
                exact ⟨((k0x.trans (k8.mono (by simp))).trans k9).m1 k10 (by omega), trivial, A9.keep k10 (fun b hb => by simpa using (nv b hb).2)⟩
              conv => whnf
              refine LoadR.o o8 rfl ?_
              conv => whnf
              refine BothR.i ?_ ?_
              · conv => whnf
                refine LoadN.o o8 rfl ?_
                conv => whnf
                refine CallR.m (setBlock_spec (Ax.on k8) k SL hsl) nb2 fun v h9 k9 hv => ?_
                obtain ⟨rfl, A9⟩ := hv
                conv => whnf
                refine BoxR.i fun h10 s10 k10 => ?_
                conv => whnf
                exact fin h9 h10 k9 A9 k10
              · conv => whnf
                refine CallR.m (setBlock_spec (Ax.on k8) k SL hsl) nb2 fun v h9 k9 hv => ?_
                obtain ⟨rfl, A9⟩ := hv
                conv => whnf
                refine LoadN.o (k9.obj o8 (by simpa using hob1.symm)) rfl ?_
                conv => whnf
                refine BoxR.i fun h10 s10 k10 => ?_
                conv => whnf
                exact fin h9 h10 k9 A9 k10
  · have hno : ¬ ((0 ≤ node ∧ node < 24) ∧ m.length = 21 ∧ m.any oddB = false) := by
      rintro ⟨h1, h2, _⟩
      rw [if_pos h1] at hc
      simp [bif_and, bif_or] at hc
      omega
    conv => whnf
    refine IfR.i (fun hd => ?_) (fun hd => ?_)
    · conv => whnf
      refine IfR.t rfl ?_
      conv => whnf
      refine BoxR.i fun h4 s4 k4 => ?_
      conv => whnf
      exact bad hno h3 h4 (Keeps.refl _ _) k4
    · have hb : ¬ (0 ≤ node ∧ node < 24) := fun hb => by
        rw [if_pos hb] at hc hd
        simp [bif_and, bif_or] at hc hd
        omega
      rw [if_neg hb]
      conv => whnf
      refine IfR.t rfl ?_
      conv => whnf
      refine BoxR.i fun h4 s4 k4 => ?_
      conv => whnf
      exact bad hno h3 h4 (Keeps.refl _ _) k4
end Go.Proofs.YtkjkdnphikendaaGreatDoor
/-
  Layer 10: a file's bytes are read.
-/
set_option linter.all false
set_option maxRecDepth 100000
namespace Go.Proofs.YtkjkdnphikendaaGreatDoor
open Go Go.Eng

/-- a file's bytes, and those behind its end -/
def fileB (now : Int → UInt64) (m : List Int) : List UInt8 := m.flatMap (bytesB now)

theorem flat_len {now : Int → UInt64} : ∀ m : List Int, (fileB now m).length = 128 * m.length
  | [] => rfl
  | x :: m => by
    have := flat_len (now := now) m
    simp only [fileB, List.flatMap_cons, List.length_append, bytesB_len, List.length_cons] at this ⊢
    omega
theorem flat_take {now : Int → UInt64} (m : List Int) (i : Nat) : (fileB now m).take (128 * i) = fileB now (m.take i) := by
  induction m generalizing i with
  | nil => simp [fileB]
  | cons x m ih =>
    cases i with
    | zero => simp [fileB]
    | succ i =>
      have := ih i
      simp only [fileB, List.flatMap_cons, List.take_succ_cons] at this ⊢
      rw [List.take_append, bytesB_len, show 128 * (i + 1) - 128 = 128 * i by omega, this, List.take_of_length_le (by rw [bytesB_len]; omega)]
theorem flat_step {now : Int → UInt64} (m : List Int) (i : Nat) (hi : i < m.length) : (fileB now m).take (128 * (i + 1)) = (fileB now m).take (128 * i) ++ bytesB now m[i] := by
  rw [flat_take, flat_take, List.take_succ_eq_append_getElem hi]
  unfold fileB
  rw [List.flatMap_append, List.flatMap_singleton]

/-- what is read behind 'i' blocks -/
def readTo (now : Int → UInt64) (m : List Int) (at_ end_ i : Nat) : List UInt8 := ((fileB now m).take (min (128 * i) end_)).drop at_

theorem readTo_step {now : Int → UInt64} (m : List Int) (a e i : Nat) (hi : i < m.length) (h1 : 128 * i < e) (h2 : a < 128 * i + 128) (h3 : a ≤ e) :
    readTo now m a e (i + 1) = readTo now m a e i ++ ((bytesB now m[i]).take (min (e - 128 * i) 128)).drop (a - 128 * i) := by
  unfold readTo
  have hl := flat_len (now := now) m
  have e1 : (fileB now m).take (min (128 * (i + 1)) e) = (fileB now m).take (128 * i) ++ (bytesB now m[i]).take (min (e - 128 * i) 128) := by
    have : (fileB now m).take (min (128 * (i + 1)) e) = ((fileB now m).take (128 * (i + 1))).take (min (128 * (i + 1)) e) := by
      rw [List.take_take]; congr 1; omega
    rw [this, flat_step m i hi, List.take_append]
    have h4 : ((fileB now m).take (128 * i)).length = 128 * i := by rw [List.length_take, hl]; omega
    rw [h4, List.take_of_length_le (by rw [h4]; omega)]
    congr 2; omega
  rw [e1, show min (128 * i) e = 128 * i by omega, List.drop_append]
  congr 2
  rw [List.length_take, hl]; omega

theorem readTo_skip {now : Int → UInt64} (m : List Int) (a e i : Nat) (h2 : 128 * i + 128 ≤ a) : readTo now m a e (i + 1) = readTo now m a e i := by
  unfold readTo
  rw [List.drop_eq_nil_of_le (by rw [List.length_take]; omega), List.drop_eq_nil_of_le (by rw [List.length_take]; omega)]

def okMap (now : Int → UInt64) (c : Crd) : Prop := ∀ m, mapOf now c = some m → ∀ x ∈ m, x = -1 ∨ (0 ≤ x ∧ x < 96)

/-- what is read of a file -/
def readP (now : Int → UInt64) (c : Crd) (at_ n : Int) : List UInt8 × Int :=
  if at_ < 0 ∨ n < 0 ∨ 4096 < n then ([], 1)
  else match mapOf now c with
    | none => ([], 15)
    | some m => if c.size ≤ at_ then ([], 0) else (((fileB now m).take (min c.size (at_ + n)).toNat).drop at_.toNat, 0)

theorem bread_spec {h : Heap} {V : VL} {M : MemS} {X : VS} (A : At h V M X) (c : Crd) (hc : c.ok) (hsz : 0 ≤ c.size ∧ c.size ≤ 2688) (hm : okMap X.now c) (at_ n : Int) :
    CallH Tryz.prog 33 [.pointer (some ⟨V.v, 0, none⟩), .agg ⟨c.cells⟩, .int .i64 at_, .int .i64 n] h (fun v h' => Keeps [] h h' ∧ v = .tuple #[.string ⟨(readP X.now c at_ n).1.toArray⟩, .int .i64 (readP X.now c at_ n).2]) := by
  refine call_of hmix Tryz.func33 rfl ok33 (by simp [Tryz.f33]) ?_
  conv => whnf
  refine AllocR.i fun b1 h1 e1 s1 o1 k1 => ?_
  conv => whnf
  first | refine IfR.i (fun hq => ?_) (fun hq => ?_) | (refine MeetR.pass ?_; (conv => whnf); refine IfR.i (fun hq => ?_) (fun hq => ?_))
  · conv => whnf
    have : at_ < 0 ∨ n < 0 ∨ 4096 < n := by
      simp [bif_or] at hq; omega
    refine ⟨k1, ?_⟩
    unfold readP
    rw [if_pos this]
  · have hno : ¬ (at_ < 0 ∨ n < 0 ∨ 4096 < n) := by
      simp [bif_or] at hq; omega
    have hP : readP X.now c at_ n = match mapOf X.now c with
        | none => ([], 1 * 15)
        | some m => if c.size ≤ at_ then ([], 0) else (((fileB X.now m).take (min c.size (at_ + n)).toNat).drop at_.toNat, 0) := by
      unfold readP; rw [if_neg hno]; rfl
    rw [hP]
    clear hP
    conv => whnf
    refine CallR.i (map_spec (A.on k1) c hc) fun v h2 k2 hv => ?_
    have k02 := k1.trans k2
    cases hmo : mapOf X.now c with
    | none =>
      rw [hmo] at hv
      simp only at hv
      subst hv
      conv => whnf
      refine IfR.t rfl ?_
      conv => whnf
      exact ⟨k02, rfl⟩
    | some m =>
      rw [hmo] at hv
      simp only at hv
      obtain ⟨b, cap, sp, rfl, I2, hb, hcap⟩ := hv
      have hml := mapOf_length hmo
      have hmr := hm m hmo
      conv => whnf
      refine IfR.i (fun hr => ?_) (fun hr => ?_)
      · have : c.size ≤ at_ := by simpa [bif_or] using hr
        conv => whnf
        simp only
        rw [if_pos this]
        exact ⟨k02, rfl⟩
      · have hs : ¬ c.size ≤ at_ := by simp [bif_or] at hr; omega
        simp only
        rw [if_neg hs]
        obtain ⟨a, rfl⟩ : ∃ a : Nat, at_ = (a : Int) := ⟨at_.toNat, by omega⟩
        obtain ⟨z, hz⟩ : ∃ z : Nat, c.size = (z : Int) := ⟨c.size.toNat, by omega⟩
        obtain ⟨r, rfl⟩ : ∃ r : Nat, n = (r : Int) := ⟨n.toNat, by omega⟩
        rw [hz] at hs hsz
        generalize hE : min z (a + r) = e
        have he : (if IntKind.i64.wrap ((a : Int) + (r : Int)) < (z : Int) then IntKind.i64.wrap ((a : Int) + (r : Int)) else (z : Int)) = (e : Int) := by
          rw [wrapN (x := (a : Int) + (r : Int)) (n := a + r) (by simp) (by omega)]
          split <;> omega
        have hE2 : (min c.size ((a : Int) + (r : Int))).toNat = e := by rw [hz]; omega
        rw [hE2, show ((a : Int)).toNat = a by omega]
        have hae : a ≤ e := by omega
        have hez : e ≤ 2688 := by omega
        conv => whnf
        rw [hz, he]
        refine AllocR.i fun b3 h3 e3 s3 o3 k3 => ?_
        have B3 : Bld h3 b3 none none 0 0 [] := ⟨o3, .inl ⟨rfl, rfl, rfl, rfl⟩, by simp [blkA], .inl rfl⟩
        have z2 := k02.size
        conv => whnf
        refine MeetR.pass ?_
        conv => whnf
        refine LoopR.on [0, 2, 12, 13, 54, 55, 56] [] (fun i : Nat => [(0, .v (.pointer (some ⟨V.v, 0, none⟩))), (2, .v (.int .i64 (a : Int))), (12, .v (.int .i64 (e : Int))), (13, .v (.pointer (some ⟨b3, 0, none⟩))), (54, .v (.slice (some ⟨b, 0, none⟩) 21 cap)), (55, .v (.int .i64 21)), (56, .v (.int .i64 (i : Int)))]) (fun _ => [])
          (fun i h' => i ≤ 21 ∧ Keeps [] h h' ∧ h3.size ≤ h'.size ∧ IntsAt h' b m sp ∧ ∃ p ba bn bc, Bld h' b3 p ba bn bc (readTo X.now m a e i) ∧ ∀ x ∈ blkA ba, h3.size ≤ x) (fun i => 21 - i) 0 ?_ ?_
        · conv => whnf
          exact ⟨0, rfl, rfl, rfl, by decide, k02.trans k3, Nat.le_refl _, k3.obj I2 (by simp), none, none, 0, 0, by simpa [readTo] using B3, by simp [blkA]⟩
        · rintro i h4 ⟨hi, k4, z4, I4, p, ba, bn, bc, B4, nb4⟩
          have hbl : b < h2.size := obj_lt I2
          have rlen : ∀ j, (readTo X.now m a e j).length ≤ 2688 := by
            intro j; unfold readTo
            rw [List.length_drop, List.length_take, flat_len]; omega
          have endC : ∀ h5 : Heap, Keeps [] h4 h5 → (readTo X.now m a e i = ((fileB X.now m).take e).drop a) → CallH Tryz.prog 82 [.pointer (some ⟨b3, 0, none⟩)] h5 (fun v h' => Keeps (blkA ba) h5 h' ∧ v = .string ⟨(((fileB X.now m).take e).drop a).toArray⟩) := by
            intro h5 k5 hr
            rw [← hr]
            exact CallH.mono (bstring_spec (B4.on k5) (by have := rlen i; omega)) fun v h' hh => ⟨hh.1, hh.2.1⟩
          conv => whnf
          refine IfR.i (fun hx => ?_) (fun hx => ?_)
          · have hi1 : i < m.length := by simp at hx; omega
            conv => whnf
            first | refine IdxS.i i rfl (by omega) rfl ?_ | (refine MeetR.pass ?_; (conv => whnf); refine IdxS.i i rfl (by omega) rfl ?_)
            conv => whnf
            refine LoadR.i (I4.nth hi1) ?_
            have ew : IntKind.i64.wrap ((i : Int) * 128) = ((128 * i : Nat) : Int) := wrapN (by omega) (by omega)
            conv => whnf
            rw [ew]
            refine IfR.i (fun hy => ?_) (fun hy => ?_)
            · have hge : e ≤ 128 * i := by simp at hy; omega
              conv => whnf
              refine CallR.m (endC h4 (Keeps.refl _ _) (by unfold readTo; rw [show min (128 * i) e = e by omega])) (by simp [blocksOf]) fun v h5 k5 hv => ?_
              subst hv
              conv => whnf
              exact ⟨k4.nil_of k5 (fun x hx => by have := nb4 x hx; omega), rfl⟩
            · have hlt : 128 * i < e := by simp at hy; omega
              have ew2 : IntKind.i64.wrap (((128 * i : Nat) : Int) + 128) = ((128 * i + 128 : Nat) : Int) := wrapN (by omega) (by omega)
              conv => whnf
              rw [ew2]
              refine IfR.i (fun hw => ?_) (fun hw => ?_)
              · have hle : 128 * i + 128 ≤ a := by simp at hw; omega
                conv => whnf
                refine ⟨21 - (i + 1), by omega, ?_⟩
                conv => whnf
                refine ⟨i + 1, rfl, by rw [wrapN (x := (i : Int) + 1) (n := i + 1) (by simp) (by omega)], rfl, by omega, k4, z4, I4, p, ba, bn, bc, ?_, nb4⟩
                rw [readTo_skip m a e i hle]; exact B4
              · have hle : a < 128 * i + 128 := by simp at hw; omega
                conv => whnf
                refine CallR.i (textB_spec (A.on k4) m[i]) fun v h5 k5 hv => ?_
                rw [if_pos (hmr _ (List.getElem_mem hi1))] at hv
                subst hv
                conv => whnf
                refine IfR.f rfl ?_
                have el : (if (0 : Int) > IntKind.i64.wrap ((a : Int) - ((128 * i : Nat) : Int)) then (0 : Int) else IntKind.i64.wrap ((a : Int) - ((128 * i : Nat) : Int))) = ((a - 128 * i : Nat) : Int) := by
                  rw [wrapI (x := (a : Int) - ((128 * i : Nat) : Int)) (by omega) (by omega)]
                  split <;> omega
                have er : (if (128 : Int) < IntKind.i64.wrap ((e : Int) - ((128 * i : Nat) : Int)) then (128 : Int) else IntKind.i64.wrap ((e : Int) - ((128 * i : Nat) : Int))) = ((min (e - 128 * i) 128 : Nat) : Int) := by
                  rw [wrapI (x := (e : Int) - ((128 * i : Nat) : Int)) (by omega) (by omega)]
                  split <;> omega
                have hbsz : (ByteArray.mk (bytesB X.now m[i]).toArray).size = 128 := by
                  show (bytesB X.now m[i]).toArray.size = 128
                  simp [bytesB_len]
                conv => whnf
                refine SliceR.i (a - 128 * i) (min (e - 128 * i) 128) el er (by omega) (by rw [hbsz]; omega) ?_
                have hx1 : (ByteArray.extract ⟨(bytesB X.now m[i]).toArray⟩ (a - 128 * i) (min (e - 128 * i) 128)).data.toList = ((bytesB X.now m[i]).take (min (e - 128 * i) 128)).drop (a - 128 * i) := by
                  rw [ByteArray.data_extract]
                  simp [List.drop_take]
                have hx2 : (ByteArray.extract ⟨(bytesB X.now m[i]).toArray⟩ (a - 128 * i) (min (e - 128 * i) 128)).size ≤ 128 := by
                  rw [ByteArray.size_extract, hbsz]; omega
                have hbn := (B4.buf.len).1
                conv => whnf
                refine CallR.m (writeString_spec (B4.on k5) _ (by have := rlen i; omega)) (by simp [blocksOf]) fun v h6 k6 hv => ?_
                obtain ⟨rfl, a6, c6, B6, n6, _⟩ := hv
                rw [hx1, ← readTo_step m a e i hi1 hlt hle hae] at B6
                conv => whnf
                refine ⟨21 - (i + 1), by omega, ?_⟩
                conv => whnf
                have z5 := k5.size
                have z6 := k6.size
                refine ⟨i + 1, rfl, by rw [wrapN (x := (i : Int) + 1) (n := i + 1) (by simp) (by omega)], rfl, by omega, (k4.trans k5).nil_of k6 (fun x hx => ?_), by omega, ?_, _, _, _, _, B6, fun x hx => ?_⟩
                · simp only [List.mem_cons] at hx
                  rcases hx with rfl | hx
                  · omega
                  · have := nb4 x hx; omega
                · refine k6.obj (k5.obj I4 (by simp)) (fun hx => ?_)
                  simp only [List.mem_cons] at hx
                  rcases hx with hx | hx
                  · omega
                  · have := nb4 b hx; omega
                · rcases n6 x hx with h | h
                  · exact nb4 x h
                  · omega
          · have hi1 : i = 21 := by simp at hx; omega
            subst hi1
            conv => whnf
            refine CallR.m (endC h4 (Keeps.refl _ _) (by unfold readTo; rw [show min (128 * 21) e = e by omega])) (by simp [blocksOf]) fun v h5 k5 hv => ?_
            subst hv
            conv => whnf
            exact ⟨k4.nil_of k5 (fun x hx => by have := nb4 x hx; omega), rfl⟩
end Go.Proofs.YtkjkdnphikendaaGreatDoor
/-
  Layer 10: a file's bytes are written.
-/
set_option linter.all false
set_option maxRecDepth 100000
set_option maxHeartbeats 4000000
namespace Go.Proofs.YtkjkdnphikendaaGreatDoor
open Go Go.Eng

/-- a block's bytes, where others are written: 'a' is where they begin, 'e' where they end, 'f' where the block begins -/
def wblk (old data : List UInt8) (a e f : Nat) : List UInt8 := old.take (a - f) ++ (data.drop (f + (a - f) - a)).take (min (e - f) 128 - (a - f)) ++ old.drop (min (e - f) 128)

def wStep (B : Int → UInt64) (node : Int) (a : Nat) (data : List UInt8) (i : Nat) (X : VS) (m : List Int) : Int × VS × List Int :=
  let t : Int × VS × List Int := if m[i]?.getD 0 = -1 then ((takeP B X node).2.1, (takeP B X node).2.2, m.set i (takeP B X node).1) else (0, X, m)
  if t.1 = 0 then (0, { t.2.1 with now := putBlk t.2.1.now (t.2.2[i]?.getD 0) (textL (wblk (bytesB t.2.1.now (t.2.2[i]?.getD 0)) data a (a + data.length) (128 * i)) 16) }, t.2.2)
  else t

def writeL (B : Int → UInt64) (node : Int) (a : Nat) (data : List UInt8) : Nat → Nat → VS → List Int → Int × VS × List Int
  | 0, _, X, m => (0, X, m)
  | f + 1, i, X, m => if (wStep B node a data i X m).1 = 0 then writeL B node a data f (i + 1) (wStep B node a data i X m).2.1 (wStep B node a data i X m).2.2 else wStep B node a data i X m

/-- bytes are written -/
def writeP (B : Int → UInt64) (X : VS) (node : Int) (c : Crd) (at_ : Int) (data : List UInt8) : Crd × Int × VS :=
  if ¬ (0 ≤ node ∧ node < 24) ∨ at_ < 0 ∨ 400 < data.length then (Crd.zero, 1, X)
  else if data = [] then (match mapOf X.now c with | none => (Crd.zero, 15, X) | some _ => (c, 0, X))
  else if 2688 - (data.length : Int) < at_ then (Crd.zero, 10, X)
  else match mapOf X.now c with
    | none => (Crd.zero, 15, X)
    | some m =>
      let r := writeL B node at_.toNat data ((at_.toNat + data.length + 127) / 128 - at_.toNat / 128) (at_.toNat / 128) X m
      if r.1 = 0 then keepP B r.2.1 node { c with size := max c.size (at_ + data.length) } r.2.2 else (Crd.zero, r.1, r.2.1)

theorem takeP_rng {B : Int → UInt64} {X : VS} {node : Int} (h : (takeP B X node).2.1 = 0) : 0 ≤ (takeP B X node).1 ∧ (takeP B X node).1 < 96 := by
  unfold takeP at h ⊢
  split at h
  · rename_i hn
    rw [if_pos hn]
    split at h
    · rename_i k hk
      have := firstF_is hk
      simp only
      have h2 := this.2
      omega
    · simp at h
  · simp at h

theorem ba_size (l : List UInt8) : (ByteArray.mk l.toArray).size = l.length := by show l.toArray.size = _; simp
theorem ba_extract (l : List UInt8) (i j : Nat) : (ByteArray.extract ⟨l.toArray⟩ i j) = ⟨((l.take j).drop i).toArray⟩ := by
  apply ByteArray.ext
  rw [ByteArray.data_extract]
  simp [List.drop_take]
theorem ba_app (l r : List UInt8) : (ByteArray.mk l.toArray) ++ ⟨r.toArray⟩ = ⟨(l ++ r).toArray⟩ := by
  apply ByteArray.ext
  rw [ByteArray.data_append]
  simp

theorem maxI (x y : Int) : (if y > x then y else x) = max x y := by omega

theorem write_spec {h : Heap} {V : VL} {M : MemS} {X : VS} (A : At h V M X) (node : Int) (c : Crd) (hc : c.ok) (hm : okMap X.now c) (at_ : Int) (data : List UInt8) :
    CallH Tryz.prog 32 [.pointer (some ⟨V.v, 0, none⟩), .int .i64 node, .agg ⟨c.cells⟩, .int .i64 at_, .string ⟨data.toArray⟩] h (fun v h' => Keeps [V.ob] h h' ∧
      v = .tuple #[.agg ⟨(writeP M.read X node c at_ data).1.cells⟩, .int .i64 (writeP M.read X node c at_ data).2.1] ∧ At h' V M (writeP M.read X node c at_ data).2.2) := by
  have hob := A.blt V.ob (by simp [VL.blocks])
  have hdl := ba_size data
  refine call_of hmix Tryz.func32 rfl ok32 (by simp [Tryz.f32]) ?_
  conv => whnf
  refine AllocR.i fun b1 h1 e1 s1 o1 k1 => ?_
  conv => whnf
  refine AllocR.i fun b2 h2 e2 s2 o2 k2 => ?_
  conv => whnf
  refine CallR.i (may_spec node h2) fun v h3 k3 hv => ?_
  subst hv
  have k03 := k1.trans (k2.trans k3)
  have z3 := k3.size
  have nv : ∀ b ∈ V.blocks, b ≠ b1 ∧ b ≠ b2 := fun b hb => by have := A.blt b hb; omega
  conv => whnf
  refine IfR.i (fun hq => ?_) (fun hq => ?_)
  · have hb : ¬ (0 ≤ node ∧ node < 24) ∨ at_ < 0 ∨ 400 < data.length := by
      by_cases hn : 0 ≤ node ∧ node < 24
      · rw [if_pos hn] at hq
        simp [bif_or] at hq
        rcases hq with h | h
        · exact .inr (.inl h)
        · right; right
          have : (400 : Int) < ((ByteArray.mk data.toArray).size : Int) := h
          rw [hdl] at this; omega
      · exact .inl hn
    conv => whnf
    refine BoxR.i fun h4 s4 k4 => ?_
    conv => whnf
    unfold writeP
    rw [if_pos hb]
    exact ⟨(k03.new1 k4 (by omega)).mono (by simp), rfl, A.on (k03.new1 k4 (by omega))⟩
  · have hb : ¬ (¬ (0 ≤ node ∧ node < 24) ∨ at_ < 0 ∨ 400 < data.length) := by
      by_cases hn : 0 ≤ node ∧ node < 24
      · rw [if_pos hn] at hq
        simp [bif_or] at hq
        have h2 := hq.2
        have : ((ByteArray.mk data.toArray).size : Int) ≤ 400 := h2
        rw [hdl] at this; omega
      · rw [if_neg hn] at hq
        simp [bif_or] at hq
    have hnode : 0 ≤ node ∧ node < 24 := Classical.byContradiction fun h => hb (.inl h)
    have hPw : writeP M.read X node c at_ data = if data = [] then (match mapOf X.now c with | none => (Crd.zero, 15, X) | some _ => (c, 0, X))
        else if 2688 - (data.length : Int) < at_ then (Crd.zero, 10, X)
        else match mapOf X.now c with
          | none => (Crd.zero, 15, X)
          | some m =>
            if (writeL M.read node at_.toNat data ((at_.toNat + data.length + 127) / 128 - at_.toNat / 128) (at_.toNat / 128) X m).1 = 0 then keepP M.read (writeL M.read node at_.toNat data ((at_.toNat + data.length + 127) / 128 - at_.toNat / 128) (at_.toNat / 128) X m).2.1 node { c with size := max c.size (at_ + data.length) } (writeL M.read node at_.toNat data ((at_.toNat + data.length + 127) / 128 - at_.toNat / 128) (at_.toNat / 128) X m).2.2
            else (Crd.zero, (writeL M.read node at_.toNat data ((at_.toNat + data.length + 127) / 128 - at_.toNat / 128) (at_.toNat / 128) X m).1, (writeL M.read node at_.toNat data ((at_.toNat + data.length + 127) / 128 - at_.toNat / 128) (at_.toNat / 128) X m).2.1) := by
      unfold writeP; rw [if_neg hb]
    rw [hPw]
    clear hPw
    conv => whnf
    first | refine IfR.i (fun hr => ?_) (fun hr => ?_) | (refine MeetR.pass ?_; (conv => whnf); refine IfR.i (fun hr => ?_) (fun hr => ?_))
    · have hd : data = [] := by
        rw [toList_beq] at hr
        have : (ByteArray.mk data.toArray) = ⟨#[]⟩ := by simpa using hr
        have := congrArg (fun b => b.data.toList) this
        simpa using this
      rw [if_pos hd]
      conv => whnf
      refine CallR.i (map_spec (A.on k03) c hc) fun v h4 k4 hv => ?_
      cases hmo : mapOf X.now c with
      | none =>
        rw [hmo] at hv; simp only at hv; subst hv
        conv => whnf
        first | refine IfR.t rfl ?_ | (refine MeetR.pass ?_; (conv => whnf); refine IfR.t rfl ?_)
        conv => whnf
        refine BoxR.i fun h5 s5 k5 => ?_
        conv => whnf
        have z4 := k4.size
        exact ⟨((k03.trans k4).new1 k5 (by omega)).mono (by simp), rfl, A.on ((k03.trans k4).new1 k5 (by omega))⟩
      | some m =>
        rw [hmo] at hv; simp only at hv
        obtain ⟨b, cap, sp, rfl, _⟩ := hv
        conv => whnf
        first | refine IfR.f rfl ?_ | (refine MeetR.pass ?_; (conv => whnf); refine IfR.f rfl ?_)
        conv => whnf
        refine BoxR.i fun h5 s5 k5 => ?_
        conv => whnf
        have z4 := k4.size
        exact ⟨((k03.trans k4).new1 k5 (by omega)).mono (by simp), rfl, A.on ((k03.trans k4).new1 k5 (by omega))⟩
    · have hd : ¬ data = [] := by
        rintro rfl
        rw [toList_beq] at hr
        simp at hr
      rw [if_neg hd]
      have hdp : 0 < data.length := List.length_pos_iff.2 hd
      conv => whnf
      rw [hdl, wrapI (x := 2688 - (data.length : Int)) (by omega) (by omega)]
      refine IfR.i (fun hs => ?_) (fun hs => ?_)
      · have hs' : 2688 - (data.length : Int) < at_ := by simpa using hs
        rw [if_pos hs']
        conv => whnf
        refine BoxR.i fun h4 s4 k4 => ?_
        conv => whnf
        exact ⟨(k03.new1 k4 (by omega)).mono (by simp), rfl, A.on (k03.new1 k4 (by omega))⟩
      · have hs' : ¬ 2688 - (data.length : Int) < at_ := by simpa using hs
        rw [if_neg hs']
        conv => whnf
        refine CallR.i (map_spec (A.on k03) c hc) fun v h4 k4 hv => ?_
        have k04 := k03.trans k4
        have z4 := k4.size
        cases hmo : mapOf X.now c with
        | none =>
          rw [hmo] at hv; simp only at hv; subst hv
          conv => whnf
          first | refine IfR.t rfl ?_ | (refine MeetR.pass ?_; (conv => whnf); refine IfR.t rfl ?_)
          conv => whnf
          refine BoxR.i fun h5 s5 k5 => ?_
          conv => whnf
          exact ⟨(k04.new1 k5 (by omega)).mono (by simp), rfl, A.on (k04.new1 k5 (by omega))⟩
        | some m0 =>
          rw [hmo] at hv; simp only at hv
          obtain ⟨b, cap, sp, rfl, I4, hb4, hcap⟩ := hv
          have hml := mapOf_length hmo
          have hmr := hm m0 hmo
          obtain ⟨a, rfl⟩ : ∃ a : Nat, at_ = (a : Int) := ⟨at_.toNat, by omega⟩
          have ha : ((a : Int)).toNat = a := by omega
          rw [ha]
          simp only
          have hae : a + data.length ≤ 2688 := by omega
          have eEnd : IntKind.i64.wrap ((a : Int) + (data.length : Int)) = ((a + data.length : Nat) : Int) := wrapN (by simp) (by omega)
          generalize hN : (a + data.length + 127) / 128 = N0
          generalize hR : writeL M.read node a data (N0 - a / 128) (a / 128) X m0 = R
          have hN1 : N0 ≤ 21 := by omega
          have hbl : b < h4.size := obj_lt I4
          conv => whnf
          refine IfR.f rfl ?_
          conv => whnf
          refine Need.i (by decide) ?_
          have eq0 : IntKind.i64.wrap ((a : Int).tdiv 128) = ((a / 128 : Nat) : Int) := by
            have : (a : Int).tdiv 128 = ((a / 128 : Nat) : Int) := by rw [Int.tdiv_eq_ediv_of_nonneg (by omega)]; omega
            rw [this, wrapN (n := a / 128) rfl (by omega)]
          conv => whnf
          rw [hdl, eEnd, eq0]
          refine LoopR.on [0, 1, 3, 4, 7, 10, 15, 17, 18] [7, 10] (fun q : Nat × VS × List Int => [(0, .v (.pointer (some ⟨V.v, 0, none⟩))), (1, .v (.int .i64 node)), (3, .v (.int .i64 (a : Int))), (4, .v (.string ⟨data.toArray⟩)), (7, .lp 7 0), (10, .lp 10 0), (15, .v (.slice (some ⟨b, 0, none⟩) 21 cap)), (17, .v (.int .i64 ((a + data.length : Nat) : Int))), (18, .v (.int .i64 (q.1 : Int)))])
            (fun _ => [(7, b1, c.cells), (10, b2, Crd.zero.cells)]) (fun q h' => a / 128 ≤ q.1 ∧ q.1 ≤ N0 ∧ Keeps [V.ob] h h' ∧ h4.size ≤ h'.size ∧ IntsAt h' b q.2.2 sp ∧ q.2.2.length = 21 ∧ (∀ x ∈ q.2.2, x = -1 ∨ (0 ≤ x ∧ x < 96)) ∧ At h' V M q.2.1 ∧ R = writeL M.read node a data (N0 - q.1) q.1 q.2.1 q.2.2) (fun q => N0 - q.1) (a / 128, X, m0) ?_ ?_
          · conv => whnf
            exact ⟨(a / 128, X, m0), rfl, rfl, rfl, Nat.le_refl _, by simp only; omega, k04.mono (by simp), Nat.le_refl _, I4, hml, hmr, A.on k04, hR.symm⟩
          · rintro ⟨i, Xi, mi⟩ h5 ⟨hi0, hi, k5, z5, I5, ml5, mr5, A5, hRi⟩
            simp only at hi0 hi I5 ml5 mr5 A5 hRi
            have nbs : ∀ y ∈ blocksOf [(7, b1, c.cells), (10, b2, Crd.zero.cells)], y ∉ [V.ob] := by
              intro y hy hx
              have hy2 : y ∈ [b1, b2] := hy
              simp at hy2 hx; omega
            conv => whnf
            refine CallR.i (over_spec (a + data.length) (by omega) h5) fun v h6 k6 hv => ?_
            subst hv
            rw [hN]
            have A6 := A5.on k6
            have k06 := k5.trans_nil k6
            have I6 : IntsAt h6 b mi sp := k6.obj I5 (by simp)
            have z6 := k6.size
            conv => whnf
            refine IfR.i (fun hc => ?_) (fun hc => ?_)
            · have hi1 : i < N0 := by simp at hc; omega
              have him : i < mi.length := by omega
              have hstep : writeL M.read node a data (N0 - i) i Xi mi = if (wStep M.read node a data i Xi mi).1 = 0 then writeL M.read node a data (N0 - (i + 1)) (i + 1) (wStep M.read node a data i Xi mi).2.1 (wStep M.read node a data i Xi mi).2.2 else wStep M.read node a data i Xi mi := by
                rw [show N0 - i = (N0 - (i + 1)) + 1 by omega]; rfl
              rw [hstep] at hRi
              clear hstep
              conv => whnf
              first | refine IdxS.i i rfl (by omega) rfl ?_ | (refine MeetR.pass ?_; (conv => whnf); refine IdxS.i i rfl (by omega) rfl ?_)
              conv => whnf
              refine LoadR.i (I6.nth him) ?_
              conv => whnf
              refine CallR.i (used_spec _ h6) fun v h7 k7 hv => ?_
              subst hv
              have A7 := A6.on k7
              have k07 := k06.trans_nil k7
              have I7 : IntsAt h7 b mi sp := k7.obj I6 (by simp)
              have z7 := k7.size
              have hgi : mi[i]?.getD 0 = mi[i] := by simp [him]
              conv => whnf
              first | refine IfR.i ?ca ?cb | (refine MeetR.pass ?_; (conv => whnf); refine IfR.i ?ca ?cb)
              case' ca =>
                intro hu
                have hu1 : mi[i] = -1 := usedB_f.1 (bnot_t hu)
                conv => whnf
                refine CallR.m (take_spec A7 node) nbs fun v hy ky hv => ?_
                obtain ⟨rfl, Ay⟩ := hv
                have zy := ky.size
                have Iy : IntsAt hy b mi sp := ky.obj I7 (by simp; omega)
                conv => whnf
                refine IdxS.i i rfl (by omega) rfl ?_
                conv => whnf
                refine StoreR.i Iy ?_ (by intro hx; have hx2 : b ∈ [b1, b2] := hx; simp at hx2; omega) fun hx sx ox kx => ?_
                · show 0 + i * 1 + 1 ≤ _
                  simp; omega
                have Ix : IntsAt hx b (mi.set i (takeP M.read Xi node).1) sp := by
                  unfold IntsAt
                  rw [← ints_set him]; exact ox
                have nvb : ∀ y ∈ V.blocks, y ≠ b := fun y hy => by have := A.blt y hy; omega
                have Ax := Ay.keep kx (fun y hy => by simpa using nvb y hy)
                have k0x : Keeps [V.ob] h hx := (k07.trans ky).m1 kx (by omega)
                have hw : wStep M.read node a data i Xi mi = if (takeP M.read Xi node).2.1 = 0 then (0, { (takeP M.read Xi node).2.2 with now := putBlk (takeP M.read Xi node).2.2.now (takeP M.read Xi node).1 (textL (wblk (bytesB (takeP M.read Xi node).2.2.now (takeP M.read Xi node).1) data a (a + data.length) (128 * i)) 16) }, mi.set i (takeP M.read Xi node).1) else ((takeP M.read Xi node).2.1, (takeP M.read Xi node).2.2, mi.set i (takeP M.read Xi node).1) := by
                  have hg2 : (mi.set i (takeP M.read Xi node).1)[i]?.getD 0 = (takeP M.read Xi node).1 := by simp [him]
                  unfold wStep
                  rw [hgi, if_pos hu1]
                  simp only [hg2]
                conv => whnf
                first | refine IfR.i (fun hr => ?_) (fun hr => ?_) | (refine MeetR.pass ?_; (conv => whnf); refine IfR.i (fun hr => ?_) (fun hr => ?_))
                · have ht : ¬ (takeP M.read Xi node).2.1 = 0 := by simpa using hr
                  rw [if_neg ht] at hw
                  rw [hw] at hRi
                  simp only [if_neg ht] at hRi
                  subst hRi
                  conv => whnf
                  refine BoxR.i fun h9 s9 k9 => ?_
                  conv => whnf
                  simp only [if_neg ht]
                  exact ⟨k0x.m1 k9 (by omega), rfl, Ax.keep k9 (fun y hy => by simpa using (nv y hy).2)⟩
                have ht : (takeP M.read Xi node).2.1 = 0 := by simpa using hr
                rw [if_pos ht] at hw
                have hkr := takeP_rng ht
                have zx : h4.size ≤ hx.size := by omega
                clear Iy ky Ay sx ox kx hr hu hu1 ht zy
                generalize (takeP M.read Xi node).1 = k, (takeP M.read Xi node).2.2 = X1 at *
                generalize hm1 : mi.set i k = m1 at *
                have m1l : m1.length = 21 := by rw [← hm1]; simp [ml5]
                have m1i : ∀ hh : i < m1.length, m1[i] = k := by intro hh; subst hm1; simp
                have m1r : ∀ x ∈ m1, x = -1 ∨ (0 ≤ x ∧ x < 96) := by
                  intro x hx2
                  rw [← hm1] at hx2
                  rcases List.mem_or_eq_of_mem_set hx2 with h | h
                  · exact mr5 x h
                  · subst h; exact .inr hkr
              case' cb =>
                intro hu
                have hu1 : ¬ mi[i] = -1 := usedB_t.1 (bnot_f hu)
                have hkr : 0 ≤ mi[i] ∧ mi[i] < 96 := (mr5 _ (List.getElem_mem him)).resolve_left hu1
                have hw : wStep M.read node a data i Xi mi = (0, { Xi with now := putBlk Xi.now mi[i] (textL (wblk (bytesB Xi.now mi[i]) data a (a + data.length) (128 * i)) 16) }, mi) := by
                  unfold wStep
                  rw [hgi, if_neg hu1]
                  simp only [hgi, if_true]
                obtain ⟨k, hk⟩ : ∃ k, k = mi[i] := ⟨_, rfl⟩
                obtain ⟨X1, hX1⟩ : ∃ X1, X1 = Xi := ⟨_, rfl⟩
                obtain ⟨m1, hm1⟩ : ∃ m1, m1 = mi := ⟨_, rfl⟩
                obtain ⟨hx, hhx⟩ : ∃ hx, hx = h7 := ⟨_, rfl⟩
                have Ix : IntsAt hx b m1 sp := by rw [hhx, hm1]; exact I7
                have Ax : At hx V M X1 := by rw [hhx, hX1]; exact A7
                have k0x : Keeps [V.ob] h hx := by rw [hhx]; exact k07
                have zx : h4.size ≤ hx.size := by rw [hhx]; omega
                have m1l : m1.length = 21 := by rw [hm1]; exact ml5
                have m1i : ∀ hh : i < m1.length, m1[i] = k := by intro hh; subst hm1; exact hk.symm
                have m1r : ∀ x ∈ m1, x = -1 ∨ (0 ≤ x ∧ x < 96) := by rw [hm1]; exact mr5
                have hw : wStep M.read node a data i Xi mi = (0, { X1 with now := putBlk X1.now k (textL (wblk (bytesB X1.now k) data a (a + data.length) (128 * i)) 16) }, m1) := by rw [hk, hX1, hm1]; exact hw
                rw [← hk] at hkr
                rw [← hhx]
              all_goals
                have hi2 : i < m1.length := by omega
                conv => whnf
                refine IdxS.i i rfl (by omega) rfl ?_
                conv => whnf
                refine LoadR.i (Ix.nth hi2) ?_
                conv => whnf
                rw [m1i hi2]
                refine CallR.i (textB_spec Ax k) fun v h8 k8 hv => ?_
                rw [if_pos (.inr hkr)] at hv
                subst hv
                have A8 := Ax.on k8
                have I8 : IntsAt h8 b m1 sp := k8.obj Ix (by simp)
                conv => whnf
                refine IfR.f rfl ?_
                have ew : IntKind.i64.wrap ((i : Int) * 128) = ((128 * i : Nat) : Int) := wrapN (by omega) (by omega)
                have hia : a < 128 * i + 128 := by omega
                have hie : 128 * i < a + data.length := by omega
                have el : (if (0 : Int) > IntKind.i64.wrap ((a : Int) - IntKind.i64.wrap ((i : Int) * 128)) then (0 : Int) else IntKind.i64.wrap ((a : Int) - IntKind.i64.wrap ((i : Int) * 128))) = ((a - 128 * i : Nat) : Int) := by
                  rw [ew, wrapI (x := (a : Int) - ((128 * i : Nat) : Int)) (by omega) (by omega)]
                  split <;> omega
                have er : (if (128 : Int) < IntKind.i64.wrap (((a + data.length : Nat) : Int) - IntKind.i64.wrap ((i : Int) * 128)) then (128 : Int) else IntKind.i64.wrap (((a + data.length : Nat) : Int) - IntKind.i64.wrap ((i : Int) * 128))) = ((min (a + data.length - 128 * i) 128 : Nat) : Int) := by
                  rw [ew, wrapI (x := ((a + data.length : Nat) : Int) - ((128 * i : Nat) : Int)) (by omega) (by omega)]
                  split <;> omega
                have hL : a - 128 * i ≤ min (a + data.length - 128 * i) 128 := by omega
                have d1 : ∀ x : Int, x = ((a - 128 * i : Nat) : Int) → IntKind.i64.wrap (IntKind.i64.wrap (IntKind.i64.wrap ((i : Int) * 128) + x) - (a : Int)) = ((128 * i + (a - 128 * i) - a : Nat) : Int) := by
                  rintro x rfl
                  rw [ew, wrapN (x := ((128 * i : Nat) : Int) + ((a - 128 * i : Nat) : Int)) (n := 128 * i + (a - 128 * i)) (by omega) (by omega), wrapN (n := 128 * i + (a - 128 * i) - a) (by omega) (by omega)]
                have d2 : ∀ x : Int, x = ((min (a + data.length - 128 * i) 128 : Nat) : Int) → IntKind.i64.wrap (IntKind.i64.wrap (IntKind.i64.wrap ((i : Int) * 128) + x) - (a : Int)) = ((128 * i + min (a + data.length - 128 * i) 128 - a : Nat) : Int) := by
                  rintro x rfl
                  rw [ew, wrapN (x := ((128 * i : Nat) : Int) + ((min (a + data.length - 128 * i) 128 : Nat) : Int)) (n := 128 * i + min (a + data.length - 128 * i) 128) (by omega) (by omega), wrapN (n := 128 * i + min (a + data.length - 128 * i) 128 - a) (by omega) (by omega)]
                have hbs : (ByteArray.mk (bytesB X1.now k).toArray).size = 128 := by rw [ba_size, bytesB_len]
                have hstr : (ByteArray.extract ⟨(bytesB X1.now k).toArray⟩ 0 (a - 128 * i) ++ ByteArray.extract ⟨data.toArray⟩ (128 * i + (a - 128 * i) - a) (128 * i + min (a + data.length - 128 * i) 128 - a)) ++ ByteArray.extract ⟨(bytesB X1.now k).toArray⟩ (min (a + data.length - 128 * i) 128) 128 = ⟨(wblk (bytesB X1.now k) data a (a + data.length) (128 * i)).toArray⟩ := by
                  rw [ba_extract, ba_extract, ba_extract, ba_app, ba_app]
                  have t1 : ((bytesB X1.now k).take 128).drop (min (a + data.length - 128 * i) 128) = (bytesB X1.now k).drop (min (a + data.length - 128 * i) 128) := by rw [List.take_of_length_le (by rw [bytesB_len]; exact Nat.le_refl _)]
                  have t2 : (data.take (128 * i + min (a + data.length - 128 * i) 128 - a)).drop (128 * i + (a - 128 * i) - a) = (data.drop (128 * i + (a - 128 * i) - a)).take (min (a + data.length - 128 * i) 128 - (a - 128 * i)) := by
                    rw [List.drop_take]; congr 1; omega
                  rw [t1, t2, List.drop_zero]; rfl
                have hwl : (wblk (bytesB X1.now k) data a (a + data.length) (128 * i)).length ≤ 128 := by
                  unfold wblk
                  simp only [List.length_append, List.length_take, List.length_drop, bytesB_len]; omega
                conv => whnf
                refine IdxS.i i rfl (by omega) rfl ?_
                conv => whnf
                refine LoadR.i (I8.nth hi2) ?_
                conv => whnf
                refine SliceR.i 0 (a - 128 * i) rfl el (Nat.zero_le _) (by rw [hbs]; omega) ?_
                conv => whnf
                refine SliceR.i (128 * i + (a - 128 * i) - a) (128 * i + min (a + data.length - 128 * i) 128 - a) (d1 _ el) (d2 _ er) (by omega) (by rw [hdl]; omega) ?_
                conv => whnf
                refine Need.i (by rw [ByteArray.size_extract, ByteArray.size_extract, hbs, hdl]; omega) ?_
                conv => whnf
                refine SliceR.i (min (a + data.length - 128 * i) 128) 128 er (by rw [hbs]) (by omega) (by rw [hbs]; exact Nat.le_refl _) ?_
                conv => whnf
                refine Need.i (by rw [ByteArray.size_append, ByteArray.size_extract, ByteArray.size_extract, ByteArray.size_extract, hbs, hdl]; omega) ?_
                conv => whnf
                rw [hstr, m1i hi2]
                refine CallR.m (putB_spec A8 k ⟨(wblk (bytesB X1.now k) data a (a + data.length) (128 * i)).toArray⟩ (by rw [ba_size]; exact hwl)) nbs fun v h9 k9 hv => ?_
                obtain ⟨rfl, A9⟩ := hv
                rw [if_pos hkr] at A9
                rw [if_pos hkr]
                conv => whnf
                refine IfR.f rfl ?_
                conv => whnf
                refine ⟨N0 - (i + 1), by omega, ?_⟩
                conv => whnf
                rw [hw] at hRi
                simp only [if_true] at hRi
                have z8 := k8.size
                have z9 := k9.size
                exact ⟨(i + 1, { X1 with now := putBlk X1.now k (textL (wblk (bytesB X1.now k) data a (a + data.length) (128 * i)) 16) }, m1), rfl, by simp only; rw [wrapN (x := (i : Int) + 1) (n := i + 1) (by simp) (by omega)], rfl, by simp only; omega, by simp only; omega, (k0x.trans_nil k8).trans k9, by omega, k9.obj I8 (by simp; omega), m1l, m1r, A9, hRi⟩
            · have hi1 : i = N0 := by simp at hc; omega
              subst hi1
              rw [Nat.sub_self] at hRi
              have hR0 : R = (0, Xi, mi) := hRi
              rw [hR0]
              simp only [if_true]
              have SM := I6.sl (n := 21) (cap := cap) (fun x hx => by have := mr5 x hx; unfold inI64; omega) ml5.symm hcap (by omega)
              conv => whnf
              refine BoxR.i fun h7 s7 k7 => ?_
              have k7' : Keeps [V.ob] h h7 := k06.m1 k7 (by omega)
              have A7 := A6.keep k7 (fun y hy => by simpa using (nv y hy).1)
              have SM7 := SM.keepM k7 (by simp [blkA]; omega)
              conv => whnf
              have em : (if ((a + data.length : Nat) : Int) > c.size then ((a + data.length : Nat) : Int) else c.size) = max c.size ((a : Int) + (data.length : Int)) := by
                rw [maxI]; simp
              rw [em]
              refine CallR.m (keep_spec A7 node { c with size := max c.size ((a : Int) + (data.length : Int)) } SM7 (by simp [blkA]; omega)) nbs fun v h8 k8 hv => ?_
              obtain ⟨rfl, A8⟩ := hv
              conv => whnf
              refine BoxR.i fun h9 s9 k9 => ?_
              conv => whnf
              have z7 : h7.size = h6.size := s7
              exact ⟨(k7'.trans k8).m1 k9 (by omega), rfl, A8.keep k9 (fun y hy => by simpa using (nv y hy).2)⟩
end Go.Proofs.YtkjkdnphikendaaGreatDoor
/-
  Layer 10: a file is cut.
-/
set_option linter.all false
set_option maxRecDepth 100000
set_option maxHeartbeats 4000000
namespace Go.Proofs.YtkjkdnphikendaaGreatDoor
open Go Go.Eng

def cutStep (z : Nat) (size : Int) (i : Nat) (X : VS) (m : List Int) : Int × VS × List Int :=
  if m[i]?.getD 0 = -1 ∨ size ≤ (z : Int) ∨ 128 * i + 128 ≤ z then (0, X, m)
  else if z ≤ 128 * i then ((dropP X (m[i]?.getD 0)).1, (dropP X (m[i]?.getD 0)).2, m.set i (-1))
  else (0, { X with now := putBlk X.now (m[i]?.getD 0) (textL ((bytesB X.now (m[i]?.getD 0)).take (z - 128 * i)) 16) }, m)

def cutL (z : Nat) (size : Int) : Nat → Nat → VS → List Int → Int × VS × List Int
  | 0, _, X, m => (0, X, m)
  | f + 1, i, X, m => if (cutStep z size i X m).1 = 0 then cutL z size f (i + 1) (cutStep z size i X m).2.1 (cutStep z size i X m).2.2 else cutStep z size i X m

/-- a file is cut -/
def cutP (B : Int → UInt64) (X : VS) (node : Int) (c : Crd) (size : Int) : Crd × Int × VS :=
  if ¬ (0 ≤ node ∧ node < 24) ∨ size < 0 then (Crd.zero, 1, X)
  else if 2688 < size then (Crd.zero, 10, X)
  else match mapOf X.now c with
    | none => (Crd.zero, 15, X)
    | some m =>
      let r := cutL size.toNat c.size 21 0 X m
      if r.1 = 0 then keepP B r.2.1 node { c with size := size } r.2.2 else (Crd.zero, r.1, r.2.1)

theorem cut_spec {h : Heap} {V : VL} {M : MemS} {X : VS} (A : At h V M X) (node : Int) (c : Crd) (hc : c.ok) (hm : okMap X.now c) (size : Int) :
    CallH Tryz.prog 87 [.pointer (some ⟨V.v, 0, none⟩), .int .i64 node, .agg ⟨c.cells⟩, .int .i64 size] h (fun v h' => Keeps [V.ob] h h' ∧
      v = .tuple #[.agg ⟨(cutP M.read X node c size).1.cells⟩, .int .i64 (cutP M.read X node c size).2.1] ∧ At h' V M (cutP M.read X node c size).2.2) := by
  have hob := A.blt V.ob (by simp [VL.blocks])
  refine call_of hmix Tryz.func87 rfl ok87 (by simp [Tryz.f87]) ?_
  conv => whnf
  refine AllocR.i fun b1 h1 e1 s1 o1 k1 => ?_
  conv => whnf
  refine AllocR.i fun b2 h2 e2 s2 o2 k2 => ?_
  conv => whnf
  refine CallR.i (may_spec node h2) fun v h3 k3 hv => ?_
  subst hv
  have k03 := k1.trans (k2.trans k3)
  have z3 := k3.size
  have nv : ∀ b ∈ V.blocks, b ≠ b1 ∧ b ≠ b2 := fun b hb => by have := A.blt b hb; omega
  conv => whnf
  first | refine IfR.i (fun hq => ?_) (fun hq => ?_) | (refine MeetR.pass ?_; (conv => whnf); refine IfR.i (fun hq => ?_) (fun hq => ?_))
  · have hb : ¬ (0 ≤ node ∧ node < 24) ∨ size < 0 := by
      by_cases hn : 0 ≤ node ∧ node < 24
      · rw [if_pos hn] at hq
        simp [bif_or] at hq
        exact .inr hq
      · exact .inl hn
    conv => whnf
    refine BoxR.i fun h4 s4 k4 => ?_
    conv => whnf
    unfold cutP
    rw [if_pos hb]
    exact ⟨(k03.new1 k4 (by omega)).mono (by simp), rfl, A.on (k03.new1 k4 (by omega))⟩
  · have hb : ¬ (¬ (0 ≤ node ∧ node < 24) ∨ size < 0) := by
      by_cases hn : 0 ≤ node ∧ node < 24
      · rw [if_pos hn] at hq
        simp [bif_or] at hq
        omega
      · rw [if_neg hn] at hq
        simp [bif_or] at hq
    conv => whnf
    refine IfR.i (fun hr => ?_) (fun hr => ?_)
    · have hs : 2688 < size := by simpa using hr
      conv => whnf
      refine BoxR.i fun h4 s4 k4 => ?_
      conv => whnf
      unfold cutP
      rw [if_neg hb, if_pos hs]
      exact ⟨(k03.new1 k4 (by omega)).mono (by simp), rfl, A.on (k03.new1 k4 (by omega))⟩
    · have hs : ¬ 2688 < size := by simpa using hr
      conv => whnf
      refine CallR.i (map_spec (A.on k03) c hc) fun v h4 k4 hv => ?_
      have k04 := k03.trans k4
      have z4 := k4.size
      have hPw : cutP M.read X node c size = match mapOf X.now c with
        | none => (Crd.zero, 15, X)
        | some m => if (cutL size.toNat c.size 21 0 X m).1 = 0 then keepP M.read (cutL size.toNat c.size 21 0 X m).2.1 node { c with size := size } (cutL size.toNat c.size 21 0 X m).2.2 else (Crd.zero, (cutL size.toNat c.size 21 0 X m).1, (cutL size.toNat c.size 21 0 X m).2.1) := by
        unfold cutP; rw [if_neg hb, if_neg hs]
      rw [hPw]
      clear hPw
      cases hmo : mapOf X.now c with
      | none =>
        rw [hmo] at hv; simp only at hv; subst hv
        conv => whnf
        first | refine IfR.t rfl ?_ | (refine MeetR.pass ?_; (conv => whnf); refine IfR.t rfl ?_)
        conv => whnf
        refine BoxR.i fun h5 s5 k5 => ?_
        conv => whnf
        exact ⟨(k04.new1 k5 (by omega)).mono (by simp), rfl, A.on (k04.new1 k5 (by omega))⟩
      | some m0 =>
        rw [hmo] at hv; simp only at hv
        obtain ⟨b, cap, sp, rfl, I4, hb4, hcap⟩ := hv
        have hml := mapOf_length hmo
        have hmr := hm m0 hmo
        obtain ⟨z, rfl⟩ : ∃ z : Nat, size = (z : Int) := ⟨size.toNat, by omega⟩
        rw [show ((z : Int)).toNat = z by omega]
        simp only
        generalize hR : cutL z c.size 21 0 X m0 = R
        have hbl : b < h4.size := obj_lt I4
        have nbs : ∀ y ∈ blocksOf [(6, b1, c.cells), (8, b2, Crd.zero.cells)], y ∉ [V.ob] := by
          intro y hy hx
          have hy2 : y ∈ [b1, b2] := hy
          simp at hy2 hx; omega
        have nvb : ∀ y ∈ V.blocks, y ≠ b := fun y hy => by have := A.blt y hy; omega
        conv => whnf
        first | refine IfR.f rfl ?_ | (refine MeetR.pass ?_; (conv => whnf); refine IfR.f rfl ?_)
        conv => whnf
        refine LoopR.on [0, 1, 3, 6, 8, 11, 12, 42, 43, 44] [6, 8] (fun q : Nat × VS × List Int => [(0, .v (.pointer (some ⟨V.v, 0, none⟩))), (1, .v (.int .i64 node)), (3, .v (.int .i64 (z : Int))), (6, .lp 6 0), (8, .lp 8 0), (11, .v (.slice (some ⟨b, 0, none⟩) 21 cap)), (12, .v (.int .i64 0)), (43, .v (.int .i64 21)), (44, .v (.int .i64 (q.1 : Int)))])
          (fun _ => [(6, b1, c.cells), (8, b2, Crd.zero.cells)]) (fun q h' => q.1 ≤ 21 ∧ Keeps [V.ob] h h' ∧ h4.size ≤ h'.size ∧ IntsAt h' b q.2.2 sp ∧ q.2.2.length = 21 ∧ (∀ x ∈ q.2.2, x = -1 ∨ (0 ≤ x ∧ x < 96)) ∧ At h' V M q.2.1 ∧ R = cutL z c.size (21 - q.1) q.1 q.2.1 q.2.2) (fun q => 21 - q.1) (0, X, m0) ?_ ?_
        · conv => whnf
          exact ⟨(0, X, m0), rfl, rfl, rfl, Nat.zero_le _, k04.mono (by simp), Nat.le_refl _, I4, hml, hmr, A.on k04, hR.symm⟩
        · rintro ⟨i, Xi, mi⟩ h5 ⟨hi, k5, z5, I5, ml5, mr5, A5, hRi⟩
          simp only at hi I5 ml5 mr5 A5 hRi
          conv => whnf
          refine IfR.i (fun hc2 => ?_) (fun hc2 => ?_)
          · have hi1 : i < 21 := by simp at hc2; omega
            have him : i < mi.length := by omega
            have hgi : mi[i]?.getD 0 = mi[i] := by simp [him]
            have hstep : cutL z c.size (21 - i) i Xi mi = if (cutStep z c.size i Xi mi).1 = 0 then cutL z c.size (21 - (i + 1)) (i + 1) (cutStep z c.size i Xi mi).2.1 (cutStep z c.size i Xi mi).2.2 else cutStep z c.size i Xi mi := by
              rw [show 21 - i = (21 - (i + 1)) + 1 by omega]; rfl
            rw [hstep] at hRi
            clear hstep
            have ew : IntKind.i64.wrap ((i : Int) * 128) = ((128 * i : Nat) : Int) := wrapN (by omega) (by omega)
            have ew2 : IntKind.i64.wrap (((128 * i : Nat) : Int) + 128) = ((128 * i + 128 : Nat) : Int) := wrapN (by omega) (by omega)
            conv => whnf
            first | refine IdxS.i i rfl (by omega) rfl ?_ | (refine MeetR.pass ?_; (conv => whnf); refine IdxS.i i rfl (by omega) rfl ?_)
            conv => whnf
            refine LoadR.i (I5.nth him) ?_
            conv => whnf
            refine CallR.i (used_spec _ h5) fun v h6 k6 hv => ?_
            subst hv
            have A6 := A5.on k6
            have k06 := k5.trans_nil k6
            have I6 : IntsAt h6 b mi sp := k6.obj I5 (by simp)
            have z6 := k6.size
            conv => whnf
            refine IfR.i (fun hu => ?_) (fun hu => ?_)
            · have hskip : mi[i]?.getD 0 = -1 ∨ c.size ≤ (z : Int) ∨ 128 * i + 128 ≤ z := by
                rw [hgi]
                by_cases h1 : mi[i] = -1
                · exact .inl h1
                · rw [usedB_t.2 h1, ew, ew2] at hu
                  simp [bif_or] at hu
                  omega
              conv => whnf
              refine ⟨21 - (i + 1), by omega, ?_⟩
              conv => whnf
              unfold cutStep at hRi
              rw [if_pos hskip] at hRi
              simp only [if_true] at hRi
              exact ⟨(i + 1, Xi, mi), rfl, by simp only; rw [wrapN (x := (i : Int) + 1) (n := i + 1) (by simp) (by omega)], rfl, by simp only; omega, k06, by omega, I6, ml5, mr5, A6, hRi⟩
            · have hskip : ¬ (mi[i]?.getD 0 = -1 ∨ c.size ≤ (z : Int) ∨ 128 * i + 128 ≤ z) := by
                rw [hgi]
                by_cases h1 : mi[i] = -1
                · rw [usedB_f.2 h1] at hu
                  simp [bif_or] at hu
                · rw [usedB_t.2 h1, ew, ew2] at hu
                  simp [bif_or] at hu
                  omega
              have hu1 : ¬ mi[i] = -1 := fun h => hskip (.inl (by rw [hgi]; exact h))
              have hkr : 0 ≤ mi[i] ∧ mi[i] < 96 := (mr5 _ (List.getElem_mem him)).resolve_left hu1
              conv => whnf
              first | refine IfR.i (fun hx => ?_) (fun hx => ?_) | (refine MeetR.pass ?_; (conv => whnf); refine IfR.i (fun hx => ?_) (fun hx => ?_))
              · have hge : z ≤ 128 * i := by rw [ew] at hx; simp at hx; omega
                have hw : cutStep z c.size i Xi mi = ((dropP Xi mi[i]).1, (dropP Xi mi[i]).2, mi.set i (-1)) := by
                  unfold cutStep
                  rw [if_neg hskip, if_pos hge, hgi]
                rw [hw] at hRi
                conv => whnf
                refine IdxS.i i rfl (by omega) rfl ?_
                conv => whnf
                refine LoadR.i (I6.nth him) ?_
                conv => whnf
                refine CallR.m (drop_spec A6 mi[i]) nbs fun v h7 k7 hv => ?_
                obtain ⟨rfl, A7⟩ := hv
                have z7 := k7.size
                have I7 : IntsAt h7 b mi sp := k7.obj I6 (by simp; omega)
                conv => whnf
                refine IdxS.i i rfl (by omega) rfl ?_
                conv => whnf
                refine StoreR.i I7 ?_ (by intro hx; have hx2 : b ∈ [b1, b2] := hx; simp at hx2; omega) fun h8 s8 o8 k8 => ?_
                · show 0 + i * 1 + 1 ≤ _
                  simp; omega
                have I8 : IntsAt h8 b (mi.set i (-1)) sp := by
                  unfold IntsAt
                  rw [← ints_set him]; exact o8
                have A8 := A7.keep k8 (fun y hy => by simpa using nvb y hy)
                have k08 : Keeps [V.ob] h h8 := (k06.trans k7).m1 k8 (by omega)
                conv => whnf
                first | refine IfR.i (fun hy => ?_) (fun hy => ?_) | (refine MeetR.pass ?_; (conv => whnf); refine IfR.i (fun hy => ?_) (fun hy => ?_))
                · have ht : ¬ (dropP Xi mi[i]).1 = 0 := by simpa using hy
                  simp only [if_neg ht] at hRi
                  subst hRi
                  conv => whnf
                  refine BoxR.i fun h9 s9 k9 => ?_
                  conv => whnf
                  simp only [if_neg ht]
                  exact ⟨k08.m1 k9 (by omega), rfl, A8.keep k9 (fun y hy => by simpa using (nv y hy).2)⟩
                · have ht : (dropP Xi mi[i]).1 = 0 := by simpa using hy
                  simp only [ht, if_true] at hRi
                  conv => whnf
                  refine ⟨21 - (i + 1), by omega, ?_⟩
                  conv => whnf
                  refine ⟨(i + 1, (dropP Xi mi[i]).2, mi.set i (-1)), rfl, ?_, rfl, by simp only; omega, k08, by omega, I8, by simp [ml5], fun x hx => ?_, A8, hRi⟩
                  · simp only
                    rw [wrapN (x := (i : Int) + 1) (n := i + 1) (by simp) (by omega), ht]
                  · rcases List.mem_or_eq_of_mem_set hx with h | h
                    · exact mr5 x h
                    · exact .inl h
              · have hge : ¬ z ≤ 128 * i := by rw [ew] at hx; simp at hx; omega
                have hw : cutStep z c.size i Xi mi = (0, { Xi with now := putBlk Xi.now mi[i] (textL ((bytesB Xi.now mi[i]).take (z - 128 * i)) 16) }, mi) := by
                  unfold cutStep
                  rw [if_neg hskip, if_neg hge, hgi]
                rw [hw] at hRi
                simp only [if_true] at hRi
                conv => whnf
                refine IdxS.i i rfl (by omega) rfl ?_
                conv => whnf
                refine LoadR.i (I6.nth him) ?_
                conv => whnf
                refine CallR.i (textB_spec A6 mi[i]) fun v h7 k7 hv => ?_
                rw [if_pos (.inr hkr)] at hv
                subst hv
                have A7 := A6.on k7
                have z7 := k7.size
                have I7 : IntsAt h7 b mi sp := k7.obj I6 (by simp)
                conv => whnf
                first | refine IfR.t rfl ?_ | (refine MeetR.pass ?_; (conv => whnf); refine IfR.t rfl ?_)
                conv => whnf
                refine IdxS.i i rfl (by omega) rfl ?_
                conv => whnf
                refine LoadR.i (I7.nth him) ?_
                have hz1 : z < 128 * i + 128 := by omega
                have er : IntKind.i64.wrap ((z : Int) - IntKind.i64.wrap ((i : Int) * 128)) = ((z - 128 * i : Nat) : Int) := by
                  rw [ew, wrapN (n := z - 128 * i) (by omega) (by omega)]
                conv => whnf
                refine SliceR.i 0 (z - 128 * i) rfl er (Nat.zero_le _) (by rw [ba_size, bytesB_len]; omega) ?_
                conv => whnf
                rw [ba_extract, List.drop_zero]
                refine CallR.m (putB_spec A7 mi[i] ⟨((bytesB Xi.now mi[i]).take (z - 128 * i)).toArray⟩ (by rw [ba_size, List.length_take]; omega)) nbs fun v h8 k8 hv => ?_
                obtain ⟨rfl, A8⟩ := hv
                rw [if_pos hkr] at A8
                rw [if_pos hkr]
                conv => whnf
                first | refine IfR.f rfl ?_ | (refine MeetR.pass ?_; (conv => whnf); refine IfR.f rfl ?_)
                conv => whnf
                refine ⟨21 - (i + 1), by omega, ?_⟩
                conv => whnf
                have z8 := k8.size
                exact ⟨(i + 1, { Xi with now := putBlk Xi.now mi[i] (textL ((bytesB Xi.now mi[i]).take (z - 128 * i)) 16) }, mi), rfl, by simp only; rw [wrapN (x := (i : Int) + 1) (n := i + 1) (by simp) (by omega)], rfl, by simp only; omega, (k06.trans_nil k7).trans k8, by omega, k8.obj I7 (by simp; omega), ml5, mr5, A8, hRi⟩
          · have hi1 : i = 21 := by simp at hc2; omega
            subst hi1
            have hR0 : R = (0, Xi, mi) := hRi
            rw [hR0]
            simp only [if_true]
            have SM := I5.sl (n := 21) (cap := cap) (fun x hx => by have := mr5 x hx; unfold inI64; omega) ml5.symm hcap (by omega)
            conv => whnf
            refine BoxR.i fun h7 s7 k7 => ?_
            have k7' : Keeps [V.ob] h h7 := k5.m1 k7 (by omega)
            have A7 := A5.keep k7 (fun y hy => by simpa using (nv y hy).1)
            have SM7 := SM.keepM k7 (by simp [blkA]; omega)
            conv => whnf
            refine CallR.m (keep_spec A7 node { c with size := (z : Int) } SM7 (by simp [blkA]; omega)) nbs fun v h8 k8 hv => ?_
            obtain ⟨rfl, A8⟩ := hv
            conv => whnf
            refine BoxR.i fun h9 s9 k9 => ?_
            conv => whnf
            exact ⟨(k7'.trans k8).m1 k9 (by omega), rfl, A8.keep k9 (fun y hy => by simpa using (nv y hy).2)⟩
end Go.Proofs.YtkjkdnphikendaaGreatDoor
/-
  The engine, for its user: structs and arrays that are compared.
-/
set_option linter.all false
namespace Go.Eng
open Go

/-- the fields of structs, one by one -/
def eqFs (P : Program) (eq : TypeId → Value → Value → Option Bool) (xs ys : List Value) : List Field → Option Bool
  | [] => some true
  | f :: fs => (match decide (f.name = "_") with
    | true => eqFs P eq xs ys fs
    | false => (match partV P f.type xs f.offset, partV P f.type ys f.offset with
      | some a, some b => (match eq f.type a b, eqFs P eq xs ys fs with
        | some r, some s => some (r && s)
        | _, _ => none)
      | _, _ => none))
def eqAs (P : Program) (eq : TypeId → Value → Value → Option Bool) (e : TypeId) (c : Nat) (xs ys : List Value) : List Nat → Option Bool
  | [] => some true
  | i :: is => (match partV P e xs (i * c), partV P e ys (i * c) with
    | some a, some b => (match eq e a b, eqAs P eq e c xs ys is with
      | some r, some s => some (r && s)
      | _, _ => none)
    | _, _ => none)

/-- are they the same? -/
def eqT (P : Program) : Nat → TypeId → Value → Value → Option Bool
  | 0, _, _, _ => none
  | d + 1, t, a, b => (match P.underlying t, a, b with
    | some (.int _), .int k x, .int k' y => (match k == k' with | true => some (x == y) | false => none)
    | some .bool, .bool x, .bool y => some (x == y)
    | some .string, .string x, .string y => some (x.toList == y.toList)
    | some (.struct fs), .agg ⟨xs⟩, .agg ⟨ys⟩ => (match P.stoodInHeld t with | false => eqFs P (eqT P d) xs ys fs.toList | true => none)
    | some (.array n e), .agg ⟨xs⟩, .agg ⟨ys⟩ => (match P.info? e with | some _ => eqAs P (eqT P d) e (P.cellsOf e) xs ys (List.range n) | none => none)
    | _, _, _ => none)

theorem eqFs_run {P : Program} {d : Nat} {eq : TypeId → Value → Value → Option Bool} (heq : ∀ t a b r (w : World), eq t a b = some r → (Op.equalIn d t a b).run P w = .ok r w) (xs ys : List Value) (w : World) :
    ∀ (fs : List Field) (r : Bool), eqFs P eq xs ys fs = some r → (Op.eqFields d ⟨xs⟩ ⟨ys⟩ fs).run P w = .ok r w
  | [], r, h => by simp [eqFs] at h; subst h; simp [Op.eqFields]
  | f :: fs, r, h => by
    simp only [eqFs] at h
    split at h
    · rename_i hn
      have hn' : f.name = "_" := by simpa using hn
      simp only [Op.eqFields, hn', ne_eq, not_true_eq_false, if_false]
      exact eqFs_run heq xs ys w fs r h
    · rename_i hn
      have hn' : ¬ f.name = "_" := by simpa using hn
      split at h
      · rename_i a b ha hb
        split at h
        · rename_i r1 s1 hr hs
          simp at h; subst h
          have h1 := partV_run ha w
          have h2 := partV_run hb w
          have h3 := heq _ _ _ _ w hr
          have h4 := eqFs_run heq xs ys w fs s1 hs
          simp only [Op.eqFields, hn', ne_eq, not_false_eq_true, if_true, Sem.run_bind, h1, h2, h3, Result.andThen_ok]
          cases r1
          · simp
          · simpa using h4
        · cases h
      · cases h

theorem eqAs_run {P : Program} {d : Nat} {eq : TypeId → Value → Value → Option Bool} (heq : ∀ t a b r (w : World), eq t a b = some r → (Op.equalIn d t a b).run P w = .ok r w) (e : TypeId) (c : Nat) (xs ys : List Value) (w : World) :
    ∀ (is : List Nat) (r : Bool), eqAs P eq e c xs ys is = some r → (Op.eqItems d e c ⟨xs⟩ ⟨ys⟩ is).run P w = .ok r w
  | [], r, h => by simp [eqAs] at h; subst h; simp [Op.eqItems]
  | i :: is, r, h => by
    simp only [eqAs] at h
    split at h
    · rename_i a b ha hb
      split at h
      · rename_i r1 s1 hr hs
        simp at h; subst h
        have h1 := partV_run ha w
        have h2 := partV_run hb w
        have h3 := heq _ _ _ _ w hr
        have h4 := eqAs_run heq e c xs ys w is s1 hs
        simp only [Op.eqItems, Sem.run_bind, h1, h2, h3, Result.andThen_ok]
        cases r1
        · simp
        · simpa using h4
      · cases h
    · cases h

theorem eqT_run {P : Program} : ∀ (d : Nat) (t : TypeId) (a b : Value) (r : Bool) (w : World), eqT P d t a b = some r → (Op.equalIn d t a b).run P w = .ok r w
  | 0, t, a, b, r, w, h => by cases h
  | d + 1, t, a, b, r, w, h => by
    have ih := fun t a b r w h => eqT_run (P := P) d t a b r w h
    unfold eqT at h
    split at h
    · rename_i k0 k1 x k2 y hu
      split at h
      · rename_i hk
        have : k1 = k2 := by simpa using hk
        subst this
        simp at h; subst h
        exact run_equalIn_int w d t k1 _ _ _ hu
      · cases h
    · rename_i hu
      simp at h; subst h
      exact run_equalIn_bool w d t _ _ hu
    · rename_i hu
      simp at h; subst h
      exact run_equalIn_string w d t _ _ hu
    · rename_i fs xs ys hu
      split at h
      · rename_i hs
        have hf : P.fieldsOf t = fs := by unfold Program.fieldsOf; rw [hu]
        rw [run_equalIn_agg w d t ⟨xs⟩ ⟨ys⟩ (by rw [hf]; exact hu) hs, hf]
        exact eqFs_run ih xs ys w _ r h
      · cases h
    · rename_i n e xs ys hu
      split at h
      · rename_i i hi
        rw [run_equalIn_array w d ⟨xs⟩ ⟨ys⟩ hu hi]
        exact eqAs_run ih e (P.cellsOf e) xs ys w _ r h
      · cases h
    · cases h

theorem PureR.eqAgg {P : Program} {c : Option Bool} {t : TypeId} {x y : Operand} {xs ys : List Value} {r : Bool} {K : Value → Prop} (hm : P.eqGuardType P.depth t = false) (he : eqT P 10000 t (.agg ⟨xs⟩) (.agg ⟨ys⟩) = some r) (hK : K (.bool r)) :
    PureR c P (do eqGuard .eql t x y (.agg ⟨xs⟩) (.agg ⟨ys⟩); binOp .eql t (.agg ⟨xs⟩) (.agg ⟨ys⟩) : Sem Value) K := by
  refine PureR.i (fun w => ?_) hK
  rw [Sem.run_bind, run_eqGuard_agg _ _ _ _ _ _ _ hm]
  simp only [Result.andThen_ok]
  rw [run_eql_struct, eqT_run _ _ _ _ _ w he]
  rfl
end Go.Eng
/-
  The references that layer 10's statements call.
-/
set_option linter.all false
set_option maxRecDepth 100000
namespace Go.Proofs.YtkjkdnphikendaaGreatDoor
open Go Go.Eng

def noneC (v : UInt64) : Crd := ⟨0, 0, 0, v, -1, -1, -1, -1, -1, -1⟩

def freshC (kind : Int) (v : UInt64) : Crd := { noneC v with kind := kind, links := 1 }

def blockC (n : Int) : Bool := decide (-1 ≤ n) && decide (n < 96)
/-- may a card be? -/
def rightC (c : Crd) : Bool :=
  if c.kind = 0 then decide (c = noneC c.ver)
  else c.direct.all blockC && (decide (1 ≤ c.kind) && decide (c.kind ≤ 3) && decide (0 ≤ c.links) && decide (c.links ≤ 255) && decide (0 ≤ c.size) && decide (c.size ≤ 2688) && blockC c.more)

theorem cells_inj {a b : Crd} : a.cells = b.cells ↔ a = b := by
  constructor
  · intro h
    obtain ⟨a1, a2, a3, a4, a5, a6, a7, a8, a9, a10⟩ := a
    obtain ⟨b1, b2, b3, b4, b5, b6, b7, b8, b9, b10⟩ := b
    simp only [Crd.cells, List.cons.injEq, Value.int.injEq, true_and, and_true, wv_inj] at h
    obtain ⟨rfl, rfl, rfl, rfl, rfl, rfl, rfl, rfl, rfl, rfl⟩ := h
    rfl
  · rintro rfl; rfl

theorem eqT_crd (a b : Crd) : eqT Tryz.prog 10000 64 (.agg ⟨a.cells⟩) (.agg ⟨b.cells⟩) = some (decide (a = b)) := by
  have h : eqT Tryz.prog 10000 64 (.agg ⟨a.cells⟩) (.agg ⟨b.cells⟩) = some ((a.kind == b.kind) && ((a.links == b.links) && ((a.size == b.size) && (((a.ver.toNat : Int) == (b.ver.toNat : Int)) && (((a.d0 == b.d0) && ((a.d1 == b.d1) && ((a.d2 == b.d2) && ((a.d3 == b.d3) && ((a.d4 == b.d4) && true))))) && ((a.more == b.more) && true)))))) := rfl
  rw [h]
  congr 1
  rw [Bool.eq_iff_iff]
  simp only [Bool.and_eq_true, beq_iff_eq, decide_eq_true_eq, Bool.and_true]
  constructor
  · rintro ⟨h1, h2, h3, h4, ⟨h5, h6, h7, h8, h9⟩, h10⟩
    rw [← cells_inj]
    simp only [Crd.cells, wv, h1, h2, h3, h4, h5, h6, h7, h8, h9, h10]
  · rintro rfl; simp
end Go.Proofs.YtkjkdnphikendaaGreatDoor
/-
  The references that layer 10's statements call, further; images.
-/
set_option linter.all false
set_option maxRecDepth 100000
set_option maxHeartbeats 1000000
namespace Go.Proofs.YtkjkdnphikendaaGreatDoor
open Go Go.Eng

/-! ### Images -/

structure Chg where
  at_ : Int
  v : UInt64
instance : Rp Chg where
  n := 2
  rep _ vs x := vs = [.int .i64 x.at_, wv x.v] ∧ inI64 x.at_
  len h := by rw [h.1]; rfl
  keep _ h := h
instance : Flat Chg := ⟨fun h => h⟩

def idxC (a : Int) : Nat := ((a % 18446744073709551616) % 2824).toNat
def img0 : List UInt64 := 7021221306412823411 :: 2824 :: List.replicate 2822 0
/-- words of a memory of the plan, with some others -/
def imgW (l : List Chg) : List UInt64 := (l.take 100).foldl (fun ws c => ws.set (idxC c.at_) c.v) img0

theorem head_spec (h : Heap) : CallH Tryz.prog 105 [] h (fun v h' => Keeps [] h h' ∧ ∃ b, v = .slice (some ⟨b, 0, none⟩) 8 8 ∧ h.size ≤ b ∧ b < h'.size ∧ h'[b]? = some (.cells ⟨([7021221306412823411, 2824, 0, 0, 0, 0, 0, 0] : List UInt64).map wv⟩ 56 (0, 0))) := by
  refine call_of hmix Tryz.func105 rfl ok105 (by simp [Tryz.f105]) ?_
  conv => whnf
  refine SemR.make (n := 8) rfl rfl rfl rfl rfl (by decide) (by decide) fun b1 h1 e1 s1 o1 k1 => ?_
  conv => whnf
  refine CallR.i (size_spec h1) fun v h2 k2 hv => ?_
  subst hv
  have o2 := k2.obj o1 (by simp)
  conv => whnf
  refine IdxS.i 0 rfl (by decide) rfl ?_
  conv => whnf
  refine StoreR.i o2 (Nat.le_of_ble_eq_true rfl) (by simp [blocksOf]) fun h3 s3 o3 k3 => ?_
  conv => whnf
  refine IdxS.i 1 rfl (by decide) rfl ?_
  conv => whnf
  refine StoreR.i o3 (Nat.le_of_ble_eq_true rfl) (by simp [blocksOf]) fun h4 s4 o4 k4 => ?_
  conv => whnf
  have z2 := k2.size
  exact ⟨((k1.trans k2).new1 k3 (by omega)).new1 k4 (by omega), b1, rfl, by omega, by omega, o4⟩

end Go.Proofs.YtkjkdnphikendaaGreatDoor
/-
  Reference 8's views; reference 10's maps; the law's own check that the program lives.
-/
set_option linter.all false
set_option maxRecDepth 100000
set_option maxHeartbeats 1000000
namespace Go.Proofs.YtkjkdnphikendaaGreatDoor
open Go Go.Eng

/-- where reference 8's view has its words -/
def RefV (h : Heap) (p : Nat) (ws : List UInt64) : Prop := ∃ a n c, Heap.cell? h p 1 = some (.slice a n c) ∧ Sl h a n c ws
theorem RefV.on {h h' : Heap} {p : Nat} {ws : List UInt64} (R : RefV h p ws) (k : Keeps [] h h') : RefV h' p ws := by
  obtain ⟨a, n, c, h1, h2⟩ := R
  exact ⟨a, n, c, k.cell h1 (by simp), h2.keep k⟩

def rdR (ws : List UInt64) (i : Int) : UInt64 := if 0 ≤ i ∧ i < ws.length then ws[i.toNat]?.getD 0 else 0

/-- reference 10's map: nothing where a word is too great; else a map, and whether it may be -/
def refMap (ws : List UInt64) (c : Crd) : Option (List Int × Bool) :=
  if c.more < 0 then some (c.direct ++ List.replicate 16 (-1), true)
  else if (rdL (rdR ws) (1288 + 16 * c.more) 16).all (fun w => decide (w.toNat ≤ 96)) = true then some (c.direct ++ (rdL (rdR ws) (1288 + 16 * c.more) 16).map convW, (rdL (rdR ws) (1288 + 16 * c.more) 16).any fun w => decide (0 < w.toNat))
  else none

theorem one_append {h : Heap} {a : Option Addr} {len cap : Nat} {l : List Int} (O : Own h 3 1 a len cap (l.map fun x => .int .i64 x)) (hl : len = l.length) (hb : l.length ≤ 1000) {b : Nat} {x : Int} (o : h[b]? = some (.cells ⟨[.int .i64 x]⟩ 3 (0, 0))) {bs : List Nat} (hbs : ∀ b ∈ blkA a, b ∉ bs) {ty : TypeId} {K : Value → Heap → Prop}
    (H : ∀ a' cap' h', Own h' 3 1 a' (len + 1) cap' ((l ++ [x]).map fun x => .int .i64 x) → Keeps (blkA a) h h' → (∀ b ∈ blkA a', b ∈ blkA a ∨ h.size ≤ b) → K (.slice a' (len + 1) cap') h') :
    SemR Tryz.prog (Builtin.append_ #[118, 118] ty ⟨[.slice a len cap, .slice (some ⟨b, 0, none⟩) 1 1]⟩) bs h K := by
  refine append_own (e := 3) (sz := 1) (by_ := 8) (new := [.int .i64 x]) rfl rfl rfl rfl rfl rfl rfl O rfl (fun j hj => ?_) rfl (by omega) (by decide) hbs ?_
  · have hj0 : j = 0 := by simpa using hj
    subst hj0
    simp only [Heap.cell?, o]; rfl
  intro a' c' h' O' k' n'
  exact H a' c' h' (by rw [List.map_append]; exact O') k' n'

end Go.Proofs.YtkjkdnphikendaaGreatDoor
/-
  The law's own check that the program lives.
-/
set_option linter.all false
set_option maxRecDepth 100000
set_option maxHeartbeats 1000000
namespace Go.Proofs.YtkjkdnphikendaaGreatDoor
open Go Go.Eng

/-- the words of a new memory -/
def b0 (i : Int) : UInt64 := if 0 ≤ i ∧ i < 2824 then (if i = 0 then 7021221306412823411 else if i = 1 then 2824 else 0) else 0
def M0 : MemS := ⟨img0, [], [], 0, -1⟩

def X0 : VS := ⟨b0, [], [], [], []⟩
def c1 : Crd := ⟨1, 1, 702, 1, -1, -1, -1, -1, -1, 1⟩
def wL : Crd × Int × VS := writeP b0 X0 2 (freshC 1 1) 700 [97, 98]

end Go.Proofs.YtkjkdnphikendaaGreatDoor
/-
  Layer 10 without a view; the law of it.
-/
set_option linter.all false
set_option maxRecDepth 100000
namespace Go.Proofs.YtkjkdnphikendaaGreatDoor
open Go Go.Eng

end Go.Proofs.YtkjkdnphikendaaGreatDoor
/-
  Layer 10: the laws' arguments; the law without a view.
-/
set_option linter.all false
set_option maxRecDepth 100000
namespace Go.Proofs.YtkjkdnphikendaaGreatDoor
open Go Go.Eng Go.RowKit

section
variable {H : Type} {enc : TypeId × Value → H} {W : World} {sp : Nat → Bool} {held : Bool}

end

end Go.Proofs.YtkjkdnphikendaaGreatDoor
/-
  The law of maps: its plain part.
-/
set_option linter.all false
set_option maxRecDepth 100000
namespace Go.Proofs.YtkjkdnphikendaaGreatDoor
open Go Go.Eng

theorem w64_small {n : Int} (h : -1 ≤ n ∧ n < 96) : convW (w64 (n + 1)) = n ∧ (w64 (n + 1)).toNat ≤ 96 := by
  have := w64_toNat (n + 1)
  unfold convW; omega

theorem more_put (f : Int → UInt64) (k : Int) {ws : List UInt64} (h : ws.length = 16) : moreL (putBlk f k ws) k = ws := by
  unfold moreL rdL putBlk fullB updL
  apply List.ext_getElem
  · simp [h]
  · intro i h1 h2
    simp only [List.length_map, List.length_range] at h1
    simp only [h, Nat.sub_self, List.replicate_zero, List.append_nil, List.getElem_map, List.getElem_range]
    rw [if_pos (by omega)]
    have : (1288 + k * 16 + (i : Int) - (1288 + k * 16)).toNat = i := by omega
    rw [this]
    simp [h2]

theorem conv_back : ∀ {l : List Int}, (∀ x ∈ l, -1 ≤ x ∧ x < 96) → (l.map fun n => w64 (n + 1)).map convW = l
  | [], _ => rfl
  | x :: l, h => by
    simp only [List.map_cons]
    rw [(w64_small (h x (by simp))).1, conv_back (fun y hy => h y (by simp [hy]))]

end Go.Proofs.YtkjkdnphikendaaGreatDoor
/-
  The law of maps.
-/
set_option linter.all false
set_option maxRecDepth 100000
set_option maxHeartbeats 1000000
namespace Go.Proofs.YtkjkdnphikendaaGreatDoor
open Go Go.Eng

def fitB (x : Int) : Bool := decide (-1 ≤ x) && decide (x < 96)

theorem _root_.Go.Eng.Sl.lt {h : Heap} {a : Option Addr} {n c : Nat} {m : List Int} (T : Sl h a n c m) (hn : 0 < n) : ∀ b ∈ blkA a, b < h.size := by
  have hl := T.hlen
  obtain ⟨b, o, hb, _, hc⟩ := T.at1 0 (by omega)
  intro x hx
  rw [hb] at hx
  simp [blkA] at hx
  subst hx
  exact cell_lt hc

end Go.Proofs.YtkjkdnphikendaaGreatDoor
/-
  Plain laws of words, blocks and bytes.
-/
set_option linter.all false
set_option maxRecDepth 100000
namespace Go.Proofs.YtkjkdnphikendaaGreatDoor
open Go Go.Eng

theorem textL_len (l : List UInt8) (n : Nat) : (textL l n).length = n := by simp [textL]
theorem fullB_len {ws : List UInt64} (h : ws.length ≤ 16) : (fullB ws).length = 16 := by simp [fullB]; omega
theorem rdL_len (f : Int → UInt64) (a : Int) (n : Nat) : (rdL f a n).length = n := by simp [rdL]

theorem rdL_congr {f g : Int → UInt64} {a : Int} {n : Nat} (h : ∀ i : Nat, i < n → f (a + (i : Int)) = g (a + (i : Int))) : rdL f a n = rdL g a n := by
  unfold rdL
  exact List.map_congr_left fun i hi => h i (by simpa using hi)
theorem put_ne {f : Int → UInt64} {k : Int} {ws : List UInt64} (h : ws.length ≤ 16) {x : Int} (hx : x < 1288 + k * 16 ∨ 1288 + k * 16 + 16 ≤ x) : putBlk f k ws x = f x := by
  unfold putBlk updL
  rw [fullB_len h, if_neg (by omega)]
theorem put_rd {f : Int → UInt64} {k : Int} {ws : List UInt64} (h : ws.length ≤ 16) : rdL (putBlk f k ws) (1288 + k * 16) 16 = fullB ws := by
  have hl := fullB_len h
  unfold rdL putBlk updL
  rw [hl]
  apply List.ext_getElem
  · simp [hl]
  · intro i h1 h2
    simp only [List.length_map, List.length_range] at h1
    simp only [List.getElem_map, List.getElem_range]
    rw [if_pos (by omega)]
    have : (1288 + k * 16 + (i : Int) - (1288 + k * 16)).toNat = i := by omega
    rw [this]
    simp [h2]
theorem put_rd_ne {f : Int → UInt64} {k k' : Int} {ws : List UInt64} (h : ws.length ≤ 16) (hk : k ≠ k') : rdL (putBlk f k ws) (1288 + k' * 16) 16 = rdL f (1288 + k' * 16) 16 :=
  rdL_congr fun i hi => put_ne h (by omega)
theorem put_owner {f : Int → UInt64} {k : Int} {ws : List UInt64} (h : ws.length ≤ 16) (hk : 0 ≤ k) {j : Int} (hj : j < 96) : putBlk f k ws (200 + j) = f (200 + j) := put_ne h (by omega)
theorem upd_rd {f : Int → UInt64} {j : Int} {w : UInt64} (hj : j < 96) {k : Int} (hk : 0 ≤ k) : rdL (upd f (200 + j) w) (1288 + k * 16) 16 = rdL f (1288 + k * 16) 16 :=
  rdL_congr fun i hi => by unfold upd; rw [if_neg (by omega)]

theorem bytes_put {f : Int → UInt64} {k k' : Int} {ws : List UInt64} (h : ws.length ≤ 16) (hk : k ≠ k') : bytesB (putBlk f k ws) k' = bytesB f k' := by
  unfold bytesB; rw [put_rd_ne h hk]
theorem bytes_upd {f : Int → UInt64} {j : Int} {w : UInt64} (hj : j < 96) {k : Int} (hk : k = -1 ∨ 0 ≤ k) : bytesB (upd f (200 + j) w) k = bytesB f k := by
  unfold bytesB
  split
  · rfl
  · rw [upd_rd hj (by omega)]
theorem more_put_ne {f : Int → UInt64} {k k' : Int} {ws : List UInt64} (h : ws.length ≤ 16) (hk : k ≠ k') : moreL (putBlk f k ws) k' = moreL f k' := put_rd_ne h hk
/-- a byte of packed bytes -/
theorem packN_get : ∀ (l : List UInt8) (j : Nat), packN l / 256 ^ j % 256 = (l[j]?.getD 0).toNat
  | [], j => by simp [packN]
  | b :: r, 0 => by
    have := b.toNat_lt
    simp [packN]
  | b :: r, j + 1 => by
    have hb := b.toNat_lt
    have ih := packN_get r j
    simp only [packN, List.getElem?_cons_succ]
    rw [← ih, Nat.pow_succ, Nat.mul_comm (256 ^ j) 256, ← Nat.div_div_eq_div_mul]
    congr 2
    omega

theorem byte_word (l : List UInt8) (i : Nat) : byteW (wordT l (i / 8)) i = l[i]?.getD 0 := by
  unfold byteW
  rw [wordT_toNat, Nat.pow_mul, show (2 : Nat) ^ 8 = 256 from rfl]
  apply UInt8.toNat_inj.1
  rw [UInt8.toNat_ofNat', show (2 : Nat) ^ 8 = 256 from rfl, packN_get, List.getElem?_take, if_pos (Nat.mod_lt _ (by decide)), List.getElem?_drop, Nat.div_add_mod]

/-- a block that holds bytes -/
theorem bytes_text {f : Int → UInt64} {k : Int} {l : List UInt8} (hl : l.length ≤ 128) (hk : k ≠ -1) : bytesB (putBlk f k (textL l 16)) k = l ++ zeros (128 - l.length) := by
  unfold bytesB
  rw [if_neg hk, put_rd (by rw [textL_len]; omega)]
  unfold untextL fullB
  apply List.ext_getElem
  · simp [zeros]; omega
  · intro i h1 h2
    simp only [List.length_map, List.length_range] at h1
    simp only [List.getElem_map, List.getElem_range]
    have e : (textL l 16 ++ List.replicate (16 - (textL l 16).length) 0)[i / 8]?.getD 0 = wordT l (i / 8) := by
      rw [List.getElem?_append_left (by rw [textL_len]; omega)]
      unfold textL
      simp [show i / 8 < 16 by omega]
    rw [e, byte_word]
    by_cases h : i < l.length
    · rw [List.getElem_append_left h]; simp [h]
    · rw [List.getElem_append_right (by omega)]; simp [zeros, show l.length ≤ i by omega]
end Go.Proofs.YtkjkdnphikendaaGreatDoor
/-
  Plain laws of a file's blocks.
-/
set_option linter.all false
set_option maxRecDepth 100000
namespace Go.Proofs.YtkjkdnphikendaaGreatDoor
open Go Go.Eng

/-- a file's byte -/
def fb (now : Int → UInt64) (m : List Int) (p : Nat) : UInt8 := ((bytesB now (m[p / 128]?.getD (-1)))[p % 128]?).getD 0

theorem fileB_get {now : Int → UInt64} : ∀ (m : List Int) (p : Nat), p < 128 * m.length → (fileB now m)[p]? = some (fb now m p)
  | [], p, h => by simp at h
  | x :: m, p, h => by
    have hl := bytesB_len now x
    unfold fileB
    rw [List.flatMap_cons]
    by_cases hp : p < 128
    · rw [List.getElem?_append_left (by omega)]
      unfold fb
      have e1 : p / 128 = 0 := by omega
      have e2 : p % 128 = p := by omega
      have h1 : p < (bytesB now x).length := by omega
      rw [e1, e2]
      simp [h1]
    · rw [List.getElem?_append_right (by omega)]
      have ih := fileB_get (now := now) m (p - 128) (by simp at h; omega)
      rw [hl]
      unfold fileB at ih
      rw [ih]
      unfold fb
      have e1 : p / 128 = (p - 128) / 128 + 1 := by omega
      have e2 : p % 128 = (p - 128) % 128 := by omega
      rw [e1, e2]; rfl

/-- the blocks that a file has -/
def usedL (more : Int) (m : List Int) : List Int := (more :: m).filter usedB

def blkOk (x : Int) : Prop := x = -1 ∨ (0 ≤ x ∧ x < 96)

/-- a file's blocks over words -/
structure Wk (now : Int → UInt64) (node more : Int) (m : List Int) : Prop where
  len : m.length = 21
  rng : ∀ x ∈ more :: m, blkOk x
  nod : (usedL more m).Nodup
  own : ∀ x, 0 ≤ x → x < 96 → (x ∈ usedL more m ↔ now (200 + x) = w64 (node + 1))

/-- what others have stays -/
structure Fr (node : Int) (f g : Int → UInt64) : Prop where
  oth : ∀ k, 0 ≤ k → k < 96 → f (200 + k) ≠ w64 (node + 1) → (g (200 + k) = f (200 + k) ∨ f (200 + k) = 0 ∧ g (200 + k) = w64 (node + 1)) ∧ (f (200 + k) ≠ 0 → rdL g (1288 + k * 16) 16 = rdL f (1288 + k * 16) 16)
  mine : ∀ k, 0 ≤ k → k < 96 → f (200 + k) = w64 (node + 1) → g (200 + k) = w64 (node + 1) ∨ g (200 + k) = 0
  low : ∀ a, a < 200 → g a = f a

/-- the same of blocks alone -/
structure Fr0 (node : Int) (f g : Int → UInt64) : Prop where
  oth : ∀ k, 0 ≤ k → k < 96 → f (200 + k) ≠ w64 (node + 1) → (g (200 + k) = f (200 + k) ∨ f (200 + k) = 0 ∧ g (200 + k) = w64 (node + 1)) ∧ (f (200 + k) ≠ 0 → rdL g (1288 + k * 16) 16 = rdL f (1288 + k * 16) 16)
  mine : ∀ k, 0 ≤ k → k < 96 → f (200 + k) = w64 (node + 1) → g (200 + k) = w64 (node + 1) ∨ g (200 + k) = 0
theorem Fr.z {node : Int} {f g : Int → UInt64} (a : Fr node f g) : Fr0 node f g := ⟨a.oth, a.mine⟩
/-- words ahead of the blocks' owners are changed -/
theorem Fr0.of {f g : Int → UInt64} (node : Int) (h : ∀ a, 200 ≤ a → g a = f a) : Fr0 node f g :=
  ⟨fun k h0 _ _ => ⟨.inl (h _ (by omega)), fun _ => List.map_congr_left fun i _ => h _ (by omega)⟩, fun k h0 _ hf => .inl (by rw [h _ (by omega)]; exact hf)⟩
theorem Fr0.after {node : Int} {f g h : Int → UInt64} (a : Fr0 node f g) (b : ∀ a, 200 ≤ a → h a = g a) : Fr0 node f h :=
  ⟨fun k h0 h1 hf => by
    have e : rdL h (1288 + k * 16) 16 = rdL g (1288 + k * 16) 16 := List.map_congr_left fun i _ => b _ (by omega)
    rw [b _ (by omega), e]; exact a.oth k h0 h1 hf, fun k h0 h1 hf => by rw [b _ (by omega)]; exact a.mine k h0 h1 hf⟩

theorem put_low {f : Int → UInt64} {k : Int} {ws : List UInt64} (hk : 0 ≤ k) {a : Int} (ha : a < 200) : putBlk f k ws a = f a := by
  unfold putBlk updL
  rw [if_neg (by omega)]

theorem Fr.refl (node : Int) (f : Int → UInt64) : Fr node f f := ⟨fun k _ _ _ => ⟨.inl rfl, fun _ => rfl⟩, fun k _ _ h => .inl h, fun _ _ => rfl⟩
theorem Fr.trans {node : Int} {f g h : Int → UInt64} (a : Fr node f g) (b : Fr node g h) (hn : w64 (node + 1) ≠ 0) : Fr node f h := by
  constructor
  · intro k h0 h1 hf
    obtain ⟨p, q⟩ := a.oth k h0 h1 hf
    rcases p with p | ⟨p1, p2⟩
    · have hg : g (200 + k) ≠ w64 (node + 1) := by rw [p]; exact hf
      obtain ⟨r, s⟩ := b.oth k h0 h1 hg
      rw [p] at r s
      exact ⟨r, fun h => (s h).trans (q h)⟩
    · refine ⟨?_, fun h => absurd p1 h⟩
      rcases b.mine k h0 h1 p2 with r | r
      · exact .inr ⟨p1, r⟩
      · left; rw [r, p1]
  · intro k h0 h1 hf
    rcases a.mine k h0 h1 hf with p | p
    · exact b.mine k h0 h1 p
    · have hg : g (200 + k) ≠ w64 (node + 1) := by rw [p]; exact fun e => hn e.symm
      rcases (b.oth k h0 h1 hg).1 with r | ⟨_, r⟩
      · right; rw [r, p]
      · exact .inl r
  · exact fun x hx => (b.low x hx).trans (a.low x hx)

theorem usedL_mem {more : Int} {m : List Int} {x : Int} : x ∈ usedL more m ↔ (x = more ∨ x ∈ m) ∧ x ≠ -1 := by
  unfold usedL
  rw [List.mem_filter, List.mem_cons]
  constructor
  · rintro ⟨a, b⟩; exact ⟨a, usedB_t.1 b⟩
  · rintro ⟨a, b⟩; exact ⟨a, usedB_t.2 b⟩

theorem Wk.at_ {now : Int → UInt64} {node more : Int} {m : List Int} (W : Wk now node more m) {i : Nat} (hi : i < 21) : m[i]?.getD (-1) = m[i]'(by rw [W.len]; exact hi) := by
  have := W.len
  simp [show i < m.length by omega]

theorem Wk.ne_more {now : Int → UInt64} {node more : Int} {m : List Int} (W : Wk now node more m) {x : Int} (hx : x ∈ m) (hu : x ≠ -1) : x ≠ more := by
  rintro rfl
  have h := W.nod
  unfold usedL at h
  rw [List.filter_cons, if_pos (usedB_t.2 hu), List.nodup_cons] at h
  exact h.1 (List.mem_filter.2 ⟨hx, usedB_t.2 hu⟩)

theorem nodup_used_inj : ∀ {m : List Int} {i j : Nat} (hi : i < m.length) (hj : j < m.length), (m.filter usedB).Nodup → m[i] = m[j] → m[i] ≠ -1 → i = j
  | [], i, j, hi, _, _, _, _ => by simp at hi
  | x :: m, 0, 0, _, _, _, _, _ => rfl
  | x :: m, 0, j + 1, hi, hj, h, e, hu => by
    simp only [List.getElem_cons_zero, List.getElem_cons_succ] at e hu
    rw [List.filter_cons, if_pos (usedB_t.2 hu), List.nodup_cons] at h
    exact absurd (List.mem_filter.2 ⟨by rw [e]; exact List.getElem_mem _, usedB_t.2 hu⟩) h.1
  | x :: m, i + 1, 0, hi, hj, h, e, hu => by
    simp only [List.getElem_cons_zero, List.getElem_cons_succ] at e hu
    rw [e] at hu
    rw [List.filter_cons, if_pos (usedB_t.2 hu), List.nodup_cons] at h
    exact absurd (List.mem_filter.2 ⟨by rw [← e]; exact List.getElem_mem _, usedB_t.2 hu⟩) h.1
  | x :: m, i + 1, j + 1, hi, hj, h, e, hu => by
    simp only [List.getElem_cons_succ] at e hu
    have h' : (m.filter usedB).Nodup := by
      rw [List.filter_cons] at h
      split at h
      · exact (List.nodup_cons.1 h).2
      · exact h
    rw [nodup_used_inj (by simpa using hi) (by simpa using hj) h' e hu]

theorem Wk.inj {now : Int → UInt64} {node more : Int} {m : List Int} (W : Wk now node more m) {i j : Nat} (hi : i < 21) (hj : j < 21) (e : m[i]?.getD (-1) = m[j]?.getD (-1)) (hu : m[i]?.getD (-1) ≠ -1) : i = j := by
  have hl := W.len
  rw [W.at_ hi] at e hu
  rw [W.at_ hj] at e
  refine nodup_used_inj (by omega) (by omega) ?_ e hu
  have h := W.nod
  unfold usedL at h
  rw [List.filter_cons] at h
  split at h
  · exact (List.nodup_cons.1 h).2
  · exact h

theorem w64_ne {node : Int} (h : 0 ≤ node ∧ node < 24) : w64 (node + 1) ≠ 0 := by
  intro e
  have h1 := w64_toNat (node + 1)
  rw [e] at h1
  simp at h1; omega

/-- a block's bytes are set -/
theorem Wk.put {now : Int → UInt64} {node more : Int} {m : List Int} (W : Wk now node more m) {i : Nat} (hi : i < 21) {l : List UInt8} (hl : l.length ≤ 128) {x : Int} (hx : m[i]?.getD (-1) = x) (hu : x ≠ -1) :
    Wk (putBlk now x (textL l 16)) node more m ∧ Fr node now (putBlk now x (textL l 16)) ∧ (more ≠ -1 → moreL (putBlk now x (textL l 16)) more = moreL now more) ∧
    ∀ p, p < 2688 → fb (putBlk now x (textL l 16)) m p = if p / 128 = i then l[p % 128]?.getD 0 else fb now m p := by
  have ht : (textL l 16).length ≤ 16 := by rw [textL_len]; omega
  have hxm : x ∈ m := by rw [← hx, W.at_ hi]; exact List.getElem_mem _
  have hxr : 0 ≤ x ∧ x < 96 := by
    rcases W.rng x (List.mem_cons_of_mem _ hxm) with h | h
    · exact absurd h hu
    · exact h
  have ho : ∀ k, 0 ≤ k → k < 96 → putBlk now x (textL l 16) (200 + k) = now (200 + k) := fun k _ h => put_owner ht hxr.1 h
  have hown : now (200 + x) = w64 (node + 1) := (W.own x hxr.1 hxr.2).1 (usedL_mem.2 ⟨.inr hxm, hu⟩)
  refine ⟨⟨W.len, W.rng, W.nod, fun k h0 h1 => by rw [ho k h0 h1]; exact W.own k h0 h1⟩, ⟨fun k h0 h1 hf => ⟨.inl (ho k h0 h1), fun _ => ?_⟩, fun k h0 h1 hf => .inl (by rw [ho k h0 h1]; exact hf), fun _ ha => put_low hxr.1 ha⟩, fun hm => more_put_ne ht (W.ne_more hxm hu), fun p hp => ?_⟩
  · refine put_rd_ne ht ?_
    rintro rfl
    exact hf hown
  · have hp2 : p / 128 < 21 := by omega
    unfold fb
    by_cases h : p / 128 = i
    · rw [if_pos h, h, hx, bytes_text hl hu]
      by_cases h2 : p % 128 < l.length
      · rw [List.getElem?_append_left h2]
      · rw [List.getElem?_append_right (by omega)]
        have h3 : l.length ≤ p % 128 := by omega
        simp only [zeros, List.getElem?_eq_none h3, Option.getD_none]
        rw [List.getElem?_replicate]
        split <;> rfl
    · rw [if_neg h, bytes_put ht]
      intro e
      exact h (W.inj hp2 hi (by rw [← e, hx]) (by rw [← e]; exact hu))
end Go.Proofs.YtkjkdnphikendaaGreatDoor
