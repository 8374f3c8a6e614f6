/-
  Layer 10: a card with a map.
-/
import Derived.Test.YtlloemmpnhoanaaGreatBodyJ
set_option linter.all false
set_option maxRecDepth 100000
namespace Go.Proofs.YtlloemmpnhoanaaGreat
open Go Go.Eng

def setD (c : Crd) (m : List Int) : Crd := { c with d0 := m[0]?.getD 0, d1 := m[1]?.getD 0, d2 := m[2]?.getD 0, d3 := m[3]?.getD 0, d4 := m[4]?.getD 0 }

/-- a card with a map -/
def keepP (B : Int → UInt64) (X : VS) (node : Int) (c : Crd) (m : List Int) : Crd × Int × VS :=
  if (0 ≤ node ∧ node < 24) ∧ m.length = 21 ∧ m.any oddB = false then
    (if (m.drop 5).any usedB = false then
      (if c.more = -1 then ({ setD c m with more := -1 }, 0, X)
      else if (dropP X c.more).1 = 0 then ({ setD c m with more := -1 }, 0, (dropP X c.more).2) else (Crd.zero, (dropP X c.more).1, (dropP X c.more).2))
    else
      let t := if c.more = -1 then takeP B X node else (c.more, 0, X)
      if t.2.1 = 0 then
        ({ setD c m with more := t.1 }, if 0 ≤ t.1 ∧ t.1 < 96 then 0 else 1, if 0 ≤ t.1 ∧ t.1 < 96 then { t.2.2 with now := putBlk t.2.2.now t.1 ((m.drop 5).map fun n => w64 (n + 1)) } else t.2.2)
      else (Crd.zero, t.2.1, t.2.2))
  else (Crd.zero, 1, X)

theorem zero_cells : Crd.zero.cells = [.int .i64 0, .int .i64 0, .int .i64 0, .int .u64 0, .int .i64 0, .int .i64 0, .int .i64 0, .int .i64 0, .int .i64 0, .int .i64 0] := rfl

theorem take5 {m : List Int} (h : m.length = 21) : ∃ a b c d e r, m = a :: b :: c :: d :: e :: r ∧ r.length = 16 := by
  match m, h with
  | a :: b :: c :: d :: e :: r, h => exact ⟨a, b, c, d, e, r, rfl, by simpa using h⟩

theorem usedB_t {n : Int} : usedB n = true ↔ ¬ n = -1 := by unfold usedB; exact decide_eq_true_iff
theorem usedB_f {n : Int} : usedB n = false ↔ n = -1 := by
  rw [← Bool.not_eq_true, usedB_t]
  first | done | exact Classical.not_not

theorem bnot_t {b : Bool} (h : (!b) = true) : b = false := by cases b <;> simp_all
theorem bnot_f {b : Bool} (h : (!b) = false) : b = true := by cases b <;> simp_all
theorem reps_w (h : Heap) : ∀ l : List UInt64, Reps h (l.map wv) l
  | [] => rfl
  | x :: l => ⟨[wv x], l.map wv, rfl, rfl, reps_w h l⟩

theorem keep_spec {h : Heap} {V : VL} {M : MemS} {X : VS} (A : At h V M X) (node : Int) (c : Crd) {sa : Option Addr} {n cap : Nat} {m : List Int} (S : Sl h sa n cap m) (hs : n = 21 → V.ob ∉ blkA sa) :
    CallH Tryz.prog 43 [.pointer (some ⟨V.v, 0, none⟩), .int .i64 node, .agg ⟨c.cells⟩, .slice sa n cap] h (fun v h' => Keeps [V.ob] h h' ∧
      v = .tuple #[.agg ⟨(keepP M.read X node c m).1.cells⟩, .int .i64 (keepP M.read X node c m).2.1] ∧ At h' V M (keepP M.read X node c m).2.2) := by
  have hl := S.hlen
  have hob := A.blt V.ob (by simp [VL.blocks])
  refine call_of hmix Tryz.func43 rfl ok43 (by simp [Tryz.f43]) ?_
  conv => whnf
  refine AllocR.i fun b1 h1 e1 s1 o1 k1 => ?_
  conv => whnf
  refine AllocR.i fun b2 h2 e2 s2 o2 k2 => ?_
  conv => whnf
  refine CallR.i (may_spec node h2) fun v h3 k3 hv => ?_
  subst hv
  have k03 := k1.trans (k2.trans k3)
  have z3 := k3.size
  -- no use
  have bad : ¬ ((0 ≤ node ∧ node < 24) ∧ m.length = 21 ∧ m.any oddB = false) → ∀ h4 h5 : Heap, Keeps [] h3 h4 → Keeps [b2] h4 h5 → Keeps [V.ob] h h5 ∧ Value.tuple #[.agg ⟨[.int .i64 0, .int .i64 0, .int .i64 0, .int .u64 0, .int .i64 0, .int .i64 0, .int .i64 0, .int .i64 0, .int .i64 0, .int .i64 0]⟩, .int .i64 1] = .tuple #[.agg ⟨(keepP M.read X node c m).1.cells⟩, .int .i64 (keepP M.read X node c m).2.1] ∧ At h5 V M (keepP M.read X node c m).2.2 := by
    intro hno h4 h5 k4 k5
    have k05 : Keeps [] h h5 := (k03.trans k4).new1 k5 (by omega)
    unfold keepP
    rw [if_neg hno]
    exact ⟨k05.mono (by simp), rfl, A.on k05⟩
  conv => whnf
  first | refine IfR.i (fun hc => ?_) (fun hc => ?_) | (refine MeetR.pass ?_; (conv => whnf); refine IfR.i (fun hc => ?_) (fun hc => ?_))
  · have hb : 0 ≤ node ∧ node < 24 := Classical.byContradiction fun hb => by rw [if_neg hb] at hc; simp [bif_and, bif_or] at hc
    rw [if_pos hb] at hc
    rw [if_pos hb]
    have h21 : n = 21 := by simp [bif_and, bif_or] at hc; omega
    subst h21
    conv => whnf
    refine CallR.i (containsFunc_spec 68 oddB (.inr ⟨rfl, rfl⟩) (S.keep k03) (by decide)) fun v h4 k4 hv => ?_
    subst hv
    have k04 := k03.trans k4
    have z4 := k4.size
    conv => whnf
    refine IfR.i (fun hd => ?_) (fun hd => ?_)
    · have ho : m.any oddB = true := by simpa [bif_and, bif_or] using hd
      conv => whnf
      refine IfR.t rfl ?_
      conv => whnf
      refine BoxR.i fun h5 s5 k5 => ?_
      conv => whnf
      exact bad (fun x => by rw [ho] at x; exact absurd x.2.2 (by decide)) h4 h5 k4 k5
    · have ho : m.any oddB = false := by simpa [bif_and, bif_or] using hd
      have hyes : (0 ≤ node ∧ node < 24) ∧ m.length = 21 ∧ m.any oddB = false := ⟨hb, hl.symm, ho⟩
      have rng : ∀ x ∈ m, -1 ≤ x ∧ x < 96 := by
        intro x hx
        have := List.any_eq_false.1 ho x hx
        simp [oddB] at this; omega
      obtain ⟨xb, xo, rfl⟩ := S.nonnil (by decide)
      have o14 := (k2.trans (k3.trans k4)).obj o1 (by simp)
      have Sm := S.keep k04
      conv => whnf
      refine IfR.f rfl ?_
      conv => whnf
      refine PureR.i (v := .slice (some ⟨b1, 4, none⟩) 5 5) (fun w => rfl) ?_
      conv => whnf
      refine SemR.copy (sz := 1) (new := (m.take 5).map fun x => .int .i64 x) rfl rfl rfl o14 (by simp [hl.symm]) (fun j hj => ?_) (allOne_ints _) ?_ ?_ fun h5 s5 o5 k5 => ?_
      · have hj5 : j < 5 := by simp [hl.symm] at hj; exact hj
        rw [Sm.cells1 j (by simp [hl.symm]; omega)]
        have hjm : j < m.length := by omega
        simp [One.val, List.getElem?_take, hj5]
      · show 4 + ((m.take 5).map fun x => Value.int .i64 x).length ≤ 10
        simp [hl.symm]
      · intro hx
        have hx2 : b1 ∈ [b2] := hx
        simp at hx2; omega
      have hb1 : b1 < h5.size := obj_lt o5
      have k05 : Keeps [] h h5 := k04.new1 k5 (by omega)
      -- the card with the map
      have o5' : h5[b1]? = some (.cells ⟨(setD c m).cells⟩ 39 (0, 0)) := by
        rw [o5]
        obtain ⟨a, b, c', d, e, r, rfl, _⟩ := take5 hl.symm
        rfl
      clear o5
      have Sp := (S.keep k05).part (l := 5) (r := 21) (by decide) (Nat.le_refl _)
      rw [List.take_of_length_le (by omega)] at Sp
      have hcap := S.hcap
      conv => whnf
      refine SliceR.i 5 21 rfl rfl (by decide) hcap ?_
      conv => whnf
      refine CallR.i (containsFunc_spec 40 usedB (.inl ⟨rfl, rfl⟩) Sp (by decide)) fun v h6 k6 hv => ?_
      subst hv
      have k06 := k05.trans k6
      have o6 := k6.obj o5' (by simp)
      conv => whnf
      first | refine IfR.i (fun hu => ?_) (fun hu => ?_) | (refine MeetR.pass ?_; (conv => whnf); refine IfR.i (fun hu => ?_) (fun hu => ?_))
      · have hu' : (m.drop 5).any usedB = false := by simpa using hu
        have hP : keepP M.read X node c m = (if c.more = -1 then ({ setD c m with more := -1 }, 0, X)
            else if (dropP X c.more).1 = 0 then ({ setD c m with more := -1 }, 0, (dropP X c.more).2) else (Crd.zero, (dropP X c.more).1, (dropP X c.more).2)) := by
          unfold keepP; rw [if_pos hyes, if_pos hu']
        rw [hP]
        have hob1 : V.ob ≠ b1 := by omega
        conv => whnf
        first | refine LoadR.o o6 rfl ?_ | (refine MeetR.pass ?_; (conv => whnf); refine LoadR.o o6 rfl ?_)
        conv => whnf
        refine CallR.i (used_spec _ h6) fun v h7 k7 hv => ?_
        subst hv
        have k07 := k06.trans k7
        have o7 := k7.obj o6 (by simp)
        have z7 := (k6.trans k7).size
        -- the end, where nothing is behind
        have fin : ∀ (X' : VS) (h8 : Heap), Keeps [V.ob] h h8 → At h8 V M X' → h7.size ≤ h8.size → h8[b1]? = some (.cells ⟨(setD c m).cells⟩ 39 (0, 0)) → ∀ h9, h9.size = h8.size → Keeps [b1] h8 h9 → ∀ h10, h10.size = h9.size → Keeps [b2] h9 h10 → Keeps [V.ob] h h10 ∧ At h10 V M X' := by
          intro X' h8 k8 A8 z8 o8 h9 s9 k9 h10 s10 k10
          have nv : ∀ b ∈ V.blocks, b ≠ b1 ∧ b ≠ b2 := fun b hb => by have := A.blt b hb; omega
          exact ⟨(k8.m1 k9 (by omega)).m1 k10 (by omega), (A8.keep k9 (fun b hb => by simpa using (nv b hb).1)).keep k10 (fun b hb => by simpa using (nv b hb).2)⟩
        conv => whnf
        first | refine IfR.i (fun hq => ?_) (fun hq => ?_) | (refine MeetR.pass ?_; (conv => whnf); refine IfR.i (fun hq => ?_) (fun hq => ?_))
        · have hm : ¬ c.more = -1 := usedB_t.1 hq
          rw [if_neg hm]
          conv => whnf
          refine LoadR.o o7 rfl ?_
          conv => whnf
          refine CallR.m (drop_spec (A.on k07) _) (by intro b hb hx; have hb2 : b ∈ [b2] := hb; simp at hb2 hx; omega) fun v h8 k8 hv => ?_
          obtain ⟨rfl, A8⟩ := hv
          have e8 : (setD c m).more = c.more := rfl
          rw [e8] at A8
          have k08 : Keeps [V.ob] h h8 := (k07.mono (by simp)).trans k8
          have o8 := k8.obj o7 (by simpa using hob1.symm)
          conv => whnf
          first | refine IfR.i (fun hr => ?_) (fun hr => ?_) | (refine MeetR.pass ?_; (conv => whnf); refine IfR.i (fun hr => ?_) (fun hr => ?_))
          all_goals rw [e8] at hr
          · have hd0 : ¬ (dropP X c.more).1 = 0 := by simpa using hr
            rw [if_neg hd0]
            conv => whnf
            refine BoxR.i fun h9 s9 k9 => ?_
            conv => whnf
            have nv : ∀ b ∈ V.blocks, b ≠ b1 ∧ b ≠ b2 := fun b hb => by have := A.blt b hb; omega
            exact ⟨k08.m1 k9 (by omega), rfl, A8.keep k9 (fun b hb => by simpa using (nv b hb).2)⟩
          · have hd0 : (dropP X c.more).1 = 0 := by simpa using hr
            rw [if_pos hd0]
            conv => whnf
            refine StoreR.i o8 (Nat.le_of_ble_eq_true rfl) (by intro hx; have hx2 : b1 ∈ [b2] := hx; simp at hx2; omega) fun h9 s9 o9 k9 => ?_
            conv => whnf
            refine LoadN.o o9 rfl ?_
            conv => whnf
            refine BoxR.i fun h10 s10 k10 => ?_
            conv => whnf
            obtain ⟨q1, q2⟩ := fin _ h8 k08 A8 k8.size o8 h9 s9 k9 h10 s10 k10
            exact ⟨q1, rfl, q2⟩
        · have hm : c.more = -1 := usedB_f.1 hq
          rw [if_pos hm]
          conv => whnf
          first | refine IfR.f rfl ?_ | (refine MeetR.pass ?_; (conv => whnf); refine IfR.f rfl ?_)
          conv => whnf
          refine StoreR.i o7 (Nat.le_of_ble_eq_true rfl) (by intro hx; have hx2 : b1 ∈ [b2] := hx; simp at hx2; omega) fun h9 s9 o9 k9 => ?_
          conv => whnf
          refine LoadN.o o9 rfl ?_
          conv => whnf
          refine BoxR.i fun h10 s10 k10 => ?_
          conv => whnf
          obtain ⟨q1, q2⟩ := fin _ h7 (k07.mono (by simp)) (A.on k07) (Nat.le_refl _) o7 h9 s9 k9 h10 s10 k10
          exact ⟨q1, rfl, q2⟩
      · have hu' : ¬ (m.drop 5).any usedB = false := by rw [show (m.drop 5).any usedB = true by simpa using hu]; decide
        have hP : ∀ (k : Int) (X1 : VS), (if c.more = -1 then takeP M.read X node else (c.more, 0, X)) = (k, 0, X1) → keepP M.read X node c m = ({ setD c m with more := k }, (if 0 ≤ k ∧ k < 96 then 0 else 1), if 0 ≤ k ∧ k < 96 then { X1 with now := putBlk X1.now k ((m.drop 5).map fun n => w64 (n + 1)) } else X1) := by
          intro k X1 he
          unfold keepP
          rw [if_pos hyes, if_neg hu']
          simp only [he, if_true]
        have hob1 : V.ob ≠ b1 := by omega
        have hob2 : V.ob ≠ b2 := by omega
        have nb2 : ∀ b ∈ blocksOf [(8, b2, Crd.zero.cells)], b ∉ [V.ob] := by intro b hb hx; have hb2 : b ∈ [b2] := hb; simp at hb2 hx; omega
        have nv : ∀ b ∈ V.blocks, b ≠ b1 ∧ b ≠ b2 := fun b hb => by have := A.blt b hb; omega
        conv => whnf
        first | refine LoadR.o o6 rfl ?_ | (refine MeetR.pass ?_; (conv => whnf); refine LoadR.o o6 rfl ?_)
        conv => whnf
        refine CallR.i (used_spec _ h6) fun v h7 k7 hv => ?_
        subst hv
        have k07 := k06.trans k7
        have o7 := k7.obj o6 (by simp)
        have z7 := (k6.trans k7).size
        conv => whnf
        first | refine IfR.i ?ca ?cb | (refine MeetR.pass ?_; (conv => whnf); refine IfR.i ?ca ?cb)
        case' ca =>
          intro hq
          have hm : c.more = -1 := usedB_f.1 (bnot_t hq)
          conv => whnf
          refine CallR.m (take_spec (A.on k07) node) nb2 fun v hy ky hv => ?_
          obtain ⟨rfl, Ay⟩ := hv
          have oy := ky.obj o7 (by simpa using hob1.symm)
          conv => whnf
          refine StoreR.i oy (Nat.le_of_ble_eq_true rfl) (by intro hx; have hx2 : b1 ∈ [b2] := hx; simp at hx2; omega) fun hx sx ox kx => ?_
          have Ax := Ay.keep kx (fun b hb => by simpa using (nv b hb).1)
          have zy := ky.size
          have k0x : Keeps [V.ob] h hx := ((k07.mono (by simp)).trans ky).m1 kx (by omega)
          conv => whnf
          refine IfR.i (fun hr => ?_) (fun hr => ?_)
          · have ht : ¬ (takeP M.read X node).2.1 = 0 := by simpa using hr
            conv => whnf
            refine BoxR.i fun h9 s9 k9 => ?_
            conv => whnf
            have : keepP M.read X node c m = (Crd.zero, (takeP M.read X node).2.1, (takeP M.read X node).2.2) := by
              unfold keepP
              rw [if_pos hyes, if_neg hu', if_pos hm]
              simp only [if_neg ht]
            rw [this]
            exact ⟨k0x.m1 k9 (by omega), rfl, Ax.keep k9 (fun b hb => by simpa using (nv b hb).2)⟩
          have ht : (takeP M.read X node).2.1 = 0 := by simpa using hr
          have hPx := hP (takeP M.read X node).1 (takeP M.read X node).2.2 (by rw [if_pos hm, ← ht])
          have zz : b2 < hx.size ∧ h.size ≤ hx.size := ⟨by omega, by omega⟩
          have ox' : hx[b1]? = some (.cells ⟨({ setD c m with more := (takeP M.read X node).1 } : Crd).cells⟩ 39 (0, 0)) := ox
          clear oy ox hr hq ht kx sx ky Ay zy
          rw [hPx]
          clear hPx
          generalize (takeP M.read X node).1 = k, (takeP M.read X node).2.2 = X1 at ox' Ax ⊢
        case' cb =>
          intro hq
          have hm : ¬ c.more = -1 := usedB_t.1 (bnot_f hq)
          have hPx := hP c.more X (by rw [if_neg hm])
          have Ax := A.on k07
          have k0x : Keeps [V.ob] h h7 := k07.mono (by simp)
          have zz : b2 < h7.size ∧ h.size ≤ h7.size := ⟨by omega, by omega⟩
          have ox' : h7[b1]? = some (.cells ⟨({ setD c m with more := c.more } : Crd).cells⟩ 39 (0, 0)) := o7
          rw [hPx]
          clear hPx hq
          obtain ⟨X1, hX1⟩ : ∃ X1, X1 = X := ⟨_, rfl⟩
          rw [← hX1] at Ax ⊢
          obtain ⟨hx, hhx⟩ : ∃ hx, hx = h7 := ⟨_, rfl⟩
          rw [← hhx] at Ax k0x ox' zz ⊢
          obtain ⟨k, hk⟩ : ∃ k, k = c.more := ⟨_, rfl⟩
          rw [← hk] at ox' ⊢
        all_goals
          have Sx := S.keepM k0x (fun b hb hx => by simp at hx; exact (hs rfl) (hx ▸ hb))
          have Sq := Sx.part (l := 5) (r := 21) (by decide) (Nat.le_refl _)
          rw [List.take_of_length_le (by omega)] at Sq
          have hml : (m.drop 5).length = 16 := by simp; omega
          conv => whnf
          refine SliceR.i 5 21 rfl rfl (by decide) hcap ?_
          conv => whnf
          refine LoopR.on [0, 6, 8, 11, 69, 70, 71] [8] (fun q : Nat × Option Addr × Nat => [(0, .v (.pointer (some ⟨V.v, 0, none⟩))), (6, .v (.pointer (some ⟨b1, 0, none⟩))), (8, .lp 8 0), (11, .v (.slice q.2.1 q.1 q.2.2)), (69, .v (.slice (slA (some ⟨xb, xo, none⟩) cap 5 1) 16 (cap - 5))), (70, .v (.int .i64 16)), (71, .v (.int .i64 (q.1 : Int)))])
            (fun _ => [(8, b2, Crd.zero.cells)]) (fun q h' => q.1 ≤ 16 ∧ Keeps [] hx h' ∧ Own h' 36 1 q.2.1 q.1 q.2.2 ((((m.drop 5).take q.1).map fun n => w64 (n + 1)).map wv) ∧ ∀ b ∈ blkA q.2.1, hx.size ≤ b) (fun q => 16 - q.1) (0, none, 0) ?_ ?_
          · conv => whnf
            exact ⟨(0, none, 0), rfl, rfl, rfl, by decide, Keeps.refl _ _, .inl ⟨rfl, rfl, rfl, rfl⟩, by simp [blkA]⟩
          · rintro ⟨i, a, ca⟩ h8 ⟨hi, k8, O8, n8⟩
            simp only at hi O8 n8
            conv => whnf
            refine IfR.i (fun hc => ?_) (fun hc => ?_)
            · have hi1 : i < (m.drop 5).length := by simp at hc; omega
              obtain ⟨yb, yo, hy, hyo, hcell⟩ := (Sq.keep k8).at1 i hi1
              have hr := rng (m.drop 5)[i] (List.mem_of_mem_drop (List.getElem_mem hi1))
              conv => whnf
              refine IdxS.i i rfl (by omega) hy ?_
              conv => whnf
              refine LoadR.i hcell ?_
              conv => whnf
              refine AllocR.i fun b9 h9 e9 s9 o9 k9 => ?_
              conv => whnf
              have ev : Value.int .u64 (IntKind.u64.wrap (IntKind.i64.wrap ((m.drop 5)[i] + 1))) = wv (w64 ((m.drop 5)[i] + 1)) := by
                rw [wrapI (x := (m.drop 5)[i] + 1) (by omega) (by omega), wv_w64]
              rw [ev] at o9 ⊢
              have z8 := k8.size
              refine append_own (e := 36) (sz := 1) (by_ := 8) (new := [wv (w64 ((m.drop 5)[i] + 1))]) rfl rfl rfl rfl rfl rfl rfl (O8.keep k9 (by simp)) rfl (fun j hj => ?_) rfl (by omega) (by decide) (fun b hb hx2 => ?_) ?_
              · have hj0 : j = 0 := by simpa using hj
                subst hj0
                simp only [Heap.cell?, o9]; rfl
              · have hb2 : b ∈ [b2] := hx2
                have := n8 b hb
                simp at hb2; omega
              intro a10 c10 h10 O10 k10 n10
              conv => whnf
              refine ⟨16 - (i + 1), by omega, ?_⟩
              conv => whnf
              refine ⟨(i + 1, a10, c10), rfl, by rw [wrapN (x := (i : Int) + 1) (n := i + 1) (by simp) (by omega)], rfl, by simp only; omega, (k8.trans k9).nil_of k10 n8, ?_, fun b hb => ?_⟩
              · simp only
                rw [List.take_succ_eq_append_getElem hi1, List.map_append, List.map_append]
                exact O10
              · rcases n10 b hb with h | h
                · exact n8 b h
                · omega
            · have hi1 : i = 16 := by simp at hc; omega
              subst hi1
              rw [List.take_of_length_le (by omega)] at O8
              have SL := O8.sl (reps_w h8 _) rfl (by decide) (by simp; omega)
              have z8 := k8.size
              have o8 := k8.obj ox' (by simp)
              have hsl : V.ob ∉ blkA a := fun hb => by have := n8 _ hb; omega
              have fin : ∀ h9 h10 : Heap, Keeps [V.ob] h8 h9 → At h9 V M (if 0 ≤ k ∧ k < 96 ∧ 16 ≤ 16 then { X1 with now := putBlk X1.now k ((m.drop 5).map fun n => w64 (n + 1)) } else X1) → Keeps [b2] h9 h10 →
                  Keeps [V.ob] h h10 ∧ Value.tuple #[.agg ⟨({ setD c m with more := k } : Crd).cells⟩, .int .i64 (if 0 ≤ k ∧ k < 96 ∧ 16 ≤ 16 then 0 else 1)] = .tuple #[.agg ⟨({ setD c m with more := k } : Crd).cells⟩, .int .i64 (if 0 ≤ k ∧ k < 96 then 0 else 1)] ∧ At h10 V M (if 0 ≤ k ∧ k < 96 then { X1 with now := putBlk X1.now k ((m.drop 5).map fun n => w64 (n + 1)) } else X1) := by
                intro h9 h10 k9 A9 k10
                have hk : (0 ≤ k ∧ k < 96 ∧ 16 ≤ 16) ↔ (0 ≤ k ∧ k < 96) := ⟨fun h => ⟨h.1, h.2.1⟩, fun h => ⟨h.1, h.2, Nat.le_refl _⟩⟩
                simp only [hk] at A9 ⊢
                exact ⟨((k0x.trans (k8.mono (by simp))).trans k9).m1 k10 (by omega), trivial, A9.keep k10 (fun b hb => by simpa using (nv b hb).2)⟩
              conv => whnf
              refine LoadR.o o8 rfl ?_
              conv => whnf
              refine BothR.i ?_ ?_
              · conv => whnf
                refine LoadN.o o8 rfl ?_
                conv => whnf
                refine CallR.m (setBlock_spec (Ax.on k8) k SL hsl) nb2 fun v h9 k9 hv => ?_
                obtain ⟨rfl, A9⟩ := hv
                conv => whnf
                refine BoxR.i fun h10 s10 k10 => ?_
                conv => whnf
                exact fin h9 h10 k9 A9 k10
              · conv => whnf
                refine CallR.m (setBlock_spec (Ax.on k8) k SL hsl) nb2 fun v h9 k9 hv => ?_
                obtain ⟨rfl, A9⟩ := hv
                conv => whnf
                refine LoadN.o (k9.obj o8 (by simpa using hob1.symm)) rfl ?_
                conv => whnf
                refine BoxR.i fun h10 s10 k10 => ?_
                conv => whnf
                exact fin h9 h10 k9 A9 k10
  · have hno : ¬ ((0 ≤ node ∧ node < 24) ∧ m.length = 21 ∧ m.any oddB = false) := by
      rintro ⟨h1, h2, _⟩
      rw [if_pos h1] at hc
      simp [bif_and, bif_or] at hc
      omega
    conv => whnf
    refine IfR.i (fun hd => ?_) (fun hd => ?_)
    · conv => whnf
      refine IfR.t rfl ?_
      conv => whnf
      refine BoxR.i fun h4 s4 k4 => ?_
      conv => whnf
      exact bad hno h3 h4 (Keeps.refl _ _) k4
    · have hb : ¬ (0 ≤ node ∧ node < 24) := fun hb => by
        rw [if_pos hb] at hc hd
        simp [bif_and, bif_or] at hc hd
        omega
      rw [if_neg hb]
      conv => whnf
      refine IfR.t rfl ?_
      conv => whnf
      refine BoxR.i fun h4 s4 k4 => ?_
      conv => whnf
      exact bad hno h3 h4 (Keeps.refl _ _) k4
end Go.Proofs.YtlloemmpnhoanaaGreat
