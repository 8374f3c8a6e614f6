/-
  Joined texts: BodyQ, BodyR, BodyU, BodyV, BodyW, BodyX, FileA, FileB, FileC, FileD, FileE, FolA, FolB.
-/
import Derived.Test.YtkdmlieckkdmgaaGreatDoorJLawWSeenf
import Derived.Test.YtkdmlieckkdmgaaGreatDoorJLawWSeenc
import Derived.Lib.Bytealg
/-
  Reference 8's views; reference 10's maps; the law's own check that the program lives.
-/
set_option linter.all false
set_option maxRecDepth 100000
set_option maxHeartbeats 1000000
namespace Go.Proofs.YtkdmlieckkdmgaaGreatDoor
open Go Go.Eng

/-- where reference 8's view has its words -/
def RefV (h : Heap) (p : Nat) (ws : List UInt64) : Prop := ∃ a n c, Heap.cell? h p 1 = some (.slice a n c) ∧ Sl h a n c ws
theorem RefV.on {h h' : Heap} {p : Nat} {ws : List UInt64} (R : RefV h p ws) (k : Keeps [] h h') : RefV h' p ws := by
  obtain ⟨a, n, c, h1, h2⟩ := R
  exact ⟨a, n, c, k.cell h1 (by simp), h2.keep k⟩

def rdR (ws : List UInt64) (i : Int) : UInt64 := if 0 ≤ i ∧ i < ws.length then ws[i.toNat]?.getD 0 else 0

/-- reference 10's map: nothing where a word is too great; else a map, and whether it may be -/
def refMap (ws : List UInt64) (c : Crd) : Option (List Int × Bool) :=
  if c.more < 0 then some (c.direct ++ List.replicate 16 (-1), true)
  else if (rdL (rdR ws) (1288 + 16 * c.more) 16).all (fun w => decide (w.toNat ≤ 96)) = true then some (c.direct ++ (rdL (rdR ws) (1288 + 16 * c.more) 16).map convW, (rdL (rdR ws) (1288 + 16 * c.more) 16).any fun w => decide (0 < w.toNat))
  else none

theorem one_append {h : Heap} {a : Option Addr} {len cap : Nat} {l : List Int} (O : Own h 3 1 a len cap (l.map fun x => .int .i64 x)) (hl : len = l.length) (hb : l.length ≤ 1000) {b : Nat} {x : Int} (o : h[b]? = some (.cells ⟨[.int .i64 x]⟩ 3 (0, 0))) {bs : List Nat} (hbs : ∀ b ∈ blkA a, b ∉ bs) {ty : TypeId} {K : Value → Heap → Prop}
    (H : ∀ a' cap' h', Own h' 3 1 a' (len + 1) cap' ((l ++ [x]).map fun x => .int .i64 x) → Keeps (blkA a) h h' → (∀ b ∈ blkA a', b ∈ blkA a ∨ h.size ≤ b) → K (.slice a' (len + 1) cap') h') :
    SemR Tryz.prog (Builtin.append_ #[26, 26] ty ⟨[.slice a len cap, .slice (some ⟨b, 0, none⟩) 1 1]⟩) bs h K := by
  refine append_own (e := 3) (sz := 1) (by_ := 8) (new := [.int .i64 x]) rfl rfl rfl rfl rfl rfl rfl O rfl (fun j hj => ?_) rfl (by omega) (by decide) hbs ?_
  · have hj0 : j = 0 := by simpa using hj
    subst hj0
    simp only [Heap.cell?, o]; rfl
  intro a' c' h' O' k' n'
  exact H a' c' h' (by rw [List.map_append]; exact O') k' n'

end Go.Proofs.YtkdmlieckkdmgaaGreatDoor
/-
  The law's own check that the program lives.
-/
set_option linter.all false
set_option maxRecDepth 100000
set_option maxHeartbeats 1000000
namespace Go.Proofs.YtkdmlieckkdmgaaGreatDoor
open Go Go.Eng

/-- the words of a new memory -/
def b0 (i : Int) : UInt64 := if 0 ≤ i ∧ i < 2824 then (if i = 0 then 7021221306412823411 else if i = 1 then 2824 else 0) else 0
def M0 : MemS := ⟨img0, [], [], 0, -1⟩

theorem read_img0 : M0.read = b0 := by
  funext i
  unfold MemS.read b0 M0
  have hl : img0.length = 2824 := by simp [img0]
  by_cases h : 0 ≤ i ∧ i < 2824
  · have ht : MemS.there ⟨img0, [], [], 0, -1⟩ i = true := by
      simp only [MemS.there, hl]
      simp; omega
    rw [if_pos ht, if_pos h]
    obtain ⟨n, rfl⟩ : ∃ n : Nat, i = (n : Int) := ⟨i.toNat, by omega⟩
    simp only [lk, Option.getD_none, Int.toNat_natCast]
    have e : img0[n]?.getD 0 = if n = 0 then 7021221306412823411 else if n = 1 then 2824 else 0 := by
      unfold img0
      rcases n with _ | _ | n
      · simp
      · simp
      · simp only [List.getElem?_cons_succ, List.getElem?_replicate]
        split <;> simp
    rw [e]
    rcases n with _ | _ | n
    · rfl
    · rfl
    · rw [if_neg (by omega), if_neg (by omega), if_neg (by omega), if_neg (by omega)]
  · have ht : MemS.there ⟨img0, [], [], 0, -1⟩ i = false := by
      rw [← Bool.not_eq_true]
      intro hx
      simp only [MemS.there, hl] at hx
      simp at hx; omega
    rw [if_neg (by rw [ht]; decide), if_neg h]

def X0 : VS := ⟨b0, [], [], [], []⟩
def c1 : Crd := ⟨1, 1, 702, 1, -1, -1, -1, -1, -1, 1⟩
def wL : Crd × Int × VS := writeP b0 X0 2 (freshC 1 1) 700 [97, 98]

theorem lw1 : wL.1 = c1 := by decide +kernel
theorem lw2 : wL.2.1 = 0 := by decide +kernel
theorem lw4 : freeN b0 wL.2.2 96 = 94 := by decide +kernel
theorem lw5 : mapOf wL.2.2.now c1 = some [-1, -1, -1, -1, -1, 0, -1, -1, -1, -1, -1, -1, -1, -1, -1, -1, -1, -1, -1, -1, -1] := by decide +kernel
theorem lw3 : readP wL.2.2.now c1 699 9 = ([0, 97, 98], 0) := by decide +kernel

theorem okMap_fresh (now : Int → UInt64) (k : Int) (v : UInt64) : okMap now (freshC k v) := by
  intro m hm x hx
  have : mapOf now (freshC k v) = some (List.replicate 21 (-1)) := rfl
  rw [this] at hm
  have hm' : List.replicate 21 (-1) = m := Option.some.inj hm
  subst hm'
  exact .inl (List.mem_replicate.1 hx).2
theorem fresh_ok {k : Int} (v : UInt64) (hk : inI64 k) : (freshC k v).ok := by
  refine ⟨hk, by unfold inI64; simp [freshC, noneC], by unfold inI64; simp [freshC, noneC], ?_, by unfold inI64; simp [freshC, noneC]⟩
  intro x hx
  simp [Crd.direct, freshC, noneC] at hx
  subst hx; exact ⟨by decide, by decide⟩

end Go.Proofs.YtkdmlieckkdmgaaGreatDoor
/-
  Layer 10 without a view; the law of it.
-/
set_option linter.all false
set_option maxRecDepth 100000
namespace Go.Proofs.YtkdmlieckkdmgaaGreatDoor
open Go Go.Eng

theorem mayNil_spec (node : Int) (h : Heap) : CallH Tryz.prog 127 [.pointer none, .int .i64 node] h (fun v h' => Keeps [] h h' ∧ v = .int .i64 1) := by
  refine call_of hmix Tryz.func127 rfl ok127 (by simp [Tryz.f127]) ?_
  conv => whnf
  refine CallR.i (cardAt_spec node h) fun v h1 k1 hv => ?_
  subst hv
  conv => whnf
  first | refine IfR.t rfl ?_ | (refine MeetR.pass ?_; (conv => whnf); refine IfR.t rfl ?_)
  conv => whnf
  exact ⟨k1, rfl⟩
theorem mapNil_spec (L : List Value) (h : Heap) : CallH Tryz.prog 88 [.pointer none, .agg ⟨L⟩] h (fun v h' => Keeps [] h h' ∧ v = .tuple #[.slice none 0 0, .int .i64 1]) := by
  refine call_of hmix Tryz.func88 rfl ok88 (by simp [Tryz.f88]) ?_
  conv => whnf
  refine AllocR.i fun b1 h1 e1 s1 o1 k1 => ?_
  conv => whnf
  refine IfR.t rfl ?_
  conv => whnf
  exact ⟨k1, rfl⟩
theorem readNil_spec (L : List Value) (at_ n : Int) (h : Heap) : CallH Tryz.prog 106 [.pointer none, .agg ⟨L⟩, .int .i64 at_, .int .i64 n] h (fun v h' => Keeps [] h h' ∧ v = .tuple #[.string ⟨#[]⟩, .int .i64 1]) := by
  refine call_of hmix Tryz.func106 rfl ok106 (by simp [Tryz.f106]) ?_
  conv => whnf
  refine AllocR.i fun b1 h1 e1 s1 o1 k1 => ?_
  conv => whnf
  first | refine IfR.t rfl ?_ | (refine MeetR.pass ?_; (conv => whnf); refine IfR.t rfl ?_)
  conv => whnf
  exact ⟨k1, rfl⟩
theorem writeNil_spec (node : Int) (L : List Value) (at_ : Int) (t : ByteArray) (h : Heap) : CallH Tryz.prog 63 [.pointer none, .int .i64 node, .agg ⟨L⟩, .int .i64 at_, .string t] h (fun v h' => Keeps [] h h' ∧ v = .tuple #[.agg ⟨Crd.zero.cells⟩, .int .i64 1]) := by
  refine call_of hmix Tryz.func63 rfl ok63 (by simp [Tryz.f63]) ?_
  conv => whnf
  refine AllocR.i fun b1 h1 e1 s1 o1 k1 => ?_
  conv => whnf
  refine AllocR.i fun b2 h2 e2 s2 o2 k2 => ?_
  conv => whnf
  refine CallR.i (mayNil_spec node h2) fun v h3 k3 hv => ?_
  subst hv
  have z3 := k3.size
  conv => whnf
  first | refine IfR.t rfl ?_ | (refine MeetR.pass ?_; (conv => whnf); refine IfR.t rfl ?_)
  conv => whnf
  refine BoxR.i fun h4 s4 k4 => ?_
  conv => whnf
  exact ⟨(k1.trans (k2.trans k3)).new1 k4 (by omega), rfl⟩
theorem cutNil_spec (node : Int) (L : List Value) (n : Int) (h : Heap) : CallH Tryz.prog 113 [.pointer none, .int .i64 node, .agg ⟨L⟩, .int .i64 n] h (fun v h' => Keeps [] h h' ∧ v = .tuple #[.agg ⟨Crd.zero.cells⟩, .int .i64 1]) := by
  refine call_of hmix Tryz.func113 rfl ok113 (by simp [Tryz.f113]) ?_
  conv => whnf
  refine AllocR.i fun b1 h1 e1 s1 o1 k1 => ?_
  conv => whnf
  refine AllocR.i fun b2 h2 e2 s2 o2 k2 => ?_
  conv => whnf
  refine CallR.i (mayNil_spec node h2) fun v h3 k3 hv => ?_
  subst hv
  have z3 := k3.size
  conv => whnf
  first | refine IfR.t rfl ?_ | (refine MeetR.pass ?_; (conv => whnf); refine IfR.t rfl ?_)
  conv => whnf
  refine BoxR.i fun h4 s4 k4 => ?_
  conv => whnf
  exact ⟨(k1.trans (k2.trans k3)).new1 k4 (by omega), rfl⟩
theorem keepNil_spec (node : Int) (L : List Value) (sa : Option Addr) (n c : Nat) (h : Heap) : CallH Tryz.prog 124 [.pointer none, .int .i64 node, .agg ⟨L⟩, .slice sa n c] h (fun v h' => Keeps [] h h' ∧ v = .tuple #[.agg ⟨Crd.zero.cells⟩, .int .i64 1]) := by
  refine call_of hmix Tryz.func124 rfl ok124 (by simp [Tryz.f124]) ?_
  conv => whnf
  refine AllocR.i fun b1 h1 e1 s1 o1 k1 => ?_
  conv => whnf
  refine AllocR.i fun b2 h2 e2 s2 o2 k2 => ?_
  conv => whnf
  refine CallR.i (mayNil_spec node h2) fun v h3 k3 hv => ?_
  subst hv
  have z3 := k3.size
  conv => whnf
  first | refine IfR.f rfl ?_ | (refine MeetR.pass ?_; (conv => whnf); refine IfR.f rfl ?_)
  conv => whnf
  refine IfR.f rfl ?_
  conv => whnf
  refine IfR.t rfl ?_
  conv => whnf
  refine BoxR.i fun h4 s4 k4 => ?_
  conv => whnf
  exact ⟨(k1.trans (k2.trans k3)).new1 k4 (by omega), rfl⟩

end Go.Proofs.YtkdmlieckkdmgaaGreatDoor
/-
  Layer 10: the laws' arguments; the law without a view.
-/
set_option linter.all false
set_option maxRecDepth 100000
namespace Go.Proofs.YtkdmlieckkdmgaaGreatDoor
open Go Go.Eng Go.RowKit

section
variable {H : Type} {enc : TypeId × Value → H} {W : World} {sp : Nat → Bool} {held : Bool}

theorem opens_word {P : Program} {t : TypeId} (ht : P.underlying t = some (.int .u64)) : Opens enc P W sp held t UInt64 := by
  intro fuel cs x h _
  cases fuel with
  | zero => simp [DataW.trod] at h
  | succ fuel =>
    match cs, h with
    | [], h => simp [DataW.trod, ht] at h
    | _ :: _ :: _, h => simp [DataW.trod, ht] at h
    | [c], h =>
      cases c <;> simp [DataW.trod, ht] at h
      rename_i k n
      obtain ⟨⟨rfl, hwf⟩, _⟩ := h
      simp [Lit.wf, IntKind.min, IntKind.max, IntKind.bits, IntKind.signed] at hwf
      refine ⟨UInt64.ofNat n.toNat, ?_⟩
      show [Value.int .u64 n] = [wv (UInt64.ofNat n.toNat)]
      have : ((UInt64.ofNat n.toNat).toNat : Int) = n := by
        rw [UInt64.toNat_ofNat']; omega
      unfold wv
      rw [this]

theorem three_of {cs : List Value} (h : cs.length = 3) : ∃ a b c, cs = [a, b, c] := by
  match cs, h with
  | [a, b, c], _ => exact ⟨a, b, c, rfl⟩
theorem two_of {cs : List Value} (h : cs.length = 2) : ∃ a b, cs = [a, b] := by
  match cs, h with
  | [a, b], _ => exact ⟨a, b, rfl⟩
theorem four_of {cs : List Value} (h : cs.length = 4) : ∃ a b c d, cs = [a, b, c, d] := by
  match cs, h with
  | [a, b, c, d], _ => exact ⟨a, b, c, d, rfl⟩
theorem five_of {cs : List Value} (h : cs.length = 5) : ∃ a b c d e, cs = [a, b, c, d, e] := by
  match cs, h with
  | [a, b, c, d, e], _ => exact ⟨a, b, c, d, e, rfl⟩
theorem ten_of {cs : List Value} (h : cs.length = 10) : ∃ a b c d e f g i j k, cs = [a, b, c, d, e, f, g, i, j, k] := by
  match cs, h with
  | [a, b, c, d, e, f, g, i, j, k], _ => exact ⟨a, b, c, d, e, f, g, i, j, k, rfl⟩

theorem opens_chg : Opens enc Tryz.prog W sp held 44 Chg := by
  intro fuel cs x h hw
  obtain ⟨hl, f', hp⟩ := trod_parts Tryz.underlying44 h hw
  obtain ⟨a, b, rfl⟩ := two_of hl
  obtain ⟨y0, h0, w0⟩ := hp _ (List.mem_cons_self)
  obtain ⟨y1, h1, w1⟩ := hp _ (List.mem_cons_of_mem _ List.mem_cons_self)
  obtain ⟨n, hn, hn2⟩ := opens_int (W := W) Tryz.underlying3 f' _ _ h0 w0
  obtain ⟨s, hs⟩ := opens_word (W := W) Tryz.underlying32 f' _ _ h1 w1
  cases hn; cases hs
  exact ⟨⟨n, s⟩, rfl, hn2⟩

theorem opens_chgs : Opens enc Tryz.prog W sp held 41 (List Chg) := opens_slice Tryz.underlying41 (by kernel_rfl) (by decide) (of_decide_eq_true (by kernel_rfl)) opens_chg
theorem opens_ints : Opens enc Tryz.prog W sp held 26 (List Int) := opens_slice Tryz.underlying26 (by kernel_rfl) (by decide) (of_decide_eq_true (by kernel_rfl)) (opens_int Tryz.underlying3)

theorem opens_five {fuel : Nat} {cs : List Value} {x : DataW H × List MemPlace} (h : DataW.trod enc Tryz.prog W 0 sp held fuel 33 cs = some x) (hw : ∀ m ∈ x.1.weights Tryz.prog 33, m ≤ reachBytes) :
    ∃ w0 w1 w2 w3 w4 : Int, cs = [.int .i64 w0, .int .i64 w1, .int .i64 w2, .int .i64 w3, .int .i64 w4] ∧ inI64 w0 ∧ inI64 w1 ∧ inI64 w2 ∧ inI64 w3 ∧ inI64 w4 := by
  obtain ⟨hl, f', hp⟩ := array_parts Tryz.underlying33 h hw
  obtain ⟨a, b, c, d, e, rfl⟩ := five_of hl
  obtain ⟨y0, h0, w0⟩ := hp 0 (by decide)
  obtain ⟨y1, h1, w1⟩ := hp 1 (by decide)
  obtain ⟨y2, h2, w2⟩ := hp 2 (by decide)
  obtain ⟨y3, h3, w3⟩ := hp 3 (by decide)
  obtain ⟨y4, h4, w4⟩ := hp 4 (by decide)
  obtain ⟨n0, e0, g0⟩ := opens_int (W := W) Tryz.underlying3 f' _ _ h0 w0
  obtain ⟨n1, e1, g1⟩ := opens_int (W := W) Tryz.underlying3 f' _ _ h1 w1
  obtain ⟨n2, e2, g2⟩ := opens_int (W := W) Tryz.underlying3 f' _ _ h2 w2
  obtain ⟨n3, e3, g3⟩ := opens_int (W := W) Tryz.underlying3 f' _ _ h3 w3
  obtain ⟨n4, e4, g4⟩ := opens_int (W := W) Tryz.underlying3 f' _ _ h4 w4
  cases e0; cases e1; cases e2; cases e3; cases e4
  exact ⟨_, _, _, _, _, rfl, g0, g1, g2, g3, g4⟩

theorem opens_card {fuel : Nat} {cs : List Value} {x : DataW H × List MemPlace} (h : DataW.trod enc Tryz.prog W 0 sp held fuel 35 cs = some x) (hw : ∀ m ∈ x.1.weights Tryz.prog 35, m ≤ reachBytes) :
    ∃ c : Crd, cs = c.cells ∧ c.ok := by
  obtain ⟨hl, f', hp⟩ := trod_parts Tryz.underlying35 h hw
  obtain ⟨a, b, c, d, e, f, g, i, j, k, rfl⟩ := ten_of hl
  obtain ⟨y0, h0, w0⟩ := hp _ (List.mem_cons_self)
  obtain ⟨y1, h1, w1⟩ := hp _ (List.mem_cons_of_mem _ List.mem_cons_self)
  obtain ⟨y2, h2, w2⟩ := hp _ (List.mem_cons_of_mem _ (List.mem_cons_of_mem _ List.mem_cons_self))
  obtain ⟨y3, h3, w3⟩ := hp _ (List.mem_cons_of_mem _ (List.mem_cons_of_mem _ (List.mem_cons_of_mem _ List.mem_cons_self)))
  obtain ⟨y4, h4, w4⟩ := hp _ (List.mem_cons_of_mem _ (List.mem_cons_of_mem _ (List.mem_cons_of_mem _ (List.mem_cons_of_mem _ List.mem_cons_self))))
  obtain ⟨y5, h5, w5⟩ := hp _ (List.mem_cons_of_mem _ (List.mem_cons_of_mem _ (List.mem_cons_of_mem _ (List.mem_cons_of_mem _ (List.mem_cons_of_mem _ List.mem_cons_self)))))
  obtain ⟨n0, e0, g0⟩ := opens_int (W := W) Tryz.underlying3 f' _ _ h0 w0
  obtain ⟨n1, e1, g1⟩ := opens_int (W := W) Tryz.underlying3 f' _ _ h1 w1
  obtain ⟨n2, e2, g2⟩ := opens_int (W := W) Tryz.underlying3 f' _ _ h2 w2
  obtain ⟨n3, e3⟩ := opens_word (W := W) Tryz.underlying32 f' _ _ h3 w3
  obtain ⟨z0, z1, z2, z3, z4, e4, q0, q1, q2, q3, q4⟩ := opens_five (W := W) h4 w4
  obtain ⟨n5, e5, g5⟩ := opens_int (W := W) Tryz.underlying3 f' _ _ h5 w5
  cases e0; cases e1; cases e2; cases e3; cases e4; cases e5
  refine ⟨⟨n0, n1, n2, n3, z0, z1, z2, z3, z4, n5⟩, rfl, g0, g1, g2, ?_, g5⟩
  intro x hx
  simp [Crd.direct] at hx
  rcases hx with rfl | rfl | rfl | rfl | rfl <;> assumption

end

end Go.Proofs.YtkdmlieckkdmgaaGreatDoor
/-
  The law of maps: its plain part.
-/
set_option linter.all false
set_option maxRecDepth 100000
namespace Go.Proofs.YtkdmlieckkdmgaaGreatDoor
open Go Go.Eng

theorem rd_load (ws : List UInt64) : (⟨ws, [], [], 0, -1⟩ : MemS).read = rdR ws := by
  funext i
  unfold MemS.read rdR
  by_cases h : 0 ≤ i ∧ i < ws.length
  · have ht : MemS.there ⟨ws, [], [], 0, -1⟩ i = true := by
      simp only [MemS.there]; simp; omega
    rw [if_pos ht, if_pos h]
    simp only [lk, Option.getD_none]
  · have ht : MemS.there ⟨ws, [], [], 0, -1⟩ i = false := by
      rw [← Bool.not_eq_true]
      intro hx
      simp only [MemS.there] at hx
      simp at hx; omega
    rw [if_neg (by rw [ht]; decide), if_neg h]

theorem right_more {c : Crd} (h : rightC c = true) : c.more = -1 ∨ 0 ≤ c.more ∧ c.more < 96 := by
  unfold rightC at h
  split at h
  · have h' : c = noneC c.ver := of_decide_eq_true h
    left; rw [h']; rfl
  · simp [blockC] at h; omega

theorem any_conv (l : List UInt64) : (l.map convW).any usedB = l.any fun w => decide (0 < w.toNat) := by
  rw [List.any_map]
  congr 1
  funext w
  simp only [Function.comp, usedB, convW]
  exact decide_eq_decide.2 (by omega)

theorem map_ref (ws : List UInt64) (c : Crd) (h : c.more = -1 ∨ 0 ≤ c.more ∧ c.more < 96) :
    (∃ m, refMap ws c = some (m, true) ∧ mapOf (rdR ws) c = some m) ∨ mapOf (rdR ws) c = none ∧ (refMap ws c = none ∨ ∃ m, refMap ws c = some (m, false)) := by
  rcases h with h | h
  · left
    refine ⟨c.direct ++ List.replicate 16 (-1), ?_, ?_⟩
    · unfold refMap; rw [if_pos (by omega)]
    · unfold mapOf; rw [if_pos h]
  · have he : rdL (rdR ws) (1288 + 16 * c.more) 16 = moreL (rdR ws) c.more := by unfold moreL; rw [Int.mul_comm]
    unfold refMap mapOf
    rw [if_neg (by omega : ¬ c.more < 0), if_neg (by omega : ¬ c.more = -1), he]
    by_cases ha : (moreL (rdR ws) c.more).all (fun w => decide (w.toNat ≤ 96)) = true
    · rw [if_pos ha, any_conv]
      cases hb : (moreL (rdR ws) c.more).any fun w => decide (0 < w.toNat)
      · right
        exact ⟨if_neg (by simp), .inr ⟨_, rfl⟩⟩
      · left
        exact ⟨_, rfl, if_pos ⟨h.1, h.2, ha, rfl⟩⟩
    · right
      rw [if_neg ha]
      exact ⟨if_neg (fun x => ha x.2.2.1), .inl rfl⟩

theorem w64_small {n : Int} (h : -1 ≤ n ∧ n < 96) : convW (w64 (n + 1)) = n ∧ (w64 (n + 1)).toNat ≤ 96 := by
  have := w64_toNat (n + 1)
  unfold convW; omega

theorem more_put (f : Int → UInt64) (k : Int) {ws : List UInt64} (h : ws.length = 16) : moreL (putBlk f k ws) k = ws := by
  unfold moreL rdL putBlk fullB updL
  apply List.ext_getElem
  · simp [h]
  · intro i h1 h2
    simp only [List.length_map, List.length_range] at h1
    simp only [h, Nat.sub_self, List.replicate_zero, List.append_nil, List.getElem_map, List.getElem_range]
    rw [if_pos (by omega)]
    have : (1288 + k * 16 + (i : Int) - (1288 + k * 16)).toNat = i := by omega
    rw [this]
    simp [h2]

theorem conv_back : ∀ {l : List Int}, (∀ x ∈ l, -1 ≤ x ∧ x < 96) → (l.map fun n => w64 (n + 1)).map convW = l
  | [], _ => rfl
  | x :: l, h => by
    simp only [List.map_cons]
    rw [(w64_small (h x (by simp))).1, conv_back (fun y hy => h y (by simp [hy]))]

/-- what is kept is the card's -/
theorem keep_back (B : Int → UInt64) (X : VS) {m : List Int} (hl : m.length = 21) (hm : ∀ x ∈ m, -1 ≤ x ∧ x < 96) :
    (keepP B X 2 (freshC 1 1) m).2.1 = 9 ∨ (keepP B X 2 (freshC 1 1) m).2.1 = 0 ∧ (keepP B X 2 (freshC 1 1) m).1.ok ∧ mapOf (keepP B X 2 (freshC 1 1) m).2.2.now (keepP B X 2 (freshC 1 1) m).1 = some m ∧
      (decide (0 ≤ (keepP B X 2 (freshC 1 1) m).1.more)) = (m.drop 5).any fun x => decide (0 ≤ x) := by
  have ho : m.any oddB = false := by
    rw [List.any_eq_false]
    intro x hx
    have := hm x hx
    simp [oddB]; omega
  have hmor : (freshC 1 1).more = -1 := rfl
  have hu : (m.drop 5).any usedB = (m.drop 5).any fun x => decide (0 ≤ x) := by
    have key : ∀ l : List Int, (∀ x ∈ l, -1 ≤ x ∧ x < 96) → l.any usedB = l.any fun x => decide (0 ≤ x) := by
      intro l
      induction l with
      | nil => intro _; rfl
      | cons x l ih =>
        intro h
        simp only [List.any_cons]
        rw [ih (fun y hy => h y (by simp [hy]))]
        have := h x (by simp)
        congr 1
        simp only [usedB]
        exact decide_eq_decide.2 (by omega)
    exact key _ (fun x hx => hm x (List.mem_of_mem_drop hx))
  have okd : ∀ t : Int, inI64 t → ({ setD (freshC 1 1) m with more := t } : Crd).ok := by
    intro t ht
    obtain ⟨a, b, c, d, e, r, rfl, _⟩ := take5 hl
    refine ⟨(⟨by decide, by decide⟩ : inI64 1), (⟨by decide, by decide⟩ : inI64 1), (⟨by decide, by decide⟩ : inI64 0), ?_, ht⟩
    intro x hx
    have : x ∈ a :: b :: c :: d :: e :: r := by
      simp [Crd.direct, setD] at hx
      rcases hx with rfl | rfl | rfl | rfl | rfl <;> simp
    have := hm x this
    unfold inI64; omega
  have dir : ∀ t : Int, ({ setD (freshC 1 1) m with more := t } : Crd).direct ++ m.drop 5 = m := by
    intro t
    obtain ⟨a, b, c, d, e, r, rfl, _⟩ := take5 hl
    rfl
  unfold keepP
  rw [if_pos ⟨by decide, hl, ho⟩, hmor]
  by_cases hd : (m.drop 5).any usedB = false
  · rw [if_pos hd, if_pos rfl]
    right
    refine ⟨rfl, okd _ (by unfold inI64; omega), ?_, ?_⟩
    · unfold mapOf
      rw [if_pos rfl]
      have : m.drop 5 = List.replicate 16 (-1) := by
        rw [List.eq_replicate_iff]
        refine ⟨by simp [hl], fun x hx => ?_⟩
        have := List.any_eq_false.1 hd x hx
        simp [usedB] at this; exact this
      rw [← this]
      exact congrArg some (dir _)
    · rw [← hu, hd]; rfl
  · rw [if_neg hd]
    simp only [if_true]
    have hT : takeP B X 2 = (match firstF B X 96 0 with
      | some k => ((k : Int), 0, { X with now := putBlk (upd X.now (200 + (k : Int)) (w64 (2 + 1))) (k : Int) [] })
      | none => (0, 9, X)) := by
      unfold takeP; rw [if_pos (by decide)]; rfl
    rw [hT]
    cases hf : firstF B X 96 0 with
    | none =>
      left
      rfl
    | some k =>
      right
      have hk := firstF_is hf
      have hk2 : 0 ≤ (k : Int) ∧ (k : Int) < 96 := by omega
      simp only [if_true, if_pos hk2]
      refine ⟨trivial, okd _ (by unfold inI64; omega), ?_, ?_⟩
      · unfold mapOf
        have hw16 : ((m.drop 5).map fun n => w64 (n + 1)).length = 16 := by simp [hl]
        have hm5 : ∀ x ∈ m.drop 5, -1 ≤ x ∧ x < 96 := fun x hx => hm x (List.mem_of_mem_drop hx)
        show (if (k : Int) = -1 then _ else if 0 ≤ (k : Int) ∧ (k : Int) < 96 ∧ (moreL (putBlk _ (k : Int) _) (k : Int)).all _ = true ∧ ((moreL (putBlk _ (k : Int) _) (k : Int)).map convW).any usedB = true then some (_ ++ (moreL (putBlk _ (k : Int) _) (k : Int)).map convW) else none) = some m
        rw [if_neg (by omega), more_put _ _ hw16, conv_back hm5, if_pos]
        · exact congrArg some (dir _)
        · refine ⟨hk2.1, hk2.2, ?_, by simpa using hd⟩
          rw [List.all_map, List.all_eq_true]
          intro x hx
          simp only [Function.comp]
          exact decide_eq_true (w64_small (hm5 x hx)).2
      · rw [← hu]
        have : (m.drop 5).any usedB = true := by simpa using hd
        rw [this]
        exact decide_eq_true hk2.1
end Go.Proofs.YtkdmlieckkdmgaaGreatDoor
/-
  The law of maps.
-/
set_option linter.all false
set_option maxRecDepth 100000
set_option maxHeartbeats 1000000
namespace Go.Proofs.YtkdmlieckkdmgaaGreatDoor
open Go Go.Eng

theorem mapOf_in {now : Int → UInt64} {c : Crd} (hc : c.ok) {m : List Int} (h : mapOf now c = some m) : ∀ x ∈ m, inI64 x := by
  intro x hx
  unfold mapOf at h
  split at h
  · have h' := Option.some.inj h
    subst h'
    rcases List.mem_append.1 hx with hx | hx
    · exact hc.2.2.2.1 x hx
    · rw [(List.mem_replicate.1 hx).2]; exact ⟨by decide, by decide⟩
  · split at h
    · rename_i hp
      have h' := Option.some.inj h
      subst h'
      rcases List.mem_append.1 hx with hx | hx
      · exact hc.2.2.2.1 x hx
      · obtain ⟨w, hw, rfl⟩ := List.mem_map.1 hx
        have := List.all_eq_true.1 hp.2.2.1 w hw
        simp at this
        unfold inI64 convW; omega
    · cases h

def fitB (x : Int) : Bool := decide (-1 ≤ x) && decide (x < 96)

theorem fit_all {m : List Int} {p : Bool} (h : (p && m.all fitB) = true) : ∀ x ∈ m, -1 ≤ x ∧ x < 96 := by
  intro x hx
  have h2 : m.all fitB = true := by
    cases p
    · cases h
    · exact h
  have := List.all_eq_true.1 h2 x hx
  simpa [fitB] using this
theorem odd_fit : ∀ m : List Int, m.any oddB = !m.all fitB
  | [] => rfl
  | x :: m => by
    have : oddB x = !fitB x := by
      unfold oddB fitB
      by_cases h1 : -1 ≤ x <;> by_cases h2 : x < 96 <;> simp [h1, h2] <;> omega
    rw [List.any_cons, List.all_cons, odd_fit m, this, Bool.not_and]
theorem keep_not (B : Int → UInt64) (X : VS) {m : List Int} {n : Nat} (hl : m.length = n) (h : (decide (n = 21) && m.all fitB) = false) : (keepP B X 2 (freshC 1 1) m).2.1 = 1 := by
  unfold keepP
  rw [if_neg]
  rintro ⟨_, h1, h2⟩
  rw [odd_fit] at h2
  rw [← hl, h1] at h
  cases hx : m.all fitB <;> rw [hx] at h h2 <;> simp at h h2

theorem _root_.Go.Eng.Sl.lt {h : Heap} {a : Option Addr} {n c : Nat} {m : List Int} (T : Sl h a n c m) (hn : 0 < n) : ∀ b ∈ blkA a, b < h.size := by
  have hl := T.hlen
  obtain ⟨b, o, hb, _, hc⟩ := T.at1 0 (by omega)
  intro x hx
  rw [hb] at hx
  simp [blkA] at hx
  subst hx
  exact cell_lt hc

end Go.Proofs.YtkdmlieckkdmgaaGreatDoor
/-
  Plain laws of words, blocks and bytes.
-/
set_option linter.all false
set_option maxRecDepth 100000
namespace Go.Proofs.YtkdmlieckkdmgaaGreatDoor
open Go Go.Eng

theorem textL_len (l : List UInt8) (n : Nat) : (textL l n).length = n := by simp [textL]
theorem fullB_len {ws : List UInt64} (h : ws.length ≤ 16) : (fullB ws).length = 16 := by simp [fullB]; omega
theorem rdL_len (f : Int → UInt64) (a : Int) (n : Nat) : (rdL f a n).length = n := by simp [rdL]

theorem rdL_congr {f g : Int → UInt64} {a : Int} {n : Nat} (h : ∀ i : Nat, i < n → f (a + (i : Int)) = g (a + (i : Int))) : rdL f a n = rdL g a n := by
  unfold rdL
  exact List.map_congr_left fun i hi => h i (by simpa using hi)
theorem put_ne {f : Int → UInt64} {k : Int} {ws : List UInt64} (h : ws.length ≤ 16) {x : Int} (hx : x < 1288 + k * 16 ∨ 1288 + k * 16 + 16 ≤ x) : putBlk f k ws x = f x := by
  unfold putBlk updL
  rw [fullB_len h, if_neg (by omega)]
theorem put_rd {f : Int → UInt64} {k : Int} {ws : List UInt64} (h : ws.length ≤ 16) : rdL (putBlk f k ws) (1288 + k * 16) 16 = fullB ws := by
  have hl := fullB_len h
  unfold rdL putBlk updL
  rw [hl]
  apply List.ext_getElem
  · simp [hl]
  · intro i h1 h2
    simp only [List.length_map, List.length_range] at h1
    simp only [List.getElem_map, List.getElem_range]
    rw [if_pos (by omega)]
    have : (1288 + k * 16 + (i : Int) - (1288 + k * 16)).toNat = i := by omega
    rw [this]
    simp [h2]
theorem put_rd_ne {f : Int → UInt64} {k k' : Int} {ws : List UInt64} (h : ws.length ≤ 16) (hk : k ≠ k') : rdL (putBlk f k ws) (1288 + k' * 16) 16 = rdL f (1288 + k' * 16) 16 :=
  rdL_congr fun i hi => put_ne h (by omega)
theorem put_owner {f : Int → UInt64} {k : Int} {ws : List UInt64} (h : ws.length ≤ 16) (hk : 0 ≤ k) {j : Int} (hj : j < 96) : putBlk f k ws (200 + j) = f (200 + j) := put_ne h (by omega)
theorem upd_rd {f : Int → UInt64} {j : Int} {w : UInt64} (hj : j < 96) {k : Int} (hk : 0 ≤ k) : rdL (upd f (200 + j) w) (1288 + k * 16) 16 = rdL f (1288 + k * 16) 16 :=
  rdL_congr fun i hi => by unfold upd; rw [if_neg (by omega)]

theorem bytes_put {f : Int → UInt64} {k k' : Int} {ws : List UInt64} (h : ws.length ≤ 16) (hk : k ≠ k') : bytesB (putBlk f k ws) k' = bytesB f k' := by
  unfold bytesB; rw [put_rd_ne h hk]
theorem bytes_upd {f : Int → UInt64} {j : Int} {w : UInt64} (hj : j < 96) {k : Int} (hk : k = -1 ∨ 0 ≤ k) : bytesB (upd f (200 + j) w) k = bytesB f k := by
  unfold bytesB
  split
  · rfl
  · rw [upd_rd hj (by omega)]
theorem more_put_ne {f : Int → UInt64} {k k' : Int} {ws : List UInt64} (h : ws.length ≤ 16) (hk : k ≠ k') : moreL (putBlk f k ws) k' = moreL f k' := put_rd_ne h hk
theorem more_upd {f : Int → UInt64} {j : Int} {w : UInt64} (hj : j < 96) {k : Int} (hk : 0 ≤ k) : moreL (upd f (200 + j) w) k = moreL f k := upd_rd hj hk

/-- a byte of packed bytes -/
theorem packN_get : ∀ (l : List UInt8) (j : Nat), packN l / 256 ^ j % 256 = (l[j]?.getD 0).toNat
  | [], j => by simp [packN]
  | b :: r, 0 => by
    have := b.toNat_lt
    simp [packN]
  | b :: r, j + 1 => by
    have hb := b.toNat_lt
    have ih := packN_get r j
    simp only [packN, List.getElem?_cons_succ]
    rw [← ih, Nat.pow_succ, Nat.mul_comm (256 ^ j) 256, ← Nat.div_div_eq_div_mul]
    congr 2
    omega

theorem byte_word (l : List UInt8) (i : Nat) : byteW (wordT l (i / 8)) i = l[i]?.getD 0 := by
  unfold byteW
  rw [wordT_toNat, Nat.pow_mul, show (2 : Nat) ^ 8 = 256 from rfl]
  apply UInt8.toNat_inj.1
  rw [UInt8.toNat_ofNat', show (2 : Nat) ^ 8 = 256 from rfl, packN_get, List.getElem?_take, if_pos (Nat.mod_lt _ (by decide)), List.getElem?_drop, Nat.div_add_mod]

/-- a block that holds bytes -/
theorem bytes_text {f : Int → UInt64} {k : Int} {l : List UInt8} (hl : l.length ≤ 128) (hk : k ≠ -1) : bytesB (putBlk f k (textL l 16)) k = l ++ zeros (128 - l.length) := by
  unfold bytesB
  rw [if_neg hk, put_rd (by rw [textL_len]; omega)]
  unfold untextL fullB
  apply List.ext_getElem
  · simp [zeros]; omega
  · intro i h1 h2
    simp only [List.length_map, List.length_range] at h1
    simp only [List.getElem_map, List.getElem_range]
    have e : (textL l 16 ++ List.replicate (16 - (textL l 16).length) 0)[i / 8]?.getD 0 = wordT l (i / 8) := by
      rw [List.getElem?_append_left (by rw [textL_len]; omega)]
      unfold textL
      simp [show i / 8 < 16 by omega]
    rw [e, byte_word]
    by_cases h : i < l.length
    · rw [List.getElem_append_left h]; simp [h]
    · rw [List.getElem_append_right (by omega)]; simp [zeros, show l.length ≤ i by omega]
end Go.Proofs.YtkdmlieckkdmgaaGreatDoor
/-
  Plain laws of a file's blocks.
-/
set_option linter.all false
set_option maxRecDepth 100000
namespace Go.Proofs.YtkdmlieckkdmgaaGreatDoor
open Go Go.Eng

/-- a file's byte -/
def fb (now : Int → UInt64) (m : List Int) (p : Nat) : UInt8 := ((bytesB now (m[p / 128]?.getD (-1)))[p % 128]?).getD 0

theorem fileB_get {now : Int → UInt64} : ∀ (m : List Int) (p : Nat), p < 128 * m.length → (fileB now m)[p]? = some (fb now m p)
  | [], p, h => by simp at h
  | x :: m, p, h => by
    have hl := bytesB_len now x
    unfold fileB
    rw [List.flatMap_cons]
    by_cases hp : p < 128
    · rw [List.getElem?_append_left (by omega)]
      unfold fb
      have e1 : p / 128 = 0 := by omega
      have e2 : p % 128 = p := by omega
      have h1 : p < (bytesB now x).length := by omega
      rw [e1, e2]
      simp [h1]
    · rw [List.getElem?_append_right (by omega)]
      have ih := fileB_get (now := now) m (p - 128) (by simp at h; omega)
      rw [hl]
      unfold fileB at ih
      rw [ih]
      unfold fb
      have e1 : p / 128 = (p - 128) / 128 + 1 := by omega
      have e2 : p % 128 = (p - 128) % 128 := by omega
      rw [e1, e2]; rfl

/-- the blocks that a file has -/
def usedL (more : Int) (m : List Int) : List Int := (more :: m).filter usedB

def blkOk (x : Int) : Prop := x = -1 ∨ (0 ≤ x ∧ x < 96)

/-- a file's blocks over words -/
structure Wk (now : Int → UInt64) (node more : Int) (m : List Int) : Prop where
  len : m.length = 21
  rng : ∀ x ∈ more :: m, blkOk x
  nod : (usedL more m).Nodup
  own : ∀ x, 0 ≤ x → x < 96 → (x ∈ usedL more m ↔ now (200 + x) = w64 (node + 1))

/-- what others have stays -/
structure Fr (node : Int) (f g : Int → UInt64) : Prop where
  oth : ∀ k, 0 ≤ k → k < 96 → f (200 + k) ≠ w64 (node + 1) → (g (200 + k) = f (200 + k) ∨ f (200 + k) = 0 ∧ g (200 + k) = w64 (node + 1)) ∧ (f (200 + k) ≠ 0 → rdL g (1288 + k * 16) 16 = rdL f (1288 + k * 16) 16)
  mine : ∀ k, 0 ≤ k → k < 96 → f (200 + k) = w64 (node + 1) → g (200 + k) = w64 (node + 1) ∨ g (200 + k) = 0
  low : ∀ a, a < 200 → g a = f a

/-- the same of blocks alone -/
structure Fr0 (node : Int) (f g : Int → UInt64) : Prop where
  oth : ∀ k, 0 ≤ k → k < 96 → f (200 + k) ≠ w64 (node + 1) → (g (200 + k) = f (200 + k) ∨ f (200 + k) = 0 ∧ g (200 + k) = w64 (node + 1)) ∧ (f (200 + k) ≠ 0 → rdL g (1288 + k * 16) 16 = rdL f (1288 + k * 16) 16)
  mine : ∀ k, 0 ≤ k → k < 96 → f (200 + k) = w64 (node + 1) → g (200 + k) = w64 (node + 1) ∨ g (200 + k) = 0
theorem Fr.z {node : Int} {f g : Int → UInt64} (a : Fr node f g) : Fr0 node f g := ⟨a.oth, a.mine⟩
/-- words ahead of the blocks' owners are changed -/
theorem Fr0.of {f g : Int → UInt64} (node : Int) (h : ∀ a, 200 ≤ a → g a = f a) : Fr0 node f g :=
  ⟨fun k h0 _ _ => ⟨.inl (h _ (by omega)), fun _ => List.map_congr_left fun i _ => h _ (by omega)⟩, fun k h0 _ hf => .inl (by rw [h _ (by omega)]; exact hf)⟩
theorem Fr0.after {node : Int} {f g h : Int → UInt64} (a : Fr0 node f g) (b : ∀ a, 200 ≤ a → h a = g a) : Fr0 node f h :=
  ⟨fun k h0 h1 hf => by
    have e : rdL h (1288 + k * 16) 16 = rdL g (1288 + k * 16) 16 := List.map_congr_left fun i _ => b _ (by omega)
    rw [b _ (by omega), e]; exact a.oth k h0 h1 hf, fun k h0 h1 hf => by rw [b _ (by omega)]; exact a.mine k h0 h1 hf⟩

theorem put_low {f : Int → UInt64} {k : Int} {ws : List UInt64} (hk : 0 ≤ k) {a : Int} (ha : a < 200) : putBlk f k ws a = f a := by
  unfold putBlk updL
  rw [if_neg (by omega)]

theorem Fr.refl (node : Int) (f : Int → UInt64) : Fr node f f := ⟨fun k _ _ _ => ⟨.inl rfl, fun _ => rfl⟩, fun k _ _ h => .inl h, fun _ _ => rfl⟩
theorem Fr.trans {node : Int} {f g h : Int → UInt64} (a : Fr node f g) (b : Fr node g h) (hn : w64 (node + 1) ≠ 0) : Fr node f h := by
  constructor
  · intro k h0 h1 hf
    obtain ⟨p, q⟩ := a.oth k h0 h1 hf
    rcases p with p | ⟨p1, p2⟩
    · have hg : g (200 + k) ≠ w64 (node + 1) := by rw [p]; exact hf
      obtain ⟨r, s⟩ := b.oth k h0 h1 hg
      rw [p] at r s
      exact ⟨r, fun h => (s h).trans (q h)⟩
    · refine ⟨?_, fun h => absurd p1 h⟩
      rcases b.mine k h0 h1 p2 with r | r
      · exact .inr ⟨p1, r⟩
      · left; rw [r, p1]
  · intro k h0 h1 hf
    rcases a.mine k h0 h1 hf with p | p
    · exact b.mine k h0 h1 p
    · have hg : g (200 + k) ≠ w64 (node + 1) := by rw [p]; exact fun e => hn e.symm
      rcases (b.oth k h0 h1 hg).1 with r | ⟨_, r⟩
      · right; rw [r, p]
      · exact .inl r
  · exact fun x hx => (b.low x hx).trans (a.low x hx)

theorem usedL_mem {more : Int} {m : List Int} {x : Int} : x ∈ usedL more m ↔ (x = more ∨ x ∈ m) ∧ x ≠ -1 := by
  unfold usedL
  rw [List.mem_filter, List.mem_cons]
  constructor
  · rintro ⟨a, b⟩; exact ⟨a, usedB_t.1 b⟩
  · rintro ⟨a, b⟩; exact ⟨a, usedB_t.2 b⟩

theorem Wk.at_ {now : Int → UInt64} {node more : Int} {m : List Int} (W : Wk now node more m) {i : Nat} (hi : i < 21) : m[i]?.getD (-1) = m[i]'(by rw [W.len]; exact hi) := by
  have := W.len
  simp [show i < m.length by omega]

theorem Wk.ne_more {now : Int → UInt64} {node more : Int} {m : List Int} (W : Wk now node more m) {x : Int} (hx : x ∈ m) (hu : x ≠ -1) : x ≠ more := by
  rintro rfl
  have h := W.nod
  unfold usedL at h
  rw [List.filter_cons, if_pos (usedB_t.2 hu), List.nodup_cons] at h
  exact h.1 (List.mem_filter.2 ⟨hx, usedB_t.2 hu⟩)

theorem nodup_used_inj : ∀ {m : List Int} {i j : Nat} (hi : i < m.length) (hj : j < m.length), (m.filter usedB).Nodup → m[i] = m[j] → m[i] ≠ -1 → i = j
  | [], i, j, hi, _, _, _, _ => by simp at hi
  | x :: m, 0, 0, _, _, _, _, _ => rfl
  | x :: m, 0, j + 1, hi, hj, h, e, hu => by
    simp only [List.getElem_cons_zero, List.getElem_cons_succ] at e hu
    rw [List.filter_cons, if_pos (usedB_t.2 hu), List.nodup_cons] at h
    exact absurd (List.mem_filter.2 ⟨by rw [e]; exact List.getElem_mem _, usedB_t.2 hu⟩) h.1
  | x :: m, i + 1, 0, hi, hj, h, e, hu => by
    simp only [List.getElem_cons_zero, List.getElem_cons_succ] at e hu
    rw [e] at hu
    rw [List.filter_cons, if_pos (usedB_t.2 hu), List.nodup_cons] at h
    exact absurd (List.mem_filter.2 ⟨by rw [← e]; exact List.getElem_mem _, usedB_t.2 hu⟩) h.1
  | x :: m, i + 1, j + 1, hi, hj, h, e, hu => by
    simp only [List.getElem_cons_succ] at e hu
    have h' : (m.filter usedB).Nodup := by
      rw [List.filter_cons] at h
      split at h
      · exact (List.nodup_cons.1 h).2
      · exact h
    rw [nodup_used_inj (by simpa using hi) (by simpa using hj) h' e hu]

theorem Wk.inj {now : Int → UInt64} {node more : Int} {m : List Int} (W : Wk now node more m) {i j : Nat} (hi : i < 21) (hj : j < 21) (e : m[i]?.getD (-1) = m[j]?.getD (-1)) (hu : m[i]?.getD (-1) ≠ -1) : i = j := by
  have hl := W.len
  rw [W.at_ hi] at e hu
  rw [W.at_ hj] at e
  refine nodup_used_inj (by omega) (by omega) ?_ e hu
  have h := W.nod
  unfold usedL at h
  rw [List.filter_cons] at h
  split at h
  · exact (List.nodup_cons.1 h).2
  · exact h

theorem w64_ne {node : Int} (h : 0 ≤ node ∧ node < 24) : w64 (node + 1) ≠ 0 := by
  intro e
  have h1 := w64_toNat (node + 1)
  rw [e] at h1
  simp at h1; omega

/-- a block's bytes are set -/
theorem Wk.put {now : Int → UInt64} {node more : Int} {m : List Int} (W : Wk now node more m) {i : Nat} (hi : i < 21) {l : List UInt8} (hl : l.length ≤ 128) {x : Int} (hx : m[i]?.getD (-1) = x) (hu : x ≠ -1) :
    Wk (putBlk now x (textL l 16)) node more m ∧ Fr node now (putBlk now x (textL l 16)) ∧ (more ≠ -1 → moreL (putBlk now x (textL l 16)) more = moreL now more) ∧
    ∀ p, p < 2688 → fb (putBlk now x (textL l 16)) m p = if p / 128 = i then l[p % 128]?.getD 0 else fb now m p := by
  have ht : (textL l 16).length ≤ 16 := by rw [textL_len]; omega
  have hxm : x ∈ m := by rw [← hx, W.at_ hi]; exact List.getElem_mem _
  have hxr : 0 ≤ x ∧ x < 96 := by
    rcases W.rng x (List.mem_cons_of_mem _ hxm) with h | h
    · exact absurd h hu
    · exact h
  have ho : ∀ k, 0 ≤ k → k < 96 → putBlk now x (textL l 16) (200 + k) = now (200 + k) := fun k _ h => put_owner ht hxr.1 h
  have hown : now (200 + x) = w64 (node + 1) := (W.own x hxr.1 hxr.2).1 (usedL_mem.2 ⟨.inr hxm, hu⟩)
  refine ⟨⟨W.len, W.rng, W.nod, fun k h0 h1 => by rw [ho k h0 h1]; exact W.own k h0 h1⟩, ⟨fun k h0 h1 hf => ⟨.inl (ho k h0 h1), fun _ => ?_⟩, fun k h0 h1 hf => .inl (by rw [ho k h0 h1]; exact hf), fun _ ha => put_low hxr.1 ha⟩, fun hm => more_put_ne ht (W.ne_more hxm hu), fun p hp => ?_⟩
  · refine put_rd_ne ht ?_
    rintro rfl
    exact hf hown
  · have hp2 : p / 128 < 21 := by omega
    unfold fb
    by_cases h : p / 128 = i
    · rw [if_pos h, h, hx, bytes_text hl hu]
      by_cases h2 : p % 128 < l.length
      · rw [List.getElem?_append_left h2]
      · rw [List.getElem?_append_right (by omega)]
        have h3 : l.length ≤ p % 128 := by omega
        simp only [zeros, List.getElem?_eq_none h3, Option.getD_none]
        rw [List.getElem?_replicate]
        split <;> rfl
    · rw [if_neg h, bytes_put ht]
      intro e
      exact h (W.inj hp2 hi (by rw [← e, hx]) (by rw [← e]; exact hu))
end Go.Proofs.YtkdmlieckkdmgaaGreatDoor
/-
  Plain laws of a file's blocks, further: blocks are taken and given back.
-/
set_option linter.all false
set_option maxRecDepth 100000
namespace Go.Proofs.YtkdmlieckkdmgaaGreatDoor
open Go Go.Eng

theorem put_nil (f : Int → UInt64) (k : Int) : putBlk f k [] = putBlk f k (textL [] 16) := by
  unfold putBlk
  have : fullB [] = fullB (textL [] 16) := by decide
  rw [this]

/-- words behind a taken block -/
def takeW (now : Int → UInt64) (node k : Int) : Int → UInt64 := putBlk (upd now (200 + k) (w64 (node + 1))) k []

theorem take_facts {B : Int → UInt64} {X : VS} {node : Int} (hn : 0 ≤ node ∧ node < 24) :
    ((takeP B X node).2.1 = 0 ∧ 0 ≤ (takeP B X node).1 ∧ (takeP B X node).1 < 96 ∧ X.now (200 + (takeP B X node).1) = 0 ∧ (takeP B X node).2.2 = { X with now := takeW X.now node (takeP B X node).1 }) ∨
    ((takeP B X node).2.1 = 9 ∧ (takeP B X node).2.2 = X ∧ firstF B X 96 0 = none) := by
  unfold takeP
  rw [if_pos hn]
  cases hf : firstF B X 96 0 with
  | none => right; exact ⟨rfl, rfl, rfl⟩
  | some k =>
    left
    have hk := firstF_is hf
    have h := hk.1
    unfold freshB at h
    simp at h
    refine ⟨rfl, by show 0 ≤ (k : Int); omega, by show (k : Int) < 96; omega, h.2.2.1, rfl⟩

theorem takeW_owner {now : Int → UInt64} {node k : Int} (hk : 0 ≤ k ∧ k < 96) {j : Int} (h0 : 0 ≤ j) (h1 : j < 96) : takeW now node k (200 + j) = if j = k then w64 (node + 1) else now (200 + j) := by
  unfold takeW
  rw [put_owner (by simp) hk.1 h1]
  unfold upd
  by_cases h : j = k
  · rw [if_pos (by omega), if_pos h]
  · rw [if_neg (by omega), if_neg h]
theorem takeW_rd {now : Int → UInt64} {node k : Int} (hk : 0 ≤ k ∧ k < 96) {j : Int} (h0 : 0 ≤ j) (hj : j ≠ k) : rdL (takeW now node k) (1288 + j * 16) 16 = rdL now (1288 + j * 16) 16 := by
  unfold takeW
  rw [put_rd_ne (by simp) (fun e => hj e.symm), upd_rd hk.2 h0]
theorem takeW_bytes {now : Int → UInt64} {node k : Int} (hk : 0 ≤ k ∧ k < 96) {j : Int} (hj : j = -1 ∨ 0 ≤ j) (hne : j ≠ k) : bytesB (takeW now node k) j = bytesB now j := by
  unfold bytesB
  split
  · rfl
  · rw [takeW_rd hk (by omega) hne]
theorem takeW_new {now : Int → UInt64} {node k : Int} (hk : 0 ≤ k ∧ k < 96) : bytesB (takeW now node k) k = zeros 128 := by
  unfold takeW
  rw [put_nil, bytes_text (by simp) (by omega)]
  rfl
theorem takeW_fr {now : Int → UInt64} {node k : Int} (hk : 0 ≤ k ∧ k < 96) (h : now (200 + k) = 0) : Fr node now (takeW now node k) := by
  constructor
  · intro j h0 h1 hf
    rw [takeW_owner hk h0 h1]
    by_cases e : j = k
    · subst e
      exact ⟨.inr ⟨h, if_pos rfl⟩, fun hx => absurd h hx⟩
    · exact ⟨.inl (if_neg e), fun _ => takeW_rd hk h0 e⟩
  · intro j h0 h1 hf
    rw [takeW_owner hk h0 h1]
    split
    · exact .inl rfl
    · exact .inl hf
  · intro a ha
    unfold takeW
    rw [put_low hk.1 ha]
    unfold upd
    rw [if_neg (by omega)]

theorem filter_set : ∀ {m : List Int} {i : Nat} {k : Int} (hi : i < m.length), m[i] = -1 → k ≠ -1 → ((m.set i k).filter usedB).Perm (k :: m.filter usedB)
  | [], i, k, hi, _, _ => by simp at hi
  | x :: m, 0, k, hi, h, hk => by
    simp only [List.getElem_cons_zero] at h
    subst h
    simp only [List.set_cons_zero]
    rw [List.filter_cons, if_pos (usedB_t.2 hk), List.filter_cons, if_neg (by decide)]
  | x :: m, i + 1, k, hi, h, hk => by
    simp only [List.getElem_cons_succ] at h
    have ih := filter_set (m := m) (i := i) (by simpa using hi) h hk
    simp only [List.set_cons_succ]
    rw [List.filter_cons, List.filter_cons]
    split
    · exact (List.Perm.cons x ih).trans (List.Perm.swap k x _)
    · exact ih
theorem filter_unset : ∀ {m : List Int} {i : Nat} (hi : i < m.length), m[i] ≠ -1 → (m.filter usedB).Perm (m[i] :: (m.set i (-1)).filter usedB)
  | [], i, hi, _ => by simp at hi
  | x :: m, 0, hi, h => by
    simp only [List.getElem_cons_zero] at h
    simp only [List.set_cons_zero, List.getElem_cons_zero]
    rw [List.filter_cons, if_pos (usedB_t.2 h), List.filter_cons, if_neg (by decide)]
  | x :: m, i + 1, hi, h => by
    simp only [List.getElem_cons_succ] at h
    have ih := filter_unset (m := m) (i := i) (by simpa using hi) h
    simp only [List.set_cons_succ, List.getElem_cons_succ]
    rw [List.filter_cons, List.filter_cons]
    split
    · exact (List.Perm.cons x ih).trans (List.Perm.swap _ x _)
    · exact ih

theorem usedL_cons (more : Int) (m : List Int) : usedL more m = if more = -1 then m.filter usedB else more :: m.filter usedB := by
  unfold usedL
  rw [List.filter_cons]
  by_cases h : more = -1
  · rw [if_neg (by rw [usedB_t]; exact fun x => x h), if_pos h]
  · rw [if_pos (usedB_t.2 h), if_neg h]
theorem usedL_perm {more : Int} {m m' : List Int} {k : Int} (h : (m'.filter usedB).Perm (k :: m.filter usedB)) : (usedL more m').Perm (k :: usedL more m) := by
  rw [usedL_cons, usedL_cons]
  split
  · exact h
  · exact (List.Perm.cons more h).trans (List.Perm.swap k more _)

/-- a file has one block more -/
theorem Wk.grow {now : Int → UInt64} {node more more' : Int} {m m' : List Int} (W : Wk now node more m) (hn : 0 ≤ node ∧ node < 24) {k : Int} (hk : 0 ≤ k ∧ k < 96) (h0 : now (200 + k) = 0) (hl : m'.length = 21) (hr : ∀ x ∈ more' :: m', blkOk x)
    (hp : (usedL more' m').Perm (k :: usedL more m)) : Wk (takeW now node k) node more' m' := by
  have hne := w64_ne hn
  have hknew : k ∉ usedL more m := fun h => hne ((W.own k hk.1 hk.2).1 h ▸ h0)
  refine ⟨hl, hr, hp.symm.nodup (List.nodup_cons.2 ⟨hknew, W.nod⟩), fun x x0 x1 => ?_⟩
  rw [hp.mem_iff, List.mem_cons, takeW_owner hk x0 x1, W.own x x0 x1]
  by_cases h : x = k
  · simp [h]
  · simp [h]

theorem Wk.take_at {now : Int → UInt64} {node more : Int} {m : List Int} (W : Wk now node more m) (hn : 0 ≤ node ∧ node < 24) {k : Int} (hk : 0 ≤ k ∧ k < 96) (h0 : now (200 + k) = 0) {i : Nat} (hi : i < 21) (hm : m[i]?.getD (-1) = -1) :
    Wk (takeW now node k) node more (m.set i k) ∧ Fr node now (takeW now node k) ∧ (more ≠ -1 → moreL (takeW now node k) more = moreL now more) ∧ ∀ p, p < 2688 → fb (takeW now node k) (m.set i k) p = fb now m p := by
  have hl := W.len
  have hne := w64_ne hn
  have hm' : m[i] = -1 := by rw [← W.at_ hi]; exact hm
  have hun : ∀ x, 0 ≤ x → x < 96 → x ∈ usedL more m → x ≠ k := by
    rintro x x0 x1 hx rfl
    exact hne ((W.own x x0 x1).1 hx ▸ h0)
  refine ⟨W.grow hn hk h0 (by simp [hl]) ?_ (usedL_perm (filter_set (by omega) hm' (by omega))), takeW_fr hk h0, fun hmo => ?_, fun p hp => ?_⟩
  · intro x hx
    rcases List.mem_cons.1 hx with rfl | hx
    · exact W.rng _ List.mem_cons_self
    · rcases List.mem_or_eq_of_mem_set hx with h | rfl
      · exact W.rng _ (List.mem_cons_of_mem _ h)
      · exact .inr hk
  · have hmr := W.rng more List.mem_cons_self
    have : 0 ≤ more ∧ more < 96 := by rcases hmr with h | h; exact absurd h hmo; exact h
    exact takeW_rd hk this.1 (hun more this.1 this.2 (usedL_mem.2 ⟨.inl rfl, hmo⟩))
  · unfold fb
    have hp2 : p / 128 < 21 := by omega
    by_cases h : p / 128 = i
    · subst h
      have e : (m.set (p / 128) k)[p / 128]?.getD (-1) = k := by simp [hl, hp2]
      rw [e, hm, takeW_new hk]
      rfl
    · have e : (m.set i k)[p / 128]?.getD (-1) = m[p / 128]?.getD (-1) := by rw [List.getElem?_set_ne (fun x => h x.symm)]
      rw [e, W.at_ hp2]
      have hx := W.rng m[p / 128] (List.mem_cons_of_mem _ (List.getElem_mem _))
      rw [takeW_bytes hk (hx.imp id And.left)]
      rcases hx with hx | hx
      · omega
      · exact hun _ hx.1 hx.2 (usedL_mem.2 ⟨.inr (List.getElem_mem _), by omega⟩)

theorem Wk.fb_keep {now g : Int → UInt64} {node more : Int} {m : List Int} (W : Wk now node more m) (h : ∀ x, x ∈ m → 0 ≤ x → x < 96 → rdL g (1288 + x * 16) 16 = rdL now (1288 + x * 16) 16) (p : Nat) (hp : p < 2688) : fb g m p = fb now m p := by
  have hp2 : p / 128 < 21 := by omega
  have hl := W.len
  unfold fb
  rw [W.at_ hp2]
  unfold bytesB
  split
  · rfl
  · rename_i hne
    rcases W.rng m[p / 128] (List.mem_cons_of_mem _ (List.getElem_mem _)) with hx | hx
    · exact absurd hx hne
    · rw [h _ (List.getElem_mem _) hx.1 hx.2]

theorem Wk.take_more {now : Int → UInt64} {node : Int} {m : List Int} (W : Wk now node (-1) m) (hn : 0 ≤ node ∧ node < 24) {k : Int} (hk : 0 ≤ k ∧ k < 96) (h0 : now (200 + k) = 0) :
    Wk (takeW now node k) node k m ∧ Fr node now (takeW now node k) ∧ ∀ p, p < 2688 → fb (takeW now node k) m p = fb now m p := by
  have hne := w64_ne hn
  refine ⟨W.grow hn hk h0 W.len ?_ ?_, takeW_fr hk h0, W.fb_keep fun x hx x0 x1 => takeW_rd hk x0 ?_⟩
  · intro x hx
    rcases List.mem_cons.1 hx with rfl | hx
    · exact .inr hk
    · exact W.rng _ (List.mem_cons_of_mem _ hx)
  · rw [usedL_cons, usedL_cons, if_neg (by omega), if_pos rfl]
  · rintro rfl
    exact hne ((W.own x x0 x1).1 (usedL_mem.2 ⟨.inr hx, by omega⟩) ▸ h0)

/-- words behind a block that is given back -/
theorem drop_fr {now : Int → UInt64} {node k : Int} (hk : 0 ≤ k ∧ k < 96) (h : now (200 + k) = w64 (node + 1)) : Fr node now (upd now (200 + k) 0) := by
  have ho : ∀ j, upd now (200 + k) 0 (200 + j) = if j = k then 0 else now (200 + j) := by
    intro j; unfold upd
    by_cases e : j = k
    · rw [if_pos (by omega), if_pos e]
    · rw [if_neg (by omega), if_neg e]
  constructor
  · intro j h0 h1 hf
    rw [ho]
    have e : j ≠ k := by rintro rfl; exact hf h
    exact ⟨.inl (if_neg e), fun _ => upd_rd hk.2 h0⟩
  · intro j h0 h1 hf
    rw [ho]
    split
    · exact .inr rfl
    · exact .inl hf
  · intro a ha
    unfold upd
    rw [if_neg (by omega)]

theorem Wk.shrink {now : Int → UInt64} {node more more' : Int} {m m' : List Int} (W : Wk now node more m) (hn : 0 ≤ node ∧ node < 24) {k : Int} (hk : 0 ≤ k ∧ k < 96) (hl : m'.length = 21) (hr : ∀ x ∈ more' :: m', blkOk x)
    (hp : (usedL more m).Perm (k :: usedL more' m')) : Wk (upd now (200 + k) 0) node more' m' ∧ now (200 + k) = w64 (node + 1) := by
  have hne := w64_ne hn
  have hnd := List.nodup_cons.1 (hp.nodup W.nod)
  refine ⟨⟨hl, hr, hnd.2, fun x x0 x1 => ?_⟩, (W.own k hk.1 hk.2).1 (hp.mem_iff.2 List.mem_cons_self)⟩
  have hw := W.own x x0 x1
  rw [hp.mem_iff, List.mem_cons] at hw
  unfold upd
  by_cases h : x = k
  · subst h
    rw [if_pos rfl]
    exact ⟨fun hx => absurd hx hnd.1, fun e => absurd e.symm hne⟩
  · rw [if_neg (by omega), ← hw]
    simp [h]

theorem Wk.drop_more {now : Int → UInt64} {node more : Int} {m : List Int} (W : Wk now node more m) (hn : 0 ≤ node ∧ node < 24) (hm : more ≠ -1) :
    (0 ≤ more ∧ more < 96) ∧ now (200 + more) = w64 (node + 1) ∧ Wk (upd now (200 + more) 0) node (-1) m ∧ Fr node now (upd now (200 + more) 0) ∧ ∀ p, p < 2688 → fb (upd now (200 + more) 0) m p = fb now m p := by
  have hk : 0 ≤ more ∧ more < 96 := by
    rcases W.rng more List.mem_cons_self with h | h
    · exact absurd h hm
    · exact h
  obtain ⟨W', ho⟩ := W.shrink (more' := -1) (m' := m) hn hk W.len (by
    intro x hx
    rcases List.mem_cons.1 hx with rfl | hx
    · exact .inl rfl
    · exact W.rng _ (List.mem_cons_of_mem _ hx)) (by rw [usedL_cons, usedL_cons, if_neg hm, if_pos rfl])
  exact ⟨hk, ho, W', drop_fr hk ho, W.fb_keep fun x _ x0 _ => upd_rd hk.2 x0⟩

theorem Wk.drop_at {now : Int → UInt64} {node more : Int} {m : List Int} (W : Wk now node more m) (hn : 0 ≤ node ∧ node < 24) {i : Nat} (hi : i < 21) {k : Int} (hx : m[i]?.getD (-1) = k) (hk1 : k ≠ -1) :
    (0 ≤ k ∧ k < 96) ∧ now (200 + k) = w64 (node + 1) ∧ Wk (upd now (200 + k) 0) node more (m.set i (-1)) ∧ Fr node now (upd now (200 + k) 0) ∧ (more ≠ -1 → moreL (upd now (200 + k) 0) more = moreL now more) ∧
      ∀ p, p < 2688 → fb (upd now (200 + k) 0) (m.set i (-1)) p = if p / 128 = i then 0 else fb now m p := by
  have hl := W.len
  have hmi : m[i] = k := by rw [← W.at_ hi]; exact hx
  have hk : 0 ≤ k ∧ k < 96 := by
    rcases W.rng m[i] (List.mem_cons_of_mem _ (List.getElem_mem _)) with h | h
    · exact absurd (hmi ▸ h) hk1
    · rw [hmi] at h; exact h
  obtain ⟨W', ho⟩ := W.shrink (more' := more) (m' := m.set i (-1)) hn hk (by simp [hl]) (by
    intro x hx
    rcases List.mem_cons.1 hx with rfl | hx
    · exact W.rng _ List.mem_cons_self
    · rcases List.mem_or_eq_of_mem_set hx with h | rfl
      · exact W.rng _ (List.mem_cons_of_mem _ h)
      · exact .inl rfl) (usedL_perm (by have := filter_unset (m := m) (i := i) (by omega) (by rw [hmi]; exact hk1); rwa [hmi] at this))
  refine ⟨hk, ho, W', drop_fr hk ho, fun hmo => ?_, fun p hp => ?_⟩
  · rcases W.rng more List.mem_cons_self with h | h
    · exact absurd h hmo
    · exact upd_rd hk.2 h.1
  · unfold fb
    have hp2 : p / 128 < 21 := by omega
    by_cases h : p / 128 = i
    · subst h
      rw [if_pos rfl]
      have e : (m.set (p / 128) (-1))[p / 128]?.getD (-1) = -1 := by simp [hl, hp2]
      rw [e]
      unfold bytesB zeros
      rw [if_pos rfl, List.getElem?_replicate]
      split <;> rfl
    · rw [if_neg h]
      have e : (m.set i (-1))[p / 128]?.getD (-1) = m[p / 128]?.getD (-1) := by rw [List.getElem?_set_ne (fun x => h x.symm)]
      rw [e, W.at_ hp2]
      have hx := W.rng m[p / 128] (List.mem_cons_of_mem _ (List.getElem_mem _))
      rw [bytes_upd hk.2 (hx.imp id And.left)]
end Go.Proofs.YtkdmlieckkdmgaaGreatDoor
/-
  Plain laws: a file's bytes are written, a card with a map.
-/
set_option linter.all false
set_option maxRecDepth 100000
namespace Go.Proofs.YtkdmlieckkdmgaaGreatDoor
open Go Go.Eng

theorem getD_21 {m : List Int} (hl : m.length = 21) {i : Nat} (hi : i < 21) : m[i]?.getD 0 = m[i]?.getD (-1) := by
  simp [show i < m.length by omega]

theorem wblk_get {old data : List UInt8} {a f : Nat} (ho : old.length = 128) (h1 : f < a + data.length) (h2 : a < f + 128) (q : Nat) (hq : q < 128) :
    (wblk old data a (a + data.length) f)[q]?.getD 0 = if a ≤ f + q ∧ f + q < a + data.length then data[f + q - a]?.getD 0 else old[q]?.getD 0 := by
  have ht : (old.take (a - f)).length = a - f := by rw [List.length_take]; omega
  have hd : ((data.drop (f + (a - f) - a)).take (min (a + data.length - f) 128 - (a - f))).length = min (a + data.length - f) 128 - (a - f) := by
    rw [List.length_take, List.length_drop]; omega
  unfold wblk
  by_cases c1 : q < a - f
  · rw [List.append_assoc, List.getElem?_append_left (by omega), List.getElem?_take, if_pos c1, if_neg (by omega)]
  · by_cases c2 : q < min (a + data.length - f) 128
    · rw [List.getElem?_append_left (by rw [List.length_append]; omega), List.getElem?_append_right (by omega), ht, List.getElem?_take, if_pos (by omega), List.getElem?_drop, if_pos (by omega)]
      congr 2; omega
    · rw [List.getElem?_append_right (by rw [List.length_append]; omega), List.length_append, ht, hd, List.getElem?_drop, if_neg (by omega)]
      congr 2; omega
theorem wblk_len {old data : List UInt8} {a f : Nat} (ho : old.length = 128) (h1 : f < a + data.length) (h2 : a < f + 128) : (wblk old data a (a + data.length) f).length = 128 := by
  unfold wblk
  rw [List.length_append, List.length_append, List.length_take, List.length_take, List.length_drop, List.length_drop]
  omega

/-- where no block of another's lies, one can be taken -/
def Alone (B : Int → UInt64) (node : Int) (X : VS) : Prop := ∀ k, 0 ≤ k → k < 96 → B (200 + k) = 0 ∧ (X.now (200 + k) = 0 ∨ X.now (200 + k) = w64 (node + 1)) ∧ k ∉ X.away

theorem firstF_none {B : Int → UInt64} {X : VS} : ∀ {f i : Nat}, firstF B X f i = none → ∀ k, i ≤ k → k < i + f → freshB B X (k : Int) = false
  | 0, i, _, k, h1, h2 => by omega
  | f + 1, i, h, k, h1, h2 => by
    unfold firstF at h
    split at h
    · cases h
    · rename_i hf
      by_cases e : k = i
      · subst e; simpa using hf
      · exact firstF_none h k (by omega) (by omega)

theorem take_alone {B : Int → UInt64} {X : VS} {node more : Int} {m : List Int} (hn : 0 ≤ node ∧ node < 24) (W : Wk X.now node more m) (A : Alone B node X) : firstF B X 96 0 ≠ none := by
  intro h
  have hall : ((List.range 96).map fun (i : Nat) => (i : Int)) ⊆ usedL more m := by
    intro x hx
    obtain ⟨k, hk, rfl⟩ := List.mem_map.1 hx
    have hk96 : k < 96 := by simpa using hk
    have hf := firstF_none h k (by omega) (by omega)
    obtain ⟨a1, a2, a3⟩ := A (k : Int) (by omega) (by omega)
    refine (W.own (k : Int) (by omega) (by omega)).2 ?_
    rcases a2 with a2 | a2
    · unfold freshB at hf
      simp [a1, a2, a3] at hf
      omega
    · exact a2
  have hnd : ((List.range 96).map fun (i : Nat) => (i : Int)).Nodup := by decide +kernel
  have h1 := hnd.length_le_of_subset hall
  have h2 : (usedL more m).length ≤ (more :: m).length := List.length_filter_le _ _
  have := W.len
  simp at h1 h2
  omega

/-- what a step of writing comes to -/
structure Wrt (B : Int → UInt64) (node more : Int) (X : VS) (m : List Int) (a : Nat) (data : List UInt8) (i f : Nat) (r : Int × VS × List Int) : Prop where
  e : r.1 = 0
  x : r.2.1 = { X with now := r.2.1.now }
  wk : Wk r.2.1.now node more r.2.2
  fr : Fr node X.now r.2.1.now
  more_ : more ≠ -1 → moreL r.2.1.now more = moreL X.now more
  by_ : ∀ p, p < 2688 → fb r.2.1.now r.2.2 p = if i ≤ p / 128 ∧ p / 128 < i + f ∧ a ≤ p ∧ p < a + data.length then data[p - a]?.getD 0 else fb X.now m p
  holes : ∀ j, j < 21 → (r.2.2[j]?.getD (-1) = -1 ↔ m[j]?.getD (-1) = -1 ∧ ¬ (i ≤ j ∧ j < i + f))

theorem wStep_plain {B : Int → UInt64} {node more : Int} (hn : 0 ≤ node ∧ node < 24) {X : VS} {m : List Int} (W : Wk X.now node more m) {a : Nat} {data : List UInt8} {i : Nat} (hi : i < 21) (h1 : 128 * i < a + data.length) (h2 : a < 128 * i + 128) :
    (wStep B node a data i X m).1 = 9 ∧ firstF B X 96 0 = none ∨ Wrt B node more X m a data i 1 (wStep B node a data i X m) := by
  have hl := W.len
  unfold wStep
  rw [getD_21 hl hi]
  by_cases hm : m[i]?.getD (-1) = -1
  · rw [if_pos hm]
    rcases take_facts (B := B) (X := X) hn with ⟨e0, k0, k1, kn, kx⟩ | ⟨e9, kx, kf⟩
    · right
      have hk : 0 ≤ (takeP B X node).1 ∧ (takeP B X node).1 < 96 := ⟨k0, k1⟩
      generalize (takeP B X node).1 = k at *
      obtain ⟨W1, F1, M1, B1⟩ := W.take_at hn hk kn hi hm
      have hmi : (m.set i k)[i]?.getD (-1) = k := by simp [hl, hi]
      have hkne : k ≠ -1 := by omega
      simp only [e0, kx, if_true]
      rw [getD_21 (by simp [hl]) hi, hmi]
      have hbl := bytesB_len (takeW X.now node k) k
      obtain ⟨W2, F2, M2, B2⟩ := W1.put hi (Nat.le_of_eq (wblk_len hbl h1 h2)) hmi hkne
      refine ⟨rfl, rfl, W2, F1.trans F2 (w64_ne hn), fun h => (M2 h).trans (M1 h), fun p hp => ?_, fun j hj => ?_⟩
      · simp only
        rw [B2 p hp]
        by_cases hpi : p / 128 = i
        · rw [if_pos hpi, wblk_get hbl h1 h2 _ (Nat.mod_lt _ (by decide))]
          have hpe : 128 * i + p % 128 = p := by omega
          rw [hpe]
          by_cases hc : a ≤ p ∧ p < a + data.length
          · rw [if_pos hc, if_pos ⟨by omega, by omega, hc⟩]
          · rw [if_neg hc, if_neg (fun h => hc h.2.2), ← B1 p hp]
            unfold fb
            rw [hpi, hmi]
        · rw [if_neg hpi, if_neg (by omega), B1 p hp]
      · simp only
        by_cases hji : j = i
        · subst hji
          rw [hmi]
          exact ⟨fun h => absurd h hkne, fun h => absurd h.2 (by omega)⟩
        · rw [List.getElem?_set_ne (fun x => hji x.symm)]
          exact ⟨fun h => ⟨h, by omega⟩, fun h => h.1⟩
    · left
      simp only [e9]
      exact ⟨rfl, kf⟩
  · right
    rw [if_neg hm]
    simp only [if_true]
    rw [getD_21 hl hi]
    have hbl := bytesB_len X.now (m[i]?.getD (-1))
    obtain ⟨W2, F2, M2, B2⟩ := W.put hi (Nat.le_of_eq (wblk_len hbl h1 h2)) rfl hm
    refine ⟨rfl, rfl, W2, F2, M2, fun p hp => ?_, fun j hj => ?_⟩
    · simp only
      rw [B2 p hp]
      by_cases hpi : p / 128 = i
      · rw [if_pos hpi, wblk_get hbl h1 h2 _ (Nat.mod_lt _ (by decide))]
        have hpe : 128 * i + p % 128 = p := by omega
        rw [hpe]
        by_cases hc : a ≤ p ∧ p < a + data.length
        · rw [if_pos hc, if_pos ⟨by omega, by omega, hc⟩]
        · rw [if_neg hc, if_neg (fun h => hc h.2.2)]
          unfold fb
          rw [hpi]
      · rw [if_neg hpi, if_neg (by omega)]
    · simp only
      by_cases hji : j = i
      · subst hji
        exact ⟨fun h => absurd h hm, fun h => absurd h.1 hm⟩
      · exact ⟨fun h => ⟨h, by omega⟩, fun h => h.1⟩

theorem Alone.on {B : Int → UInt64} {node : Int} {X Y : VS} (A : Alone B node X) (F : Fr node X.now Y.now) (hn : w64 (node + 1) ≠ 0) (ha : Y.away = X.away) : Alone B node Y := by
  intro k h0 h1
  obtain ⟨a1, a2, a3⟩ := A k h0 h1
  refine ⟨a1, ?_, by rw [ha]; exact a3⟩
  rcases a2 with a2 | a2
  · rcases (F.oth k h0 h1 (by rw [a2]; exact fun e => hn e.symm)).1 with r | ⟨_, r⟩
    · left; rw [r, a2]
    · exact .inr r
  · exact (F.mine k h0 h1 a2).symm

theorem writeL_plain {B : Int → UInt64} {node more : Int} (hn : 0 ≤ node ∧ node < 24) {a : Nat} {data : List UInt8} : ∀ (f i : Nat) (X : VS) (m : List Int), Wk X.now node more m → i + f ≤ 21 → (0 < f → 128 * (i + f - 1) < a + data.length) → a < 128 * i + 128 →
    ((writeL B node a data f i X m).1 = 9 ∧ ¬ Alone B node X) ∨ Wrt B node more X m a data i f (writeL B node a data f i X m)
  | 0, i, X, m, W, _, _, _ => by
    right
    unfold writeL
    refine ⟨rfl, rfl, W, Fr.refl _ _, fun _ => rfl, fun p hp => ?_, fun j hj => ⟨fun h => ⟨h, by omega⟩, fun h => h.1⟩⟩
    simp only
    rw [if_neg (by omega)]
  | f + 1, i, X, m, W, hf, h1, h2 => by
    unfold writeL
    have h1' := h1 (by omega)
    rcases wStep_plain (B := B) hn W (i := i) (a := a) (data := data) (by omega) (by omega) (by omega) with ⟨e, hno⟩ | S
    · rw [e]
      left
      refine ⟨by simp [e], fun A => take_alone hn W A hno⟩
    · rw [S.e]
      simp only [if_true]
      rcases writeL_plain (B := B) (a := a) (data := data) hn f (i + 1) (wStep B node a data i X m).2.1 (wStep B node a data i X m).2.2 S.wk (by omega) (fun _ => by omega) (by omega) with ⟨e, hno⟩ | R
      · left
        refine ⟨e, fun A => hno (A.on S.fr (w64_ne hn) (by rw [S.x]))⟩
      · right
        refine ⟨R.e, ?_, R.wk, S.fr.trans R.fr (w64_ne hn), fun h => (R.more_ h).trans (S.more_ h), fun p hp => ?_, fun j hj => ?_⟩
        · rw [R.x, S.x]
        · rw [R.by_ p hp, S.by_ p hp]
          by_cases c3 : i + 1 ≤ p / 128 ∧ p / 128 < i + 1 + f ∧ a ≤ p ∧ p < a + data.length
          · rw [if_pos c3, if_pos ⟨by omega, by omega, c3.2.2⟩]
          · rw [if_neg c3]
            by_cases c4 : i ≤ p / 128 ∧ p / 128 < i + 1 ∧ a ≤ p ∧ p < a + data.length
            · rw [if_pos c4, if_pos ⟨c4.1, by omega, c4.2.2⟩]
            · rw [if_neg c4, if_neg (by omega)]
        · rw [R.holes j hj, S.holes j hj]
          constructor
          · rintro ⟨⟨x1, x2⟩, x3⟩; exact ⟨x1, by omega⟩
          · rintro ⟨x1, x2⟩; exact ⟨⟨x1, by omega⟩, by omega⟩
end Go.Proofs.YtkdmlieckkdmgaaGreatDoor
/-
  Plain laws: a file, kept and written.
-/
set_option linter.all false
set_option maxRecDepth 100000
namespace Go.Proofs.YtkdmlieckkdmgaaGreatDoor
open Go Go.Eng

theorem Wk.putMore {now : Int → UInt64} {node more : Int} {m : List Int} (W : Wk now node more m) {ws : List UInt64} (hw : ws.length ≤ 16) (hm : more ≠ -1) :
    Wk (putBlk now more ws) node more m ∧ Fr node now (putBlk now more ws) ∧ ∀ p, p < 2688 → fb (putBlk now more ws) m p = fb now m p := by
  have hk : 0 ≤ more ∧ more < 96 := by
    rcases W.rng more List.mem_cons_self with h | h
    · exact absurd h hm
    · exact h
  have ho : ∀ k, 0 ≤ k → k < 96 → putBlk now more ws (200 + k) = now (200 + k) := fun k _ h => put_owner hw hk.1 h
  have hown : now (200 + more) = w64 (node + 1) := (W.own more hk.1 hk.2).1 (usedL_mem.2 ⟨.inl rfl, hm⟩)
  refine ⟨⟨W.len, W.rng, W.nod, fun k h0 h1 => by rw [ho k h0 h1]; exact W.own k h0 h1⟩, ⟨fun k h0 h1 hf => ⟨.inl (ho k h0 h1), fun _ => ?_⟩, fun k h0 h1 hf => .inl (by rw [ho k h0 h1]; exact hf), fun _ ha => put_low hk.1 ha⟩, W.fb_keep fun x hx x0 x1 => ?_⟩
  · refine put_rd_ne hw ?_
    rintro rfl
    exact hf hown
  · exact put_rd_ne hw (fun e => W.ne_more hx (by omega) e.symm)

theorem Wk.drops {now : Int → UInt64} {node more : Int} {m : List Int} (W : Wk now node more m) : m.any oddB = false := by
  rw [List.any_eq_false]
  intro x hx
  have := W.rng x (List.mem_cons_of_mem _ hx)
  unfold blkOk at this
  simp [oddB]; omega

theorem setD_dir (c : Crd) {m : List Int} (hl : m.length = 21) (t : Int) : ({ setD c m with more := t } : Crd).direct ++ m.drop 5 = m := by
  obtain ⟨a, b, c', d, e, r, rfl, _⟩ := take5 hl
  rfl

/-- what a card with a map comes to -/
structure Kep (node : Int) (X : VS) (c : Crd) (m : List Int) (r : Crd × Int × VS) : Prop where
  e : r.2.1 = 0
  c_ : r.1 = { setD c m with more := r.1.more }
  mor : r.1.more = -1 ↔ (m.drop 5).any usedB = false
  map : mapOf r.2.2.now r.1 = some m
  wk : Wk r.2.2.now node r.1.more m
  fr : Fr node X.now r.2.2.now
  by_ : ∀ p, p < 2688 → fb r.2.2.now m p = fb X.now m p
  x : r.2.2 = { X with now := r.2.2.now }

theorem keepP_plain {B : Int → UInt64} {node : Int} (hn : 0 ≤ node ∧ node < 24) {X : VS} {c : Crd} {m : List Int} (W : Wk X.now node c.more m) :
    ((keepP B X node c m).2.1 = 9 ∧ ¬ Alone B node X ∧ c.more = -1 ∧ (m.drop 5).any usedB = true) ∨ Kep node X c m (keepP B X node c m) := by
  have hl := W.len
  unfold keepP
  rw [if_pos ⟨hn, hl, W.drops⟩]
  by_cases hd : (m.drop 5).any usedB = false
  · rw [if_pos hd]
    have hmap : ∀ now, mapOf now { setD c m with more := -1 } = some m := by
      intro now
      unfold mapOf
      rw [if_pos rfl]
      have : m.drop 5 = List.replicate 16 (-1) := by
        rw [List.eq_replicate_iff]
        refine ⟨by simp [hl], fun x hx => ?_⟩
        have := List.any_eq_false.1 hd x hx
        simp [usedB] at this; exact this
      rw [← this]
      exact congrArg some (setD_dir c hl _)
    right
    by_cases hc : c.more = -1
    · rw [if_pos hc]
      rw [hc] at W
      exact ⟨rfl, rfl, ⟨fun _ => hd, fun _ => rfl⟩, hmap _, W, Fr.refl _ _, fun _ _ => rfl, rfl⟩
    · rw [if_neg hc]
      obtain ⟨hk, ho, W1, F1, B1⟩ := W.drop_more hn hc
      have hdr : dropP X c.more = (0, { X with now := upd X.now (200 + c.more) 0 }) := by
        unfold dropP
        rw [if_pos hk, if_neg (by rw [ho]; exact w64_ne hn)]
      rw [hdr]
      simp only [if_true]
      exact ⟨rfl, rfl, ⟨fun _ => hd, fun _ => rfl⟩, hmap _, W1, F1, B1, rfl⟩
  · rw [if_neg hd]
    have hw16 : ((m.drop 5).map fun n => w64 (n + 1)).length = 16 := by simp [hl]
    have hm5 : ∀ x ∈ m.drop 5, -1 ≤ x ∧ x < 96 := by
      intro x hx
      have := W.rng x (List.mem_cons_of_mem _ (List.mem_of_mem_drop hx))
      unfold blkOk at this; omega
    have hmap : ∀ now k, 0 ≤ k → k < 96 → mapOf (putBlk now k ((m.drop 5).map fun n => w64 (n + 1))) { setD c m with more := k } = some m := by
      intro now k k0 k1
      unfold mapOf
      show (if k = -1 then _ else if 0 ≤ k ∧ k < 96 ∧ (moreL (putBlk _ k _) k).all _ = true ∧ ((moreL (putBlk _ k _) k).map convW).any usedB = true then some (_ ++ (moreL (putBlk _ k _) k).map convW) else none) = some m
      rw [if_neg (by omega), more_put _ _ hw16, conv_back hm5, if_pos]
      · exact congrArg some (setD_dir c hl _)
      · refine ⟨k0, k1, ?_, by simpa using hd⟩
        rw [List.all_map, List.all_eq_true]
        intro x hx
        simp only [Function.comp]
        exact decide_eq_true (w64_small (hm5 x hx)).2
    by_cases hc : c.more = -1
    · rw [if_pos hc]
      rw [hc] at W
      rcases take_facts (B := B) (X := X) hn with ⟨e0, k0, k1, kn, kx⟩ | ⟨e9, kx, kf⟩
      · right
        have hk : 0 ≤ (takeP B X node).1 ∧ (takeP B X node).1 < 96 := ⟨k0, k1⟩
        obtain ⟨W1, F1, B1⟩ := W.take_more hn hk kn
        obtain ⟨W2, F2, B2⟩ := W1.putMore (ws := (m.drop 5).map fun n => w64 (n + 1)) (by omega) (by omega)
        simp only [e0, if_true, if_pos hk, kx]
        refine ⟨rfl, rfl, ⟨fun h => ?_, fun h => absurd h hd⟩, hmap _ _ k0 k1, W2, F1.trans F2 (w64_ne hn), fun p hp => (B2 p hp).trans (B1 p hp), rfl⟩
        have h' : (takeP B X node).1 = -1 := h
        omega
      · left
        simp only [e9]
        exact ⟨by simp, fun A => take_alone hn W A kf, hc, by simpa using hd⟩
    · rw [if_neg hc]
      right
      have hk : 0 ≤ c.more ∧ c.more < 96 := by
        rcases W.rng c.more List.mem_cons_self with h | h
        · exact absurd h hc
        · exact h
      obtain ⟨W2, F2, B2⟩ := W.putMore (ws := (m.drop 5).map fun n => w64 (n + 1)) (by omega) hc
      simp only [if_true, if_pos hk]
      exact ⟨rfl, rfl, ⟨fun h => absurd h hc, fun h => absurd h hd⟩, hmap _ _ hk.1 hk.2, W2, F2, B2, rfl⟩

/-- a file: its card over words has a map, and its bytes are these -/
structure FileI (now : Int → UInt64) (node : Int) (c : Crd) (m : List Int) (s : List UInt8) : Prop where
  map : mapOf now c = some m
  wk : Wk now node c.more m
  kind : (c.kind = 1 ∨ c.kind = 3) ∧ 0 ≤ c.links ∧ c.links ≤ 255
  size : c.size = (s.length : Int)
  fits : s.length ≤ 2688
  by_ : ∀ p, p < 2688 → fb now m p = s[p]?.getD 0
  hol : ∀ j, j < 21 → s.length ≤ 128 * j → m[j]?.getD (-1) = -1
  mor : c.more = -1 ↔ (m.drop 5).any usedB = false

theorem mapOf_direct {now : Int → UInt64} {c : Crd} {m : List Int} (h : mapOf now c = some m) : ∀ x ∈ c.direct, x ∈ m := by
  intro x hx
  unfold mapOf at h
  split at h
  · have := Option.some.inj h; subst this; exact List.mem_append_left _ hx
  · split at h
    · have := Option.some.inj h; subst this; exact List.mem_append_left _ hx
    · cases h

theorem FileI.right {now : Int → UInt64} {node : Int} {c : Crd} {m : List Int} {s : List UInt8} (F : FileI now node c m s) : rightC c = true := by
  have hb : ∀ x, blkOk x → blockC x = true := by
    intro x hx; unfold blkOk at hx; simp [blockC]; omega
  have hd : c.direct.all blockC = true := List.all_eq_true.2 fun x hx => hb x (F.wk.rng x (List.mem_cons_of_mem _ (mapOf_direct F.map x hx)))
  have hs := F.size
  have hf := F.fits
  obtain ⟨hk, hl⟩ := F.kind
  unfold rightC
  rw [if_neg (by omega), hd, hb c.more (F.wk.rng _ List.mem_cons_self)]
  simp; omega
theorem FileI.ok {now : Int → UInt64} {node : Int} {c : Crd} {m : List Int} {s : List UInt8} (F : FileI now node c m s) : c.ok := by
  have hs := F.size
  have hf := F.fits
  obtain ⟨hk, hl⟩ := F.kind
  refine ⟨by unfold inI64; omega, by unfold inI64; omega, by unfold inI64; omega, fun x hx => ?_, ?_⟩
  · have := F.wk.rng x (List.mem_cons_of_mem _ (mapOf_direct F.map x hx))
    unfold blkOk at this; unfold inI64; omega
  · have := F.wk.rng _ List.mem_cons_self
    unfold blkOk at this; unfold inI64; omega
theorem FileI.okMap {now : Int → UInt64} {node : Int} {c : Crd} {m : List Int} {s : List UInt8} (F : FileI now node c m s) : okMap now c := by
  intro m' hm x hx
  rw [F.map] at hm
  have := Option.some.inj hm
  subst this
  exact F.wk.rng x (List.mem_cons_of_mem _ hx)

/-- the document's answer: bytes are written -/
def refWriteL (s : List UInt8) (at_ : Int) (data : List UInt8) : List UInt8 × Int :=
  if at_ < 0 ∨ 400 < data.length then ([], 1)
  else if data = [] then (s, 0)
  else if 2688 - (data.length : Int) < at_ then ([], 10)
  else ((s ++ zeros (at_.toNat + data.length - s.length)).take at_.toNat ++ data ++ (s ++ zeros (at_.toNat + data.length - s.length)).drop (at_.toNat + data.length), 0)

theorem zeros_get (n i : Nat) : (zeros n)[i]?.getD 0 = 0 := by
  unfold zeros
  rw [List.getElem?_replicate]
  split <;> rfl
theorem pad_get (s : List UInt8) (n i : Nat) : (s ++ zeros n)[i]?.getD 0 = s[i]?.getD 0 := by
  by_cases h : i < s.length
  · rw [List.getElem?_append_left h]
  · rw [List.getElem?_append_right (by omega), zeros_get, List.getElem?_eq_none (by omega)]; rfl

theorem refWrite_get (s : List UInt8) (a : Nat) (data : List UInt8) (p : Nat) :
    ((s ++ zeros (a + data.length - s.length)).take a ++ data ++ (s ++ zeros (a + data.length - s.length)).drop (a + data.length))[p]?.getD 0 = if a ≤ p ∧ p < a + data.length then data[p - a]?.getD 0 else s[p]?.getD 0 := by
  have hz : (zeros (a + data.length - s.length)).length = a + data.length - s.length := by simp [zeros]
  have hL : (s ++ zeros (a + data.length - s.length)).length ≥ a + data.length := by rw [List.length_append, hz]; omega
  have ht : ((s ++ zeros (a + data.length - s.length)).take a).length = a := by rw [List.length_take]; omega
  by_cases c1 : p < a
  · rw [List.append_assoc, List.getElem?_append_left (by omega), List.getElem?_take, if_pos c1, pad_get, if_neg (by omega)]
  · by_cases c2 : p < a + data.length
    · rw [List.getElem?_append_left (by rw [List.length_append]; omega), List.getElem?_append_right (by omega), ht, if_pos ⟨by omega, c2⟩]
    · rw [List.getElem?_append_right (by rw [List.length_append]; omega), List.length_append, ht, List.getElem?_drop, if_neg (by omega), show a + data.length + (p - (a + data.length)) = p by omega, pad_get]
theorem refWrite_len (s : List UInt8) (a : Nat) (data : List UInt8) :
    ((s ++ zeros (a + data.length - s.length)).take a ++ data ++ (s ++ zeros (a + data.length - s.length)).drop (a + data.length)).length = max s.length (a + data.length) := by
  have hz : (zeros (a + data.length - s.length)).length = a + data.length - s.length := by simp [zeros]
  simp only [List.length_append, List.length_take, List.length_drop, hz]
  omega

/-- what writing comes to -/
structure Wrote (node : Int) (X : VS) (m : List Int) (at_ : Int) (data s' : List UInt8) (r : Crd × Int × VS) (m' : List Int) : Prop where
  file : FileI r.2.2.now node r.1 m' s'
  fr : Fr node X.now r.2.2.now
  x : r.2.2 = { X with now := r.2.2.now }
  holes : ∀ j, j < 21 → (m'[j]?.getD (-1) = -1 ↔ m[j]?.getD (-1) = -1 ∧ ¬ (data ≠ [] ∧ at_.toNat / 128 ≤ j ∧ j < (at_.toNat + data.length + 127) / 128))

theorem writeP_plain {B : Int → UInt64} {node : Int} (hn : 0 ≤ node ∧ node < 24) {X : VS} {c : Crd} {m : List Int} {s : List UInt8} (F : FileI X.now node c m s) (at_ : Int) (data : List UInt8) :
    ((writeP B X node c at_ data).2.1 = 9 ∧ (refWriteL s at_ data).2 = 0 ∧ ¬ Alone B node X) ∨
    ((writeP B X node c at_ data).2.1 = (refWriteL s at_ data).2 ∧ ((refWriteL s at_ data).2 = 0 → ∃ m', Wrote node X m at_ data (refWriteL s at_ data).1 (writeP B X node c at_ data) m')) := by
  unfold writeP refWriteL
  by_cases h1 : at_ < 0 ∨ 400 < data.length
  · rw [if_pos (.inr h1), if_pos h1]
    exact .inr ⟨rfl, fun h => by cases h⟩
  · rw [if_neg (by rintro (x | x); exact x hn; exact h1 x), if_neg h1]
    by_cases h2 : data = []
    · rw [if_pos h2, if_pos h2, F.map]
      refine .inr ⟨rfl, fun _ => ⟨m, F, Fr.refl _ _, rfl, fun j hj => ⟨fun h => ⟨h, fun x => x.1 h2⟩, fun h => h.1⟩⟩⟩
    · rw [if_neg h2, if_neg h2]
      have hdl : 0 < data.length := by
        cases data with
        | nil => exact absurd rfl h2
        | cons x l => simp
      by_cases h3 : 2688 - (data.length : Int) < at_
      · rw [if_pos h3, if_pos h3]
        exact .inr ⟨rfl, fun h => by cases h⟩
      · rw [if_neg h3, if_neg h3, F.map]
        simp only
        obtain ⟨a, rfl⟩ : ∃ a : Nat, at_ = (a : Int) := ⟨at_.toNat, by omega⟩
        have hfit : a + data.length ≤ 2688 := by omega
        simp only [Int.toNat_natCast]
        rcases writeL_plain (B := B) (a := a) (data := data) hn ((a + data.length + 127) / 128 - a / 128) (a / 128) X m F.wk (by omega) (fun _ => by omega) (by omega) with ⟨e, hno⟩ | R
        · left
          rw [e]
          exact ⟨by simp, trivial, hno⟩
        · rw [R.e]
          simp only [if_true]
          have hc : ({ c with size := max c.size ((a : Int) + data.length) } : Crd).more = c.more := rfl
          rcases keepP_plain (B := B) (c := { c with size := max c.size ((a : Int) + data.length) }) hn (hc ▸ R.wk) with ⟨e, hno, _⟩ | K
          · left
            exact ⟨e, trivial, fun A => hno (A.on R.fr (w64_ne hn) (by rw [R.x]))⟩
          · right
            refine ⟨K.e, fun _ => ⟨(writeL B node a data ((a + data.length + 127) / 128 - a / 128) (a / 128) X m).2.2, ?_, R.fr.trans K.fr (w64_ne hn), by rw [K.x, R.x], fun j hj => ?_⟩⟩
            · have hcc := K.c_
              refine ⟨K.map, K.wk, ?_, ?_, ?_, fun p hp => ?_, fun j hj hs => ?_, K.mor⟩
              · rw [hcc]; exact F.kind
              · rw [hcc, refWrite_len]
                have := F.size
                show max c.size ((a : Int) + data.length) = _
                rw [this]; omega
              · rw [refWrite_len]; have := F.fits; omega
              · rw [K.by_ p hp, R.by_ p hp, refWrite_get, F.by_ p hp]
                by_cases hc : a ≤ p ∧ p < a + data.length
                · rw [if_pos hc, if_pos ⟨by omega, by omega, hc⟩]
                · rw [if_neg hc, if_neg (fun h => hc h.2.2)]
              · rw [refWrite_len] at hs
                exact (R.holes j hj).2 ⟨F.hol j hj (by omega), by omega⟩
            · rw [R.holes j hj]
              constructor
              · rintro ⟨x, y⟩; exact ⟨x, fun z => y ⟨z.2.1, by omega⟩⟩
              · rintro ⟨x, y⟩; exact ⟨x, fun z => y ⟨h2, z.1, by omega⟩⟩
end Go.Proofs.YtkdmlieckkdmgaaGreatDoor
/-
  Layers 4 and 1: names; their hash; what of package strings they use.
-/
set_option linter.all false
set_option maxRecDepth 100000
set_option maxHeartbeats 1000000
namespace Go.Proofs.YtkdmlieckkdmgaaGreatDoor
open Go Go.Eng

theorem bs_eq (x y : List UInt8) : ((ByteArray.mk x.toArray).toList == (ByteArray.mk y.toArray).toList) = decide (x = y) := by
  rw [toList_beq]
  refine decide_eq_decide.2 ⟨fun e => ?_, fun e => by rw [e]⟩
  have := congrArg (fun b : ByteArray => b.data.toList) e
  simpa using this
theorem bs_size (l : List UInt8) : (ByteArray.mk l.toArray).size = l.length := by show l.toArray.size = _; simp
theorem bs_get (l : List UInt8) (i : Nat) : byteN ⟨l.toArray⟩ i = ((l[i]?.getD 0).toNat : Int) := by simp [byteN]

theorem slIndexByte_spec (l : List UInt8) (c : UInt8) (h : Heap) : CallH Tryz.prog 242 [.string ⟨l.toArray⟩, .int .u8 (c.toNat : Int)] h (fun v h' => Keeps [] h h' ∧ v = .int .i64 (Lib.indexByte l c)) := by
  refine call_of hmix Tryz.func242 rfl ok242 (by simp [Tryz.f242]) ?_
  conv => whnf
  refine SemR.ext rfl (by kernel_rfl) (by kernel_rfl) (by kernel_rfl) (e := Extern.BytealgIndexByte.indexByte) (by kernel_rfl) (SemR.pure (fun w _ => Lib.run_indexByteString (P := Tryz.prog) _ _ w) ?_)
  conv => whnf
  refine ⟨Keeps.refl _ _, ?_⟩
  simp
theorem indexByte_spec (l : List UInt8) (c : UInt8) (h : Heap) : CallH Tryz.prog 217 [.string ⟨l.toArray⟩, .int .u8 (c.toNat : Int)] h (fun v h' => Keeps [] h h' ∧ v = .int .i64 (Lib.indexByte l c)) := by
  refine call_of hmix Tryz.func217 rfl ok217 (by simp [Tryz.f217]) ?_
  conv => whnf
  refine CallR.i (slIndexByte_spec l c h) fun v h1 k1 hv => ?_
  subst hv
  conv => whnf
  exact ⟨k1, rfl⟩

def signB (c : UInt8) : Bool := (decide (97 ≤ c.toNat) && decide (c.toNat ≤ 122)) || (decide (48 ≤ c.toNat) && decide (c.toNat ≤ 57)) || (decide (c = 46) || (decide (c = 45) || decide (c = 95)))

theorem sign_idx : ∀ c : UInt8, decide (0 ≤ Lib.indexByte [46, 45, 95] c) = (decide (c = 46) || (decide (c = 45) || decide (c = 95))) := by
  intro c
  simp only [Lib.indexByte]
  by_cases h1 : (46 : UInt8) = c
  · subst h1; decide
  by_cases h2 : (45 : UInt8) = c
  · subst h2; decide
  by_cases h3 : (95 : UInt8) = c
  · subst h3; decide
  have g1 : ¬ c = 46 := fun e => h1 e.symm
  have g2 : ¬ c = 45 := fun e => h2 e.symm
  have g3 : ¬ c = 95 := fun e => h3 e.symm
  simp [h1, h2, h3, g1, g2, g3]

theorem sign_spec (c : UInt8) (h : Heap) : CallH Tryz.prog 165 [.int .u8 (c.toNat : Int)] h (fun v h' => Keeps [] h h' ∧ v = .bool (signB c)) := by
  refine call_of hmix Tryz.func165 rfl ok165 (by simp [Tryz.f165]) ?_
  conv => whnf
  refine MeetR.pass ?_
  conv => whnf
  first | refine IfR.i (fun h1 => ?_) (fun h1 => ?_) | (refine MeetR.pass ?_; (conv => whnf); refine IfR.i (fun h1 => ?_) (fun h1 => ?_))
  · conv => whnf
    refine IfR.t h1 ?_
    conv => whnf
    refine ⟨Keeps.refl _ _, ?_⟩
    have h2 : 97 ≤ c.toNat ∧ c.toNat ≤ 122 := by simp [bif_and] at h1; omega
    simp [signB, h2]
  · conv => whnf
    first | refine IfR.i (fun h3 => ?_) (fun h3 => ?_) | (refine MeetR.pass ?_; (conv => whnf); refine IfR.i (fun h3 => ?_) (fun h3 => ?_))
    · conv => whnf
      refine ⟨Keeps.refl _ _, ?_⟩
      have h2 : 48 ≤ c.toNat ∧ c.toNat ≤ 57 := by simp [bif_and] at h3; omega
      simp [signB, h2]
    · conv => whnf
      refine CallR.i (indexByte_spec [46, 45, 95] c h) fun v h4 k4 hv => ?_
      subst hv
      conv => whnf
      refine ⟨k4, ?_⟩
      have h2 : ¬ (97 ≤ c.toNat ∧ c.toNat ≤ 122) := by simp [bif_and] at h1; omega
      have h5 : ¬ (48 ≤ c.toNat ∧ c.toNat ≤ 57) := by simp [bif_and] at h3; omega
      have e : signB c = (decide (c = 46) || (decide (c = 45) || decide (c = 95))) := by
        unfold signB
        rw [← Bool.decide_and, ← Bool.decide_and, decide_eq_false h2, decide_eq_false h5]; rfl
      rw [e, ← sign_idx]

/-- may a name be? -/
def nameB (l : List UInt8) : Bool := l.all signB && (decide (l ≠ []) && decide (l.length ≤ 14) && decide (l ≠ [46]) && decide (l ≠ [46, 46]))

theorem right4_spec (l : List UInt8) (hl : l.length ≤ 140737488351232) (h : Heap) : CallH Tryz.prog 120 [.string ⟨l.toArray⟩] h (fun v h' => Keeps [] h h' ∧ v = .bool (nameB l)) := by
  refine call_of hmix Tryz.func120 rfl ok120 (by simp [Tryz.f120]) ?_
  conv => whnf
  refine LoopR.on [0, 5, 6] [] (fun i : Nat => [(0, .v (.string ⟨l.toArray⟩)), (5, .v (.int .i64 (l.length : Int))), (6, .v (.int .i64 (i : Int)))]) (fun _ => []) (fun i h' => i ≤ l.length ∧ Keeps [] h h' ∧ (l.take i).all signB = true) (fun i => l.length - i) 0 ?_ ?_
  · conv => whnf
    refine ⟨0, rfl, ?_, rfl, Nat.zero_le _, Keeps.refl _ _, by simp⟩
    rw [bs_size]; rfl
  · rintro i h1 ⟨hi, k1, ha⟩
    conv => whnf
    refine IfR.i (fun hd => ?_) (fun hd => ?_)
    · have hi1 : i < l.length := by simp at hd; omega
      conv => whnf
      refine IdxR.i i rfl (by rw [bs_size]; exact hi1) ?_
      conv => whnf
      rw [bs_get, List.getElem?_eq_getElem hi1, Option.getD_some]
      refine CallR.i (sign_spec l[i] h1) fun v h2 k2 hv => ?_
      subst hv
      have htk : (l.take (i + 1)).all signB = signB l[i] := by
        rw [List.take_succ_eq_append_getElem hi1, List.all_append, ha]; simp
      conv => whnf
      refine IfR.i (fun hs => ?_) (fun hs => ?_)
      · conv => whnf
        refine ⟨k1.trans k2, ?_⟩
        have hf : l.all signB = false := by
          have : signB l[i] = false := by simpa using hs
          rw [← Bool.not_eq_true, List.all_eq_true]
          intro hx
          rw [hx _ (List.getElem_mem hi1)] at this; cases this
        simp [nameB, hf]
      · conv => whnf
        refine ⟨l.length - (i + 1), by omega, ?_⟩
        conv => whnf
        refine ⟨i + 1, rfl, by rw [wrapN (n := i + 1) (by simp) (by omega)], rfl, by omega, k1.trans k2, ?_⟩
        rw [htk]; simpa using hs
    · have hi1 : i = l.length := by simp at hd; omega
      subst hi1
      rw [List.take_length] at ha
      conv => whnf
      refine ⟨k1, ?_⟩
      unfold nameB
      have hc : decide ((l.length : Int) ≤ 14) = decide (l.length ≤ 14) := decide_eq_decide.2 (by omega)
      have e0 : (ByteArray.mk #[]) = ⟨([] : List UInt8).toArray⟩ := rfl
      have e1 : (ByteArray.mk #[46]) = ⟨([46] : List UInt8).toArray⟩ := rfl
      have e2 : (ByteArray.mk #[46, 46]) = ⟨([46, 46] : List UInt8).toArray⟩ := rfl
      rw [ha, bs_size, hc, e0, e1, e2, bs_eq, bs_eq, bs_eq]
      simp only [bif_and]
      by_cases h0 : l = [] <;> by_cases h1 : l.length ≤ 14 <;> by_cases h2 : l = [46] <;> by_cases h3 : l = [46, 46] <;> simp_all

/-! ### Hash -/

def hashL (l : List UInt8) : UInt64 := l.foldl (fun h c => (h ^^^ c.toUInt64) * 1099511628211) 14695981039346656037

theorem hash_val (a : UInt64) (c : UInt8) : Value.int .u64 (IntKind.u64.wrap (IntKind.u64.wrap (((BitVec.ofInt IntKind.u64.bits (a.toNat : Int) ^^^ BitVec.ofInt IntKind.u64.bits (IntKind.u64.wrap (c.toNat : Int))).toNat : Nat)) * 1099511628211)) = wv ((a ^^^ c.toUInt64) * 1099511628211) := by
  have hc := c.toNat_lt
  have ha := a.toNat_lt
  have e1 : IntKind.u64.wrap (c.toNat : Int) = (c.toNat : Int) := by rw [wrap_u64']; omega
  have hx : (BitVec.ofInt IntKind.u64.bits (a.toNat : Int) ^^^ BitVec.ofInt IntKind.u64.bits (c.toNat : Int)).toNat = (a ^^^ c.toUInt64).toNat := by
    have e2 : BitVec.ofInt IntKind.u64.bits (a.toNat : Int) = a.toBitVec := by
      apply BitVec.eq_of_toNat_eq
      simp [IntKind.bits]
    have e3 : BitVec.ofInt IntKind.u64.bits (c.toNat : Int) = c.toUInt64.toBitVec := by
      apply BitVec.eq_of_toNat_eq
      simp [IntKind.bits]
    rw [e2, e3]; rfl
  rw [e1, hx]
  unfold wv
  refine congrArg (Value.int .u64) ?_
  have hl := (a ^^^ c.toUInt64).toNat_lt
  rw [wrap_u64', wrap_u64', UInt64.toNat_mul]
  have : (UInt64.toNat 1099511628211) = 1099511628211 := rfl
  rw [this]
  omega

theorem hash_spec (l : List UInt8) (hl : l.length ≤ 140737488351232) (h : Heap) : CallH Tryz.prog 201 [.string ⟨l.toArray⟩] h (fun v h' => Keeps [] h h' ∧ v = wv (hashL l)) := by
  refine call_of hmix Tryz.func201 rfl ok201 (by simp [Tryz.f201]) ?_
  conv => whnf
  refine SemR.bytesOf rfl rfl rfl fun b2 c2 h2 r2 fz2 e2 s2 hc2 o2 k2 => ?_
  conv => whnf
  refine LoopR.on [3, 7, 8, 9] [] (fun i : Nat => [(3, .v (wv (hashL (l.take i)))), (7, .v (.slice (some ⟨b2, 0, none⟩) l.length c2)), (8, .v (.int .i64 (l.length : Int))), (9, .v (.int .i64 (i : Int)))]) (fun _ => []) (fun i h' => i ≤ l.length ∧ Keeps [] h2 h') (fun i => l.length - i) 0 ?_ ?_
  · conv => whnf
    refine ⟨0, rfl, ?_, rfl, Nat.zero_le _, Keeps.refl _ _⟩
    rw [bs_size, List.take_zero]; rfl
  · rintro i h3 ⟨hi, k3⟩
    conv => whnf
    refine IfR.i (fun hd => ?_) (fun hd => ?_)
    · have hi1 : i < l.length := by simp at hd; omega
      conv => whnf
      refine IdxS.i i rfl hi1 rfl ?_
      conv => whnf
      refine LoadR.o (v := .int .u8 (l[i].toNat : Int)) (k3.obj o2 (by simp)) ?_ ?_
      · rw [nth_eq]
        show (bytesV ⟨l.toArray⟩ ++ r2)[0 + i * 1]? = _
        rw [show 0 + i * 1 = i by omega, List.getElem?_append_left (by rw [bytesV_len, bs_size]; exact hi1)]
        simp [bytesV, hi1]
      conv => whnf
      refine ⟨l.length - (i + 1), by omega, ?_⟩
      conv => whnf
      refine ⟨i + 1, rfl, ?_, rfl, by omega, k3⟩
      rw [wrapN (n := i + 1) (by simp) (by omega), hash_val]
      have e : hashL (l.take (i + 1)) = (hashL (l.take i) ^^^ l[i].toUInt64) * 1099511628211 := by
        unfold hashL
        rw [List.take_succ_eq_append_getElem hi1, List.foldl_append]; rfl
      rw [e]
    · have hi1 : i = l.length := by simp at hd; omega
      subst hi1
      conv => whnf
      rw [List.take_length]
      exact ⟨k2.trans k3, rfl⟩

def bucketL (l : List UInt8) : Nat := (hashL l).toNat % 8
theorem bucketL_lt (l : List UInt8) : bucketL l < 8 := Nat.mod_lt _ (by decide)

theorem bucket_spec (l : List UInt8) (hl : l.length ≤ 140737488351232) (h : Heap) : CallH Tryz.prog 153 [.string ⟨l.toArray⟩, .int .i64 8] h (fun v h' => Keeps [] h h' ∧ v = .int .i64 (bucketL l : Int)) := by
  refine call_of hmix Tryz.func153 rfl ok153 (by simp [Tryz.f153]) ?_
  conv => whnf
  refine IfR.f (by decide) ?_
  conv => whnf
  refine CallR.i (hash_spec l hl h) fun v h1 k1 hv => ?_
  subst hv
  conv => whnf
  refine Need.i (by decide) ?_
  conv => whnf
  refine ⟨k1, ?_⟩
  have hlt := (hashL l).toNat_lt
  have e8 : IntKind.u64.wrap 8 = 8 := by decide
  rw [e8, Int.tmod_eq_emod_of_nonneg (by omega)]
  unfold bucketL
  congr 1
  rw [wrapI (by omega) (by omega)]
  omega
end Go.Proofs.YtkdmlieckkdmgaaGreatDoor
/-
  Functions of package strings; a directory's entries.
-/
set_option linter.all false
set_option maxRecDepth 100000
set_option maxHeartbeats 1000000
namespace Go.Proofs.YtkdmlieckkdmgaaGreatDoor
open Go Go.Eng

/-! ### Cut -/

def nz (c : UInt8) : Bool := decide (c ≠ 0)
def cutA (l : List UInt8) : List UInt8 := l.takeWhile nz
def cutB (l : List UInt8) : List UInt8 := (l.dropWhile nz).drop 1

theorem idx_cut : ∀ l : List UInt8, (Lib.indexByte l 0 = -1 ∧ cutA l = l ∧ cutB l = []) ∨ (∃ i : Nat, i < l.length ∧ Lib.indexByte l 0 = (i : Int) ∧ l.take i = cutA l ∧ l.drop (i + 1) = cutB l)
  | [] => .inl ⟨rfl, rfl, rfl⟩
  | c :: l => by
    by_cases hc : c = 0
    · subst hc
      exact .inr ⟨0, by simp, by simp [Lib.indexByte], by simp [cutA, nz], by simp [cutB, nz]⟩
    · have hb : (c == 0) = false := by simpa using hc
      have hn : nz c = true := by simpa [nz] using hc
      rcases idx_cut l with ⟨h1, h2, h3⟩ | ⟨i, h1, h2, h3, h4⟩
      · refine .inl ⟨by simp [Lib.indexByte, hc, h1], ?_, ?_⟩
        · unfold cutA at h2 ⊢; rw [List.takeWhile_cons, if_pos hn, h2]
        · unfold cutB at h3 ⊢; rw [List.dropWhile_cons, if_pos hn]; exact h3
      · refine .inr ⟨i + 1, by simpa using h1, ?_, ?_, ?_⟩
        · have : ¬ ((i : Int) == -1) = true := by simp
          simp [Lib.indexByte, hc, h2]
        · unfold cutA at h3 ⊢; rw [List.takeWhile_cons, if_pos hn, List.take_succ_cons, h3]
        · unfold cutB at h4 ⊢; rw [List.dropWhile_cons, if_pos hn, List.drop_succ_cons]; exact h4

theorem cutA_len (l : List UInt8) : (cutA l).length ≤ l.length := (List.takeWhile_prefix _).length_le

theorem index_spec (l : List UInt8) (h : Heap) : CallH Tryz.prog 225 [.string ⟨l.toArray⟩, .string ⟨#[0]⟩] h (fun v h' => Keeps [] h h' ∧ v = .int .i64 (Lib.indexByte l 0)) := by
  refine call_of hmix Tryz.func225 rfl ok225 (by simp [Tryz.f225]) ?_
  conv => whnf
  have e0 : (ByteArray.mk #[0]) = ⟨([0] : List UInt8).toArray⟩ := rfl
  refine IfR.i (fun h1 => ?_) (fun h1 => ?_)
  · conv => whnf
    refine ⟨Keeps.refl _ _, ?_⟩
    have : l = [0] := by
      have h1 : ((ByteArray.mk #[0]).toList == (ByteArray.mk l.toArray).toList) = true := h1
      rw [e0, bs_eq] at h1
      simpa [eq_comm] using h1
    subst this; rfl
  · conv => whnf
    refine IfR.t rfl ?_
    conv => whnf
    refine IdxR.i 0 rfl (by decide) ?_
    conv => whnf
    refine CallR.i (slIndexByte_spec l 0 h) fun v h1 k1 hv => ?_
    subst hv
    conv => whnf
    exact ⟨k1, rfl⟩

theorem bs_extract (l : List UInt8) (i j : Nat) : (ByteArray.extract ⟨l.toArray⟩ i j) = ⟨((l.take j).drop i).toArray⟩ := ba_extract l i j

theorem slcut_spec (l : List UInt8) (hl : l.length ≤ 140737488351232) (h : Heap) : CallH Tryz.prog 193 [.string ⟨l.toArray⟩, .string ⟨#[0]⟩] h (fun v h' => Keeps [] h h' ∧ ∃ b, v = .tuple #[.string ⟨(cutA l).toArray⟩, .string ⟨(cutB l).toArray⟩, .bool b]) := by
  refine call_of hmix Tryz.func193 rfl ok193 (by simp [Tryz.f193]) ?_
  conv => whnf
  refine CallR.i (index_spec l h) fun v h1 k1 hv => ?_
  subst hv
  rcases idx_cut l with ⟨g1, g2, g3⟩ | ⟨i, g0, g1, g2, g3⟩
  · conv => whnf
    refine IfR.f (by rw [g1]; rfl) ?_
    conv => whnf
    rw [g2, g3]
    exact ⟨k1, _, rfl⟩
  · conv => whnf
    refine IfR.t (by rw [g1]; simp) ?_
    conv => whnf
    refine SliceR.i 0 i rfl (by rw [g1]) (Nat.zero_le _) (by rw [bs_size]; omega) ?_
    conv => whnf
    refine SliceR.i (i + 1) l.length (by rw [g1, wrapN (n := i + 1) (by simp [ByteArray.size]) (by omega)]) (by rw [bs_size]) (by omega) (by rw [bs_size]; omega) ?_
    conv => whnf
    refine ⟨k1, true, ?_⟩
    rw [bs_extract, bs_extract, List.drop_zero, List.take_length, g2, g3]
theorem cut0_spec (l : List UInt8) (hl : l.length ≤ 140737488351232) (h : Heap) : CallH Tryz.prog 151 [.string ⟨l.toArray⟩, .string ⟨#[0]⟩] h (fun v h' => Keeps [] h h' ∧ ∃ b, v = .tuple #[.string ⟨(cutA l).toArray⟩, .string ⟨(cutB l).toArray⟩, .bool b]) := by
  refine call_of hmix Tryz.func151 rfl ok151 (by simp [Tryz.f151]) ?_
  conv => whnf
  refine CallR.i (slcut_spec l hl h) fun v h1 k1 hv => ?_
  obtain ⟨b, rfl⟩ := hv
  conv => whnf
  exact ⟨k1, b, rfl⟩

/-! ### Trim -/

def ez (c : UInt8) : Bool := decide (c = 0)
def trimR (l : List UInt8) : List UInt8 := (l.reverse.dropWhile ez).reverse
def trimZ (l : List UInt8) : List UInt8 := (trimR l).dropWhile ez

theorem trimR_snoc (l : List UInt8) (c : UInt8) : trimR (l ++ [c]) = if c = 0 then trimR l else l ++ [c] := by
  unfold trimR
  rw [List.reverse_append]
  simp only [List.reverse_cons, List.reverse_nil, List.nil_append, List.singleton_append, List.dropWhile_cons]
  by_cases h : c = 0
  · simp [h, ez]
  · simp [h, ez]

theorem dw_nil {α : Type} (p : α → Bool) : ∀ l : List α, l.dropWhile p = [] ↔ l.all p = true
  | [] => by simp
  | x :: l => by
    rw [List.dropWhile_cons, List.all_cons]
    by_cases h : p x = true
    · rw [if_pos h, dw_nil p l, h]; simp
    · rw [if_neg h]; simp [h]

theorem trimZ_nil (l : List UInt8) : trimZ l = [] ↔ l.all ez = true := by
  unfold trimZ
  rw [dw_nil]
  unfold trimR
  rw [List.all_reverse]
  have : ∀ m : List UInt8, ((m.dropWhile ez).all ez = true) ↔ m.all ez = true := by
    intro m
    induction m with
    | nil => simp
    | cons x m ih =>
      rw [List.dropWhile_cons]
      split
      · rename_i h; rw [ih, List.all_cons, h]; simp
      · rfl
  rw [this, List.all_reverse]

theorem trimRight_spec (l : List UInt8) (hl : l.length ≤ 140737488351232) (h : Heap) : CallH Tryz.prog 195 [.string ⟨l.toArray⟩, .int .u8 0] h (fun v h' => Keeps [] h h' ∧ v = .string ⟨(trimR l).toArray⟩) := by
  refine call_of hmix Tryz.func195 rfl ok195 (by simp [Tryz.f195]) ?_
  conv => whnf
  refine LoopR.on [0, 1] [] (fun i : Nat => [(0, .v (.string ⟨(l.take i).toArray⟩)), (1, .v (.int .u8 0))]) (fun _ => []) (fun i h' => i ≤ l.length ∧ Keeps [] h h' ∧ trimR (l.take i) = trimR l) (fun i => i) l.length ?_ ?_
  · refine ⟨l.length, rfl, ?_, rfl, Nat.le_refl _, Keeps.refl _ _, by rw [List.take_length]⟩
    rw [List.take_length]
  · rintro i h1 ⟨hi, k1, ht⟩
    have hlen : (l.take i).length = i := by rw [List.length_take]; omega
    by_cases h0 : i = 0
    · subst h0
      conv => whnf
      refine IdxR.u 0 (fun hx => by simp [ByteArray.size] at hx) ?_
      conv => whnf
      refine IfR.f (by simp [ByteArray.size]) ?_
      conv => whnf
      refine ⟨k1, ?_⟩
      rw [← ht]; rfl
    · have hw : IntKind.i64.wrap (((ByteArray.mk (l.take i).toArray).size : Int) - 1) = ((i - 1 : Nat) : Int) := by
        rw [bs_size, hlen, wrapI (by omega) (by omega)]; omega
      have hg : l.take i = l.take (i - 1) ++ [l[i - 1]'(by omega)] := by
        rw [← List.take_succ_eq_append_getElem (by omega)]; congr 1; omega
      conv => whnf
      refine IdxR.u (i - 1) (fun _ => ⟨hw, by rw [bs_size]; omega⟩) ?_
      have hb : byteN ⟨(l.take i).toArray⟩ (i - 1) = ((l[i - 1]'(by omega)).toNat : Int) := by
        rw [bs_get, List.getElem?_eq_getElem (by omega), Option.getD_some, List.getElem_take]
      conv => whnf
      refine IfR.i (fun hd => ?_) (fun hd => ?_)
      · have hz : l[i - 1]'(by omega) = 0 := by
          have : byteN ⟨(l.take i).toArray⟩ (i - 1) = 0 := by simp [bif_and] at hd; exact hd.2
          rw [hb] at this
          exact UInt8.toNat_inj.1 (by have h2 : (UInt8.toNat 0) = 0 := rfl; omega)
        conv => whnf
        refine SliceR.i 0 (i - 1) rfl hw (Nat.zero_le _) (by rw [bs_size]; omega) ?_
        conv => whnf
        refine ⟨i - 1, by omega, ?_⟩
        conv => whnf
        refine ⟨i - 1, rfl, ?_, rfl, by omega, k1, ?_⟩
        · rw [bs_extract, List.drop_zero, List.take_take, Nat.min_eq_left (by omega)]
        · rw [← ht, hg, trimR_snoc, if_pos hz]
      · conv => whnf
        refine ⟨k1, ?_⟩
        have hz : ¬ l[i - 1]'(by omega) = 0 := by
          intro e
          have : byteN ⟨(l.take i).toArray⟩ (i - 1) = 0 := by rw [hb, e]; rfl
          have hpos : 0 < (ByteArray.mk (l.take i).toArray).size := by rw [bs_size, hlen]; omega
          have hp : decide (((ByteArray.mk (l.take i).toArray).size : Int) > 0) = true := decide_eq_true (by omega)
          rw [hp, this] at hd
          cases hd
        rw [← ht, hg, trimR_snoc, if_neg hz]

theorem trimLeft_spec (l : List UInt8) (hl : l.length ≤ 140737488351232) (h : Heap) : CallH Tryz.prog 194 [.string ⟨l.toArray⟩, .int .u8 0] h (fun v h' => Keeps [] h h' ∧ v = .string ⟨(l.dropWhile ez).toArray⟩) := by
  refine call_of hmix Tryz.func194 rfl ok194 (by simp [Tryz.f194]) ?_
  conv => whnf
  refine LoopR.on [0, 1] [] (fun i : Nat => [(0, .v (.string ⟨(l.drop i).toArray⟩)), (1, .v (.int .u8 0))]) (fun _ => []) (fun i h' => i ≤ l.length ∧ Keeps [] h h' ∧ (l.drop i).dropWhile ez = l.dropWhile ez) (fun i => l.length - i) 0 ?_ ?_
  · refine ⟨0, rfl, ?_, rfl, Nat.zero_le _, Keeps.refl _ _, by rw [List.drop_zero]⟩
    rw [List.drop_zero]
  · rintro i h1 ⟨hi, k1, ht⟩
    have hlen : (l.drop i).length = l.length - i := by rw [List.length_drop]
    by_cases h0 : i = l.length
    · have hnil : l.drop i = [] := List.drop_eq_nil_of_le (by omega)
      rw [hnil] at ht ⊢
      conv => whnf
      refine IdxR.u 0 (fun hx => by simp [ByteArray.size] at hx) ?_
      conv => whnf
      refine IfR.f (by simp [ByteArray.size]) ?_
      conv => whnf
      refine ⟨k1, ?_⟩
      rw [← ht]; rfl
    · have hg : l.drop i = l[i]'(by omega) :: l.drop (i + 1) := List.drop_eq_getElem_cons (by omega)
      conv => whnf
      refine IdxR.u 0 (fun _ => ⟨rfl, by rw [bs_size]; omega⟩) ?_
      have hb : byteN ⟨(l.drop i).toArray⟩ 0 = ((l[i]'(by omega)).toNat : Int) := by
        rw [bs_get, hg]; rfl
      conv => whnf
      refine IfR.i (fun hd => ?_) (fun hd => ?_)
      · have hz : l[i]'(by omega) = 0 := by
          have : byteN ⟨(l.drop i).toArray⟩ 0 = 0 := by simp [bif_and] at hd; exact hd.2
          rw [hb] at this
          exact UInt8.toNat_inj.1 (by have h2 : (UInt8.toNat 0) = 0 := rfl; omega)
        conv => whnf
        refine SliceR.i 1 (l.length - i) rfl (by rw [bs_size, hlen]) (by omega) (by rw [bs_size]; omega) ?_
        conv => whnf
        refine ⟨l.length - (i + 1), by omega, ?_⟩
        conv => whnf
        refine ⟨i + 1, rfl, ?_, rfl, by omega, k1, ?_⟩
        · rw [bs_extract, ← hlen, List.take_length, List.drop_drop]
        · rw [← ht, hg, List.dropWhile_cons, if_pos (by simp [ez, hz])]
      · conv => whnf
        refine ⟨k1, ?_⟩
        have hz : ¬ l[i]'(by omega) = 0 := by
          intro e
          have : byteN ⟨(l.drop i).toArray⟩ 0 = 0 := by rw [hb, e]; rfl
          have hpos : 0 < (ByteArray.mk (l.drop i).toArray).size := by rw [bs_size, hlen]; omega
          have hp : decide (((ByteArray.mk (l.drop i).toArray).size : Int) > 0) = true := decide_eq_true (by omega)
          rw [hp, this] at hd
          cases hd
        rw [← ht, hg, List.dropWhile_cons, if_neg (by simp [ez, hz])]

theorem trimR_len (l : List UInt8) : (trimR l).length ≤ l.length := by
  unfold trimR
  rw [List.length_reverse]
  exact Nat.le_trans (List.IsSuffix.length_le (List.dropWhile_suffix _)) (by simp)

theorem trim_spec (l : List UInt8) (hl : l.length ≤ 140737488351232) (h : Heap) : CallH Tryz.prog 152 [.string ⟨l.toArray⟩, .string ⟨#[0]⟩] h (fun v h' => Keeps [] h h' ∧ v = .string ⟨(trimZ l).toArray⟩) := by
  have e0 : (ByteArray.mk #[]) = ⟨([] : List UInt8).toArray⟩ := rfl
  refine call_of hmix Tryz.func152 rfl ok152 (by simp [Tryz.f152]) ?_
  conv => whnf
  refine IfR.i (fun h1 => ?_) (fun h1 => ?_)
  · conv => whnf
    refine ⟨Keeps.refl _ _, ?_⟩
    have : l = [] := by
      rw [e0, bs_eq] at h1
      by_cases h : l = []
      · exact h
      · simp [h] at h1
    subst this; rfl
  · conv => whnf
    refine IdxR.u 0 (fun _ => ⟨rfl, by decide⟩) ?_
    conv => whnf
    refine IfR.t (by decide) ?_
    conv => whnf
    refine IdxR.i 0 rfl (by decide) ?_
    conv => whnf
    refine IdxR.i 0 rfl (by decide) ?_
    conv => whnf
    refine CallR.i (trimRight_spec l hl h) fun v h2 k2 hv => ?_
    subst hv
    conv => whnf
    refine CallR.i (trimLeft_spec (trimR l) (Nat.le_trans (trimR_len l) hl) h2) fun v h3 k3 hv => ?_
    subst hv
    conv => whnf
    exact ⟨k2.trans k3, rfl⟩
end Go.Proofs.YtkdmlieckkdmgaaGreatDoor
