/-
  Joined texts: EngS, EngT, EngV, EngW.
-/
import Derived.Test.YtkjkdnphikendaaGreatDoorJLawCLinksa
import Derived.Scope
import Derived.Deep.LoopGhost
/-
  The engine, soundness, first part: operations that leave the world as it is.
-/
set_option linter.all false
namespace Go.Eng
open Go

def ExtH (h h' : Heap) : Prop := h.size ≤ h'.size ∧ ∀ b, b < h.size → h'[b]? = h[b]?

theorem ExtH.cell {h h' : Heap} (x : ExtH h h') {b o : Nat} {v : Value} (hc : Heap.cell? h b o = some v) : Heap.cell? h' b o = some v := by
  have hb : b < h.size := by
    unfold Heap.cell? at hc
    rcases Nat.lt_or_ge b h.size with h1 | h1
    · exact h1
    · simp [Array.getElem?_eq_none h1] at hc
  unfold Heap.cell? at hc ⊢
  rw [x.2 b hb]; exact hc

theorem ExtH.obj {h h' : Heap} (x : ExtH h h') {b : Nat} {o : Obj} (hc : h[b]? = some o) : h'[b]? = some o := by
  have hb : b < h.size := by
    rcases Nat.lt_or_ge b h.size with h1 | h1
    · exact h1
    · simp [Array.getElem?_eq_none h1] at hc
  rw [x.2 b hb]; exact hc

def HypC (cls : Cls) (bx : Boxes) (h : Heap) (w : World) : Prop :=
  match cls with
  | .pb => BoxIn bx w.heap
  | .rd => ExtH h w.heap
  | _ => True

theorem load_one {P : Program} {t : TypeId} (hl : lieOf P t = some .one) {b off : Nat} {v : Value} {w : World} (hc : Heap.cell? w.heap b off = some v) :
    (Instr.loadAt t (.pointer (some ⟨b, off, none⟩))).run P w = .ok v w := by
  obtain ⟨h1, h2⟩ := lieOf_one hl w
  simp only [Instr.loadAt, Instr.sureAddr, Sem.run_bind, Sem.run_pure, Result.andThen_ok, loadVar, h1, Bool.false_eq_true, if_false, run_load, cell?_eq, hc]

theorem load_cells {P : Program} {w : World} {b : Nat} : ∀ (n i off : Nat) (vs : List Value) (acc : Array Value), vs.length = n → (∀ k, k < n → Heap.cell? w.heap b (off + i + k) = vs[k]?) →
    (loadCellsFrom ⟨b, off, none⟩ i n acc).run P w = .ok (acc ++ ⟨vs⟩) w
  | 0, i, off, vs, acc, hn, _ => by
    have : vs = [] := by simpa using hn
    subst this; simp [loadCellsFrom]
  | n + 1, i, off, vs, acc, hn, hc => by
    cases vs with
    | nil => simp at hn
    | cons v vs =>
      have h0 := hc 0 (by omega)
      have ha : (⟨b, off, none⟩ : Addr).add i = ⟨b, off + i, none⟩ := by
        unfold Addr.add; split
        · rename_i h; subst h; rfl
        · rfl
      simp only [Nat.add_zero, List.getElem?_cons_zero] at h0
      simp only [loadCellsFrom, Sem.run_bind, ha, run_load, cell?_eq, h0, Result.andThen_ok]
      rw [load_cells n (i + 1) off vs (acc.push v) (by simpa using hn) (fun k hk => by
        have := hc (k + 1) (by omega)
        rw [show off + i + (k + 1) = off + (i + 1) + k by omega] at this
        simpa using this)]
      congr 1
      apply Array.ext'; simp

theorem load_agg {P : Program} {t : TypeId} {n : Nat} (hl : lieOf P t = some (.agg n)) {b off : Nat} {vs : List Value} {w : World} (hn : vs.length = n)
    (hc : ∀ k, k < n → Heap.cell? w.heap b (off + k) = vs[k]?) : (Instr.loadAt t (.pointer (some ⟨b, off, none⟩))).run P w = .ok (.agg ⟨vs⟩) w := by
  obtain ⟨h1, h2⟩ := lieOf_agg hl w
  simp only [Instr.loadAt, Instr.sureAddr, Sem.run_bind, Sem.run_pure, Result.andThen_ok, loadVar, h1, if_true, h2, loadCells]
  rw [load_cells n 0 off vs #[] hn (by simpa using hc)]
  simp

theorem box_cell {bx : Boxes} {h : Heap} (hb : BoxIn bx h) {k b : Nat} {vs : List Value} (hl : lookB bx k = some (b, vs)) (i : Nat) : Heap.cell? h b i = vs[i]? := by
  obtain ⟨T, hT⟩ := hb _ _ _ hl
  simp [Heap.cell?, hT]

theorem blk_of {bx : Boxes} {k b : Nat} {vs : List Value} (hl : lookB bx k = some (b, vs)) : blk bx k = b := by simp [blk, hl]

theorem sizeOfT_run {P : Program} {t : TypeId} {s : Nat} (h : sizeOfT P t = some s) (w : World) : (sizeOf t).run P w = .ok s w := by
  unfold sizeOfT at h
  split at h
  · rename_i i hi
    simp at h; subst h
    simp [sizeOf, typeInfo_run P t w hi]
  · cases h

theorem addr_add (b off n : Nat) : (⟨b, off, none⟩ : Addr).add n = ⟨b, off + n, none⟩ := by
  unfold Addr.add; split
  · rename_i h; subst h; rfl
  · rfl

theorem sliceBound_run {P : Program} {k : IntKind} {i : Int} {l y : Nat} {code : BoundsCode} (h : i = (l : Int)) (hl : l ≤ y) (w : World) : (Instr.sliceBound (.int k i) y code).run P w = .ok l w := by
  subst h
  simp only [Instr.sliceBound, asIntOf, Sem.run_bind, Sem.run_pure, Result.andThen_ok]
  rw [if_pos ⟨by omega, by omega⟩]; simp

theorem optInt_val {ρ : Operand → Option Core} {ρ' : Operand → Value} {bx : Boxes} (hρ : ∀ y c, ρ y = some c → ρ' y = c.val bx) {d : Int} {x : Option Operand} {n : Int} (h : optInt ρ d x = some n) :
    (x = none ∧ n = d) ∨ ∃ y k, x = some y ∧ ρ' y = .int k n := by
  cases x with
  | none => simp [optInt] at h; exact .inl ⟨rfl, h.symm⟩
  | some y =>
    simp only [optInt] at h
    split at h
    · rename_i k n' hy
      simp at h; subst h
      exact .inr ⟨y, k, rfl, hρ _ _ hy⟩
    · cases h

theorem sliceBounds_run {P : Program} {ρ : Operand → Option Core} {ρ' : Operand → Value} {bx : Boxes} (hρ : ∀ y c, ρ y = some c → ρ' y = c.val bx)
    {lo hi : Option Operand} {a b : Int} {len cap l r : Nat} {isS : Bool} (ha : optInt ρ 0 lo = some a) (hb : optInt ρ len hi = some b)
    (h1 : a = (l : Int)) (h2 : b = (r : Int)) (h3 : l ≤ r) (h4 : r ≤ cap) (w : World) :
    (Instr.sliceBounds isS len cap (lo.map ρ') (hi.map ρ') none).run P w = .ok (l, r, cap) w := by
  unfold Instr.sliceBounds
  rcases optInt_val hρ ha with ⟨rfl, h5⟩ | ⟨y, k, rfl, h5⟩
  · have hl0 : l = 0 := by omega
    subst hl0
    rcases optInt_val hρ hb with ⟨rfl, h6⟩ | ⟨y', k', rfl, h6⟩
    · have : r = len := by omega
      subst this; simp
    · simp only [Option.map_none, Option.map_some, Sem.run_bind, Sem.run_pure, Result.andThen_ok, h6]
      rw [sliceBound_run h2 h4 w]; simp
  · rcases optInt_val hρ hb with ⟨rfl, h6⟩ | ⟨y', k', rfl, h6⟩
    · have : r = len := by omega
      subst this
      simp only [Option.map_none, Option.map_some, Sem.run_bind, Sem.run_pure, Result.andThen_ok, h5]
      rw [sliceBound_run h1 h3 w]; simp
    · simp only [Option.map_some, Sem.run_bind, Sem.run_pure, Result.andThen_ok, h5, h6]
      rw [sliceBound_run h2 h4 w]
      simp only [Result.andThen_ok]
      rw [sliceBound_run h1 h3 w]; simp

theorem checkKey_plain {P : Program} {kt : TypeId} {kd : TypeDesc} (hk : P.underlying kt = some kd) (hp : (∃ k, kd = .int k) ∨ kd = .string) (e : Bool) (n : Nat) (v : Value) (w : World) :
    (Instr.checkKey e (n + 1) kt v).run P w = .ok () w := by
  simp only [Instr.checkKey, Sem.run_bind, underlying_run P kt w hk, Result.andThen_ok]
  rcases hp with ⟨k, rfl⟩ | rfl <;> simp

theorem findKey_now {P : Program} {kt : TypeId} {kd : TypeDesc} (hk : P.underlying kt = some kd) {k : Value} {es : List MapEntry} {r : Option (Nat × Value)} (h : Instr.findNow kd k es 0 = some r) (w : World) :
    (Instr.findKey kt k es).run P w = .ok r w := by
  simp only [Instr.findKey, Sem.run_bind, underlying_run P kt w hk, Result.andThen_ok, h, Sem.run_pure]

theorem under_mono {c : Option Bool} {p q : Prop} (h : Under c p) (hq : p → q) : Under c q := by
  cases c with
  | none => exact hq h
  | some b => exact fun hb => hq (h hb)

theorem under_of {c : Option Bool} {q : Prop} (h : q) : Under c q := by
  cases c with
  | none => exact h
  | some b => exact fun _ => h

theorem optVal_map {ρ : Operand → Option Core} {ρ' : Operand → Value} {bx : Boxes} (hρ : ∀ y c, ρ y = some c → ρ' y = c.val bx) {x : Option Operand} {v : Option Value} (h : optVal ρ x = some v) : x.map ρ' = v := by
  cases x with
  | none => simp [optVal] at h; subst h; rfl
  | some y =>
    simp only [optVal] at h
    split at h
    · rename_i v' hy
      simp at h; subst h
      simp [hρ _ _ hy, Core.val]
    · cases h

theorem read_ok {P : Program} {cls : Cls} {c : Option Bool} {o : Oper} {ρ : Operand → Option Core} {bx : Boxes} {h : Heap} {K : Core → Prop}
    (H : vcRead P cls c o.op ρ bx h K) :
    ∃ x, K x ∧ (∀ k, lookB bx k = none → coreOk bx x → True) ∧ ((∀ y c, ρ y = some c → coreOk bx c) → coreOk bx x) ∧
      ∀ (ρ' : Operand → Value) (w : World), (∀ y c, ρ y = some c → ρ' y = c.val bx) → HypC cls bx h w → Under c ((execOp ρ' o).run P w = .ok (.value (x.val bx)) w) := by
  obtain ⟨dst, op, ty, pos, after, guard⟩ := o
  simp only at H
  unfold vcRead at H
  split at H
  · -- load
    rename_i t x
    split at H
    · rename_i k off hl hx
      split at H
      · rename_i b vs hb
        split at H
        · rename_i v hv
          rw [nth_eq] at hv
          refine ⟨.v v, H, fun _ _ _ => trivial, fun _ => trivial, fun ρ' w hρ hw => under_of ?_⟩
          simp only [execOp, Sem.run_bind, hρ _ _ hx, Core.val, blk_of hb]
          rw [load_one hl (by rw [box_cell hw hb]; exact hv)]; simp
        · exact H.elim
      · exact H.elim
    · rename_i n k off hl hx
      split at H
      · rename_i b vs hb
        split at H
        · rename_i l hv
          obtain ⟨h1, h2⟩ := takeL_eq _ _ _ hv
          rw [dropL_eq] at h1
          refine ⟨.v (.agg ⟨l⟩), H, fun _ _ _ => trivial, fun _ => trivial, fun ρ' w hρ hw => under_of ?_⟩
          simp only [execOp, Sem.run_bind, hρ _ _ hx, Core.val, blk_of hb]
          rw [load_agg hl h2 (fun k hk => by rw [box_cell hw hb, h1]; simp [hk])]; simp
        · exact H.elim
      · exact H.elim
    · rename_i k off hl hx
      split at H
      · rename_i b vs hb
        unfold NthR at H
        obtain ⟨v, hv, hK⟩ := H
        refine ⟨.v v, hK, fun _ _ _ => trivial, fun _ => trivial, fun ρ' w hρ hw => under_mono hv fun hv => ?_⟩
        simp only [execOp, Sem.run_bind, hρ _ _ hx, Core.val, blk_of hb]
        rw [load_one hl (by rw [box_cell hw hb]; exact hv)]; simp
      · exact H.elim
    · rename_i b off hl hx
      unfold LoadR at H
      obtain ⟨v, hv, hK⟩ := H
      refine ⟨.v v, hK, fun _ _ _ => trivial, fun _ => trivial, fun ρ' w hρ hw => under_mono hv fun hv => ?_⟩
      simp only [execOp, Sem.run_bind, hρ _ _ hx, Core.val]
      rw [load_one hl (ExtH.cell hw hv)]; simp
    · rename_i n b off hl hx
      unfold LoadN at H
      obtain ⟨vs, hn, hv, hK⟩ := H
      refine ⟨.v (.agg ⟨vs⟩), hK, fun _ _ _ => trivial, fun _ => trivial, fun ρ' w hρ hw => under_mono hv fun hv => ?_⟩
      simp only [execOp, Sem.run_bind, hρ _ _ hx, Core.val]
      rw [load_agg hl hn (fun k hk => by
        have h1 := hv k hk
        have h2 : vs[k]? = some (vs[k]'(by omega)) := by simp [hn, hk]
        rw [h2] at h1 ⊢
        exact ExtH.cell hw h1)]; simp
    · exact H.elim
  · -- indexAddr
    rename_i t x i
    split at H
    case h_2 => exact H.elim
    rename_i k n hi
    split at H
    · rename_i e ad len cp hu hx
      split at H
      case h_2 => exact H.elim
      rename_i s hs
      unfold IdxS at H
      obtain ⟨j, b, off, hj, hK⟩ := H
      refine ⟨_, hK, fun _ _ _ => trivial, fun _ => trivial, fun ρ' w hρ hw => under_mono hj fun hj => ?_⟩
      obtain ⟨rfl, hj, rfl⟩ := hj
      simp only [execOp, Sem.run_bind, hρ _ _ hx, hρ _ _ hi, Core.val, Instr.indexAt, asIntOf, Sem.run_pure, Result.andThen_ok, underlying_run P t w hu]
      rw [if_pos ⟨by omega, by omega⟩]
      simp [sizeOfT_run hs w, addr_add]
    · rename_i len e k' off hu hx
      split at H
      case h_2 => exact H.elim
      rename_i s hs
      unfold IdxR at H
      obtain ⟨j, hj, hK⟩ := H
      refine ⟨_, hK, fun _ _ _ => trivial, fun hρc => (by have := hρc _ _ hx; simpa [coreOk] using this), fun ρ' w hρ hw => under_mono hj fun hj => ?_⟩
      obtain ⟨rfl, hj⟩ := hj
      simp only [execOp, Sem.run_bind, hρ _ _ hx, hρ _ _ hi, Core.val, Instr.indexAt, asIntOf, Sem.run_pure, Result.andThen_ok, underlying_run P t w hu, Instr.sureAddr]
      rw [if_pos ⟨by omega, by omega⟩]
      simp [sizeOfT_run hs w, addr_add]
    · rename_i len e b off hu hx
      split at H
      case h_2 => exact H.elim
      rename_i s hs
      unfold IdxR at H
      obtain ⟨j, hj, hK⟩ := H
      refine ⟨_, hK, fun _ _ _ => trivial, fun _ => trivial, fun ρ' w hρ hw => under_mono hj fun hj => ?_⟩
      obtain ⟨rfl, hj⟩ := hj
      simp only [execOp, Sem.run_bind, hρ _ _ hx, hρ _ _ hi, Core.val, Instr.indexAt, asIntOf, Sem.run_pure, Result.andThen_ok, underlying_run P t w hu, Instr.sureAddr]
      rw [if_pos ⟨by omega, by omega⟩]
      simp [sizeOfT_run hs w, addr_add]
    · exact H.elim
  · -- index
    rename_i t x i
    split at H
    case h_2 => exact H.elim
    rename_i k n hi
    split at H
    · rename_i s hu hx
      unfold IdxR at H
      obtain ⟨j, hj, hK⟩ := H
      refine ⟨_, hK, fun _ _ _ => trivial, fun _ => trivial, fun ρ' w hρ hw => under_mono hj fun hjj => ?_⟩
      obtain ⟨hj1, hj2⟩ := hjj
      subst hj1
      simp only [execOp, Sem.run_bind, hρ _ _ hx, hρ _ _ hi, Core.val, Instr.index, asIntOf, Sem.run_pure, Result.andThen_ok, underlying_run P t w hu]
      have h0 : (0 : Int) ≤ (j : Int) := by omega
      simp only [h0, if_true, Int.toNat_natCast]
      have : s[j]? = some s[j] := by simp [hj2]
      have h2 : byteN s j = (s[j]).toNat := by
        unfold byteN
        have : s.data.toList[j]? = some s[j] := by
          have hj' : j < s.data.size := hj2
          simp [ByteArray.getElem_eq_getElem_data, hj']
        rw [this]; rfl
      rw [this, h2]
      simp
    · rename_i len e cs hu hx
      split at H
      · rename_i hl
        unfold IdxR at H
        obtain ⟨j, hj, hK⟩ := H
        unfold NthR at hK
        obtain ⟨v, hv, hK⟩ := hK
        refine ⟨.v v, hK, fun _ _ _ => trivial, fun _ => trivial, fun ρ' w hρ hw => ?_⟩
        have hboth : Under c ((n = (j : Int) ∧ j < len) ∧ cs[j]? = some v) := by
          cases c with
          | none => exact ⟨hj, hv⟩
          | some b => exact fun hb => ⟨hj hb, hv hb⟩
        refine under_mono hboth fun ⟨⟨hj1, hj2⟩, hv⟩ => ?_
        subst hj1
        obtain ⟨h1, h2⟩ := lieOf_one hl w
        simp only [execOp, Sem.run_bind, hρ _ _ hx, hρ _ _ hi, Core.val, Instr.index, asIntOf, Sem.run_pure, Result.andThen_ok, underlying_run P t w hu]
        rw [if_pos ⟨by omega, by omega⟩]
        simp only [Sem.run_bind, h2, Result.andThen_ok, part, h1, Int.toNat_natCast, Nat.mul_one]
        simp [hv]
      · exact H.elim
    · exact H.elim
  · -- binOp
    rename_i o t x y yt
    split at H
    · rename_i a b ha hb
      split at H
      · unfold Need at H
        refine ⟨_, H.2, fun _ _ _ => trivial, fun _ => trivial, fun ρ' w hρ hw => under_mono H.1 fun hn => ?_⟩
        simp only [execOp, Sem.run_bind, hρ _ _ ha, hρ _ _ hb, Core.val]
        rw [eqGuard_run _ _ _ _ _ _ _ _ (by simp) (by simp)]
        simp only [Result.andThen_ok, binOp, Op.stringOp]
        rw [if_neg (by simp [IntKind.max, IntKind.bits, IntKind.signed]; omega)]
        simp
      · exact H.elim
    · rename_i k a k' b ha hb
      split at H
      · split at H
        · rename_i hk
          have hk' : k = k' := by simpa using hk
          subst hk'
          unfold Need at H
          refine ⟨_, H.2, fun _ _ _ => trivial, fun _ => trivial, fun ρ' w hρ hw => under_mono H.1 fun hn => ?_⟩
          simp only [execOp, Sem.run_bind, hρ _ _ ha, hρ _ _ hb, Core.val]
          rw [eqGuard_run _ _ _ _ _ _ _ _ (by simp) (by simp)]
          simp [binOp, Op.intDiv, hn]
        · exact H.elim
      · split at H
        · rename_i hk
          have hk' : k = k' := by simpa using hk
          subst hk'
          unfold Need at H
          refine ⟨_, H.2, fun _ _ _ => trivial, fun _ => trivial, fun ρ' w hρ hw => under_mono H.1 fun hn => ?_⟩
          simp only [execOp, Sem.run_bind, hρ _ _ ha, hρ _ _ hb, Core.val]
          rw [eqGuard_run _ _ _ _ _ _ _ _ (by simp) (by simp)]
          simp [binOp, Op.intDiv, hn]
        · exact H.elim
      · unfold Need at H
        refine ⟨_, H.2, fun _ _ _ => trivial, fun _ => trivial, fun ρ' w hρ hw => under_mono H.1 fun hn => ?_⟩
        simp only [execOp, Sem.run_bind, hρ _ _ ha, hρ _ _ hb, Core.val]
        rw [eqGuard_run _ _ _ _ _ _ _ _ (by simp) (by simp)]
        simp [binOp, Op.shift, show ¬ b < 0 by omega]
      · unfold Need at H
        refine ⟨_, H.2, fun _ _ _ => trivial, fun _ => trivial, fun ρ' w hρ hw => under_mono H.1 fun hn => ?_⟩
        simp only [execOp, Sem.run_bind, hρ _ _ ha, hρ _ _ hb, Core.val]
        rw [eqGuard_run _ _ _ _ _ _ _ _ (by simp) (by simp)]
        simp [binOp, Op.shift, show ¬ b < 0 by omega]
      · exact H.elim
    · rename_i a b h1 h2 ha hb
      unfold PureR at H
      obtain ⟨v, hv, hK⟩ := H
      refine ⟨.v v, hK, fun _ _ _ => trivial, fun _ => trivial, fun ρ' w hρ hw => under_mono hv fun hv => ?_⟩
      have := hv w
      simp only [execOp, Sem.run_bind, hρ _ _ ha, hρ _ _ hb, Core.val] at this ⊢
      rw [this]; simp
    · exact H.elim
  · -- slice, three indexes
    rename_i t x lo hi mx
    split at H
    · rename_i xv lov hiv mxv hx h1 h2 h3
      unfold PureR at H
      obtain ⟨v, hv, hK⟩ := H
      refine ⟨.v v, hK, fun _ _ _ => trivial, fun _ => trivial, fun ρ' w hρ hw => under_mono hv fun hv => ?_⟩
      simp only [execOp, Sem.run_bind, hρ _ _ hx, Core.val, optVal_map hρ h1, optVal_map hρ h2, optVal_map hρ h3, hv w, Result.andThen_ok, Sem.run_pure]
    · exact H.elim
  · -- slice
    rename_i t x lo hi
    split at H
    · rename_i s hu hx
      split at H
      · rename_i l r hl hr
        unfold SliceR at H
        obtain ⟨a, b, hab, hK⟩ := H
        refine ⟨_, hK, fun _ _ _ => trivial, fun _ => trivial, fun ρ' w hρ hw => under_mono hab fun ⟨h1, h2, h3, h4⟩ => ?_⟩
        simp only [execOp, Sem.run_bind, hρ _ _ hx, Core.val, Instr.sliceAt, Instr.slice, underlying_run P t w hu, Result.andThen_ok, Option.map_none]
        simp only [Option.isSome_none, Bool.false_eq_true, if_false, Sem.run_bind]
        rw [sliceBounds_run hρ hl hr h1 h2 h3 h4 w]
        simp
      · exact H.elim
    · rename_i e a len cap hu hx
      split at H
      · rename_i l r s hl hr hs
        unfold SliceR at H
        obtain ⟨p, q, hpq, hK⟩ := H
        refine ⟨_, hK, fun _ _ _ => trivial, fun _ => trivial, fun ρ' w hρ hw => under_mono hpq fun ⟨h1, h2, h3, h4⟩ => ?_⟩
        simp only [execOp, Sem.run_bind, hρ _ _ hx, Core.val, Instr.sliceAt, Instr.slice, underlying_run P t w hu, Result.andThen_ok, Option.map_none]
        rw [sliceBounds_run hρ hl hr h1 h2 h3 h4 w]
        simp only [Result.andThen_ok, sizeOfT_run hs w, Sem.run_pure, slA]
      · exact H.elim
    · rename_i e xv hu hx
      split at H
      · rename_i lov hiv h1 h2
        unfold PureR at H
        obtain ⟨v, hv, hK⟩ := H
        refine ⟨.v v, hK, fun _ _ _ => trivial, fun _ => trivial, fun ρ' w hρ hw => under_mono hv fun hv => ?_⟩
        simp only [execOp, Sem.run_bind, hρ _ _ hx, Core.val, optVal_map hρ h1, optVal_map hρ h2, Option.map_none, hv w, Result.andThen_ok, Sem.run_pure]
      · exact H.elim
    · rename_i m e xv hu hx
      split at H
      · rename_i lov hiv h1 h2
        unfold PureR at H
        obtain ⟨v, hv, hK⟩ := H
        refine ⟨.v v, hK, fun _ _ _ => trivial, fun _ => trivial, fun ρ' w hρ hw => under_mono hv fun hv => ?_⟩
        simp only [execOp, Sem.run_bind, hρ _ _ hx, Core.val, optVal_map hρ h1, optVal_map hρ h2, Option.map_none, hv w, Result.andThen_ok, Sem.run_pure]
      · exact H.elim
    · exact H.elim
  · -- lookup
    rename_i t m k ok
    split at H
    · rename_i kt et r kv hu hm hk
      split at H
      case h_2 => exact H.elim
      rename_i kd i hkd hi
      have main : ∀ z, i.zero = some z → ((∃ k, kd = .int k) ∨ kd = .string) → rdOnly cls (LookR c h kd r kv (lookK K z ok)) → ∃ x, K x ∧ (∀ k, lookB bx k = none → coreOk bx x → True) ∧ ((∀ y c, ρ y = some c → coreOk bx c) → coreOk bx x) ∧
      ∀ (ρ' : Operand → Value) (w : World), (∀ y c, ρ y = some c → ρ' y = c.val bx) → HypC cls bx h w → Under c ((execOp ρ' (⟨dst, .lookup t m k ok, ty, pos, after, guard⟩ : Oper)).run P w = .ok (.value (x.val bx)) w) := by
        intro z hz hp H
        cases cls <;> simp only [rdOnly] at H
        unfold LookR at H
        obtain ⟨o', hl, hK⟩ := H
        have fin : ∀ (w : World) (ρ' : Operand → Value), (∀ y c, ρ y = some c → ρ' y = c.val bx) → HypC .rd bx h w →
            Under c ((Instr.lookup t (ρ' m) (ρ' k) ok).run P w = .ok (match o', ok with
              | some v, true => .tuple ⟨[v, .bool true]⟩ | some v, false => v | none, true => .tuple ⟨[z, .bool false]⟩ | none, false => z) w) := by
          intro w ρ' hρ hw
          refine under_mono hl fun ⟨es, cl, he, hf⟩ => ?_
          have he' := ExtH.obj hw he
          cases hfn : Instr.findNow kd kv es.toList 0 with
          | none => rw [hfn] at hf; simp at hf
          | some q =>
            rw [hfn] at hf
            simp at hf
            have hgo : (getObj r).run P w = .ok (.map es cl) w := by simp [getObj, Sem.run, he']
            simp only [Instr.lookup, Sem.run_bind, underlying_run P t w hu, Result.andThen_ok, hρ _ _ hm, hρ _ _ hk, Core.val, hgo, Sem.run_pure]
            rw [checkKey_plain hkd hp]
            simp only [Result.andThen_ok, findKey_now hkd hfn w]
            have hze : (zeroValue et).run P w = .ok z w := by simp [zeroValue, typeInfo_run P et w hi, hz]
            subst hf
            cases q with
            | none => cases ok <;> simp [hze]
            | some p => obtain ⟨a, b⟩ := p; cases ok <;> simp
        cases o' with
        | none => cases ok with
          | true => exact ⟨_, hK, fun _ _ _ => trivial, fun _ => trivial, fun ρ' w hρ hw => under_mono (fin w ρ' hρ hw) fun hr => by simp [execOp, hr, Core.val]⟩
          | false => exact ⟨_, hK, fun _ _ _ => trivial, fun _ => trivial, fun ρ' w hρ hw => under_mono (fin w ρ' hρ hw) fun hr => by simp [execOp, hr, Core.val]⟩
        | some v => cases ok with
          | true => exact ⟨_, hK, fun _ _ _ => trivial, fun _ => trivial, fun ρ' w hρ hw => under_mono (fin w ρ' hρ hw) fun hr => by simp [execOp, hr, Core.val]⟩
          | false => exact ⟨_, hK, fun _ _ _ => trivial, fun _ => trivial, fun ρ' w hρ hw => under_mono (fin w ρ' hρ hw) fun hr => by simp [execOp, hr, Core.val]⟩
      split at H
      · exact main _ (by assumption) (.inl ⟨_, rfl⟩) H
      · exact main _ (by assumption) (.inr rfl) H
      · exact H.elim
    · rename_i kt et kv hu hm hk
      split at H
      case h_2 => exact H.elim
      rename_i kd i hkd hi
      have main : ∀ z, i.zero = some z → ((∃ k, kd = .int k) ∨ kd = .string) → lookK K z ok none → ∃ x, K x ∧ (∀ k, lookB bx k = none → coreOk bx x → True) ∧ ((∀ y c, ρ y = some c → coreOk bx c) → coreOk bx x) ∧
      ∀ (ρ' : Operand → Value) (w : World), (∀ y c, ρ y = some c → ρ' y = c.val bx) → HypC cls bx h w → Under c ((execOp ρ' (⟨dst, .lookup t m k ok, ty, pos, after, guard⟩ : Oper)).run P w = .ok (.value (x.val bx)) w) := by
        intro z hz hp H
        have fin : ∀ (w : World) (ρ' : Operand → Value), (∀ y c, ρ y = some c → ρ' y = c.val bx) →
            (Instr.lookup t (ρ' m) (ρ' k) ok).run P w = .ok (match ok with | true => .tuple ⟨[z, .bool false]⟩ | false => z) w := by
          intro w ρ' hρ
          simp only [Instr.lookup, Sem.run_bind, underlying_run P t w hu, Result.andThen_ok, hρ _ _ hm, hρ _ _ hk, Core.val, Sem.run_pure]
          rw [checkKey_plain hkd hp]
          have hfn : Instr.findNow kd kv (#[] : Array MapEntry).toList 0 = some none := rfl
          simp only [Result.andThen_ok, findKey_now hkd hfn w]
          have hze : (zeroValue et).run P w = .ok z w := by simp [zeroValue, typeInfo_run P et w hi, hz]
          cases ok <;> simp [hze]
        cases ok with
        | true => exact ⟨_, H, fun _ _ _ => trivial, fun _ => trivial, fun ρ' w hρ hw => under_of (by simp [execOp, fin w ρ' hρ, Core.val])⟩
        | false => exact ⟨_, H, fun _ _ _ => trivial, fun _ => trivial, fun ρ' w hρ hw => under_of (by simp [execOp, fin w ρ' hρ, Core.val])⟩
      split at H
      · exact main _ (by assumption) (.inl ⟨_, rfl⟩) H
      · exact main _ (by assumption) (.inr rfl) H
      · exact H.elim
    · exact H.elim
  · -- len of a map
    rename_i args ts
    split at H
    case h_2 => exact H.elim
    rename_i x t hargs hts
    have hargs' : args = #[x] := Array.ext' (by simpa using hargs)
    have hts' : ts = #[t] := Array.ext' (by simpa using hts)
    subst hargs'; subst hts'
    split at H
    · rename_i kt et hu hx
      refine ⟨_, H, fun _ _ _ => trivial, fun _ => trivial, fun ρ' w hρ hw => under_of ?_⟩
      simp [execOp, resolve, invoke, builtin, Builtin.len_, hρ _ _ hx, Core.val, underlying_run P t w hu, goInt]
    · rename_i kt et r hu hx
      cases cls <;> simp only at H
      unfold LenR at H
      obtain ⟨n, hn, hK⟩ := H
      refine ⟨_, hK, fun _ _ _ => trivial, fun _ => trivial, fun ρ' w hρ hw => under_mono hn fun ⟨es, cl, he, hn⟩ => ?_⟩
      have hgo : (getObj r).run P w = .ok (.map es cl) w := by simp [getObj, Sem.run, ExtH.obj hw he]
      simp [execOp, resolve, invoke, builtin, Builtin.len_, hρ _ _ hx, Core.val, underlying_run P t w hu, goInt, hgo, hn]
    · exact H.elim
  · exact H.elim

end Go.Eng
/-
  The engine, soundness, second part: operations that make blocks, write, or call.
-/
set_option linter.all false
namespace Go.Eng
open Go

theorem lookB_set : ∀ (bx : Boxes) (k b : Nat) (vs : List Value) (k' : Nat), lookB (setB k b vs bx) k' = if k' = k then some (b, vs) else lookB bx k'
  | [], k, b, vs, k' => by
    simp only [setB, lookB]
    by_cases h : k' = k
    · subst h; simp [Nat.beq_refl]
    · have : Nat.beq k k' = false := by cases hb : Nat.beq k k' with | false => rfl | true => exact absurd (Nat.eq_of_beq_eq_true hb).symm h
      simp [this, h]
  | (k1, b1, vs1) :: r, k, b, vs, k' => by
    simp only [setB]
    cases hb : Nat.beq k1 k with
    | true =>
      have := Nat.eq_of_beq_eq_true hb
      subst this
      simp only [lookB]
      by_cases h : k' = k1
      · subst h; simp [Nat.beq_refl]
      · have : Nat.beq k1 k' = false := by cases hb : Nat.beq k1 k' with | false => rfl | true => exact absurd (Nat.eq_of_beq_eq_true hb).symm h
        simp [this, h]
    | false =>
      have hne : k1 ≠ k := by intro h; subst h; simp [Nat.beq_refl] at hb
      simp only [lookB]
      rw [lookB_set r k b vs k']
      cases hb' : Nat.beq k1 k' with
      | true =>
        have := Nat.eq_of_beq_eq_true hb'
        subst this
        simp [hne]
      | false => rfl

theorem blocks_mem : ∀ (bx : Boxes) (k b : Nat) (vs : List Value), lookB bx k = some (b, vs) → b ∈ blocksOf bx
  | [], _, _, _, h => by cases h
  | (k1, b1, vs1) :: r, k, b, vs, h => by
    simp only [lookB] at h
    split at h
    · simp at h; simp [blocksOf, h.1]
    · simp [blocksOf, blocks_mem r k b vs h]

/-- each box of the list is found by its number -/
def Proper : Boxes → Prop
  | [] => True
  | (k, _, _) :: r => lookB r k = none ∧ Proper r

theorem blocks_of_proper : ∀ (bx : Boxes), Proper bx → ∀ b ∈ blocksOf bx, ∃ k vs, lookB bx k = some (b, vs)
  | [], _, b, h => by cases h
  | (k1, b1, vs1) :: r, hp, b, h => by
    simp only [blocksOf, List.mem_cons] at h
    rcases h with rfl | h
    · exact ⟨k1, vs1, by simp [lookB, Nat.beq_refl]⟩
    · obtain ⟨k, vs, hk⟩ := blocks_of_proper r hp.2 b h
      refine ⟨k, vs, ?_⟩
      simp only [lookB]
      cases hb : Nat.beq k1 k with
      | true =>
        have := Nat.eq_of_beq_eq_true hb
        subst this
        rw [hp.1] at hk; cases hk
      | false => exact hk

theorem proper_set : ∀ (bx : Boxes) (k b : Nat) (vs : List Value), Proper bx → Proper (setB k b vs bx)
  | [], k, b, vs, _ => ⟨rfl, trivial⟩
  | (k1, b1, vs1) :: r, k, b, vs, h => by
    simp only [setB]
    cases hb : Nat.beq k1 k with
    | true =>
      have := Nat.eq_of_beq_eq_true hb
      subst this
      exact h
    | false =>
      have hne : k1 ≠ k := by intro h; subst h; simp [Nat.beq_refl] at hb
      exact ⟨by rw [lookB_set]; simp [hne, h.1], proper_set r k b vs h.2⟩

structure Boxed (bx : Boxes) (h : Heap) : Prop where
  boxIn : BoxIn bx h
  distinct : Distinct bx
  proper : Proper bx

theorem Boxed.lt {bx : Boxes} {h : Heap} (B : Boxed bx h) : ∀ b ∈ blocksOf bx, b < h.size := fun b hb => by
  obtain ⟨k, vs, hk⟩ := blocks_of_proper bx B.proper b hb
  obtain ⟨T, hT⟩ := B.boxIn _ _ _ hk
  rcases Nat.lt_or_ge b h.size with h1 | h1
  · exact h1
  · simp [Array.getElem?_eq_none h1] at hT

theorem Boxed.keep {bx : Boxes} {h h' : Heap} (B : Boxed bx h) (hk : ∀ b ∈ blocksOf bx, h'[b]? = h[b]?) : Boxed bx h' :=
  ⟨fun k b vs hl => by rw [hk b (blocks_mem bx k b vs hl)]; exact B.boxIn k b vs hl, B.distinct, B.proper⟩

theorem push_get (h : Heap) (o : Obj) (b : Nat) : (h.push o)[b]? = if b = h.size then some o else h[b]? := by
  rw [Array.getElem?_push]

theorem push_ext (h : Heap) (o : Obj) : ExtH h (h.push o) := ⟨by simp, fun b hb => by rw [push_get, if_neg (by omega)]⟩

/-- a new private box -/
theorem Boxed.new {bx : Boxes} {h : Heap} (B : Boxed bx h) {k : Nat} (hk : lookB bx k = none) (vs : List Value) (T : TypeId) : Boxed (setB k h.size vs bx) (h.push (.cells ⟨vs⟩ T)) := by
  refine ⟨fun k' b vs' hl => ?_, fun k1 k2 b1 b2 v1 v2 h1 h2 hne => ?_, proper_set _ _ _ _ B.proper⟩
  · rw [lookB_set] at hl
    split at hl
    · simp at hl; obtain ⟨rfl, rfl⟩ := hl
      exact ⟨T, by rw [push_get, if_pos rfl]⟩
    · have hlt := B.lt b (blocks_mem _ _ _ _ hl)
      rw [push_get, if_neg (by omega)]
      exact B.boxIn _ _ _ hl
  · rw [lookB_set] at h1 h2
    split at h1 <;> split at h2
    · rename_i e1 e2; exact absurd (e1.trans e2.symm) hne
    · simp at h1
      have hlt := B.lt b2 (blocks_mem _ _ _ _ h2)
      omega
    · simp at h2
      have hlt := B.lt b1 (blocks_mem _ _ _ _ h1)
      omega
    · exact B.distinct _ _ _ _ _ _ h1 h2 hne

theorem Boxed.new_back {bx : Boxes} {k b : Nat} (hk : lookB bx k = none) (vs : List Value) {h : Heap} (hb : BoxIn (setB k b vs bx) h) : BoxIn bx h := fun k' b' vs' hl => by
  refine hb k' b' vs' ?_
  rw [lookB_set]
  split
  · rename_i e; subst e; rw [hk] at hl; cases hl
  · exact hl

/-- a private box is written -/
theorem Boxed.write {bx : Boxes} {h h' : Heap} (B : Boxed bx h) {k b : Nat} {vs vs' : List Value} (hk : lookB bx k = some (b, vs)) (hb : ∃ T, h'[b]? = some (.cells ⟨vs'⟩ T (0, 0)))
    (ho : ∀ b', b' ≠ b → h'[b']? = h[b']?) : Boxed (setB k b vs' bx) h' := by
  refine ⟨fun k' b1 vs1 hl => ?_, fun k1 k2 b1 b2 v1 v2 h1 h2 hne => ?_, proper_set _ _ _ _ B.proper⟩
  · rw [lookB_set] at hl
    split at hl
    · simp at hl; obtain ⟨rfl, rfl⟩ := hl
      exact hb
    · rename_i hne
      have := B.distinct _ _ _ _ _ _ hl hk hne
      rw [ho b1 this]
      exact B.boxIn _ _ _ hl
  · rw [lookB_set] at h1 h2
    split at h1 <;> split at h2
    · rename_i e1 e2; exact absurd (e1.trans e2.symm) hne
    · rename_i e1 e2
      simp at h1
      rw [← h1.1]
      exact fun hh => B.distinct _ _ _ _ _ _ h2 hk e2 hh.symm
    · rename_i e1 e2
      simp at h2
      rw [← h2.1]
      exact B.distinct _ _ _ _ _ _ h1 hk e1
    · exact B.distinct _ _ _ _ _ _ h1 h2 hne

theorem val_set {bx : Boxes} {k b : Nat} {vs : List Value} (hk : lookB bx k = none ∨ ∃ vs', lookB bx k = some (b, vs')) (c : Core) (hc : coreOk bx c) :
    c.val (setB k b vs bx) = c.val bx ∧ coreOk (setB k b vs bx) c := by
  have key : ∀ k', (lookB bx k').isSome = true → blk (setB k b vs bx) k' = blk bx k' ∧ (lookB (setB k b vs bx) k').isSome = true := by
    intro k' h
    unfold blk
    rw [lookB_set]
    by_cases e : k' = k
    · subst e
      rcases hk with hk | ⟨vs', hk⟩
      · rw [hk] at h; cases h
      · simp [hk]
    · rw [if_neg e]; exact ⟨rfl, h⟩
  cases c with
  | v x => exact ⟨rfl, trivial⟩
  | lp k' off => have := key k' hc; exact ⟨by simp [Core.val, this.1], this.2⟩
  | li k' off => have := key k' hc; exact ⟨by simp [Core.val, this.1], this.2⟩

/-- what stands behind an effect -/
structure After (cls : Cls) (bx : Boxes) (h : Heap) (x : Core) (bx' : Boxes) (h' : Heap) : Prop where
  boxed : Boxed bx' h'
  val : ∀ c, coreOk bx c → c.val bx' = c.val bx ∧ coreOk bx' c
  core : coreOk bx' x
  al : cls = .al → ExtH h h' ∧ ∀ x : Heap, BoxIn bx' x → BoxIn bx x
  ef : cls = .ef → bx' = bx

theorem allOne_one' : ∀ {l : List Value}, allOne l = true → ∀ v ∈ l, v.oneCell' = true
  | [], _, v, h => by cases h
  | x :: r, h, v, hv => by
    simp only [allOne] at h
    split at h
    · rename_i hx
      simp only [List.mem_cons] at hv
      rcases hv with rfl | hv
      · cases v <;> simp [oneV] at hx <;> rfl
      · exact allOne_one' h v hv
    · cases h

def setObj1 (off : Nat) (v : Value) : Obj → Obj
  | .cells c elem fr => .cells (c.setIfInBounds off v) elem fr
  | o => o
theorem setCell_heap (w : World) (b off : Nat) (v : Value) : (w.setCell ⟨b, off, none⟩ v).heap = w.heap.modify b (setObj1 off v) := by
  unfold World.setCell
  simp only
  congr 1

theorem store_cells {P : Program} {b : Nat} {T : TypeId} : ∀ (vs : List Value) (i off : Nat) (c : List Value) (w : World), (∀ v ∈ vs, v.oneCell' = true) → off + i + vs.length ≤ c.length →
    w.heap[b]? = some (.cells ⟨c⟩ T (0, 0)) → ∃ w', (storeCells ⟨b, off, none⟩ vs i).run P w = .ok () w' ∧ SameOut w w' ∧ w'.heap.size = w.heap.size ∧
      w'.heap[b]? = some (.cells ⟨spliceL (off + i) vs c⟩ T (0, 0)) ∧ ∀ b', b' ≠ b → w'.heap[b']? = w.heap[b']?
  | [], i, off, c, w, _, _, hb => ⟨w, by simp [storeCells], SameOut.refl w, rfl, by rw [splice_nil]; exact hb, fun _ _ => rfl⟩
  | v :: vs, i, off, c, w, hv, hl, hb => by
    simp only [List.length_cons] at hl
    have hcell : w.cell? ⟨b, off + i, none⟩ = some (c[off + i]'(by omega)) := by
      rw [cell?_eq]; simp [Heap.cell?, hb, show off + i < c.length by omega]
    have hfr : w.frozen? ⟨b, off + i, none⟩ = false := by simp [World.frozen?, hb]
    have hrun := run_store P w ⟨b, off + i, none⟩ v .plain (hv v (by simp))
    rw [hcell] at hrun
    simp only [hfr, Bool.false_eq_true, if_false] at hrun
    have hb2 : (w.setCell ⟨b, off + i, none⟩ v).heap[b]? = some (.cells ⟨c.set (off + i) v⟩ T (0, 0)) := by
      rw [setCell_heap, Array.getElem?_modify]
      simp [hb, setObj1, Array.setIfInBounds, show off + i < c.length by omega]
    obtain ⟨w', h1, h2, h3, h4, h5⟩ := store_cells vs (i + 1) off (c.set (off + i) v) (w.setCell ⟨b, off + i, none⟩ v) (fun u hu => hv u (by simp [hu])) (by simp; omega) hb2
    refine ⟨w', ?_, ⟨h2.1, h2.2⟩, ?_, ?_, fun b' hne => ?_⟩
    · simp only [storeCells, Sem.run_bind, addr_add]
      rw [hrun]
      simp only [Result.andThen_ok]
      exact h1
    · rw [h3, setCell_heap]; simp
    · rw [h4, show off + (i + 1) = off + i + 1 by omega, splice_cons v vs (off + i) c (by omega)]
    · rw [h5 b' hne, setCell_heap, Array.getElem?_modify, if_neg (Ne.symm hne)]

theorem storeAt_run {P : Program} {t : TypeId} {l : Lie} {s : Nat} (hs : sizeOfT P t = some s) {b off : Nat} {v : Value} {c : List Value} {T : TypeId} {w : World}
    (h1 : Nat.beq (cellsOf v).length s = true) (h2 : allOne (cellsOf v) = true) (h3 : off + (cellsOf v).length ≤ c.length) (hb : w.heap[b]? = some (.cells ⟨c⟩ T (0, 0))) :
    ∃ w', (Instr.storeAt t (.pointer (some ⟨b, off, none⟩)) v).run P w = .ok () w' ∧ SameOut w w' ∧ w'.heap.size = w.heap.size ∧
      w'.heap[b]? = some (.cells ⟨spliceL off (cellsOf v) c⟩ T (0, 0)) ∧ ∀ b', b' ≠ b → w'.heap[b']? = w.heap[b']? := by
  obtain ⟨w', h4, h5⟩ := store_cells (P := P) (cellsOf v) 0 off c w (allOne_one' h2) (by simpa using h3) hb
  refine ⟨w', ?_, by simpa using h5⟩
  have := Nat.eq_of_beq_eq_true h1
  simp only [Instr.storeAt, Instr.sureAddr, Sem.run_bind, Sem.run_pure, Result.andThen_ok, storeVar, sizeOfT_run hs w, cellsOf_eq]
  rw [if_neg (by simp; omega)]
  simpa using h4

theorem zeroCellsL_run {P : Program} {t : TypeId} {l : List Value} (h : zeroCellsL P t = some l) (w : World) : ∃ z, (zeroValue t).run P w = .ok z w ∧ z.cells = ⟨l⟩ := by
  unfold zeroCellsL at h
  split at h
  · rename_i i hi
    split at h
    · rename_i z hz
      simp at h; subst h
      exact ⟨z, by simp [zeroValue, typeInfo_run P t w hi, hz], cellsOf_eq z⟩
    · cases h
  · cases h

theorem hasBody_run {P : Program} {f : Nat} (h : hasBody P f = true) (args : Array Value) (w : World) : (callFunc f args).run P w = .ok (.enter f args) w := by
  unfold hasBody at h
  split at h
  · rename_i fn hf
    simp only [Bool.and_eq_true, Bool.not_eq_true'] at h
    simp only [callFunc, Sem.run_bind, run_program, Result.andThen_ok, hf]
    have h1 : fn.body.isNone = false := by cases hb : fn.body <;> simp_all
    simp [h.2, h1]
  · cases h

theorem extCall_run {P : Program} {f : Nat} {args : Array Value} {w w' : World} {v : Value} (h : (extCall f args).run P w = .ok v w') : (callFunc f args).run P w = .ok (.value v) w' := by
  unfold extCall at h
  simp only [Sem.run_bind] at h
  generalize (callFunc f args).run P w = r at h
  cases r with
  | ok n w1 =>
    simp only [Result.andThen_ok] at h
    cases n <;> simp [stuck] at h ⊢
    all_goals first | exact h | (obtain ⟨rfl, rfl⟩ := h; exact ⟨rfl, rfl⟩)
  | _ => simp [Result.andThen] at h

theorem repL_length (n s : Nat) (z : List Value) (h : z.length = s) : (repL n z).length = n * s := by
  induction n with
  | zero => simp [repL]
  | succ n ih => simp only [repL, List.length_append, ih, h, Nat.succ_mul]; omega

theorem repL_eq : ∀ (n s : Nat) (z : List Value), z.length = s → 0 < s → (Array.range (n * s)).map (fun i => (⟨z⟩ : Array Value)[i % (⟨z⟩ : Array Value).size]!) = ⟨repL n z⟩ := by
  intro n s z hz hs
  apply Array.ext'
  simp only [Array.toList_map, Array.toList_range]
  have hsz : (⟨z⟩ : Array Value).size = s := by simpa using hz
  rw [hsz]
  induction n with
  | zero => simp [repL]
  | succ n ih =>
    rw [Nat.succ_mul, Nat.add_comm (n * s) s, List.range_add, List.map_append, List.map_map]
    have h1 : (List.range s).map (fun i => (⟨z⟩ : Array Value)[i % s]!) = z := by
      apply List.ext_getElem
      · simp [hz]
      · intro i h1 h2
        simp at h1
        simp [Nat.mod_eq_of_lt h1, show i < z.length by omega]
    have h2 : (List.range (n * s)).map ((fun i => (⟨z⟩ : Array Value)[i % s]!) ∘ (s + ·)) = (List.range (n * s)).map (fun i => (⟨z⟩ : Array Value)[i % s]!) := by
      apply List.map_congr_left
      intro i _
      simp [Nat.add_mod_left]
    rw [h1, h2, ih]
    rfl


/-- what an operation asks for, of an effect -/
def EffGoal (P : Program) (cls : Cls) (o : Oper) (bx : Boxes) (h : Heap) (K : Core → Boxes → Heap → Prop) (a : Act) (w : World) (Q : Exit → Act → World → Prop) : Prop :=
  o.wp P a w (fun a' w' => ∃ x bx', a' = a.put o.dst (x.val bx') ∧ After cls bx h x bx' w'.heap ∧ SameOut w w' ∧ K x bx' w'.heap) Q

theorem eff_value {P : Program} {cls : Cls} {o : Oper} {bx : Boxes} {h : Heap} {K : Core → Boxes → Heap → Prop} {a : Act} {w w' : World} {Q : Exit → Act → World → Prop}
    {x : Core} {bx' : Boxes} (hr : (execOp a.eval o).run P w = .ok (.value (x.val bx')) w') (hA : After cls bx h x bx' w'.heap) (hs : SameOut w w') (hK : K x bx' w'.heap) : EffGoal P cls o bx h K a w Q := by
  unfold EffGoal Oper.wp
  rw [hr]
  exact ⟨x, bx', rfl, hA, hs, hK⟩

theorem eff_skip {P : Program} {cls : Cls} {o : Oper} {bx : Boxes} {h : Heap} {K : Core → Boxes → Heap → Prop} {a : Act} {w w' : World} {Q : Exit → Act → World → Prop}
    {bx' : Boxes} (hr : (execOp a.eval o).run P w = .ok .skip w') (hA : After cls bx h (.v undef) bx' w'.heap) (hs : SameOut w w') (hK : K (.v undef) bx' w'.heap) : EffGoal P cls o bx h K a w Q := by
  unfold EffGoal Oper.wp
  rw [hr]
  exact ⟨.v undef, bx', rfl, hA, hs, hK⟩

theorem after_push {cls : Cls} {bx : Boxes} {h : Heap} (B : Boxed bx h) (o : Obj) (v : Value) : After cls bx h (.v v) bx (h.push o) :=
  ⟨B.keep fun b hb => by rw [push_get, if_neg (by have := B.lt b hb; omega)], fun c hc => ⟨rfl, hc⟩, trivial, fun _ => ⟨push_ext h o, fun _ h => h⟩, fun _ => rfl⟩

theorem after_new {bx : Boxes} {h : Heap} (B : Boxed bx h) {k : Nat} (hk : lookB bx k = none) (vs : List Value) (T : TypeId) :
    After .al bx h (.lp k 0) (setB k h.size vs bx) (h.push (.cells ⟨vs⟩ T)) :=
  ⟨B.new hk vs T, fun c hc => val_set (.inl hk) c hc, by simp [coreOk, lookB_set], fun _ => ⟨push_ext h _, fun _ hb => Boxed.new_back hk vs hb⟩, fun h => by cases h⟩

theorem after_same {cls : Cls} {bx : Boxes} {h h' : Heap} (B : Boxed bx h) (hk : ∀ b ∈ blocksOf bx, h'[b]? = h[b]?) (hc : cls ≠ .al) (v : Value) : After cls bx h (.v v) bx h' :=
  ⟨B.keep hk, fun c hc => ⟨rfl, hc⟩, trivial, fun h => absurd h hc, fun _ => rfl⟩

theorem after_write {bx : Boxes} {h h' : Heap} (B : Boxed bx h) {k b : Nat} {vs vs' : List Value} (hk : lookB bx k = some (b, vs)) (hb : ∃ T, h'[b]? = some (.cells ⟨vs'⟩ T (0, 0)))
    (ho : ∀ b', b' ≠ b → h'[b']? = h[b']?) (v : Value) : After .be bx h (.v v) (setB k b vs' bx) h' :=
  ⟨B.write hk hb ho, fun c hc => val_set (.inr ⟨vs, hk⟩) c hc, trivial, fun h => (by cases h), fun h => (by cases h)⟩

theorem eff_sem {α : Type} {P : Program} {cls : Cls} {o : Oper} {bx : Boxes} {K : Core → Boxes → Heap → Prop} {a : Act} {w : World} {Q : Exit → Act → World → Prop}
    (s : Sem α) (val : α → Value) (B : Boxed bx w.heap) (hcls : cls ≠ .al) (hs : ∀ w', (∃ v, s.run P w = .ok v w') → True)
    (hrun : ∀ v w', s.run P w = .ok v w' → (execOp a.eval o).run P w = .ok (.value (val v)) w' ∨ ((execOp a.eval o).run P w = .ok .skip w' ∧ val v = undef))
    (H : SemR P s (blocksOf bx) w.heap fun v h' => K (.v (val v)) bx h') : EffGoal P cls o bx w.heap K a w Q := by
  unfold SemR at H
  obtain ⟨v, w', h1, h2, h3, h4⟩ := H B.lt w rfl
  rcases hrun v w' h1 with h5 | ⟨h5, h6⟩
  · exact eff_value (x := .v (val v)) (bx' := bx) (by simpa [Core.val] using h5) (after_same B h3 hcls _) h2 h4
  · rw [h6] at h4
    exact eff_skip h5 (after_same B h3 hcls _) h2 h4

theorem eff_ok {P : Program} {C : Cfg} {o : Oper} {ρ : Operand → Option Core} {bx : Boxes} {K : Core → Boxes → Heap → Prop} {a : Act} {w : World} {Q : Exit → Act → World → Prop}
    (H : vcEff P C (clsOf P C o) o ρ bx w.heap K) (hρ : ∀ y c, ρ y = some c → a.eval y = c.val bx) (B : Boxed bx w.heap) : EffGoal P (clsOf P C o) o bx w.heap K a w Q := by
  obtain ⟨dst, op, ty, pos, after, guard⟩ := o
  unfold vcEff at H
  simp only at H
  split at H
  · -- box
    rename_i e x
    have hcls : clsOf P C ⟨dst, .box e x, ty, pos, after, guard⟩ = .al := rfl
    rw [hcls]
    split at H
    case h_2 => exact H.elim
    rename_i v hx
    have hrun : (execOp a.eval (⟨dst, .box e x, ty, pos, after, guard⟩ : Oper)).run P w = .ok (.value (.pointer (some ⟨w.heap.size, 0, none⟩))) { w with heap := w.heap.push (.cells ⟨cellsOf v⟩ e) } := by
      simp [execOp, Instr.box, newVar, newRow, hρ _ _ hx, Core.val, cellsOf_eq]
    split at H
    case h_2 => exact H.elim
    rename_i d
    split at H
    · split at H
      case h_2 => exact H.elim
      rename_i hk
      unfold AllocR at H
      have hb : blk (setB d w.heap.size (cellsOf v) bx) d = w.heap.size := by simp [blk, lookB_set]
      exact eff_value (x := .lp d 0) (bx' := setB d w.heap.size (cellsOf v) bx) (w' := { w with heap := w.heap.push (.cells ⟨cellsOf v⟩ e) }) (by rw [hrun]; simp [Core.val, hb]) (after_new B hk _ _) ⟨rfl, rfl, rfl⟩ (H _ _ rfl rfl)
    · unfold AllocR at H
      exact eff_value (x := .v _) (bx' := bx) hrun (after_push B _ _) ⟨rfl, rfl, rfl⟩ (H _ _ rfl rfl)
  · -- alloc
    rename_i e
    have hcls : clsOf P C ⟨dst, .alloc e, ty, pos, after, guard⟩ = .al := rfl
    rw [hcls]
    split at H
    case h_2 => exact H.elim
    rename_i l d hl
    obtain ⟨z, hz, hzc⟩ := zeroCellsL_run hl w
    have hrun : (execOp a.eval (⟨some d, .alloc e, ty, pos, after, guard⟩ : Oper)).run P w = .ok (.value (.pointer (some ⟨w.heap.size, 0, none⟩))) { w with heap := w.heap.push (.cells ⟨l⟩ e) } := by
      simp [execOp, Instr.alloc, newVar, newRow, hz, hzc]
    split at H
    · split at H
      case h_2 => exact H.elim
      rename_i hk
      unfold AllocR at H
      have hb : blk (setB d w.heap.size l bx) d = w.heap.size := by simp [blk, lookB_set]
      exact eff_value (x := .lp d 0) (bx' := setB d w.heap.size l bx) (w' := { w with heap := w.heap.push (.cells ⟨l⟩ e) }) (by rw [hrun]; simp [Core.val, hb]) (after_new B hk _ _) ⟨rfl, rfl, rfl⟩ (H _ _ rfl rfl)
    · unfold AllocR at H
      exact eff_value (x := .v _) (bx' := bx) hrun (after_push B _ _) ⟨rfl, rfl, rfl⟩ (H _ _ rfl rfl)
  · -- buildSlice
    rename_i t n parts
    have hcls : clsOf P C ⟨dst, .buildSlice t n parts, ty, pos, after, guard⟩ = .al := rfl
    rw [hcls]
    split at H
    case h_2 => exact H.elim
    rename_i e hu
    split at H
    case h_2 => exact H.elim
    rename_i z s hz hs
    split at H
    case h_2 => exact H.elim
    rename_i l h1 h2 h3
    unfold AllocR at H
    obtain ⟨zv, hzv, hzc⟩ := zeroCellsL_run hz w
    have h1' : n * s ≤ 16777216 := Nat.le_of_ble_eq_true h1
    have h2' := Nat.eq_of_beq_eq_true h2
    have hlen : (repL n z).length = n * s := repL_length n s z h2'
    have hfill := fillL_run (place' := fun i => some (i * s, s)) hρ (fun i p hp => hp) parts.toList _ (repL n z) l hlen h3
    have hrun : (execOp a.eval (⟨dst, .buildSlice t n parts, ty, pos, after, guard⟩ : Oper)).run P w = .ok (.value (.slice (some ⟨w.heap.size, 0, none⟩) n n)) { w with heap := w.heap.push (.cells ⟨l⟩ e) } := by
      have he : (parts.map fun (x : Nat × Operand) => (x.1, a.eval x.2)).toList = parts.toList.map fun p => (p.1, a.eval p.2) := by simp
      rw [← he] at hfill
      simp only [execOp, Sem.run_bind, Instr.buildSlice, underlying_run P t w hu, Result.andThen_ok, sizeOfT_run hs w]
      rw [if_neg (by omega)]
      by_cases h0 : n * s = 0
      · have hr : repL n z = [] := by rw [← List.length_eq_zero_iff, hlen]; exact h0
        rw [hr] at hfill
        simp only [h0, if_true, Sem.run_bind, Sem.run_pure, Result.andThen_ok, show Array.range 0 = #[] from (by first | rfl | (apply Array.ext'; simp)), Array.map_empty]
        have hfill' : Instr.fill (fun i => some (i * s, s)) #[] (parts.map fun (x : Nat × Operand) => (x.1, a.eval x.2)).toList = some ⟨l⟩ := hfill
        split
        · rename_i cells hc
          rw [hfill'] at hc
          simp at hc; subst hc; simp [newRow]
        · rename_i hc
          rw [hfill'] at hc
          exact (hc _ rfl).elim
      · have hs0 : 0 < s := by
          rcases Nat.eq_zero_or_pos s with h | h
          · subst h; simp at h0
          · exact h
        simp only [h0, if_false, Sem.run_bind, hzv, Result.andThen_ok, Sem.run_pure, hzc]
        rw [repL_eq n s z h2' hs0]
        split
        · rename_i cells hc
          rw [hfill] at hc
          simp at hc; subst hc; simp [newRow]
        · rename_i hc
          rw [hfill] at hc
          exact (hc _ rfl).elim
    exact eff_value (x := .v _) (bx' := bx) hrun (after_push B _ _) ⟨rfl, rfl, rfl⟩ (H _ _ rfl rfl)
  · -- makeMap
    rename_i t
    have hcls : clsOf P C ⟨dst, .makeMap t none, ty, pos, after, guard⟩ = .al := rfl
    rw [hcls]
    unfold AllocR at H
    exact eff_value (x := .v (.map (some w.heap.size))) (bx' := bx) (w' := { w with heap := w.heap.push (.map #[] 0) }) (by simp [execOp, Instr.makeMap, Core.val]) (after_push B _ _) ⟨rfl, rfl, rfl⟩ (H _ _ rfl rfl)
  · -- store
    rename_i t ad x
    split at H
    · rename_i v hcls hx
      rw [hcls]
      split at H
      · rename_i k off l ha hl
        split at H
        · rename_i b vs s hk hs
          split at H
          · rename_i h1 h2 h3
            rw [leB_eq] at h2
            unfold BoxR at H
            obtain ⟨T, hT⟩ := B.boxIn _ _ _ hk
            have h1' := Nat.eq_of_beq_eq_true h1
            obtain ⟨w', r1, r2, r3, r4, r5⟩ := storeAt_run (P := P) (l := l) hs h1 h3 (by rw [h1']; exact h2) hT (off := off)
            refine eff_skip (bx' := setB k b (spliceL off (cellsOf v) vs) bx) ?_ (after_write B hk ⟨T, r4⟩ r5 _) r2 (H _ r3 r5)
            simp only [execOp, Sem.run_bind, hρ _ _ ha, hρ _ _ hx, Core.val, blk_of hk]
            rw [r1]; simp
          · exact H.elim
        · exact H.elim
      · rename_i k off l ha hl
        split at H
        · rename_i b vs s hk hs
          split at H
          · rename_i h1 h3
            unfold Need BoxR at H
            obtain ⟨h2, H⟩ := H
            have h2 : off + s ≤ vs.length := h2
            obtain ⟨T, hT⟩ := B.boxIn _ _ _ hk
            have h1' := Nat.eq_of_beq_eq_true h1
            obtain ⟨w', r1, r2, r3, r4, r5⟩ := storeAt_run (P := P) (l := l) hs h1 h3 (by rw [h1']; exact h2) hT (off := off)
            refine eff_skip (bx' := setB k b (spliceL off (cellsOf v) vs) bx) ?_ (after_write B hk ⟨T, r4⟩ r5 _) r2 (H _ r3 r5)
            simp only [execOp, Sem.run_bind, hρ _ _ ha, hρ _ _ hx, Core.val, blk_of hk]
            rw [r1]; simp
          · exact H.elim
        · exact H.elim
      · exact H.elim
    · rename_i v hcls hx
      rw [hcls]
      split at H
      · rename_i b off l s ha hl hs
        split at H
        · rename_i h1 h3
          unfold StoreR at H
          obtain ⟨c, T, hT, hlen, hnb, H⟩ := H
          have h1' := Nat.eq_of_beq_eq_true h1
          obtain ⟨w', r1, r2, r3, r4, r5⟩ := storeAt_run (P := P) (l := l) hs h1 h3 hlen hT (off := off)
          refine eff_skip (bx' := bx) ?_ (after_same B (fun b' hb' => r5 b' (fun e => hnb (e ▸ hb'))) (by simp) _) r2 (H _ r3 r4 r5)
          simp only [execOp, Sem.run_bind, hρ _ _ ha, hρ _ _ hx, Core.val]
          rw [r1]; simp
        · exact H.elim
      · exact H.elim
    · exact H.elim
  · -- mapUpdate
    rename_i t m k x
    split at H
    · rename_i mv kv xv hm hk hx
      refine eff_sem (Instr.mapUpdate t mv kv xv) (fun _ => undef) B (by simp [clsOf]) (fun _ _ => trivial) (fun v w' hr => .inr ⟨?_, rfl⟩) H
      simp only [execOp, Sem.run_bind, hρ _ _ hm, hρ _ _ hk, hρ _ _ hx, Core.val, hr, Result.andThen_ok, Sem.run_pure]
    · exact H.elim
  · -- insert
    rename_i t m k x
    split at H
    · rename_i mv kv xv hm hk hx
      refine eff_sem (Instr.mapUpdate t mv kv xv) (fun _ => undef) B (by simp [clsOf]) (fun _ _ => trivial) (fun v w' hr => .inr ⟨?_, rfl⟩) H
      simp only [execOp, Sem.run_bind, hρ _ _ hm, hρ _ _ hk, hρ _ _ hx, Core.val, hr, Result.andThen_ok, Sem.run_pure]
    · exact H.elim
  · -- makeSlice
    rename_i t l c
    split at H
    · rename_i lv cv hl hc
      refine eff_sem (Instr.makeSlice t lv cv) id B (by simp [clsOf]) (fun _ _ => trivial) (fun v w' hr => .inl ?_) H
      simp only [execOp, Sem.run_bind, hρ _ _ hl, hρ _ _ hc, Core.val, hr, Result.andThen_ok, Sem.run_pure, id]
    · exact H.elim
  · -- convert
    rename_i s t x
    split at H
    · rename_i xv hx
      refine eff_sem (convert s t xv) id B ?_ (fun _ _ => trivial) (fun v w' hr => .inl ?_) H
      · simp only [clsOf]; split <;> simp
      · simp only [execOp, Sem.run_bind, hρ _ _ hx, Core.val, hr, Result.andThen_ok, Sem.run_pure, id]
    · exact H.elim
  · -- range
    rename_i t x
    split at H
    · rename_i xv hx
      refine eff_sem (Instr.range t xv) id B (by simp [clsOf]) (fun _ _ => trivial) (fun v w' hr => .inl ?_) H
      simp only [execOp, Sem.run_bind, hρ _ _ hx, Core.val, hr, Result.andThen_ok, Sem.run_pure, id]
    · exact H.elim
  · -- next
    rename_i it s
    split at H
    · rename_i xv hx
      refine eff_sem (Instr.next xv s ty) id B (by simp [clsOf]) (fun _ _ => trivial) (fun v w' hr => .inl ?_) H
      simp only [execOp, Sem.run_bind, hρ _ _ hx, Core.val, hr, Result.andThen_ok, Sem.run_pure, id]
    · exact H.elim
  · -- entry
    rename_i it
    split at H
    · rename_i xv hx
      refine eff_sem (Instr.entry xv) id B (by simp [clsOf]) (fun _ _ => trivial) (fun v w' hr => .inl ?_) H
      simp only [execOp, Sem.run_bind, hρ _ _ hx, Core.val, hr, Result.andThen_ok, Sem.run_pure, id]
    · exact H.elim
  · -- mapEntry
    rename_i t m k
    split at H
    · rename_i mv kv hm hk
      refine eff_sem (Instr.mapEntry t mv kv) id B (by simp [clsOf]) (fun _ _ => trivial) (fun v w' hr => .inl ?_) H
      simp only [execOp, Sem.run_bind, hρ _ _ hm, hρ _ _ hk, Core.val, hr, Result.andThen_ok, Sem.run_pure, id]
    · exact H.elim
  · -- entryStore
    rename_i t m s x
    split at H
    · rename_i mv sv xv hm hs hx
      refine eff_sem (Instr.entryStore t mv sv xv) (fun _ => undef) B (by simp [clsOf]) (fun _ _ => trivial) (fun v w' hr => .inr ⟨?_, rfl⟩) H
      simp only [execOp, Sem.run_bind, hρ _ _ hm, hρ _ _ hs, hρ _ _ hx, Core.val, hr, Result.andThen_ok, Sem.run_pure]
    · exact H.elim
  · -- binOp
    rename_i op t x y yt
    split at H
    · rename_i av bv ha hb
      refine eff_sem _ id B ?_ (fun _ _ => trivial) (fun v w' hr => .inl ?_) H
      · simp only [clsOf]; split <;> simp
      · simp only [Sem.run_bind] at hr
        simp only [execOp, Sem.run_bind, hρ _ _ ha, hρ _ _ hb, Core.val, hr, Result.andThen_ok, Sem.run_pure, id]
    · exact H.elim
  · -- builtins
    rename_i b args ts
    split at H
    case h_2 => exact H.elim
    rename_i as has
    have h1 := vals_map hρ _ _ has
    have h1' : args.map a.eval = ⟨as⟩ := by apply Array.ext'; simp [h1]
    split at H
    · refine eff_sem _ id B (by simp [clsOf]) (fun _ _ => trivial) (fun v w' hr => .inl ?_) H
      simp only [execOp, resolve, h1', Sem.run_bind, Sem.run_pure, Result.andThen_ok, invoke, builtin, hr, id]
    · refine eff_sem _ id B (by simp [clsOf]) (fun _ _ => trivial) (fun v w' hr => .inl ?_) H
      simp only [execOp, resolve, h1', Sem.run_bind, Sem.run_pure, Result.andThen_ok, invoke, builtin, hr, id]
    · refine eff_sem _ id B (by simp [clsOf]) (fun _ _ => trivial) (fun v w' hr => .inl ?_) H
      simp only [execOp, resolve, h1', Sem.run_bind, Sem.run_pure, Result.andThen_ok, invoke, builtin, hr, id]
    · refine eff_sem _ id B (by simp [clsOf]) (fun _ _ => trivial) (fun v w' hr => .inl ?_) H
      simp only [execOp, resolve, h1', Sem.run_bind, Sem.run_pure, Result.andThen_ok, invoke, builtin, hr, id]
    · refine eff_sem _ id B (by simp [clsOf]) (fun _ _ => trivial) (fun v w' hr => .inl ?_) H
      simp only [execOp, resolve, h1', Sem.run_bind, Sem.run_pure, Result.andThen_ok, invoke, builtin, hr, id]
    · refine eff_sem _ id B (by simp [clsOf]) (fun _ _ => trivial) (fun v w' hr => .inl ?_) H
      simp only [execOp, resolve, h1', Sem.run_bind, Sem.run_pure, Result.andThen_ok, invoke, builtin, hr, id]
    · exact H.elim
  · -- a call
    rename_i f args ts
    split at H
    case h_2 => exact H.elim
    rename_i f' first captured as hf has
    have h1 := vals_map hρ _ _ has
    have h1' : args.map a.eval = ⟨as⟩ := by apply Array.ext'; simp [h1]
    split at H
    case h_2 =>
      refine eff_sem _ id B (by simp [clsOf]) (fun _ _ => trivial) (fun v w' hr => .inl ?_) H
      have hr' := extCall_run hr
      simp only [execOp, resolve, h1', Sem.run_bind, hρ _ _ hf, Core.val, Deferred.ofValue, Sem.run_pure, Result.andThen_ok, invoke, id]
      simpa using hr'
    rename_i hbody
    unfold CallR at H
    have hc := H B.lt w rfl
    unfold EffGoal Oper.wp
    have hrun : (execOp a.eval (⟨dst, .call { callee := .value f, args := args, argTypes := ts }, ty, pos, after, guard⟩ : Oper)).run P w = .ok (.enter f' ⟨first ++ as ++ captured⟩) w := by
      simp only [execOp, resolve, h1', Sem.run_bind, hρ _ _ hf, Core.val, Deferred.ofValue, Sem.run_pure, Result.andThen_ok, invoke]
      rw [hasBody_run hbody]
      simp
    rw [hrun]
    simp only [Oper.upon]
    refine Calls.mono hc fun e w' he => ?_
    obtain ⟨v, rfl, h2, h3, h4⟩ := he
    exact ⟨.v v, bx, rfl, after_same B h3 (by simp [clsOf]) _, h2, h4⟩
  · exact H.elim

end Go.Eng
/-
  The engine, soundness, third part: regions, and code.
-/
set_option linter.all false
namespace Go.Eng
open Go

theorem yielded_put {ops : Array Oper} {a : Act} {j d : Nat} {v : Value} (h : dstOf ops.toList j ≠ some d) : yielded ops (a.put (some d) v).tmps j = yielded ops a.tmps j := by
  rw [dstOf_eq] at h
  unfold yielded
  cases hd : (ops[j]?).bind (·.dst) with
  | none => rfl
  | some t =>
    have hne : d ≠ t := fun e => h (by subst e; simpa using hd)
    simp [Act.put, Array.getElem?_setIfInBounds_ne hne]

theorem freeG_ok {all : List Oper} {d : Nat} : ∀ (eg : EnvG), freeG all d eg = true → ∀ t j w c, lookG eg t = some (j, w, c) → t ≠ d ∧ dstOf all j ≠ some d
  | [], _, t, j, w, c, h => by cases h
  | (t', j', w', c') :: r, hf, t, j, w, c, h => by
    simp only [freeG] at hf
    split at hf
    · cases hf
    · rename_i hne
      have hne' : t' ≠ d := fun e => by subst e; simp [Nat.beq_refl] at hne
      have hrest : (∀ d', dstOf all j' = some d' → d' ≠ d) ∧ freeG all d r = true := by
        split at hf
        · rename_i d' hd'
          split at hf
          · cases hf
          · rename_i hb
            exact ⟨fun d'' h'' => (by rw [hd'] at h''; cases h''; intro e; subst e; simp [Nat.beq_refl] at hb), hf⟩
        · rename_i hd'
          exact ⟨fun d'' h'' => (by rw [hd'] at h''; cases h''), hf⟩
      simp only [lookG] at h
      split at h
      · rename_i hb
        have := Nat.eq_of_beq_eq_true hb
        subst this
        simp at h
        obtain ⟨rfl, rfl, rfl⟩ := h
        exact ⟨hne', fun e => hrest.1 d e rfl⟩
      · exact freeG_ok r hrest.2 t j w c h

theorem putE_ok {ops : Array Oper} {dst : Option Nat} {g : Option (Nat × Bool)} {x : Core} {e : EnvC} {eg : EnvG} {bx : Boxes} {a : Act} {K : EnvC → EnvG → Prop} {v : Value}
    (H : putE ops.toList dst g x e eg K) (A : Agree ops e eg bx a) (hx : coreOk bx x) (hd : ∀ d, dst = some d → d < a.tmps.size)
    (hv : match g with | none => v = x.val bx | some (j, w) => (yielded ops a.tmps j = some w → v = x.val bx) ∧ (yielded ops a.tmps j ≠ some w → v = undef)) :
    ∃ e' eg', K e' eg' ∧ Agree ops e' eg' bx (a.put dst v) := by
  unfold putE at H
  cases dst with
  | none => exact ⟨e, eg, H, A⟩
  | some d =>
    simp only at H
    split at H
    case h_2 => exact H.elim
    rename_i hf
    have hf' := freeG_ok eg hf
    have hdl := hd d rfl
    have same : ∀ t, t ≠ d → (a.put (some d) v).tmps[t]? = a.tmps[t]? := fun t ht => by simp [Act.put, Array.getElem?_setIfInBounds_ne (Ne.symm ht)]
    have here : (a.put (some d) v).tmps[d]? = some v := by simp [Act.put, hdl]
    have egOld : ∀ t j w c, lookG eg t = some (j, w, c) → (yielded ops (a.put (some d) v).tmps j = some w → (a.put (some d) v).tmps[t]? = some (c.val bx)) ∧
        (yielded ops (a.put (some d) v).tmps j ≠ some w → (a.put (some d) v).tmps[t]? = some undef) ∧ coreOk bx c := fun t j w c hl => by
      obtain ⟨h1, h2⟩ := hf' _ _ _ _ hl
      rw [yielded_put h2, same t h1]
      exact A.envg t j w c hl
    cases g with
    | none =>
      simp only at H hv
      refine ⟨_, _, H, ⟨A.defers, fun t c hl hg => ?_, egOld⟩⟩
      simp only [lookC] at hl
      split at hl
      · rename_i hb
        have := Nat.eq_of_beq_eq_true hb
        subst this
        simp at hl; subst hl
        exact ⟨by rw [here, hv], hx⟩
      · rename_i hb
        have hne : t ≠ d := fun e => by subst e; simp [Nat.beq_refl] at hb
        rw [same t hne]
        exact A.env t c hl hg
    | some p =>
      obtain ⟨j, w⟩ := p
      simp only at H hv
      split at H
      case h_2 => exact H.elim
      rename_i d' hd'
      split at H
      · exact H.elim
      · rename_i hb
        have hne' : d' ≠ d := fun e => by subst e; simp [Nat.beq_refl] at hb
        have hjd : dstOf ops.toList j ≠ some d := by rw [hd']; simpa using hne'
        refine ⟨_, _, H, ⟨A.defers, fun t c hl hg => ?_, fun t j' w' c hl => ?_⟩⟩
        · simp only [lookG] at hg
          split at hg
          · cases hg
          · rename_i hb
            have hne : t ≠ d := fun e => by subst e; simp [Nat.beq_refl] at hb
            rw [same t hne]
            exact A.env t c hl hg
        · simp only [lookG] at hl
          split at hl
          · rename_i hb
            have := Nat.eq_of_beq_eq_true hb
            subst this
            simp at hl
            obtain ⟨rfl, rfl, rfl⟩ := hl
            rw [yielded_put hjd, here]
            exact ⟨fun h => by rw [hv.1 h], fun h => by rw [hv.2 h], hx⟩
          · exact egOld t j' w' c hl

theorem coreOk_rd {ops : Array Oper} {e : EnvC} {eg : EnvG} {bx : Boxes} {a : Act} (A : Agree ops e eg bx a) {g : Option (Nat × Bool)} (x : Operand) (c : Core) (h : rd ops.toList g e eg x = some c) : coreOk bx c := by
  cases x with
  | tmp t =>
    simp only [rd] at h
    split at h
    · rename_i j w c' hl
      split at h
      · simp at h; subst h; exact (A.envg _ _ _ _ hl).2.2
      · cases h
    · rename_i hl
      exact (A.env _ _ h hl).2
  | const v => simp [rd] at h; subst h; trivial
  | global n => simp [rd] at h; subst h; trivial
  | func f => simp [rd] at h; subst h; trivial

theorem coreOk_v {bx : Boxes} {o : Option Value} {c : Core} (h : vOf o = some c) : coreOk bx c := by
  obtain ⟨v, _, rfl⟩ := vOf_some h; trivial

theorem coreOk_pure {P : Program} {op : Op} {ρ : Operand → Option Core} {bx : Boxes} {c : Core} (h : pureOp P op ρ = some c) (hρ : ∀ y c, ρ y = some c → coreOk bx c) : coreOk bx c := by
  unfold pureOp at h
  split at h
  · exact hρ _ _ h
  · exact hρ _ _ h
  · split at h
    · exact coreOk_v h
    · cases h
  · split at h
    · exact coreOk_v h
    · cases h
  · split at h
    · exact coreOk_v h
    · cases h
  · split at h
    · split at h
      · rename_i ha; simp at h; subst h; have := hρ _ _ ha; simpa [coreOk] using this
      · rename_i ha; simp at h; subst h; have := hρ _ _ ha; simpa [coreOk] using this
      · simp at h; subst h; trivial
      · cases h
    · cases h
  · split at h
    · split at h
      · exact coreOk_v h
      · cases h
    · cases h
  · exact coreOk_v h
  · split at h
    · simp at h; subst h; trivial
    · cases h
  · split at h
    · rename_i ha; simp at h; subst h; exact hρ _ _ ha
    · rename_i ha; simp at h; subst h; exact hρ _ _ ha
    · simp at h; subst h; trivial
    · simp at h; subst h; trivial
    · cases h
  · split at h
    · split at h
      · simp at h; subst h; trivial
      · cases h
    · split at h
      · simp at h; subst h; trivial
      · cases h
    · cases h
  · split at h
    · exact coreOk_v h
    · cases h
  · cases h

theorem pickOr_ok {P : Program} {ops : Array Oper} {e : EnvC} {eg : EnvG} {bx : Boxes} {a : Act} (A : Agree ops e eg bx a) {g : Option (Nat × Bool)} {o : Oper} {x : Core}
    (h : pickOr ops.toList P g e eg o.op = some x) : coreOk bx x ∧ ((∀ p, g = some p → yielded ops a.tmps p.1 = some p.2) → ∀ w, (execOp a.eval o).run P w = .ok (.value (x.val bx)) w) := by
  unfold pickOr at h
  split at h
  · rename_i c y z ho
    refine ⟨?_, fun hg w => pickOp_ok A hg ho h w⟩
    unfold pickOp at h
    split at h
    · split at h
      · simp at h; subst h; trivial
      · cases h
    · cases h
  · exact ⟨coreOk_pure h (fun y c hy => coreOk_rd A y c hy), fun hg w => pureOp_run (fun y c hy => rd_ok A hg y c hy) h w⟩

theorem wanted_none {ops : Array Oper} {o : Oper} {a : Act} (h : o.guard = none) : Region.wanted o (yielded ops a.tmps) = true := by simp [Region.wanted, h]
theorem wanted_some {ops : Array Oper} {o : Oper} {a : Act} {j : Nat} {w : Bool} (h : o.guard = some (j, w)) : (Region.wanted o (yielded ops a.tmps) = true ↔ yielded ops a.tmps j = some w) := by
  simp [Region.wanted, h]

/-- what stands at the end of a region -/
def RegQ (n : Nat) (w0 : World) (K : EnvC → EnvG → Boxes → Heap → Prop) (ops : Array Oper) : Exit → Act → World → Prop := fun x a w =>
  x = .normal ∧ ∃ e eg bx, Agree ops e eg bx a ∧ Boxed bx w.heap ∧ a.tmps.size = n ∧ SameOut w0 w ∧ K e eg bx w.heap

theorem put_size (a : Act) (d : Option Nat) (v : Value) : (a.put d v).tmps.size = a.tmps.size := by cases d <;> simp [Act.put]

theorem agree_after {ops : Array Oper} {e : EnvC} {eg : EnvG} {bx bx' : Boxes} {a : Act} (A : Agree ops e eg bx a) (hv : ∀ c, coreOk bx c → c.val bx' = c.val bx ∧ coreOk bx' c) : Agree ops e eg bx' a :=
  ⟨A.defers, fun t c hl hg => by obtain ⟨h1, h2⟩ := A.env t c hl hg; obtain ⟨h3, h4⟩ := hv c h2; exact ⟨by rw [h3]; exact h1, h4⟩,
   fun t j w c hl => by obtain ⟨h1, h2, h5⟩ := A.envg t j w c hl; obtain ⟨h3, h4⟩ := hv c h5; exact ⟨fun hy => by rw [h3]; exact h1 hy, h2, h4⟩⟩

section
variable {P : Program} {C : Cfg} {ops : Array Oper} {n : Nat} {w0 : World} {K : EnvC → EnvG → Boxes → Heap → Prop} {Q : Exit → Act → World → Prop} {F : (World → Prop) → Act → World → Prop}

/-- one operation that yields, whatever its class -/
theorem text_yield {k : Nat} {ks : List Nat} {o : Oper} {v : Value} {bx : Boxes} {a : Act} {w : World} (ho : ops[k]? = some o) (B : Boxed bx w.heap)
    (hy : YieldsIf P ops (fun w' => HypC (clsOf P C o) bx w.heap w') o v a) (he : isEff (clsOf P C o) = true → YieldsIf P ops (fun _ => True) o v a)
    (ht : TextRun P ops Q F (clsAt P C ops) ks (fun w => BoxIn bx w.heap) (a.put o.dst v) w) :
    TextRun P ops Q F (clsAt P C ops) (k :: ks) (fun w => BoxIn bx w.heap) a w := by
  have hc : clsAt P C ops k = clsOf P C o := by simp [clsAt, ho]
  simp only [TextRun, hc]
  cases hcl : clsOf P C o with
  | p0 => exact ⟨o, v, ho, by rw [hcl] at hy; exact hy.imp (fun ⟨h1, h2⟩ => ⟨h1, fun w _ => h2 w trivial⟩) id, ht⟩
  | pb => exact ⟨o, v, ho, by rw [hcl] at hy; exact hy, ht⟩
  | rd => exact ⟨o, v, ho, by rw [hcl] at hy; exact hy, ht⟩
  | al => exact (he (by simp [hcl, isEff])).wpOp ho trivial ⟨HExt.refl w, _, B.boxIn, fun _ h => h, ht⟩
  | ef => exact (he (by simp [hcl, isEff])).wpOp ho trivial ⟨B.boxIn, ht⟩
  | be => exact (he (by simp [hcl, isEff])).wpOp ho trivial ⟨_, B.boxIn, ht⟩

/-- one operation with an effect -/
theorem text_eff {k : Nat} {ks : List Nat} {o : Oper} {bx : Boxes} {a : Act} {w : World} (ho : ops[k]? = some o) (B : Boxed bx w.heap) (hw : Region.wanted o (yielded ops a.tmps) = true) (hc : isEff (clsOf P C o) = true)
    {K' : Core → Boxes → Heap → Prop} (h : EffGoal P (clsOf P C o) o bx w.heap K' a w Q)
    (ht : ∀ x bx' w', After (clsOf P C o) bx w.heap x bx' w'.heap → SameOut w w' → K' x bx' w'.heap → TextRun P ops Q F (clsAt P C ops) ks (fun w => BoxIn bx' w.heap) (a.put o.dst (x.val bx')) w') :
    TextRun P ops Q F (clsAt P C ops) (k :: ks) (fun w => BoxIn bx w.heap) a w := by
  have hcl' : clsAt P C ops k = clsOf P C o := by simp [clsAt, ho]
  unfold EffGoal at h
  have base : ∀ (R : Act → World → Prop), (∀ x bx' w', After (clsOf P C o) bx w.heap x bx' w'.heap → TextRun P ops Q F (clsAt P C ops) ks (fun w => BoxIn bx' w.heap) (a.put o.dst (x.val bx')) w' → R (a.put o.dst (x.val bx')) w') →
      wpOp P ops Q k R a w := by
    intro R hR
    unfold wpOp
    simp only [ho, hw, if_true]
    refine .inl (Oper.wp_mono (fun a' w' h' => ?_) h)
    obtain ⟨x, bx', rfl, hA, hs, hK⟩ := h'
    exact hR x bx' w' hA (ht x bx' w' hA hs hK)
  simp only [TextRun, hcl']
  cases hcl : clsOf P C o with
  | p0 => rw [hcl] at hc; cases hc
  | pb => rw [hcl] at hc; cases hc
  | rd => rw [hcl] at hc; cases hc
  | al =>
    refine base _ fun x bx' w' hA hT => ?_
    obtain ⟨h1, h2⟩ := hA.al hcl
    exact ⟨h1, _, hA.boxed.boxIn, fun x h => h2 x.heap h, hT⟩
  | ef =>
    refine base _ fun x bx' w' hA hT => ?_
    have := hA.ef hcl
    subst this
    exact ⟨hA.boxed.boxIn, hT⟩
  | be =>
    refine base _ fun x bx' w' hA hT => ?_
    exact ⟨_, hA.boxed.boxIn, hT⟩

theorem ops_text (hF : ∀ e eg bx a (w : World), K e eg bx w.heap → Agree ops e eg bx a → Boxed bx w.heap → a.tmps.size = n → SameOut w0 w → F (fun w => BoxIn bx w.heap) a w) : ∀ (ks : List Nat) (os : List Oper), ks.map (ops[·]?) = os.map some → (∀ o ∈ os, ∀ d, o.dst = some d → d < n) →
    ∀ (e : EnvC) (eg : EnvG) (bx : Boxes) (a : Act) (w : World), vcOps P C ops.toList K os e eg bx w.heap → Agree ops e eg bx a → Boxed bx w.heap → a.tmps.size = n → SameOut w0 w →
    TextRun P ops Q F (clsAt P C ops) ks (fun w => BoxIn bx w.heap) a w
  | [], [], _, _, e, eg, bx, a, w, H, A, B, hn, hs => hF e eg bx a w H A B hn hs
  | [], _ :: _, h, _, _, _, _, _, _, _, _, _, _, _ => by cases h
  | _ :: _, [], h, _, _, _, _, _, _, _, _, _, _, _ => by cases h
  | k :: ks, o :: os, hm, hd, e, eg, bx, a, w, H, A, B, hn, hs => by
    simp only [List.map_cons, List.cons.injEq] at hm
    obtain ⟨ho, hm⟩ := hm
    have hdo : ∀ d, o.dst = some d → d < a.tmps.size := fun d h => by rw [hn]; exact hd o (by simp) d h
    have rest : ∀ (e' : EnvC) (eg' : EnvG) (bx' : Boxes) (v : Value) (w' : World), vcOps P C ops.toList K os e' eg' bx' w'.heap → Agree ops e' eg' bx' (a.put o.dst v) → Boxed bx' w'.heap → SameOut w w' →
        TextRun P ops Q F (clsAt P C ops) ks (fun w => BoxIn bx' w.heap) (a.put o.dst v) w' := fun e' eg' bx' v w' h1 h2 h3 h4 =>
      ops_text hF ks os hm (fun o' ho' => hd o' (by simp [ho'])) e' eg' bx' _ w' h1 h2 h3 (by rw [put_size]; exact hn) (hs.trans h4)
    -- an effect, its guard standing
    have effCase : Region.wanted o (yielded ops a.tmps) = true → isEff (clsOf P C o) = true → (∀ (g : Option (Nat × Bool)), (∀ p, g = some p → yielded ops a.tmps p.1 = some p.2) →
        (vcEff P C (clsOf P C o) o (rd ops.toList g e eg) bx w.heap fun x bx h => putE ops.toList o.dst none x e eg fun e eg => vcOps P C ops.toList K os e eg bx h) →
        TextRun P ops Q F (clsAt P C ops) (k :: ks) (fun w => BoxIn bx w.heap) a w) := fun hw hE g hg H => by
      refine text_eff ho B hw hE (eff_ok H (fun y c hy => rd_ok A hg y c hy) B) fun x bx' w' hA hso hK => ?_
      obtain ⟨e', eg', h1, h2⟩ := putE_ok hK (agree_after A hA.val) hA.core hdo (v := x.val bx') rfl
      exact rest e' eg' bx' _ w' h1 h2 hA.boxed hso
    simp only [vcOps] at H
    split at H
    · rename_i hg
      have hw := wanted_none (ops := ops) (a := a) hg
      unfold vcOp at H
      split at H
      · rename_i x hx
        obtain ⟨h1, h2⟩ := pickOr_ok A hx
        have h2' := h2 (fun p hp => by cases hp)
        obtain ⟨e', eg', h3, h4⟩ := putE_ok H A h1 hdo (v := x.val bx) rfl
        exact text_yield ho B (.inl ⟨hw, fun w' _ => h2' w'⟩) (fun _ => .inl ⟨hw, fun w' _ => h2' w'⟩) (rest e' eg' bx _ w h3 h4 B (SameOut.refl w))
      · split at H
        · rename_i hE
          obtain ⟨x, hK, _, hco, hrun⟩ := read_ok H
          have hco' := hco (fun y c hy => coreOk_rd A y c hy)
          obtain ⟨e', eg', h3, h4⟩ := putE_ok hK A hco' hdo (v := x.val bx) rfl
          exact text_yield ho B (.inl ⟨hw, fun w' hw' => hrun a.eval w' (fun y c hy => rd_ok A (fun p hp => by cases hp) y c hy) hw'⟩) (fun h => by rw [hE] at h; cases h)
            (rest e' eg' bx _ w h3 h4 B (SameOut.refl w))
        · rename_i hE _
          exact effCase hw hE none (fun p hp => by cases hp) H
        · rename_i hnone; cases hnone
    · rename_i j wt hg
      have hwi := wanted_some (ops := ops) (a := a) hg
      split at H
      case h_2 => exact H.elim
      rename_i c hc
      have hcond := condOf_ok A 9 j wt c hc
      split at H
      · rename_i hE
        unfold vcOp at H
        split at H
        · rename_i x hx
          obtain ⟨h1, h2⟩ := pickOr_ok A hx
          by_cases hy : yielded ops a.tmps j = some wt
          · have h2' := h2 (fun p hp => by cases hp; exact hy)
            obtain ⟨e', eg', h3, h4⟩ := putE_ok H A h1 hdo (v := x.val bx) ⟨fun _ => rfl, fun h => absurd hy h⟩
            exact text_yield ho B (.inl ⟨hwi.2 hy, fun w' _ => h2' w'⟩) (fun h => by rw [hE] at h; cases h) (rest e' eg' bx _ w h3 h4 B (SameOut.refl w))
          · obtain ⟨e', eg', h3, h4⟩ := putE_ok H A h1 hdo (v := undef) ⟨fun h => absurd h hy, fun _ => rfl⟩
            have hwf : Region.wanted o (yielded ops a.tmps) = false := by
              cases hw : Region.wanted o (yielded ops a.tmps) with
              | false => rfl
              | true => exact absurd (hwi.1 hw) hy
            exact text_yield ho B (.inr ⟨hwf, rfl⟩) (fun h => by rw [hE] at h; cases h) (rest e' eg' bx _ w h3 h4 B (SameOut.refl w))
        · rename_i hnone
          split at H
          · obtain ⟨x, hK, _, hco, hrun⟩ := read_ok H
            have hco' := hco (fun y c hy => coreOk_rd A y c hy)
            by_cases hy : yielded ops a.tmps j = some wt
            · obtain ⟨e', eg', h3, h4⟩ := putE_ok hK A hco' hdo (v := x.val bx) ⟨fun _ => rfl, fun h => absurd hy h⟩
              have hct := hcond.1 hy
              exact text_yield ho B (.inl ⟨hwi.2 hy, fun w' hw' => hrun a.eval w' (fun y c hy' => rd_ok A (fun p hp => by cases hp; exact hy) y c hy') hw' hct⟩) (fun h => by rw [hE] at h; cases h)
                (rest e' eg' bx _ w h3 h4 B (SameOut.refl w))
            · obtain ⟨e', eg', h3, h4⟩ := putE_ok hK A hco' hdo (v := undef) ⟨fun h => absurd h hy, fun _ => rfl⟩
              have hwf : Region.wanted o (yielded ops a.tmps) = false := by
                cases hw : Region.wanted o (yielded ops a.tmps) with
                | false => rfl
                | true => exact absurd (hwi.1 hw) hy
              exact text_yield ho B (.inr ⟨hwf, rfl⟩) (fun h => by rw [hE] at h; cases h) (rest e' eg' bx _ w h3 h4 B (SameOut.refl w))
          · rename_i hE' hn'; cases hn'
          · rename_i hE' hn'; rw [hE] at hE'; cases hE'
      · rename_i hE
        unfold IfR at H
        by_cases hy : yielded ops a.tmps j = some wt
        · have H := H.1 (hcond.1 hy)
          unfold vcOps.vcOpE at H
          split at H
          · rename_i x hx
            obtain ⟨h1, h2⟩ := pickOr_ok A hx
            have h2' := h2 (fun p hp => by cases hp; exact hy)
            obtain ⟨e', eg', h3, h4⟩ := putE_ok H A h1 hdo (v := x.val bx) rfl
            exact text_yield ho B (.inl ⟨hwi.2 hy, fun w' _ => h2' w'⟩) (fun _ => .inl ⟨hwi.2 hy, fun w' _ => h2' w'⟩) (rest e' eg' bx _ w h3 h4 B (SameOut.refl w))
          · exact effCase (hwi.2 hy) hE (some (j, wt)) (fun p hp => by cases hp; exact hy) H
        · have hcf : c = false := by cases c with
            | false => rfl
            | true => exact absurd (hcond.2 rfl) hy
          have H := H.2 hcf
          obtain ⟨e', eg', h3, h4⟩ := putE_ok H A (x := .v _) trivial hdo (v := undef) ⟨fun h => absurd h hy, fun _ => rfl⟩
          have hwf : Region.wanted o (yielded ops a.tmps) = false := by
            cases hw : Region.wanted o (yielded ops a.tmps) with
            | false => rfl
            | true => exact absurd (hwi.1 hw) hy
          exact text_yield ho B (.inr ⟨hwf, rfl⟩) (fun _ => .inr ⟨hwf, rfl⟩) (rest e' eg' bx _ w h3 h4 B (SameOut.refl w))

/-- the orders that are looked at, one by one -/
theorem ops_tree : ∀ (t : Tr), (∀ o ∈ ops.toList, ∀ d, o.dst = some d → d < n) →
    ∀ (e : EnvC) (eg : EnvG) (bx : Boxes) (a : Act) (w : World), vcT P C ops.toList K t e eg bx w.heap → Agree ops e eg bx a → Boxed bx w.heap → a.tmps.size = n → SameOut w0 w →
    TreeRun P ops (RegQ n w0 K ops) (clsAt P C ops) t (fun w => BoxIn bx w.heap) a w
  | .nil, _, e, eg, bx, a, w, H, A, B, hn, hs => ⟨rfl, e, eg, bx, A, B, hn, hs, H⟩
  | .cons k t, hd, e, eg, bx, a, w, H, A, B, hn, hs => by
    simp only [vcT] at H
    split at H
    case h_2 => exact H.elim
    rename_i o ho
    have ho' : ops[k]? = some o := by
      have hn : ∀ (all : List Oper) (k : Nat), permL.nthO all k = all[k]? := by
        intro all
        induction all with
        | nil => intro k; simp [permL.nthO]
        | cons o r ih => intro k; cases k <;> simp [permL.nthO, ih]
      rw [hn] at ho
      simpa using ho
    simp only [TreeRun]
    exact ops_text (K := fun e eg bx h => vcT P C ops.toList K t e eg bx h) (fun e eg bx a w H A B hn hs => ops_tree t hd e eg bx a w H A B hn hs) [k] [o] (by simp [ho']) (fun o' h' => hd o' (by simp at h'; subst h'; exact Array.mem_toList_iff.2 (Array.mem_of_getElem? ho'))) e eg bx a w H A B hn hs
  | .both s t, hd, e, eg, bx, a, w, H, A, B, hn, hs => by
    simp only [vcT] at H
    unfold BothR at H
    exact ⟨ops_tree s hd e eg bx a w H.1 A B hn hs, ops_tree t hd e eg bx a w H.2 A B hn hs⟩

end
end Go.Eng
/-
  The engine, soundness, last part: code, and functions.
-/
set_option linter.all false
namespace Go.Eng
open Go

/-- what is known of a frame between regions -/
structure AgreeC (n : Nat) (e : EnvC) (bx : Boxes) (a : Act) : Prop where
  size : a.tmps.size = n
  defers : a.defers = []
  env : ∀ t c, lookC e t = some c → a.tmps[t]? = some (c.val bx) ∧ coreOk bx c

theorem AgreeC.agree {n : Nat} {e : EnvC} {bx : Boxes} {a : Act} (A : AgreeC n e bx a) (ops : Array Oper) : Agree ops e [] bx a :=
  ⟨A.defers, fun t c h _ => A.env t c h, fun t j w c h => by cases h⟩

theorem keepE_ok : ∀ (L : List Nat) (e : EnvC) (K : EnvC → Prop), keepE L e K → ∃ e', K e' ∧ ∀ t c, lookC e' t = some c → lookC e t = some c
  | [], e, K, h => ⟨[], h, fun t c hl => by cases hl⟩
  | t :: L, e, K, h => by
    simp only [keepE] at h
    split at h
    · rename_i c hc
      obtain ⟨e', h1, h2⟩ := keepE_ok L e _ h
      refine ⟨_, h1, fun t' c' hl => ?_⟩
      simp only [lookC] at hl
      split at hl
      · rename_i hb
        have := Nat.eq_of_beq_eq_true hb
        subst this
        simp at hl; subst hl; exact hc
      · exact h2 t' c' hl
    · exact keepE_ok L e K h

theorem keepG_ok : ∀ (L : List Nat) (e : EnvC) (eg : EnvG) (K : EnvC → Prop), keepG L e eg K → ∃ e', K e' ∧ ∀ t c, lookC e' t = some c → lookC e t = some c ∧ lookG eg t = none
  | [], e, eg, K, h => ⟨[], h, fun t c hl => by cases hl⟩
  | t :: L, e, eg, K, h => by
    simp only [keepG] at h
    split at h
    · exact keepG_ok L e eg K h
    · rename_i hg
      split at h
      · rename_i c hc
        obtain ⟨e', h1, h2⟩ := keepG_ok L e eg _ h
        refine ⟨_, h1, fun t' c' hl => ?_⟩
        simp only [lookC] at hl
        split at hl
        · rename_i hb
          have := Nat.eq_of_beq_eq_true hb
          subst this
          simp at hl; subst hl; exact ⟨hc, hg⟩
        · exact h2 t' c' hl
      · exact keepG_ok L e eg K h

theorem keepB_ok : ∀ (L : List Nat) (bx : Boxes) (K : Boxes → Prop), keepB L bx K → ∃ bx', K bx' ∧ ∀ k x, lookB bx' k = some x → lookB bx k = some x
  | [], bx, K, h => ⟨[], h, fun t c hl => by cases hl⟩
  | k :: L, bx, K, h => by
    simp only [keepB] at h
    split at h
    · rename_i b vs hc
      obtain ⟨bx', h1, h2⟩ := keepB_ok L bx _ h
      refine ⟨_, h1, fun k' x hl => ?_⟩
      simp only [lookB] at hl
      split at hl
      · rename_i hb
        have := Nat.eq_of_beq_eq_true hb
        subst this
        simp at hl; subst hl; exact hc
      · exact h2 k' x hl
    · exact keepB_ok L bx K h

theorem coresIn_ok {bx : Boxes} : ∀ (e : EnvC), coresIn bx e = true → ∀ t c, lookC e t = some c → coreOk bx c
  | [], _, t, c, h => by cases h
  | (t', c') :: r, hc, t, c, h => by
    have hr : coresIn bx r = true ∧ coreOk bx c' := by
      cases c' with
      | v x => exact ⟨hc, trivial⟩
      | lp k off => simp only [coresIn] at hc; split at hc
                    · rename_i hk; exact ⟨hc, by simp [coreOk, hk]⟩
                    · cases hc
      | li k off => simp only [coresIn] at hc; split at hc
                    · rename_i hk; exact ⟨hc, by simp [coreOk, hk]⟩
                    · cases hc
    simp only [lookC] at h
    split at h
    · simp at h; subst h; exact hr.2
    · exact coresIn_ok r hr.1 t c h

theorem properB_ok : ∀ (bx : Boxes), properB bx = true → Proper bx
  | [], _ => trivial
  | (k, _, _) :: r, h => by
    simp only [properB] at h
    split at h
    · cases h
    · rename_i hk; exact ⟨hk, properB_ok r h⟩

theorem keepS_ok {n : Nat} {L B : List Nat} {e : EnvC} {bx : Boxes} {a : Act} {h : Heap} {K : EnvC → Boxes → Prop} (H : keepS L B e bx K) (A : AgreeC n e bx a) (X : Boxed bx h) :
    ∃ e' bx', K e' bx' ∧ AgreeC n e' bx' a ∧ Boxed bx' h := by
  unfold keepS at H
  obtain ⟨e', H, he⟩ := keepE_ok L e _ H
  obtain ⟨bx', H, hb⟩ := keepB_ok B bx _ H
  split at H
  case h_2 => exact H.elim
  rename_i hc hp
  refine ⟨e', bx', H, ⟨A.size, A.defers, fun t c hl => ?_⟩, ⟨fun k b vs hk => X.boxIn k b vs (hb _ _ hk), fun k k' b b' vs vs' h1 h2 hne => X.distinct k k' b b' vs vs' (hb _ _ h1) (hb _ _ h2) hne, properB_ok _ hp⟩⟩
  have h1 := A.env t c (he t c hl)
  have h2 := coresIn_ok e' hc t c hl
  refine ⟨?_, h2⟩
  have hval : c.val bx' = c.val bx := by
    cases c with
    | v x => rfl
    | lp k off =>
      simp only [coreOk] at h2
      obtain ⟨x, hx⟩ := Option.isSome_iff_exists.1 h2
      simp [Core.val, blk, hx, hb _ _ hx]
    | li k off =>
      simp only [coreOk] at h2
      obtain ⟨x, hx⟩ := Option.isSome_iff_exists.1 h2
      simp [Core.val, blk, hx, hb _ _ hx]
  rw [hval]; exact h1.1

/-- what the model must come to -/
def EndQ (n : Nat) (w0 : World) (Q : Post) : Exit → Act → World → Prop := fun x a w =>
  (match x with | .normal => True | .exit _ => True | .ret => True | _ => False) ∧ ∃ e bx, AgreeC n e bx a ∧ Boxed bx w.heap ∧ SameOut w0 w ∧ Q x e bx w.heap

theorem EndQ.from {n : Nat} {w0 w1 : World} {Q : Post} (h : SameOut w0 w1) {x : Exit} {a : Act} {w : World} (hq : EndQ n w1 Q x a w) : EndQ n w0 Q x a w :=
  let ⟨h1, e, bx, h2, h3, h4, h5⟩ := hq
  ⟨h1, e, bx, h2, h3, h.trans h4, h5⟩

theorem perm_map (ops : Array Oper) : ∀ (l : List Nat), (∀ k ∈ l, k < ops.size) → l.map (ops[·]?) = (permL ops.toList l).map some
  | [], _ => rfl
  | k :: l, h => by
    have hk : k < ops.size := h k (by simp)
    have hn : ∀ (all : List Oper) (k : Nat), permL.nthO all k = all[k]? := by
      intro all
      induction all with
      | nil => intro k; simp [permL.nthO]
      | cons o r ih => intro k; cases k <;> simp [permL.nthO, ih]
    simp only [permL, List.map_cons, hn]
    have : ops.toList[k]? = some ops[k] := by simp [hk]
    rw [this]
    simp only [List.map_cons]
    rw [perm_map ops l (fun k hk => h k (by simp [hk]))]
    simp [hk]

theorem range_map (ops : Array Oper) : (List.range ops.size).map (ops[·]?) = ops.toList.map some := by
  apply List.ext_getElem
  · simp
  · intro i h1 h2
    simp at h1
    simp [h1]

/-- the text's order, where no order is drawn -/
theorem text_seq {P : Program} {ops : Array Oper} {Q : Exit → Act → World → Prop} {cls : Nat → Cls} : ∀ (l : List Nat) (B : World → Prop) (a : Act) (w : World), B w → TextRun P ops Q (fun _ a w => Q .normal a w) cls l B a w → wpOps P ops Q l a w
  | [], B, a, w, _, h => h
  | k :: l, B, a, w, hB, h => by
    rw [wpOps_cons]
    simp only [TextRun] at h
    split at h
    · obtain ⟨o, v, ho, hy, ht⟩ := h
      exact hy.wpOp ho trivial (text_seq l B _ w hB ht)
    · obtain ⟨o, v, ho, hy, ht⟩ := h
      exact hy.wpOp ho hB (text_seq l B _ w hB ht)
    · obtain ⟨o, v, ho, hy, ht⟩ := h
      exact hy.wpOp ho (HExt.refl w) (text_seq l B _ w hB ht)
    · exact wpOp_mono (fun a' w' h' => let ⟨_, B', h1, _, h3⟩ := h'; text_seq l B' a' w' h1 h3) h
    · exact wpOp_mono (fun a' w' h' => text_seq l B a' w' h'.1 h'.2) h
    · exact wpOp_mono (fun a' w' h' => let ⟨B', h1, h3⟩ := h'; text_seq l B' a' w' h1 h3) h

theorem regQ_end {n : Nat} {w0 : World} {C : Cfg} {Q : Post} {ops : Array Oper} {x : Exit} {a : Act} {w : World}
    (h : RegQ n w0 (fun e eg bx h => keepG C.keep e eg fun e => Q .normal e bx h) ops x a w) : EndQ n w0 Q x a w := by
  obtain ⟨rfl, e, eg, bx, A, B, hn, hs, hK⟩ := h
  obtain ⟨e', h1, h2⟩ := keepG_ok C.keep e eg _ hK
  exact ⟨trivial, e', bx, ⟨hn, A.defers, fun t c hl => A.env t c (h2 t c hl).1 (h2 t c hl).2⟩, B, hs, h1⟩

theorem vc_ok {P : Program} {C : Cfg} {n : Nat} (hm : P.follows .mixedOrders = true) : ∀ (c : Code) (Q : Post) (e : EnvC) (bx : Boxes) (a : Act) (w : World), codeOK P C n c = true →
    vc P C c Q e bx w.heap → AgreeC n e bx a → Boxed bx w.heap → c.wp P (EndQ n w Q) a w
  | .skip, Q, e, bx, a, w, _, H, A, B => wp_skip ⟨trivial, e, bx, A, B, SameOut.refl w, H⟩
  | .label _, Q, e, bx, a, w, _, H, A, B => wp_label ⟨trivial, e, bx, A, B, SameOut.refl w, H⟩
  | .exit id, Q, e, bx, a, w, _, H, A, B => wp_exit ⟨trivial, e, bx, A, B, SameOut.refl w, H⟩
  | .ret, Q, e, bx, a, w, _, H, A, B => wp_ret ⟨trivial, e, bx, A, B, SameOut.refl w, H⟩
  | .seq x y, Q, e, bx, a, w, hok, H, A, B => by
    simp only [codeOK, Bool.and_eq_true] at hok
    have main : vc P C x (fun z e bx h => match z with | .normal => vc P C y Q e bx h | z => Q z e bx h) e bx w.heap → (Code.seq x y).wp P (EndQ n w Q) a w := fun H => by
      refine wp_seq (wp_mono (vc_ok hm x _ e bx a w hok.1 H A B) fun z a' w' hq => ?_)
      obtain ⟨h1, e', bx', A', B', hs, hK⟩ := hq
      cases z with
      | normal => exact wp_mono (vc_ok hm y Q e' bx' a' w' hok.2 hK A' B') fun z a'' w'' hq => hq.from hs
      | exit id => exact ⟨trivial, e', bx', A', B', hs, hK⟩
      | ret => exact ⟨trivial, e', bx', A', B', hs, hK⟩
      | goto l => exact h1.elim
      | panic ch => exact h1.elim
      | outgrown => exact h1.elim
    simp only [vc] at H
    split at H
    · unfold MeetR at H; exact main H
    · exact main H
  | .cond c x y, Q, e, bx, a, w, hok, H, A, B => by
    simp only [codeOK, Bool.and_eq_true] at hok
    simp only [vc] at H
    split at H
    case h_2 => exact H.elim
    rename_i t hc
    have hev := rd_ok (A.agree #[]) (g := none) (fun p hp => by cases hp) c _ hc
    unfold IfR at H
    refine wp_cond_split hev (fun ht => ?_) (fun ht => ?_)
    · exact vc_ok hm x Q e bx a w hok.1 (H.1 ht) A B
    · exact vc_ok hm y Q e bx a w hok.2 (H.2 ht) A B
  | .block id x, Q, e, bx, a, w, hok, H, A, B => by
    simp only [codeOK] at hok
    simp only [vc] at H
    refine wp_block (wp_mono (vc_ok hm x _ e bx a w hok H A B) fun z a' w' hq => ?_)
    obtain ⟨h1, e', bx', A', B', hs, hK⟩ := hq
    cases z with
    | normal => exact ⟨trivial, e', bx', A', B', hs, hK⟩
    | exit j =>
      simp only at hK
      by_cases hj : j = id
      · subst hj
        simp only [Nat.beq_refl] at hK
        exact show Exit.inBlock _ _ _ _ _ from by simp only [Exit.inBlock, if_true]; exact ⟨trivial, e', bx', A', B', hs, hK⟩
      · have hb : Nat.beq j id = false := by cases hb : Nat.beq j id with | false => rfl | true => exact absurd (Nat.eq_of_beq_eq_true hb) hj
        rw [hb] at hK
        exact show Exit.inBlock _ _ _ _ _ from by simp only [Exit.inBlock, hj, if_false]; exact ⟨trivial, e', bx', A', B', hs, hK⟩
    | ret => exact ⟨trivial, e', bx', A', B', hs, hK⟩
    | goto l => exact h1.elim
    | panic ch => exact h1.elim
    | outgrown => exact h1.elim
  | .loop x, Q, e, bx, a, w, hok, H, A, B => by
    simp only [codeOK] at hok
    simp only [vc] at H
    unfold LoopR at H
    obtain ⟨L, Bs, I, ⟨d, h0⟩, round⟩ := H
    have start : ∀ (d : Nat) (e : EnvC) (bx : Boxes) (a' : Act) (w' : World), SameOut w w' → AgreeC n e bx a' → Boxed bx w'.heap → (keepS L Bs e bx fun e bx => I d e bx w'.heap) →
        ∃ e bx, AgreeC n e bx a' ∧ Boxed bx w'.heap ∧ SameOut w w' ∧ I d e bx w'.heap := fun d e bx a' w' hs A B h => by
      obtain ⟨e', bx', h1, h2, h3⟩ := keepS_ok h A B
      exact ⟨e', bx', h2, h3, hs, h1⟩
    refine wp_loop_ghost (fun d a' w' => ∃ e bx, AgreeC n e bx a' ∧ Boxed bx w'.heap ∧ SameOut w w' ∧ I d e bx w'.heap) d (start d e bx a w (SameOut.refl w) A B h0) fun d a' w' hI => ?_
    obtain ⟨e', bx', A', B', hs, hI⟩ := hI
    refine wp_mono (vc_ok hm x _ e' bx' a' w' hok (round d e' bx' w'.heap hI) A' B') fun z a'' w'' hq => ?_
    obtain ⟨h1, e'', bx'', A'', B'', hs', hK⟩ := hq
    cases z with
    | normal =>
      obtain ⟨d', hlt, hk⟩ := hK
      exact ⟨d', hlt, start d' e'' bx'' a'' w'' (hs.trans hs') A'' B'' hk⟩
    | exit id => exact ⟨trivial, e'', bx'', A'', B'', hs.trans hs', hK⟩
    | ret => exact ⟨trivial, e'', bx'', A'', B'', hs.trans hs', hK⟩
    | goto l => exact h1.elim
    | panic ch => exact h1.elim
    | outgrown => exact h1.elim
  | .scope x, Q, e, bx, a, w, hok, H, A, B => by
    simp only [codeOK] at hok
    simp only [vc] at H
    refine wp_scope_straight (wp_mono (vc_ok hm x _ e bx a w hok H A B) fun z a' w' hq => ?_)
    obtain ⟨h1, e', bx', A', B', hs, hK⟩ := hq
    cases z with
    | normal => exact ⟨trivial, e', bx', A', B', hs, hK⟩
    | exit id => exact ⟨trivial, e', bx', A', B', hs, hK⟩
    | ret => exact ⟨trivial, e', bx', A', B', hs, hK⟩
    | goto l => exact h1.elim
    | panic ch => exact h1.elim
    | outgrown => exact h1.elim
  | .region id ops false, Q, e, bx, a, w, hok, H, A, B => by
    simp only [codeOK, Bool.and_eq_true] at hok
    simp only [vc] at H
    have hd : ∀ o ∈ ops.toList, ∀ d, o.dst = some d → d < n := fun o ho d hd => by
      have := Array.all_eq_true'.1 hok.1 o (by simpa using ho)
      rw [hd] at this
      simpa using this
    have ht := ops_text (P := P) (C := C) (ops := ops) (n := n) (w0 := w) (Q := RegQ n w (fun e eg bx h => keepG C.keep e eg fun e => Q .normal e bx h) ops) (F := fun _ a' w' => RegQ n w (fun e eg bx h => keepG C.keep e eg fun e => Q .normal e bx h) ops .normal a' w') (fun e eg bx a w H A B hn hs => ⟨rfl, e, eg, bx, A, B, hn, hs, H⟩) (List.range ops.size) ops.toList (range_map ops) hd e [] bx a w H (A.agree ops) B A.size (SameOut.refl w)
    exact wp_mono (wp_region (text_seq _ _ a w B.boxIn ht)) fun z a' w' hq => regQ_end hq
  | .region id ops true, Q, e, bx, a, w, hok, H, A, B => by
    simp only [codeOK, Bool.and_eq_true, Bool.not_true, Bool.false_or, decide_eq_true_eq] at hok
    simp only [vc] at H
    obtain ⟨hok1, hok⟩ := hok
    cases htr : trOf C.trs id with
    | some t =>
    rw [htr] at hok H
    simp only [Bool.and_eq_true, decide_eq_true_eq] at hok
    obtain ⟨⟨hlen, hsel⟩, hdr⟩ := hok
    have hd : ∀ o ∈ ops.toList, ∀ d, o.dst = some d → d < n := fun o ho d hd => by
      have := Array.all_eq_true'.1 hok1 o (by simpa using ho)
      rw [hd] at this
      simpa using this
    have hB' : Boxed bx ({ w with drawn := w.drawn + 1 } : World).heap := B
    have ht := ops_tree (P := P) (C := C) (ops := ops) (n := n) (w0 := w) t hd e [] bx a { w with drawn := w.drawn + 1 } H (A.agree ops) hB' A.size ⟨rfl, rfl, rfl⟩
    exact wp_mono (wp_region_tree hm hlen hsel hdr (fun c a w i o v _ h => by obtain ⟨h1, _⟩ := h; cases h1) B.boxIn ht) fun z a' w' hq => regQ_end hq
    | none =>
    rw [htr] at hok H
    simp only [Bool.and_eq_true, decide_eq_true_eq] at hok
    obtain ⟨⟨⟨hlen, hall⟩, hsel⟩, hdr⟩ := hok
    simp only at H
    have hd : ∀ o ∈ ops.toList, ∀ d, o.dst = some d → d < n := fun o ho d hd => by
      have := Array.all_eq_true'.1 hok1 o (by simpa using ho)
      rw [hd] at this
      simpa using this
    have hB' : Boxed bx ({ w with drawn := w.drawn + 1 } : World).heap := B
    have fin : ∀ (l : List Nat) (os : List Oper), l.map (ops[·]?) = os.map some → (∀ o ∈ os, o ∈ ops.toList) → l.length = ops.size → (∀ k ∈ l, k < ops.size) → drawB ops (clsAt P C ops) l (Array.replicate ops.size false) = true →
        vcOps P C ops.toList (fun e eg bx h => keepG C.keep e eg fun e => Q .normal e bx h) os e [] bx w.heap → (Code.region id ops true).wp P (EndQ n w Q) a w := fun l os hmap hsub hlen hlt hdr H => by
      have ht := ops_text (P := P) (C := C) (ops := ops) (n := n) (w0 := w) (Q := RegQ n w (fun e eg bx h => keepG C.keep e eg fun e => Q .normal e bx h) ops) (F := fun _ a' w' => RegQ n w (fun e eg bx h => keepG C.keep e eg fun e => Q .normal e bx h) ops .normal a' w') (fun e eg bx a w H A B hn hs => ⟨rfl, e, eg, bx, A, B, hn, hs, H⟩) l os hmap (fun o ho => hd o (hsub o ho)) e [] bx a { w with drawn := w.drawn + 1 } H (A.agree ops) hB' A.size ⟨rfl, rfl, rfl⟩
      exact wp_mono (wp_region_text hm hlen hlt hsel hdr (fun c a w i o v _ h => by obtain ⟨h1, _⟩ := h; cases h1) B.boxIn ht) fun z a' w' hq => regQ_end hq
    have hmem : ∀ (l : List Nat), ∀ o ∈ permL ops.toList l, o ∈ ops.toList := by
      intro l
      have hn : ∀ (all : List Oper) (k : Nat), permL.nthO all k = all[k]? := by
        intro all
        induction all with
        | nil => intro k; simp [permL.nthO]
        | cons o r ih => intro k; cases k <;> simp [permL.nthO, ih]
      induction l with
      | nil => intro o ho; cases ho
      | cons k l ih =>
        intro o ho
        simp only [permL] at ho
        split at ho
        · rename_i o' ho'
          simp only [List.mem_cons] at ho
          rcases ho with rfl | ho
          · rw [hn] at ho'; exact List.mem_of_getElem? ho'
          · exact ih o ho
        · exact ih o ho
    split at H
    · rename_i hord
      rw [hord] at hlen hall hdr
      simp only [Option.getD_none] at hlen hall hdr
      exact fin (List.range ops.size) ops.toList (range_map ops) (fun o h => h) (by simp) (fun k hk => by simpa using hk) hdr H
    · rename_i l hord
      rw [hord] at hlen hall hdr
      simp only [Option.getD_some] at hlen hall hdr
      have hlt : ∀ k ∈ l, k < ops.size := fun k hk => by simpa using List.all_eq_true.1 hall k hk
      exact fin l (permL ops.toList l) (perm_map ops l hlt) (hmem l) hlen hlt hdr H
  | .rangeFunc _ _ _ _, Q, e, bx, a, w, _, H, A, B => H.elim
  | .goto _, Q, e, bx, a, w, _, H, A, B => H.elim
  | .refuse _, Q, e, bx, a, w, _, H, A, B => H.elim

/-- what a function hands back -/
def retV (P : Program) (e : EnvC) (bx : Boxes) (h : Heap) : List ResultVar → (List Value → Prop) → Prop
  | [], K => K []
  | .tmp t :: r, K => (match lookC e t with | some (.v x) => retV P e bx h r fun l => K (x :: l) | _ => False)
  | .cell t ty :: r, K => (match lieOf P ty, lookC e t with
    | some .one, some (.lp k off) => (match lookB bx k with
      | some (_, vs) => (match nth vs off with | some v => retV P e bx h r fun l => K (v :: l) | none => False)
      | none => False)
    | some (.agg n), some (.lp k off) => (match lookB bx k with
      | some (_, vs) => (match takeL n (dropL off vs) with | some c => retV P e bx h r fun l => K (.agg ⟨c⟩ :: l) | none => False)
      | none => False)
    | some .one, some (.v (.pointer (some ⟨b, off, none⟩))) => LoadR none h b off fun v => retV P e bx h r fun l => K (v :: l)
    | some (.agg n), some (.v (.pointer (some ⟨b, off, none⟩))) => LoadN none h b off n fun c => retV P e bx h r fun l => K (.agg ⟨c⟩ :: l)
    | _, _ => False)
def retK (P : Program) (e : EnvC) (bx : Boxes) (h : Heap) (K : Value → Prop) (rs : List ResultVar) : Prop :=
  retV P e bx h rs fun l => match l with | [x] => K x | l => K (.tuple ⟨l⟩)

def initE : Nat → List Value → EnvC
  | _, [] => []
  | n, v :: r => (n, .v v) :: initE (n + 1) r

/-- what is asked of a function -/
def vcFn (P : Program) (C : Cfg) (rs : List ResultVar) (c : Code) (args : List Value) (h : Heap) (K : Value → Heap → Prop) : Prop :=
  vc P C c (fun x e bx h => match x with | .normal => retK P e bx h (fun v => K v h) rs | .ret => retK P e bx h (fun v => K v h) rs | _ => False) (initE 0 args) [] h

theorem lookC_init : ∀ (l : List Value) (n t : Nat) (c : Core), lookC (initE n l) t = some c → ∃ i v, t = n + i ∧ l[i]? = some v ∧ c = .v v
  | [], n, t, c, h => by cases h
  | v :: r, n, t, c, h => by
    simp only [initE, lookC] at h
    split at h
    · rename_i hb
      have := Nat.eq_of_beq_eq_true hb
      simp at h
      exact ⟨0, v, by omega, by simp, h.symm⟩
    · obtain ⟨i, v', h1, h2, h3⟩ := lookC_init r (n + 1) t c h
      exact ⟨i + 1, v', by omega, by simpa using h2, h3⟩

theorem loadVar_of {P : Program} {t : TypeId} {b off : Nat} {v : Value} {w : World} (h : (Instr.loadAt t (.pointer (some ⟨b, off, none⟩))).run P w = .ok v w) : (loadVar t ⟨b, off, none⟩).run P w = .ok v w := by
  simpa [Instr.loadAt, Instr.sureAddr] using h

theorem retV_ok {P : Program} {n : Nat} {e : EnvC} {bx : Boxes} {a : Act} {w : World} (A : AgreeC n e bx a) (B : Boxed bx w.heap) : ∀ (rs : List ResultVar) (K : List Value → Prop), retV P e bx w.heap rs K →
    ∃ l, (rs.mapM (fun | .tmp t => pure (a.tmps.getD t undef) | .cell c t => do loadVar t (← asAddr (a.tmps.getD c undef)) : ResultVar → Sem Value)).run P w = .ok l w ∧ K l
  | [], K, h => ⟨[], by simp, h⟩
  | .tmp t :: r, K, h => by
    simp only [retV] at h
    split at h
    · rename_i x hl
      obtain ⟨l, h1, h2⟩ := retV_ok A B r _ h
      have hx := (A.env t _ hl).1
      refine ⟨x :: l, ?_, h2⟩
      simp only [List.mapM_cons, Sem.run_bind, Sem.run_pure, Result.andThen_ok, h1]
      simp [hx, Core.val]
    · exact h.elim
  | .cell t ty :: r, K, h => by
    simp only [retV] at h
    have fin : ∀ (b off : Nat) (v : Value), a.tmps[t]? = some (.pointer (some ⟨b, off, none⟩)) → (Instr.loadAt ty (.pointer (some ⟨b, off, none⟩))).run P w = .ok v w → retV P e bx w.heap r (fun l => K (v :: l)) →
        ∃ l, ((ResultVar.cell t ty :: r).mapM (fun | .tmp t => pure (a.tmps.getD t undef) | .cell c t => do loadVar t (← asAddr (a.tmps.getD c undef)) : ResultVar → Sem Value)).run P w = .ok l w ∧ K l := by
      intro b off v ht hv hr
      obtain ⟨l, h1, h2⟩ := retV_ok A B r _ hr
      refine ⟨v :: l, ?_, h2⟩
      simp only [List.mapM_cons, Sem.run_bind, Sem.run_pure, Result.andThen_ok]
      have : a.tmps.getD t undef = .pointer (some ⟨b, off, none⟩) := by simp [ht]
      rw [this]
      have hA : (asAddr (.pointer (some ⟨b, off, none⟩))).run P w = .ok ⟨b, off, none⟩ w := by simp [asAddr]
      simp only [hA, Result.andThen_ok, loadVar_of hv, h1]
    have bxc : ∀ k b vs, lookB bx k = some (b, vs) → ∀ off, Heap.cell? w.heap b off = vs[off]? := fun k b vs hb off => by
      obtain ⟨T, hT⟩ := B.boxIn k b vs hb
      simp [Heap.cell?, hT]
    split at h
    · rename_i k off hl hx
      split at h
      · rename_i b vs hb
        split at h
        · rename_i v hv
          rw [nth_eq] at hv
          refine fin b off v ?_ (load_one hl (by rw [bxc k b vs hb]; exact hv)) h
          have := (A.env t _ hx).1
          simpa [Core.val, blk_of hb] using this
        · exact h.elim
      · exact h.elim
    · rename_i n' k off hl hx
      split at h
      · rename_i b vs hb
        split at h
        · rename_i c hv
          obtain ⟨h1, h2⟩ := takeL_eq _ _ _ hv
          rw [dropL_eq] at h1
          refine fin b off _ ?_ (load_agg hl h2 (fun j hj => by rw [bxc k b vs hb, h1]; simp [hj])) h
          have := (A.env t _ hx).1
          simpa [Core.val, blk_of hb] using this
        · exact h.elim
      · exact h.elim
    · rename_i b off hl hx
      unfold LoadR at h
      obtain ⟨v, hv, hK⟩ := h
      exact fin b off v (by simpa [Core.val] using (A.env t _ hx).1) (load_one hl hv) hK
    · rename_i n' b off hl hx
      unfold LoadN at h
      obtain ⟨vs, hn, hv, hK⟩ := h
      exact fin b off _ (by simpa [Core.val] using (A.env t _ hx).1) (load_agg hl hn hv) hK
    · exact h.elim

theorem retK_ok {P : Program} {fn : Func} {n : Nat} {e : EnvC} {bx : Boxes} {a : Act} {w : World} {K : Value → Prop} (A : AgreeC n e bx a) (B : Boxed bx w.heap) (h : retK P e bx w.heap K fn.results.toList) :
    ∃ v, (results fn a.tmps).run P w = .ok v w ∧ K v := by
  obtain ⟨l, h1, h2⟩ := retV_ok A B _ _ h
  have h3 : (results fn a.tmps).run P w = .ok (if h : (⟨l⟩ : Array Value).size = 1 then (⟨l⟩ : Array Value)[0] else .tuple ⟨l⟩) w := by
    unfold results
    simp only [Sem.run_bind]
    rw [Array.mapM_eq_mapM_toList]
    simp only [Sem.run_map]
    erw [h1]
    rfl
  refine ⟨_, h3, ?_⟩
  match l, h2 with
  | [], h2 => exact h2
  | [x], h2 => exact h2
  | x :: y :: r, h2 => simpa using h2

theorem call_of {P : Program} (hm : P.follows .mixedOrders = true) {f : Nat} {fn : Func} {c : Code} {C : Cfg} (hf : P.funcs[f]? = some fn) (hb : fn.body = some c)
    (hok : codeOK P C fn.ntmps c = true) {args : List Value} (hlen : args.length ≤ fn.ntmps) {h : Heap} {K : Value → Heap → Prop} (H : vcFn P C fn.results.toList c args h K) : CallH P f args h K := by
  intro w hw
  subst hw
  refine calls_of_wp hf hb (wp_mono (vc_ok hm c _ (initE 0 args) [] _ w hok H ⟨?_, rfl, fun t cr hl => ?_⟩ ⟨fun k b vs hk => (by cases hk), fun k k' b b' vs vs' hk => (by cases hk), trivial⟩) fun z a' w' hq => ?_)
  · simp; omega
  · obtain ⟨i, v, rfl, hi, rfl⟩ := lookC_init args 0 t cr hl
    refine ⟨?_, trivial⟩
    have hlt : i < args.length := by
      rcases Nat.lt_or_ge i args.length with h | h
      · exact h
      · simp [List.getElem?_eq_none h] at hi
    simp [Array.getElem?_append, hlt, Core.val]
    simpa [hlt] using hi
  · obtain ⟨h1, e', bx', A', B', hs, hK⟩ := hq
    cases z with
    | normal =>
      obtain ⟨v, hv, hK⟩ := retK_ok (P := P) (w := w') A' B' hK
      exact ⟨A'.defers, v, hv, v, rfl, hs, hK⟩
    | ret =>
      obtain ⟨v, hv, hK⟩ := retK_ok (P := P) (w := w') A' B' hK
      exact ⟨A'.defers, v, hv, v, rfl, hs, hK⟩
    | exit id => exact hK.elim
    | goto l => exact h1.elim
    | panic ch => exact h1.elim
    | outgrown => exact h1.elim

end Go.Eng
