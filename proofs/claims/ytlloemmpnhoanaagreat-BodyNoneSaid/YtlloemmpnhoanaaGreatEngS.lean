/-
  The engine, soundness, first part: operations that leave the world as it is.
-/
import Derived.Test.YtlloemmpnhoanaaGreatEngC
set_option linter.all false
namespace Go.Eng
open Go

def ExtH (h h' : Heap) : Prop := h.size ≤ h'.size ∧ ∀ b, b < h.size → h'[b]? = h[b]?

theorem ExtH.cell {h h' : Heap} (x : ExtH h h') {b o : Nat} {v : Value} (hc : Heap.cell? h b o = some v) : Heap.cell? h' b o = some v := by
  have hb : b < h.size := by
    unfold Heap.cell? at hc
    rcases Nat.lt_or_ge b h.size with h1 | h1
    · exact h1
    · simp [Array.getElem?_eq_none h1] at hc
  unfold Heap.cell? at hc ⊢
  rw [x.2 b hb]; exact hc

theorem ExtH.obj {h h' : Heap} (x : ExtH h h') {b : Nat} {o : Obj} (hc : h[b]? = some o) : h'[b]? = some o := by
  have hb : b < h.size := by
    rcases Nat.lt_or_ge b h.size with h1 | h1
    · exact h1
    · simp [Array.getElem?_eq_none h1] at hc
  rw [x.2 b hb]; exact hc

def HypC (cls : Cls) (bx : Boxes) (h : Heap) (w : World) : Prop :=
  match cls with
  | .pb => BoxIn bx w.heap
  | .rd => ExtH h w.heap
  | _ => True

theorem load_one {P : Program} {t : TypeId} (hl : lieOf P t = some .one) {b off : Nat} {v : Value} {w : World} (hc : Heap.cell? w.heap b off = some v) :
    (Instr.loadAt t (.pointer (some ⟨b, off, none⟩))).run P w = .ok v w := by
  obtain ⟨h1, h2⟩ := lieOf_one hl w
  simp only [Instr.loadAt, Instr.sureAddr, Sem.run_bind, Sem.run_pure, Result.andThen_ok, loadVar, h1, Bool.false_eq_true, if_false, run_load, cell?_eq, hc]

theorem load_cells {P : Program} {w : World} {b : Nat} : ∀ (n i off : Nat) (vs : List Value) (acc : Array Value), vs.length = n → (∀ k, k < n → Heap.cell? w.heap b (off + i + k) = vs[k]?) →
    (loadCellsFrom ⟨b, off, none⟩ i n acc).run P w = .ok (acc ++ ⟨vs⟩) w
  | 0, i, off, vs, acc, hn, _ => by
    have : vs = [] := by simpa using hn
    subst this; simp [loadCellsFrom]
  | n + 1, i, off, vs, acc, hn, hc => by
    cases vs with
    | nil => simp at hn
    | cons v vs =>
      have h0 := hc 0 (by omega)
      have ha : (⟨b, off, none⟩ : Addr).add i = ⟨b, off + i, none⟩ := by
        unfold Addr.add; split
        · rename_i h; subst h; rfl
        · rfl
      simp only [Nat.add_zero, List.getElem?_cons_zero] at h0
      simp only [loadCellsFrom, Sem.run_bind, ha, run_load, cell?_eq, h0, Result.andThen_ok]
      rw [load_cells n (i + 1) off vs (acc.push v) (by simpa using hn) (fun k hk => by
        have := hc (k + 1) (by omega)
        rw [show off + i + (k + 1) = off + (i + 1) + k by omega] at this
        simpa using this)]
      congr 1
      apply Array.ext'; simp

theorem load_agg {P : Program} {t : TypeId} {n : Nat} (hl : lieOf P t = some (.agg n)) {b off : Nat} {vs : List Value} {w : World} (hn : vs.length = n)
    (hc : ∀ k, k < n → Heap.cell? w.heap b (off + k) = vs[k]?) : (Instr.loadAt t (.pointer (some ⟨b, off, none⟩))).run P w = .ok (.agg ⟨vs⟩) w := by
  obtain ⟨h1, h2⟩ := lieOf_agg hl w
  simp only [Instr.loadAt, Instr.sureAddr, Sem.run_bind, Sem.run_pure, Result.andThen_ok, loadVar, h1, if_true, h2, loadCells]
  rw [load_cells n 0 off vs #[] hn (by simpa using hc)]
  simp

theorem box_cell {bx : Boxes} {h : Heap} (hb : BoxIn bx h) {k b : Nat} {vs : List Value} (hl : lookB bx k = some (b, vs)) (i : Nat) : Heap.cell? h b i = vs[i]? := by
  obtain ⟨T, hT⟩ := hb _ _ _ hl
  simp [Heap.cell?, hT]

theorem blk_of {bx : Boxes} {k b : Nat} {vs : List Value} (hl : lookB bx k = some (b, vs)) : blk bx k = b := by simp [blk, hl]

theorem sizeOfT_run {P : Program} {t : TypeId} {s : Nat} (h : sizeOfT P t = some s) (w : World) : (sizeOf t).run P w = .ok s w := by
  unfold sizeOfT at h
  split at h
  · rename_i i hi
    simp at h; subst h
    simp [sizeOf, typeInfo_run P t w hi]
  · cases h

theorem addr_add (b off n : Nat) : (⟨b, off, none⟩ : Addr).add n = ⟨b, off + n, none⟩ := by
  unfold Addr.add; split
  · rename_i h; subst h; rfl
  · rfl

theorem sliceBound_run {P : Program} {k : IntKind} {i : Int} {l y : Nat} {code : BoundsCode} (h : i = (l : Int)) (hl : l ≤ y) (w : World) : (Instr.sliceBound (.int k i) y code).run P w = .ok l w := by
  subst h
  simp only [Instr.sliceBound, asIntOf, Sem.run_bind, Sem.run_pure, Result.andThen_ok]
  rw [if_pos ⟨by omega, by omega⟩]; simp

theorem optInt_val {ρ : Operand → Option Core} {ρ' : Operand → Value} {bx : Boxes} (hρ : ∀ y c, ρ y = some c → ρ' y = c.val bx) {d : Int} {x : Option Operand} {n : Int} (h : optInt ρ d x = some n) :
    (x = none ∧ n = d) ∨ ∃ y k, x = some y ∧ ρ' y = .int k n := by
  cases x with
  | none => simp [optInt] at h; exact .inl ⟨rfl, h.symm⟩
  | some y =>
    simp only [optInt] at h
    split at h
    · rename_i k n' hy
      simp at h; subst h
      exact .inr ⟨y, k, rfl, hρ _ _ hy⟩
    · cases h

theorem sliceBounds_run {P : Program} {ρ : Operand → Option Core} {ρ' : Operand → Value} {bx : Boxes} (hρ : ∀ y c, ρ y = some c → ρ' y = c.val bx)
    {lo hi : Option Operand} {a b : Int} {len cap l r : Nat} {isS : Bool} (ha : optInt ρ 0 lo = some a) (hb : optInt ρ len hi = some b)
    (h1 : a = (l : Int)) (h2 : b = (r : Int)) (h3 : l ≤ r) (h4 : r ≤ cap) (w : World) :
    (Instr.sliceBounds isS len cap (lo.map ρ') (hi.map ρ') none).run P w = .ok (l, r, cap) w := by
  unfold Instr.sliceBounds
  rcases optInt_val hρ ha with ⟨rfl, h5⟩ | ⟨y, k, rfl, h5⟩
  · have hl0 : l = 0 := by omega
    subst hl0
    rcases optInt_val hρ hb with ⟨rfl, h6⟩ | ⟨y', k', rfl, h6⟩
    · have : r = len := by omega
      subst this; simp
    · simp only [Option.map_none, Option.map_some, Sem.run_bind, Sem.run_pure, Result.andThen_ok, h6]
      rw [sliceBound_run h2 h4 w]; simp
  · rcases optInt_val hρ hb with ⟨rfl, h6⟩ | ⟨y', k', rfl, h6⟩
    · have : r = len := by omega
      subst this
      simp only [Option.map_none, Option.map_some, Sem.run_bind, Sem.run_pure, Result.andThen_ok, h5]
      rw [sliceBound_run h1 h3 w]; simp
    · simp only [Option.map_some, Sem.run_bind, Sem.run_pure, Result.andThen_ok, h5, h6]
      rw [sliceBound_run h2 h4 w]
      simp only [Result.andThen_ok]
      rw [sliceBound_run h1 h3 w]; simp

theorem checkKey_plain {P : Program} {kt : TypeId} {kd : TypeDesc} (hk : P.underlying kt = some kd) (hp : (∃ k, kd = .int k) ∨ kd = .string) (e : Bool) (n : Nat) (v : Value) (w : World) :
    (Instr.checkKey e (n + 1) kt v).run P w = .ok () w := by
  simp only [Instr.checkKey, Sem.run_bind, underlying_run P kt w hk, Result.andThen_ok]
  rcases hp with ⟨k, rfl⟩ | rfl <;> simp

theorem findKey_now {P : Program} {kt : TypeId} {kd : TypeDesc} (hk : P.underlying kt = some kd) {k : Value} {es : List MapEntry} {r : Option (Nat × Value)} (h : Instr.findNow kd k es 0 = some r) (w : World) :
    (Instr.findKey kt k es).run P w = .ok r w := by
  simp only [Instr.findKey, Sem.run_bind, underlying_run P kt w hk, Result.andThen_ok, h, Sem.run_pure]

theorem under_mono {c : Option Bool} {p q : Prop} (h : Under c p) (hq : p → q) : Under c q := by
  cases c with
  | none => exact hq h
  | some b => exact fun hb => hq (h hb)

theorem under_of {c : Option Bool} {q : Prop} (h : q) : Under c q := by
  cases c with
  | none => exact h
  | some b => exact fun _ => h

theorem optVal_map {ρ : Operand → Option Core} {ρ' : Operand → Value} {bx : Boxes} (hρ : ∀ y c, ρ y = some c → ρ' y = c.val bx) {x : Option Operand} {v : Option Value} (h : optVal ρ x = some v) : x.map ρ' = v := by
  cases x with
  | none => simp [optVal] at h; subst h; rfl
  | some y =>
    simp only [optVal] at h
    split at h
    · rename_i v' hy
      simp at h; subst h
      simp [hρ _ _ hy, Core.val]
    · cases h

theorem read_ok {P : Program} {cls : Cls} {c : Option Bool} {o : Oper} {ρ : Operand → Option Core} {bx : Boxes} {h : Heap} {K : Core → Prop}
    (H : vcRead P cls c o.op ρ bx h K) :
    ∃ x, K x ∧ (∀ k, lookB bx k = none → coreOk bx x → True) ∧ ((∀ y c, ρ y = some c → coreOk bx c) → coreOk bx x) ∧
      ∀ (ρ' : Operand → Value) (w : World), (∀ y c, ρ y = some c → ρ' y = c.val bx) → HypC cls bx h w → Under c ((execOp ρ' o).run P w = .ok (.value (x.val bx)) w) := by
  obtain ⟨dst, op, ty, pos, after, guard⟩ := o
  simp only at H
  unfold vcRead at H
  split at H
  · -- load
    rename_i t x
    split at H
    · rename_i k off hl hx
      split at H
      · rename_i b vs hb
        split at H
        · rename_i v hv
          rw [nth_eq] at hv
          refine ⟨.v v, H, fun _ _ _ => trivial, fun _ => trivial, fun ρ' w hρ hw => under_of ?_⟩
          simp only [execOp, Sem.run_bind, hρ _ _ hx, Core.val, blk_of hb]
          rw [load_one hl (by rw [box_cell hw hb]; exact hv)]; simp
        · exact H.elim
      · exact H.elim
    · rename_i n k off hl hx
      split at H
      · rename_i b vs hb
        split at H
        · rename_i l hv
          obtain ⟨h1, h2⟩ := takeL_eq _ _ _ hv
          rw [dropL_eq] at h1
          refine ⟨.v (.agg ⟨l⟩), H, fun _ _ _ => trivial, fun _ => trivial, fun ρ' w hρ hw => under_of ?_⟩
          simp only [execOp, Sem.run_bind, hρ _ _ hx, Core.val, blk_of hb]
          rw [load_agg hl h2 (fun k hk => by rw [box_cell hw hb, h1]; simp [hk])]; simp
        · exact H.elim
      · exact H.elim
    · rename_i k off hl hx
      split at H
      · rename_i b vs hb
        unfold NthR at H
        obtain ⟨v, hv, hK⟩ := H
        refine ⟨.v v, hK, fun _ _ _ => trivial, fun _ => trivial, fun ρ' w hρ hw => under_mono hv fun hv => ?_⟩
        simp only [execOp, Sem.run_bind, hρ _ _ hx, Core.val, blk_of hb]
        rw [load_one hl (by rw [box_cell hw hb]; exact hv)]; simp
      · exact H.elim
    · rename_i b off hl hx
      unfold LoadR at H
      obtain ⟨v, hv, hK⟩ := H
      refine ⟨.v v, hK, fun _ _ _ => trivial, fun _ => trivial, fun ρ' w hρ hw => under_mono hv fun hv => ?_⟩
      simp only [execOp, Sem.run_bind, hρ _ _ hx, Core.val]
      rw [load_one hl (ExtH.cell hw hv)]; simp
    · rename_i n b off hl hx
      unfold LoadN at H
      obtain ⟨vs, hn, hv, hK⟩ := H
      refine ⟨.v (.agg ⟨vs⟩), hK, fun _ _ _ => trivial, fun _ => trivial, fun ρ' w hρ hw => under_mono hv fun hv => ?_⟩
      simp only [execOp, Sem.run_bind, hρ _ _ hx, Core.val]
      rw [load_agg hl hn (fun k hk => by
        have h1 := hv k hk
        have h2 : vs[k]? = some (vs[k]'(by omega)) := by simp [hn, hk]
        rw [h2] at h1 ⊢
        exact ExtH.cell hw h1)]; simp
    · exact H.elim
  · -- indexAddr
    rename_i t x i
    split at H
    case h_2 => exact H.elim
    rename_i k n hi
    split at H
    · rename_i e ad len cp hu hx
      split at H
      case h_2 => exact H.elim
      rename_i s hs
      unfold IdxS at H
      obtain ⟨j, b, off, hj, hK⟩ := H
      refine ⟨_, hK, fun _ _ _ => trivial, fun _ => trivial, fun ρ' w hρ hw => under_mono hj fun hj => ?_⟩
      obtain ⟨rfl, hj, rfl⟩ := hj
      simp only [execOp, Sem.run_bind, hρ _ _ hx, hρ _ _ hi, Core.val, Instr.indexAt, asIntOf, Sem.run_pure, Result.andThen_ok, underlying_run P t w hu]
      rw [if_pos ⟨by omega, by omega⟩]
      simp [sizeOfT_run hs w, addr_add]
    · rename_i len e k' off hu hx
      split at H
      case h_2 => exact H.elim
      rename_i s hs
      unfold IdxR at H
      obtain ⟨j, hj, hK⟩ := H
      refine ⟨_, hK, fun _ _ _ => trivial, fun hρc => (by have := hρc _ _ hx; simpa [coreOk] using this), fun ρ' w hρ hw => under_mono hj fun hj => ?_⟩
      obtain ⟨rfl, hj⟩ := hj
      simp only [execOp, Sem.run_bind, hρ _ _ hx, hρ _ _ hi, Core.val, Instr.indexAt, asIntOf, Sem.run_pure, Result.andThen_ok, underlying_run P t w hu, Instr.sureAddr]
      rw [if_pos ⟨by omega, by omega⟩]
      simp [sizeOfT_run hs w, addr_add]
    · rename_i len e b off hu hx
      split at H
      case h_2 => exact H.elim
      rename_i s hs
      unfold IdxR at H
      obtain ⟨j, hj, hK⟩ := H
      refine ⟨_, hK, fun _ _ _ => trivial, fun _ => trivial, fun ρ' w hρ hw => under_mono hj fun hj => ?_⟩
      obtain ⟨rfl, hj⟩ := hj
      simp only [execOp, Sem.run_bind, hρ _ _ hx, hρ _ _ hi, Core.val, Instr.indexAt, asIntOf, Sem.run_pure, Result.andThen_ok, underlying_run P t w hu, Instr.sureAddr]
      rw [if_pos ⟨by omega, by omega⟩]
      simp [sizeOfT_run hs w, addr_add]
    · exact H.elim
  · -- index
    rename_i t x i
    split at H
    case h_2 => exact H.elim
    rename_i k n hi
    split at H
    · rename_i s hu hx
      unfold IdxR at H
      obtain ⟨j, hj, hK⟩ := H
      refine ⟨_, hK, fun _ _ _ => trivial, fun _ => trivial, fun ρ' w hρ hw => under_mono hj fun hjj => ?_⟩
      obtain ⟨hj1, hj2⟩ := hjj
      subst hj1
      simp only [execOp, Sem.run_bind, hρ _ _ hx, hρ _ _ hi, Core.val, Instr.index, asIntOf, Sem.run_pure, Result.andThen_ok, underlying_run P t w hu]
      have h0 : (0 : Int) ≤ (j : Int) := by omega
      simp only [h0, if_true, Int.toNat_natCast]
      have : s[j]? = some s[j] := by simp [hj2]
      have h2 : byteN s j = (s[j]).toNat := by
        unfold byteN
        have : s.data.toList[j]? = some s[j] := by
          have hj' : j < s.data.size := hj2
          simp [ByteArray.getElem_eq_getElem_data, hj']
        rw [this]; rfl
      rw [this, h2]
      simp
    · rename_i len e cs hu hx
      split at H
      · rename_i hl
        unfold IdxR at H
        obtain ⟨j, hj, hK⟩ := H
        unfold NthR at hK
        obtain ⟨v, hv, hK⟩ := hK
        refine ⟨.v v, hK, fun _ _ _ => trivial, fun _ => trivial, fun ρ' w hρ hw => ?_⟩
        have hboth : Under c ((n = (j : Int) ∧ j < len) ∧ cs[j]? = some v) := by
          cases c with
          | none => exact ⟨hj, hv⟩
          | some b => exact fun hb => ⟨hj hb, hv hb⟩
        refine under_mono hboth fun ⟨⟨hj1, hj2⟩, hv⟩ => ?_
        subst hj1
        obtain ⟨h1, h2⟩ := lieOf_one hl w
        simp only [execOp, Sem.run_bind, hρ _ _ hx, hρ _ _ hi, Core.val, Instr.index, asIntOf, Sem.run_pure, Result.andThen_ok, underlying_run P t w hu]
        rw [if_pos ⟨by omega, by omega⟩]
        simp only [Sem.run_bind, h2, Result.andThen_ok, part, h1, Int.toNat_natCast, Nat.mul_one]
        simp [hv]
      · exact H.elim
    · exact H.elim
  · -- binOp
    rename_i o t x y yt
    split at H
    · rename_i a b ha hb
      split at H
      · unfold Need at H
        refine ⟨_, H.2, fun _ _ _ => trivial, fun _ => trivial, fun ρ' w hρ hw => under_mono H.1 fun hn => ?_⟩
        simp only [execOp, Sem.run_bind, hρ _ _ ha, hρ _ _ hb, Core.val]
        rw [eqGuard_run _ _ _ _ _ _ _ _ (by simp) (by simp)]
        simp only [Result.andThen_ok, binOp, Op.stringOp]
        rw [if_neg (by simp [IntKind.max, IntKind.bits, IntKind.signed]; omega)]
        simp
      · exact H.elim
    · rename_i k a k' b ha hb
      split at H
      · split at H
        · rename_i hk
          have hk' : k = k' := by simpa using hk
          subst hk'
          unfold Need at H
          refine ⟨_, H.2, fun _ _ _ => trivial, fun _ => trivial, fun ρ' w hρ hw => under_mono H.1 fun hn => ?_⟩
          simp only [execOp, Sem.run_bind, hρ _ _ ha, hρ _ _ hb, Core.val]
          rw [eqGuard_run _ _ _ _ _ _ _ _ (by simp) (by simp)]
          simp [binOp, Op.intDiv, hn]
        · exact H.elim
      · split at H
        · rename_i hk
          have hk' : k = k' := by simpa using hk
          subst hk'
          unfold Need at H
          refine ⟨_, H.2, fun _ _ _ => trivial, fun _ => trivial, fun ρ' w hρ hw => under_mono H.1 fun hn => ?_⟩
          simp only [execOp, Sem.run_bind, hρ _ _ ha, hρ _ _ hb, Core.val]
          rw [eqGuard_run _ _ _ _ _ _ _ _ (by simp) (by simp)]
          simp [binOp, Op.intDiv, hn]
        · exact H.elim
      · unfold Need at H
        refine ⟨_, H.2, fun _ _ _ => trivial, fun _ => trivial, fun ρ' w hρ hw => under_mono H.1 fun hn => ?_⟩
        simp only [execOp, Sem.run_bind, hρ _ _ ha, hρ _ _ hb, Core.val]
        rw [eqGuard_run _ _ _ _ _ _ _ _ (by simp) (by simp)]
        simp [binOp, Op.shift, show ¬ b < 0 by omega]
      · unfold Need at H
        refine ⟨_, H.2, fun _ _ _ => trivial, fun _ => trivial, fun ρ' w hρ hw => under_mono H.1 fun hn => ?_⟩
        simp only [execOp, Sem.run_bind, hρ _ _ ha, hρ _ _ hb, Core.val]
        rw [eqGuard_run _ _ _ _ _ _ _ _ (by simp) (by simp)]
        simp [binOp, Op.shift, show ¬ b < 0 by omega]
      · exact H.elim
    · rename_i a b h1 h2 ha hb
      unfold PureR at H
      obtain ⟨v, hv, hK⟩ := H
      refine ⟨.v v, hK, fun _ _ _ => trivial, fun _ => trivial, fun ρ' w hρ hw => under_mono hv fun hv => ?_⟩
      have := hv w
      simp only [execOp, Sem.run_bind, hρ _ _ ha, hρ _ _ hb, Core.val] at this ⊢
      rw [this]; simp
    · exact H.elim
  · -- slice, three indexes
    rename_i t x lo hi mx
    split at H
    · rename_i xv lov hiv mxv hx h1 h2 h3
      unfold PureR at H
      obtain ⟨v, hv, hK⟩ := H
      refine ⟨.v v, hK, fun _ _ _ => trivial, fun _ => trivial, fun ρ' w hρ hw => under_mono hv fun hv => ?_⟩
      simp only [execOp, Sem.run_bind, hρ _ _ hx, Core.val, optVal_map hρ h1, optVal_map hρ h2, optVal_map hρ h3, hv w, Result.andThen_ok, Sem.run_pure]
    · exact H.elim
  · -- slice
    rename_i t x lo hi
    split at H
    · rename_i s hu hx
      split at H
      · rename_i l r hl hr
        unfold SliceR at H
        obtain ⟨a, b, hab, hK⟩ := H
        refine ⟨_, hK, fun _ _ _ => trivial, fun _ => trivial, fun ρ' w hρ hw => under_mono hab fun ⟨h1, h2, h3, h4⟩ => ?_⟩
        simp only [execOp, Sem.run_bind, hρ _ _ hx, Core.val, Instr.sliceAt, Instr.slice, underlying_run P t w hu, Result.andThen_ok, Option.map_none]
        simp only [Option.isSome_none, Bool.false_eq_true, if_false, Sem.run_bind]
        rw [sliceBounds_run hρ hl hr h1 h2 h3 h4 w]
        simp
      · exact H.elim
    · rename_i e a len cap hu hx
      split at H
      · rename_i l r s hl hr hs
        unfold SliceR at H
        obtain ⟨p, q, hpq, hK⟩ := H
        refine ⟨_, hK, fun _ _ _ => trivial, fun _ => trivial, fun ρ' w hρ hw => under_mono hpq fun ⟨h1, h2, h3, h4⟩ => ?_⟩
        simp only [execOp, Sem.run_bind, hρ _ _ hx, Core.val, Instr.sliceAt, Instr.slice, underlying_run P t w hu, Result.andThen_ok, Option.map_none]
        rw [sliceBounds_run hρ hl hr h1 h2 h3 h4 w]
        simp only [Result.andThen_ok, sizeOfT_run hs w, Sem.run_pure, slA]
      · exact H.elim
    · rename_i e xv hu hx
      split at H
      · rename_i lov hiv h1 h2
        unfold PureR at H
        obtain ⟨v, hv, hK⟩ := H
        refine ⟨.v v, hK, fun _ _ _ => trivial, fun _ => trivial, fun ρ' w hρ hw => under_mono hv fun hv => ?_⟩
        simp only [execOp, Sem.run_bind, hρ _ _ hx, Core.val, optVal_map hρ h1, optVal_map hρ h2, Option.map_none, hv w, Result.andThen_ok, Sem.run_pure]
      · exact H.elim
    · rename_i m e xv hu hx
      split at H
      · rename_i lov hiv h1 h2
        unfold PureR at H
        obtain ⟨v, hv, hK⟩ := H
        refine ⟨.v v, hK, fun _ _ _ => trivial, fun _ => trivial, fun ρ' w hρ hw => under_mono hv fun hv => ?_⟩
        simp only [execOp, Sem.run_bind, hρ _ _ hx, Core.val, optVal_map hρ h1, optVal_map hρ h2, Option.map_none, hv w, Result.andThen_ok, Sem.run_pure]
      · exact H.elim
    · exact H.elim
  · -- lookup
    rename_i t m k ok
    split at H
    · rename_i kt et r kv hu hm hk
      split at H
      case h_2 => exact H.elim
      rename_i kd i hkd hi
      have main : ∀ z, i.zero = some z → ((∃ k, kd = .int k) ∨ kd = .string) → rdOnly cls (LookR c h kd r kv (lookK K z ok)) → ∃ x, K x ∧ (∀ k, lookB bx k = none → coreOk bx x → True) ∧ ((∀ y c, ρ y = some c → coreOk bx c) → coreOk bx x) ∧
      ∀ (ρ' : Operand → Value) (w : World), (∀ y c, ρ y = some c → ρ' y = c.val bx) → HypC cls bx h w → Under c ((execOp ρ' (⟨dst, .lookup t m k ok, ty, pos, after, guard⟩ : Oper)).run P w = .ok (.value (x.val bx)) w) := by
        intro z hz hp H
        cases cls <;> simp only [rdOnly] at H
        unfold LookR at H
        obtain ⟨o', hl, hK⟩ := H
        have fin : ∀ (w : World) (ρ' : Operand → Value), (∀ y c, ρ y = some c → ρ' y = c.val bx) → HypC .rd bx h w →
            Under c ((Instr.lookup t (ρ' m) (ρ' k) ok).run P w = .ok (match o', ok with
              | some v, true => .tuple ⟨[v, .bool true]⟩ | some v, false => v | none, true => .tuple ⟨[z, .bool false]⟩ | none, false => z) w) := by
          intro w ρ' hρ hw
          refine under_mono hl fun ⟨es, cl, he, hf⟩ => ?_
          have he' := ExtH.obj hw he
          cases hfn : Instr.findNow kd kv es.toList 0 with
          | none => rw [hfn] at hf; simp at hf
          | some q =>
            rw [hfn] at hf
            simp at hf
            have hgo : (getObj r).run P w = .ok (.map es cl) w := by simp [getObj, Sem.run, he']
            simp only [Instr.lookup, Sem.run_bind, underlying_run P t w hu, Result.andThen_ok, hρ _ _ hm, hρ _ _ hk, Core.val, hgo, Sem.run_pure]
            rw [checkKey_plain hkd hp]
            simp only [Result.andThen_ok, findKey_now hkd hfn w]
            have hze : (zeroValue et).run P w = .ok z w := by simp [zeroValue, typeInfo_run P et w hi, hz]
            subst hf
            cases q with
            | none => cases ok <;> simp [hze]
            | some p => obtain ⟨a, b⟩ := p; cases ok <;> simp
        cases o' with
        | none => cases ok with
          | true => exact ⟨_, hK, fun _ _ _ => trivial, fun _ => trivial, fun ρ' w hρ hw => under_mono (fin w ρ' hρ hw) fun hr => by simp [execOp, hr, Core.val]⟩
          | false => exact ⟨_, hK, fun _ _ _ => trivial, fun _ => trivial, fun ρ' w hρ hw => under_mono (fin w ρ' hρ hw) fun hr => by simp [execOp, hr, Core.val]⟩
        | some v => cases ok with
          | true => exact ⟨_, hK, fun _ _ _ => trivial, fun _ => trivial, fun ρ' w hρ hw => under_mono (fin w ρ' hρ hw) fun hr => by simp [execOp, hr, Core.val]⟩
          | false => exact ⟨_, hK, fun _ _ _ => trivial, fun _ => trivial, fun ρ' w hρ hw => under_mono (fin w ρ' hρ hw) fun hr => by simp [execOp, hr, Core.val]⟩
      split at H
      · exact main _ (by assumption) (.inl ⟨_, rfl⟩) H
      · exact main _ (by assumption) (.inr rfl) H
      · exact H.elim
    · rename_i kt et kv hu hm hk
      split at H
      case h_2 => exact H.elim
      rename_i kd i hkd hi
      have main : ∀ z, i.zero = some z → ((∃ k, kd = .int k) ∨ kd = .string) → lookK K z ok none → ∃ x, K x ∧ (∀ k, lookB bx k = none → coreOk bx x → True) ∧ ((∀ y c, ρ y = some c → coreOk bx c) → coreOk bx x) ∧
      ∀ (ρ' : Operand → Value) (w : World), (∀ y c, ρ y = some c → ρ' y = c.val bx) → HypC cls bx h w → Under c ((execOp ρ' (⟨dst, .lookup t m k ok, ty, pos, after, guard⟩ : Oper)).run P w = .ok (.value (x.val bx)) w) := by
        intro z hz hp H
        have fin : ∀ (w : World) (ρ' : Operand → Value), (∀ y c, ρ y = some c → ρ' y = c.val bx) →
            (Instr.lookup t (ρ' m) (ρ' k) ok).run P w = .ok (match ok with | true => .tuple ⟨[z, .bool false]⟩ | false => z) w := by
          intro w ρ' hρ
          simp only [Instr.lookup, Sem.run_bind, underlying_run P t w hu, Result.andThen_ok, hρ _ _ hm, hρ _ _ hk, Core.val, Sem.run_pure]
          rw [checkKey_plain hkd hp]
          have hfn : Instr.findNow kd kv (#[] : Array MapEntry).toList 0 = some none := rfl
          simp only [Result.andThen_ok, findKey_now hkd hfn w]
          have hze : (zeroValue et).run P w = .ok z w := by simp [zeroValue, typeInfo_run P et w hi, hz]
          cases ok <;> simp [hze]
        cases ok with
        | true => exact ⟨_, H, fun _ _ _ => trivial, fun _ => trivial, fun ρ' w hρ hw => under_of (by simp [execOp, fin w ρ' hρ, Core.val])⟩
        | false => exact ⟨_, H, fun _ _ _ => trivial, fun _ => trivial, fun ρ' w hρ hw => under_of (by simp [execOp, fin w ρ' hρ, Core.val])⟩
      split at H
      · exact main _ (by assumption) (.inl ⟨_, rfl⟩) H
      · exact main _ (by assumption) (.inr rfl) H
      · exact H.elim
    · exact H.elim
  · -- len of a map
    rename_i args ts
    split at H
    case h_2 => exact H.elim
    rename_i x t hargs hts
    have hargs' : args = #[x] := Array.ext' (by simpa using hargs)
    have hts' : ts = #[t] := Array.ext' (by simpa using hts)
    subst hargs'; subst hts'
    split at H
    · rename_i kt et hu hx
      refine ⟨_, H, fun _ _ _ => trivial, fun _ => trivial, fun ρ' w hρ hw => under_of ?_⟩
      simp [execOp, resolve, invoke, builtin, Builtin.len_, hρ _ _ hx, Core.val, underlying_run P t w hu, goInt]
    · rename_i kt et r hu hx
      cases cls <;> simp only at H
      unfold LenR at H
      obtain ⟨n, hn, hK⟩ := H
      refine ⟨_, hK, fun _ _ _ => trivial, fun _ => trivial, fun ρ' w hρ hw => under_mono hn fun ⟨es, cl, he, hn⟩ => ?_⟩
      have hgo : (getObj r).run P w = .ok (.map es cl) w := by simp [getObj, Sem.run, ExtH.obj hw he]
      simp [execOp, resolve, invoke, builtin, Builtin.len_, hρ _ _ hx, Core.val, underlying_run P t w hu, goInt, hgo, hn]
    · exact H.elim
  · exact H.elim

end Go.Eng
