/-
  The engine, soundness, second part: operations that make blocks, write, or call.
-/
import Derived.Test.YtlloemmpnhoanaaGreatEngS
set_option linter.all false
namespace Go.Eng
open Go

theorem lookB_set : ∀ (bx : Boxes) (k b : Nat) (vs : List Value) (k' : Nat), lookB (setB k b vs bx) k' = if k' = k then some (b, vs) else lookB bx k'
  | [], k, b, vs, k' => by
    simp only [setB, lookB]
    by_cases h : k' = k
    · subst h; simp [Nat.beq_refl]
    · have : Nat.beq k k' = false := by cases hb : Nat.beq k k' with | false => rfl | true => exact absurd (Nat.eq_of_beq_eq_true hb).symm h
      simp [this, h]
  | (k1, b1, vs1) :: r, k, b, vs, k' => by
    simp only [setB]
    cases hb : Nat.beq k1 k with
    | true =>
      have := Nat.eq_of_beq_eq_true hb
      subst this
      simp only [lookB]
      by_cases h : k' = k1
      · subst h; simp [Nat.beq_refl]
      · have : Nat.beq k1 k' = false := by cases hb : Nat.beq k1 k' with | false => rfl | true => exact absurd (Nat.eq_of_beq_eq_true hb).symm h
        simp [this, h]
    | false =>
      have hne : k1 ≠ k := by intro h; subst h; simp [Nat.beq_refl] at hb
      simp only [lookB]
      rw [lookB_set r k b vs k']
      cases hb' : Nat.beq k1 k' with
      | true =>
        have := Nat.eq_of_beq_eq_true hb'
        subst this
        simp [hne]
      | false => rfl

theorem blocks_mem : ∀ (bx : Boxes) (k b : Nat) (vs : List Value), lookB bx k = some (b, vs) → b ∈ blocksOf bx
  | [], _, _, _, h => by cases h
  | (k1, b1, vs1) :: r, k, b, vs, h => by
    simp only [lookB] at h
    split at h
    · simp at h; simp [blocksOf, h.1]
    · simp [blocksOf, blocks_mem r k b vs h]

/-- each box of the list is found by its number -/
def Proper : Boxes → Prop
  | [] => True
  | (k, _, _) :: r => lookB r k = none ∧ Proper r

theorem blocks_of_proper : ∀ (bx : Boxes), Proper bx → ∀ b ∈ blocksOf bx, ∃ k vs, lookB bx k = some (b, vs)
  | [], _, b, h => by cases h
  | (k1, b1, vs1) :: r, hp, b, h => by
    simp only [blocksOf, List.mem_cons] at h
    rcases h with rfl | h
    · exact ⟨k1, vs1, by simp [lookB, Nat.beq_refl]⟩
    · obtain ⟨k, vs, hk⟩ := blocks_of_proper r hp.2 b h
      refine ⟨k, vs, ?_⟩
      simp only [lookB]
      cases hb : Nat.beq k1 k with
      | true =>
        have := Nat.eq_of_beq_eq_true hb
        subst this
        rw [hp.1] at hk; cases hk
      | false => exact hk

theorem proper_set : ∀ (bx : Boxes) (k b : Nat) (vs : List Value), Proper bx → Proper (setB k b vs bx)
  | [], k, b, vs, _ => ⟨rfl, trivial⟩
  | (k1, b1, vs1) :: r, k, b, vs, h => by
    simp only [setB]
    cases hb : Nat.beq k1 k with
    | true =>
      have := Nat.eq_of_beq_eq_true hb
      subst this
      exact h
    | false =>
      have hne : k1 ≠ k := by intro h; subst h; simp [Nat.beq_refl] at hb
      exact ⟨by rw [lookB_set]; simp [hne, h.1], proper_set r k b vs h.2⟩

structure Boxed (bx : Boxes) (h : Heap) : Prop where
  boxIn : BoxIn bx h
  distinct : Distinct bx
  proper : Proper bx

theorem Boxed.lt {bx : Boxes} {h : Heap} (B : Boxed bx h) : ∀ b ∈ blocksOf bx, b < h.size := fun b hb => by
  obtain ⟨k, vs, hk⟩ := blocks_of_proper bx B.proper b hb
  obtain ⟨T, hT⟩ := B.boxIn _ _ _ hk
  rcases Nat.lt_or_ge b h.size with h1 | h1
  · exact h1
  · simp [Array.getElem?_eq_none h1] at hT

theorem Boxed.keep {bx : Boxes} {h h' : Heap} (B : Boxed bx h) (hk : ∀ b ∈ blocksOf bx, h'[b]? = h[b]?) : Boxed bx h' :=
  ⟨fun k b vs hl => by rw [hk b (blocks_mem bx k b vs hl)]; exact B.boxIn k b vs hl, B.distinct, B.proper⟩

theorem push_get (h : Heap) (o : Obj) (b : Nat) : (h.push o)[b]? = if b = h.size then some o else h[b]? := by
  rw [Array.getElem?_push]

theorem push_ext (h : Heap) (o : Obj) : ExtH h (h.push o) := ⟨by simp, fun b hb => by rw [push_get, if_neg (by omega)]⟩

/-- a new private box -/
theorem Boxed.new {bx : Boxes} {h : Heap} (B : Boxed bx h) {k : Nat} (hk : lookB bx k = none) (vs : List Value) (T : TypeId) : Boxed (setB k h.size vs bx) (h.push (.cells ⟨vs⟩ T)) := by
  refine ⟨fun k' b vs' hl => ?_, fun k1 k2 b1 b2 v1 v2 h1 h2 hne => ?_, proper_set _ _ _ _ B.proper⟩
  · rw [lookB_set] at hl
    split at hl
    · simp at hl; obtain ⟨rfl, rfl⟩ := hl
      exact ⟨T, by rw [push_get, if_pos rfl]⟩
    · have hlt := B.lt b (blocks_mem _ _ _ _ hl)
      rw [push_get, if_neg (by omega)]
      exact B.boxIn _ _ _ hl
  · rw [lookB_set] at h1 h2
    split at h1 <;> split at h2
    · rename_i e1 e2; exact absurd (e1.trans e2.symm) hne
    · simp at h1
      have hlt := B.lt b2 (blocks_mem _ _ _ _ h2)
      omega
    · simp at h2
      have hlt := B.lt b1 (blocks_mem _ _ _ _ h1)
      omega
    · exact B.distinct _ _ _ _ _ _ h1 h2 hne

theorem Boxed.new_back {bx : Boxes} {k b : Nat} (hk : lookB bx k = none) (vs : List Value) {h : Heap} (hb : BoxIn (setB k b vs bx) h) : BoxIn bx h := fun k' b' vs' hl => by
  refine hb k' b' vs' ?_
  rw [lookB_set]
  split
  · rename_i e; subst e; rw [hk] at hl; cases hl
  · exact hl

/-- a private box is written -/
theorem Boxed.write {bx : Boxes} {h h' : Heap} (B : Boxed bx h) {k b : Nat} {vs vs' : List Value} (hk : lookB bx k = some (b, vs)) (hb : ∃ T, h'[b]? = some (.cells ⟨vs'⟩ T (0, 0)))
    (ho : ∀ b', b' ≠ b → h'[b']? = h[b']?) : Boxed (setB k b vs' bx) h' := by
  refine ⟨fun k' b1 vs1 hl => ?_, fun k1 k2 b1 b2 v1 v2 h1 h2 hne => ?_, proper_set _ _ _ _ B.proper⟩
  · rw [lookB_set] at hl
    split at hl
    · simp at hl; obtain ⟨rfl, rfl⟩ := hl
      exact hb
    · rename_i hne
      have := B.distinct _ _ _ _ _ _ hl hk hne
      rw [ho b1 this]
      exact B.boxIn _ _ _ hl
  · rw [lookB_set] at h1 h2
    split at h1 <;> split at h2
    · rename_i e1 e2; exact absurd (e1.trans e2.symm) hne
    · rename_i e1 e2
      simp at h1
      rw [← h1.1]
      exact fun hh => B.distinct _ _ _ _ _ _ h2 hk e2 hh.symm
    · rename_i e1 e2
      simp at h2
      rw [← h2.1]
      exact B.distinct _ _ _ _ _ _ h1 hk e1
    · exact B.distinct _ _ _ _ _ _ h1 h2 hne

theorem val_set {bx : Boxes} {k b : Nat} {vs : List Value} (hk : lookB bx k = none ∨ ∃ vs', lookB bx k = some (b, vs')) (c : Core) (hc : coreOk bx c) :
    c.val (setB k b vs bx) = c.val bx ∧ coreOk (setB k b vs bx) c := by
  have key : ∀ k', (lookB bx k').isSome = true → blk (setB k b vs bx) k' = blk bx k' ∧ (lookB (setB k b vs bx) k').isSome = true := by
    intro k' h
    unfold blk
    rw [lookB_set]
    by_cases e : k' = k
    · subst e
      rcases hk with hk | ⟨vs', hk⟩
      · rw [hk] at h; cases h
      · simp [hk]
    · rw [if_neg e]; exact ⟨rfl, h⟩
  cases c with
  | v x => exact ⟨rfl, trivial⟩
  | lp k' off => have := key k' hc; exact ⟨by simp [Core.val, this.1], this.2⟩
  | li k' off => have := key k' hc; exact ⟨by simp [Core.val, this.1], this.2⟩

/-- what stands behind an effect -/
structure After (cls : Cls) (bx : Boxes) (h : Heap) (x : Core) (bx' : Boxes) (h' : Heap) : Prop where
  boxed : Boxed bx' h'
  val : ∀ c, coreOk bx c → c.val bx' = c.val bx ∧ coreOk bx' c
  core : coreOk bx' x
  al : cls = .al → ExtH h h' ∧ ∀ x : Heap, BoxIn bx' x → BoxIn bx x
  ef : cls = .ef → bx' = bx

theorem allOne_one' : ∀ {l : List Value}, allOne l = true → ∀ v ∈ l, v.oneCell' = true
  | [], _, v, h => by cases h
  | x :: r, h, v, hv => by
    simp only [allOne] at h
    split at h
    · rename_i hx
      simp only [List.mem_cons] at hv
      rcases hv with rfl | hv
      · cases v <;> simp [oneV] at hx <;> rfl
      · exact allOne_one' h v hv
    · cases h

def setObj1 (off : Nat) (v : Value) : Obj → Obj
  | .cells c elem fr => .cells (c.setIfInBounds off v) elem fr
  | o => o
theorem setCell_heap (w : World) (b off : Nat) (v : Value) : (w.setCell ⟨b, off, none⟩ v).heap = w.heap.modify b (setObj1 off v) := by
  unfold World.setCell
  simp only
  congr 1

theorem store_cells {P : Program} {b : Nat} {T : TypeId} : ∀ (vs : List Value) (i off : Nat) (c : List Value) (w : World), (∀ v ∈ vs, v.oneCell' = true) → off + i + vs.length ≤ c.length →
    w.heap[b]? = some (.cells ⟨c⟩ T (0, 0)) → ∃ w', (storeCells ⟨b, off, none⟩ vs i).run P w = .ok () w' ∧ SameOut w w' ∧ w'.heap.size = w.heap.size ∧
      w'.heap[b]? = some (.cells ⟨spliceL (off + i) vs c⟩ T (0, 0)) ∧ ∀ b', b' ≠ b → w'.heap[b']? = w.heap[b']?
  | [], i, off, c, w, _, _, hb => ⟨w, by simp [storeCells], SameOut.refl w, rfl, by rw [splice_nil]; exact hb, fun _ _ => rfl⟩
  | v :: vs, i, off, c, w, hv, hl, hb => by
    simp only [List.length_cons] at hl
    have hcell : w.cell? ⟨b, off + i, none⟩ = some (c[off + i]'(by omega)) := by
      rw [cell?_eq]; simp [Heap.cell?, hb, show off + i < c.length by omega]
    have hfr : w.frozen? ⟨b, off + i, none⟩ = false := by simp [World.frozen?, hb]
    have hrun := run_store P w ⟨b, off + i, none⟩ v .plain (hv v (by simp))
    rw [hcell] at hrun
    simp only [hfr, Bool.false_eq_true, if_false] at hrun
    have hb2 : (w.setCell ⟨b, off + i, none⟩ v).heap[b]? = some (.cells ⟨c.set (off + i) v⟩ T (0, 0)) := by
      rw [setCell_heap, Array.getElem?_modify]
      simp [hb, setObj1, Array.setIfInBounds, show off + i < c.length by omega]
    obtain ⟨w', h1, h2, h3, h4, h5⟩ := store_cells vs (i + 1) off (c.set (off + i) v) (w.setCell ⟨b, off + i, none⟩ v) (fun u hu => hv u (by simp [hu])) (by simp; omega) hb2
    refine ⟨w', ?_, ⟨h2.1, h2.2⟩, ?_, ?_, fun b' hne => ?_⟩
    · simp only [storeCells, Sem.run_bind, addr_add]
      rw [hrun]
      simp only [Result.andThen_ok]
      exact h1
    · rw [h3, setCell_heap]; simp
    · rw [h4, show off + (i + 1) = off + i + 1 by omega, splice_cons v vs (off + i) c (by omega)]
    · rw [h5 b' hne, setCell_heap, Array.getElem?_modify, if_neg (Ne.symm hne)]

theorem storeAt_run {P : Program} {t : TypeId} {l : Lie} {s : Nat} (hs : sizeOfT P t = some s) {b off : Nat} {v : Value} {c : List Value} {T : TypeId} {w : World}
    (h1 : Nat.beq (cellsOf v).length s = true) (h2 : allOne (cellsOf v) = true) (h3 : off + (cellsOf v).length ≤ c.length) (hb : w.heap[b]? = some (.cells ⟨c⟩ T (0, 0))) :
    ∃ w', (Instr.storeAt t (.pointer (some ⟨b, off, none⟩)) v).run P w = .ok () w' ∧ SameOut w w' ∧ w'.heap.size = w.heap.size ∧
      w'.heap[b]? = some (.cells ⟨spliceL off (cellsOf v) c⟩ T (0, 0)) ∧ ∀ b', b' ≠ b → w'.heap[b']? = w.heap[b']? := by
  obtain ⟨w', h4, h5⟩ := store_cells (P := P) (cellsOf v) 0 off c w (allOne_one' h2) (by simpa using h3) hb
  refine ⟨w', ?_, by simpa using h5⟩
  have := Nat.eq_of_beq_eq_true h1
  simp only [Instr.storeAt, Instr.sureAddr, Sem.run_bind, Sem.run_pure, Result.andThen_ok, storeVar, sizeOfT_run hs w, cellsOf_eq]
  rw [if_neg (by simp; omega)]
  simpa using h4

theorem zeroCellsL_run {P : Program} {t : TypeId} {l : List Value} (h : zeroCellsL P t = some l) (w : World) : ∃ z, (zeroValue t).run P w = .ok z w ∧ z.cells = ⟨l⟩ := by
  unfold zeroCellsL at h
  split at h
  · rename_i i hi
    split at h
    · rename_i z hz
      simp at h; subst h
      exact ⟨z, by simp [zeroValue, typeInfo_run P t w hi, hz], cellsOf_eq z⟩
    · cases h
  · cases h

theorem hasBody_run {P : Program} {f : Nat} (h : hasBody P f = true) (args : Array Value) (w : World) : (callFunc f args).run P w = .ok (.enter f args) w := by
  unfold hasBody at h
  split at h
  · rename_i fn hf
    simp only [Bool.and_eq_true, Bool.not_eq_true'] at h
    simp only [callFunc, Sem.run_bind, run_program, Result.andThen_ok, hf]
    have h1 : fn.body.isNone = false := by cases hb : fn.body <;> simp_all
    simp [h.2, h1]
  · cases h

theorem extCall_run {P : Program} {f : Nat} {args : Array Value} {w w' : World} {v : Value} (h : (extCall f args).run P w = .ok v w') : (callFunc f args).run P w = .ok (.value v) w' := by
  unfold extCall at h
  simp only [Sem.run_bind] at h
  generalize (callFunc f args).run P w = r at h
  cases r with
  | ok n w1 =>
    simp only [Result.andThen_ok] at h
    cases n <;> simp [stuck] at h ⊢
    all_goals first | exact h | (obtain ⟨rfl, rfl⟩ := h; exact ⟨rfl, rfl⟩)
  | _ => simp [Result.andThen] at h

theorem repL_length (n s : Nat) (z : List Value) (h : z.length = s) : (repL n z).length = n * s := by
  induction n with
  | zero => simp [repL]
  | succ n ih => simp only [repL, List.length_append, ih, h, Nat.succ_mul]; omega

theorem repL_eq : ∀ (n s : Nat) (z : List Value), z.length = s → 0 < s → (Array.range (n * s)).map (fun i => (⟨z⟩ : Array Value)[i % (⟨z⟩ : Array Value).size]!) = ⟨repL n z⟩ := by
  intro n s z hz hs
  apply Array.ext'
  simp only [Array.toList_map, Array.toList_range]
  have hsz : (⟨z⟩ : Array Value).size = s := by simpa using hz
  rw [hsz]
  induction n with
  | zero => simp [repL]
  | succ n ih =>
    rw [Nat.succ_mul, Nat.add_comm (n * s) s, List.range_add, List.map_append, List.map_map]
    have h1 : (List.range s).map (fun i => (⟨z⟩ : Array Value)[i % s]!) = z := by
      apply List.ext_getElem
      · simp [hz]
      · intro i h1 h2
        simp at h1
        simp [Nat.mod_eq_of_lt h1, show i < z.length by omega]
    have h2 : (List.range (n * s)).map ((fun i => (⟨z⟩ : Array Value)[i % s]!) ∘ (s + ·)) = (List.range (n * s)).map (fun i => (⟨z⟩ : Array Value)[i % s]!) := by
      apply List.map_congr_left
      intro i _
      simp [Nat.add_mod_left]
    rw [h1, h2, ih]
    rfl


/-- what an operation asks for, of an effect -/
def EffGoal (P : Program) (cls : Cls) (o : Oper) (bx : Boxes) (h : Heap) (K : Core → Boxes → Heap → Prop) (a : Act) (w : World) (Q : Exit → Act → World → Prop) : Prop :=
  o.wp P a w (fun a' w' => ∃ x bx', a' = a.put o.dst (x.val bx') ∧ After cls bx h x bx' w'.heap ∧ SameOut w w' ∧ K x bx' w'.heap) Q

theorem eff_value {P : Program} {cls : Cls} {o : Oper} {bx : Boxes} {h : Heap} {K : Core → Boxes → Heap → Prop} {a : Act} {w w' : World} {Q : Exit → Act → World → Prop}
    {x : Core} {bx' : Boxes} (hr : (execOp a.eval o).run P w = .ok (.value (x.val bx')) w') (hA : After cls bx h x bx' w'.heap) (hs : SameOut w w') (hK : K x bx' w'.heap) : EffGoal P cls o bx h K a w Q := by
  unfold EffGoal Oper.wp
  rw [hr]
  exact ⟨x, bx', rfl, hA, hs, hK⟩

theorem eff_skip {P : Program} {cls : Cls} {o : Oper} {bx : Boxes} {h : Heap} {K : Core → Boxes → Heap → Prop} {a : Act} {w w' : World} {Q : Exit → Act → World → Prop}
    {bx' : Boxes} (hr : (execOp a.eval o).run P w = .ok .skip w') (hA : After cls bx h (.v undef) bx' w'.heap) (hs : SameOut w w') (hK : K (.v undef) bx' w'.heap) : EffGoal P cls o bx h K a w Q := by
  unfold EffGoal Oper.wp
  rw [hr]
  exact ⟨.v undef, bx', rfl, hA, hs, hK⟩

theorem after_push {cls : Cls} {bx : Boxes} {h : Heap} (B : Boxed bx h) (o : Obj) (v : Value) : After cls bx h (.v v) bx (h.push o) :=
  ⟨B.keep fun b hb => by rw [push_get, if_neg (by have := B.lt b hb; omega)], fun c hc => ⟨rfl, hc⟩, trivial, fun _ => ⟨push_ext h o, fun _ h => h⟩, fun _ => rfl⟩

theorem after_new {bx : Boxes} {h : Heap} (B : Boxed bx h) {k : Nat} (hk : lookB bx k = none) (vs : List Value) (T : TypeId) :
    After .al bx h (.lp k 0) (setB k h.size vs bx) (h.push (.cells ⟨vs⟩ T)) :=
  ⟨B.new hk vs T, fun c hc => val_set (.inl hk) c hc, by simp [coreOk, lookB_set], fun _ => ⟨push_ext h _, fun _ hb => Boxed.new_back hk vs hb⟩, fun h => by cases h⟩

theorem after_same {cls : Cls} {bx : Boxes} {h h' : Heap} (B : Boxed bx h) (hk : ∀ b ∈ blocksOf bx, h'[b]? = h[b]?) (hc : cls ≠ .al) (v : Value) : After cls bx h (.v v) bx h' :=
  ⟨B.keep hk, fun c hc => ⟨rfl, hc⟩, trivial, fun h => absurd h hc, fun _ => rfl⟩

theorem after_write {bx : Boxes} {h h' : Heap} (B : Boxed bx h) {k b : Nat} {vs vs' : List Value} (hk : lookB bx k = some (b, vs)) (hb : ∃ T, h'[b]? = some (.cells ⟨vs'⟩ T (0, 0)))
    (ho : ∀ b', b' ≠ b → h'[b']? = h[b']?) (v : Value) : After .be bx h (.v v) (setB k b vs' bx) h' :=
  ⟨B.write hk hb ho, fun c hc => val_set (.inr ⟨vs, hk⟩) c hc, trivial, fun h => (by cases h), fun h => (by cases h)⟩

theorem eff_sem {α : Type} {P : Program} {cls : Cls} {o : Oper} {bx : Boxes} {K : Core → Boxes → Heap → Prop} {a : Act} {w : World} {Q : Exit → Act → World → Prop}
    (s : Sem α) (val : α → Value) (B : Boxed bx w.heap) (hcls : cls ≠ .al) (hs : ∀ w', (∃ v, s.run P w = .ok v w') → True)
    (hrun : ∀ v w', s.run P w = .ok v w' → (execOp a.eval o).run P w = .ok (.value (val v)) w' ∨ ((execOp a.eval o).run P w = .ok .skip w' ∧ val v = undef))
    (H : SemR P s (blocksOf bx) w.heap fun v h' => K (.v (val v)) bx h') : EffGoal P cls o bx w.heap K a w Q := by
  unfold SemR at H
  obtain ⟨v, w', h1, h2, h3, h4⟩ := H B.lt w rfl
  rcases hrun v w' h1 with h5 | ⟨h5, h6⟩
  · exact eff_value (x := .v (val v)) (bx' := bx) (by simpa [Core.val] using h5) (after_same B h3 hcls _) h2 h4
  · rw [h6] at h4
    exact eff_skip h5 (after_same B h3 hcls _) h2 h4

theorem eff_ok {P : Program} {C : Cfg} {o : Oper} {ρ : Operand → Option Core} {bx : Boxes} {K : Core → Boxes → Heap → Prop} {a : Act} {w : World} {Q : Exit → Act → World → Prop}
    (H : vcEff P C (clsOf P C o) o ρ bx w.heap K) (hρ : ∀ y c, ρ y = some c → a.eval y = c.val bx) (B : Boxed bx w.heap) : EffGoal P (clsOf P C o) o bx w.heap K a w Q := by
  obtain ⟨dst, op, ty, pos, after, guard⟩ := o
  unfold vcEff at H
  simp only at H
  split at H
  · -- box
    rename_i e x
    have hcls : clsOf P C ⟨dst, .box e x, ty, pos, after, guard⟩ = .al := rfl
    rw [hcls]
    split at H
    case h_2 => exact H.elim
    rename_i v hx
    have hrun : (execOp a.eval (⟨dst, .box e x, ty, pos, after, guard⟩ : Oper)).run P w = .ok (.value (.pointer (some ⟨w.heap.size, 0, none⟩))) { w with heap := w.heap.push (.cells ⟨cellsOf v⟩ e) } := by
      simp [execOp, Instr.box, newVar, newRow, hρ _ _ hx, Core.val, cellsOf_eq]
    split at H
    case h_2 => exact H.elim
    rename_i d
    split at H
    · split at H
      case h_2 => exact H.elim
      rename_i hk
      unfold AllocR at H
      have hb : blk (setB d w.heap.size (cellsOf v) bx) d = w.heap.size := by simp [blk, lookB_set]
      exact eff_value (x := .lp d 0) (bx' := setB d w.heap.size (cellsOf v) bx) (w' := { w with heap := w.heap.push (.cells ⟨cellsOf v⟩ e) }) (by rw [hrun]; simp [Core.val, hb]) (after_new B hk _ _) ⟨rfl, rfl, rfl⟩ (H _ _ rfl rfl)
    · unfold AllocR at H
      exact eff_value (x := .v _) (bx' := bx) hrun (after_push B _ _) ⟨rfl, rfl, rfl⟩ (H _ _ rfl rfl)
  · -- alloc
    rename_i e
    have hcls : clsOf P C ⟨dst, .alloc e, ty, pos, after, guard⟩ = .al := rfl
    rw [hcls]
    split at H
    case h_2 => exact H.elim
    rename_i l d hl
    obtain ⟨z, hz, hzc⟩ := zeroCellsL_run hl w
    have hrun : (execOp a.eval (⟨some d, .alloc e, ty, pos, after, guard⟩ : Oper)).run P w = .ok (.value (.pointer (some ⟨w.heap.size, 0, none⟩))) { w with heap := w.heap.push (.cells ⟨l⟩ e) } := by
      simp [execOp, Instr.alloc, newVar, newRow, hz, hzc]
    split at H
    · split at H
      case h_2 => exact H.elim
      rename_i hk
      unfold AllocR at H
      have hb : blk (setB d w.heap.size l bx) d = w.heap.size := by simp [blk, lookB_set]
      exact eff_value (x := .lp d 0) (bx' := setB d w.heap.size l bx) (w' := { w with heap := w.heap.push (.cells ⟨l⟩ e) }) (by rw [hrun]; simp [Core.val, hb]) (after_new B hk _ _) ⟨rfl, rfl, rfl⟩ (H _ _ rfl rfl)
    · unfold AllocR at H
      exact eff_value (x := .v _) (bx' := bx) hrun (after_push B _ _) ⟨rfl, rfl, rfl⟩ (H _ _ rfl rfl)
  · -- buildSlice
    rename_i t n parts
    have hcls : clsOf P C ⟨dst, .buildSlice t n parts, ty, pos, after, guard⟩ = .al := rfl
    rw [hcls]
    split at H
    case h_2 => exact H.elim
    rename_i e hu
    split at H
    case h_2 => exact H.elim
    rename_i z s hz hs
    split at H
    case h_2 => exact H.elim
    rename_i l h1 h2 h3
    unfold AllocR at H
    obtain ⟨zv, hzv, hzc⟩ := zeroCellsL_run hz w
    have h1' : n * s ≤ 16777216 := Nat.le_of_ble_eq_true h1
    have h2' := Nat.eq_of_beq_eq_true h2
    have hlen : (repL n z).length = n * s := repL_length n s z h2'
    have hfill := fillL_run (place' := fun i => some (i * s, s)) hρ (fun i p hp => hp) parts.toList _ (repL n z) l hlen h3
    have hrun : (execOp a.eval (⟨dst, .buildSlice t n parts, ty, pos, after, guard⟩ : Oper)).run P w = .ok (.value (.slice (some ⟨w.heap.size, 0, none⟩) n n)) { w with heap := w.heap.push (.cells ⟨l⟩ e) } := by
      have he : (parts.map fun (x : Nat × Operand) => (x.1, a.eval x.2)).toList = parts.toList.map fun p => (p.1, a.eval p.2) := by simp
      rw [← he] at hfill
      simp only [execOp, Sem.run_bind, Instr.buildSlice, underlying_run P t w hu, Result.andThen_ok, sizeOfT_run hs w]
      rw [if_neg (by omega)]
      by_cases h0 : n * s = 0
      · have hr : repL n z = [] := by rw [← List.length_eq_zero_iff, hlen]; exact h0
        rw [hr] at hfill
        simp only [h0, if_true, Sem.run_bind, Sem.run_pure, Result.andThen_ok, show Array.range 0 = #[] from (by first | rfl | (apply Array.ext'; simp)), Array.map_empty]
        have hfill' : Instr.fill (fun i => some (i * s, s)) #[] (parts.map fun (x : Nat × Operand) => (x.1, a.eval x.2)).toList = some ⟨l⟩ := hfill
        split
        · rename_i cells hc
          rw [hfill'] at hc
          simp at hc; subst hc; simp [newRow]
        · rename_i hc
          rw [hfill'] at hc
          exact (hc _ rfl).elim
      · have hs0 : 0 < s := by
          rcases Nat.eq_zero_or_pos s with h | h
          · subst h; simp at h0
          · exact h
        simp only [h0, if_false, Sem.run_bind, hzv, Result.andThen_ok, Sem.run_pure, hzc]
        rw [repL_eq n s z h2' hs0]
        split
        · rename_i cells hc
          rw [hfill] at hc
          simp at hc; subst hc; simp [newRow]
        · rename_i hc
          rw [hfill] at hc
          exact (hc _ rfl).elim
    exact eff_value (x := .v _) (bx' := bx) hrun (after_push B _ _) ⟨rfl, rfl, rfl⟩ (H _ _ rfl rfl)
  · -- makeMap
    rename_i t
    have hcls : clsOf P C ⟨dst, .makeMap t none, ty, pos, after, guard⟩ = .al := rfl
    rw [hcls]
    unfold AllocR at H
    exact eff_value (x := .v (.map (some w.heap.size))) (bx' := bx) (w' := { w with heap := w.heap.push (.map #[] 0) }) (by simp [execOp, Instr.makeMap, Core.val]) (after_push B _ _) ⟨rfl, rfl, rfl⟩ (H _ _ rfl rfl)
  · -- store
    rename_i t ad x
    split at H
    · rename_i v hcls hx
      rw [hcls]
      split at H
      · rename_i k off l ha hl
        split at H
        · rename_i b vs s hk hs
          split at H
          · rename_i h1 h2 h3
            rw [leB_eq] at h2
            unfold BoxR at H
            obtain ⟨T, hT⟩ := B.boxIn _ _ _ hk
            have h1' := Nat.eq_of_beq_eq_true h1
            obtain ⟨w', r1, r2, r3, r4, r5⟩ := storeAt_run (P := P) (l := l) hs h1 h3 (by rw [h1']; exact h2) hT (off := off)
            refine eff_skip (bx' := setB k b (spliceL off (cellsOf v) vs) bx) ?_ (after_write B hk ⟨T, r4⟩ r5 _) r2 (H _ r3 r5)
            simp only [execOp, Sem.run_bind, hρ _ _ ha, hρ _ _ hx, Core.val, blk_of hk]
            rw [r1]; simp
          · exact H.elim
        · exact H.elim
      · rename_i k off l ha hl
        split at H
        · rename_i b vs s hk hs
          split at H
          · rename_i h1 h3
            unfold Need BoxR at H
            obtain ⟨h2, H⟩ := H
            have h2 : off + s ≤ vs.length := h2
            obtain ⟨T, hT⟩ := B.boxIn _ _ _ hk
            have h1' := Nat.eq_of_beq_eq_true h1
            obtain ⟨w', r1, r2, r3, r4, r5⟩ := storeAt_run (P := P) (l := l) hs h1 h3 (by rw [h1']; exact h2) hT (off := off)
            refine eff_skip (bx' := setB k b (spliceL off (cellsOf v) vs) bx) ?_ (after_write B hk ⟨T, r4⟩ r5 _) r2 (H _ r3 r5)
            simp only [execOp, Sem.run_bind, hρ _ _ ha, hρ _ _ hx, Core.val, blk_of hk]
            rw [r1]; simp
          · exact H.elim
        · exact H.elim
      · exact H.elim
    · rename_i v hcls hx
      rw [hcls]
      split at H
      · rename_i b off l s ha hl hs
        split at H
        · rename_i h1 h3
          unfold StoreR at H
          obtain ⟨c, T, hT, hlen, hnb, H⟩ := H
          have h1' := Nat.eq_of_beq_eq_true h1
          obtain ⟨w', r1, r2, r3, r4, r5⟩ := storeAt_run (P := P) (l := l) hs h1 h3 hlen hT (off := off)
          refine eff_skip (bx' := bx) ?_ (after_same B (fun b' hb' => r5 b' (fun e => hnb (e ▸ hb'))) (by simp) _) r2 (H _ r3 r4 r5)
          simp only [execOp, Sem.run_bind, hρ _ _ ha, hρ _ _ hx, Core.val]
          rw [r1]; simp
        · exact H.elim
      · exact H.elim
    · exact H.elim
  · -- mapUpdate
    rename_i t m k x
    split at H
    · rename_i mv kv xv hm hk hx
      refine eff_sem (Instr.mapUpdate t mv kv xv) (fun _ => undef) B (by simp [clsOf]) (fun _ _ => trivial) (fun v w' hr => .inr ⟨?_, rfl⟩) H
      simp only [execOp, Sem.run_bind, hρ _ _ hm, hρ _ _ hk, hρ _ _ hx, Core.val, hr, Result.andThen_ok, Sem.run_pure]
    · exact H.elim
  · -- insert
    rename_i t m k x
    split at H
    · rename_i mv kv xv hm hk hx
      refine eff_sem (Instr.mapUpdate t mv kv xv) (fun _ => undef) B (by simp [clsOf]) (fun _ _ => trivial) (fun v w' hr => .inr ⟨?_, rfl⟩) H
      simp only [execOp, Sem.run_bind, hρ _ _ hm, hρ _ _ hk, hρ _ _ hx, Core.val, hr, Result.andThen_ok, Sem.run_pure]
    · exact H.elim
  · -- makeSlice
    rename_i t l c
    split at H
    · rename_i lv cv hl hc
      refine eff_sem (Instr.makeSlice t lv cv) id B (by simp [clsOf]) (fun _ _ => trivial) (fun v w' hr => .inl ?_) H
      simp only [execOp, Sem.run_bind, hρ _ _ hl, hρ _ _ hc, Core.val, hr, Result.andThen_ok, Sem.run_pure, id]
    · exact H.elim
  · -- convert
    rename_i s t x
    split at H
    · rename_i xv hx
      refine eff_sem (convert s t xv) id B ?_ (fun _ _ => trivial) (fun v w' hr => .inl ?_) H
      · simp only [clsOf]; split <;> simp
      · simp only [execOp, Sem.run_bind, hρ _ _ hx, Core.val, hr, Result.andThen_ok, Sem.run_pure, id]
    · exact H.elim
  · -- range
    rename_i t x
    split at H
    · rename_i xv hx
      refine eff_sem (Instr.range t xv) id B (by simp [clsOf]) (fun _ _ => trivial) (fun v w' hr => .inl ?_) H
      simp only [execOp, Sem.run_bind, hρ _ _ hx, Core.val, hr, Result.andThen_ok, Sem.run_pure, id]
    · exact H.elim
  · -- next
    rename_i it s
    split at H
    · rename_i xv hx
      refine eff_sem (Instr.next xv s ty) id B (by simp [clsOf]) (fun _ _ => trivial) (fun v w' hr => .inl ?_) H
      simp only [execOp, Sem.run_bind, hρ _ _ hx, Core.val, hr, Result.andThen_ok, Sem.run_pure, id]
    · exact H.elim
  · -- entry
    rename_i it
    split at H
    · rename_i xv hx
      refine eff_sem (Instr.entry xv) id B (by simp [clsOf]) (fun _ _ => trivial) (fun v w' hr => .inl ?_) H
      simp only [execOp, Sem.run_bind, hρ _ _ hx, Core.val, hr, Result.andThen_ok, Sem.run_pure, id]
    · exact H.elim
  · -- mapEntry
    rename_i t m k
    split at H
    · rename_i mv kv hm hk
      refine eff_sem (Instr.mapEntry t mv kv) id B (by simp [clsOf]) (fun _ _ => trivial) (fun v w' hr => .inl ?_) H
      simp only [execOp, Sem.run_bind, hρ _ _ hm, hρ _ _ hk, Core.val, hr, Result.andThen_ok, Sem.run_pure, id]
    · exact H.elim
  · -- entryStore
    rename_i t m s x
    split at H
    · rename_i mv sv xv hm hs hx
      refine eff_sem (Instr.entryStore t mv sv xv) (fun _ => undef) B (by simp [clsOf]) (fun _ _ => trivial) (fun v w' hr => .inr ⟨?_, rfl⟩) H
      simp only [execOp, Sem.run_bind, hρ _ _ hm, hρ _ _ hs, hρ _ _ hx, Core.val, hr, Result.andThen_ok, Sem.run_pure]
    · exact H.elim
  · -- binOp
    rename_i op t x y yt
    split at H
    · rename_i av bv ha hb
      refine eff_sem _ id B ?_ (fun _ _ => trivial) (fun v w' hr => .inl ?_) H
      · simp only [clsOf]; split <;> simp
      · simp only [Sem.run_bind] at hr
        simp only [execOp, Sem.run_bind, hρ _ _ ha, hρ _ _ hb, Core.val, hr, Result.andThen_ok, Sem.run_pure, id]
    · exact H.elim
  · -- builtins
    rename_i b args ts
    split at H
    case h_2 => exact H.elim
    rename_i as has
    have h1 := vals_map hρ _ _ has
    have h1' : args.map a.eval = ⟨as⟩ := by apply Array.ext'; simp [h1]
    split at H
    · refine eff_sem _ id B (by simp [clsOf]) (fun _ _ => trivial) (fun v w' hr => .inl ?_) H
      simp only [execOp, resolve, h1', Sem.run_bind, Sem.run_pure, Result.andThen_ok, invoke, builtin, hr, id]
    · refine eff_sem _ id B (by simp [clsOf]) (fun _ _ => trivial) (fun v w' hr => .inl ?_) H
      simp only [execOp, resolve, h1', Sem.run_bind, Sem.run_pure, Result.andThen_ok, invoke, builtin, hr, id]
    · refine eff_sem _ id B (by simp [clsOf]) (fun _ _ => trivial) (fun v w' hr => .inl ?_) H
      simp only [execOp, resolve, h1', Sem.run_bind, Sem.run_pure, Result.andThen_ok, invoke, builtin, hr, id]
    · refine eff_sem _ id B (by simp [clsOf]) (fun _ _ => trivial) (fun v w' hr => .inl ?_) H
      simp only [execOp, resolve, h1', Sem.run_bind, Sem.run_pure, Result.andThen_ok, invoke, builtin, hr, id]
    · refine eff_sem _ id B (by simp [clsOf]) (fun _ _ => trivial) (fun v w' hr => .inl ?_) H
      simp only [execOp, resolve, h1', Sem.run_bind, Sem.run_pure, Result.andThen_ok, invoke, builtin, hr, id]
    · refine eff_sem _ id B (by simp [clsOf]) (fun _ _ => trivial) (fun v w' hr => .inl ?_) H
      simp only [execOp, resolve, h1', Sem.run_bind, Sem.run_pure, Result.andThen_ok, invoke, builtin, hr, id]
    · exact H.elim
  · -- a call
    rename_i f args ts
    split at H
    case h_2 => exact H.elim
    rename_i f' first captured as hf has
    have h1 := vals_map hρ _ _ has
    have h1' : args.map a.eval = ⟨as⟩ := by apply Array.ext'; simp [h1]
    split at H
    case h_2 =>
      refine eff_sem _ id B (by simp [clsOf]) (fun _ _ => trivial) (fun v w' hr => .inl ?_) H
      have hr' := extCall_run hr
      simp only [execOp, resolve, h1', Sem.run_bind, hρ _ _ hf, Core.val, Deferred.ofValue, Sem.run_pure, Result.andThen_ok, invoke, id]
      simpa using hr'
    rename_i hbody
    unfold CallR at H
    have hc := H B.lt w rfl
    unfold EffGoal Oper.wp
    have hrun : (execOp a.eval (⟨dst, .call { callee := .value f, args := args, argTypes := ts }, ty, pos, after, guard⟩ : Oper)).run P w = .ok (.enter f' ⟨first ++ as ++ captured⟩) w := by
      simp only [execOp, resolve, h1', Sem.run_bind, hρ _ _ hf, Core.val, Deferred.ofValue, Sem.run_pure, Result.andThen_ok, invoke]
      rw [hasBody_run hbody]
      simp
    rw [hrun]
    simp only [Oper.upon]
    refine Calls.mono hc fun e w' he => ?_
    obtain ⟨v, rfl, h2, h3, h4⟩ := he
    exact ⟨.v v, bx, rfl, after_same B h3 (by simp [clsOf]) _, h2, h4⟩
  · exact H.elim

end Go.Eng
