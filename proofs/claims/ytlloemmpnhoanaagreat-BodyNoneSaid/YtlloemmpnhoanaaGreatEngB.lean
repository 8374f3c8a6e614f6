/-
  The engine, part B: what a walk asks (residuals), operation by operation, region by region, code by code; and that it is sound.
-/
import Derived.Test.YtlloemmpnhoanaaGreatEngA
import Derived.Test.YtlloemmpnhoanaaGreatEngD
set_option linter.all false
namespace Go.Eng
open Go

/-! ### What is left to a person -/

def Under (c : Option Bool) (p : Prop) : Prop := match c with | none => p | some b => b = true → p

/-- a cell that is loaded -/
@[irreducible] def LoadR (c : Option Bool) (h : Heap) (b off : Nat) (K : Value → Prop) : Prop := ∃ v, Under c (Heap.cell? h b off = some v) ∧ K v
/-- cells that are loaded -/
@[irreducible] def LoadN (c : Option Bool) (h : Heap) (b off n : Nat) (K : List Value → Prop) : Prop :=
  ∃ vs : List Value, vs.length = n ∧ Under c (∀ i, i < n → Heap.cell? h b (off + i) = vs[i]?) ∧ K vs
/-- an index that fits -/
@[irreducible] def IdxR (c : Option Bool) (i : Int) (n : Nat) (K : Nat → Prop) : Prop := ∃ j : Nat, Under c (i = (j : Int) ∧ j < n) ∧ K j
/-- an index that fits, and where that element lies -/
@[irreducible] def IdxS (c : Option Bool) (i : Int) (n : Nat) (a : Option Addr) (s : Nat) (K : Nat → Nat → Prop) : Prop :=
  ∃ j b off : Nat, Under c (i = (j : Int) ∧ j < n ∧ a = some ⟨b, off, none⟩) ∧ K b (off + j * s)
/-- where a part of a slice begins -/
def slA (a : Option Addr) (cap l s : Nat) : Option Addr := if cap = l then a else a.map (·.add (l * s))
/-- bounds that fit -/
@[irreducible] def SliceR (c : Option Bool) (lo hi : Int) (cap : Nat) (K : Nat → Nat → Prop) : Prop :=
  ∃ l h : Nat, Under c (lo = (l : Int) ∧ hi = (h : Int) ∧ l ≤ h ∧ h ≤ cap) ∧ K l h
@[irreducible] def Need (c : Option Bool) (p : Prop) (K : Prop) : Prop := Under c p ∧ K
@[irreducible] def NthR (c : Option Bool) (vs : List Value) (i : Nat) (K : Value → Prop) : Prop := ∃ v, Under c (vs[i]? = some v) ∧ K v
/-- what a map has for a key -/
@[irreducible] def LookR (c : Option Bool) (h : Heap) (kd : TypeDesc) (r : Nat) (k : Value) (K : Option Value → Prop) : Prop :=
  ∃ o : Option Value, Under c (∃ es cl, h[r]? = some (.map es cl) ∧ ((Instr.findNow kd k es.toList 0).map fun x => x.map (·.2)) = some o) ∧ K o
@[irreducible] def LenR (c : Option Bool) (h : Heap) (r : Nat) (K : Nat → Prop) : Prop := ∃ n : Nat, Under c (∃ es cl, h[r]? = some (.map es cl) ∧ es.size = n) ∧ K n
/-- a new block -/
@[irreducible] def AllocR (h : Heap) (o : Obj) (K : Nat → Heap → Prop) : Prop := ∀ b h', b = h.size → h' = h.push o → K b h'
/-- a private box is written -/
@[irreducible] def BoxR (h : Heap) (b : Nat) (K : Heap → Prop) : Prop := ∀ h' : Heap, h'.size = h.size → (∀ b', b' ≠ b → h'[b']? = h[b']?) → K h'
/-- cells that are stored -/
@[irreducible] def StoreR (h : Heap) (b off : Nat) (vs : List Value) (bs : List Nat) (K : Heap → Prop) : Prop :=
  ∃ c T, h[b]? = some (.cells ⟨c⟩ T (0, 0)) ∧ off + vs.length ≤ c.length ∧ b ∉ bs ∧
    ∀ h' : Heap, h'.size = h.size → h'[b]? = some (.cells ⟨spliceL off vs c⟩ T (0, 0)) → (∀ b', b' ≠ b → h'[b']? = h[b']?) → K h'
/-- the streams, the tape and the outside are as they were -/
def SameOut (w w' : World) : Prop := w'.os = w.os ∧ w'.output = w.output ∧ w'.tape = w.tape
theorem SameOut.refl (w : World) : SameOut w w := ⟨rfl, rfl, rfl⟩
theorem SameOut.trans {a b c : World} (h : SameOut a b) (h' : SameOut b c) : SameOut a c := ⟨h'.1.trans h.1, h'.2.1.trans h.2.1, h'.2.2.trans h.2.2⟩

/-- a call -/
def CallH (P : Program) (f : Nat) (args : List Value) (h : Heap) (R : Value → Heap → Prop) : Prop :=
  ∀ w : World, w.heap = h → Calls P f ⟨args⟩ w fun e w' => ∃ v, e = .returned v ∧ SameOut w w' ∧ R v w'.heap
@[irreducible] def CallR (P : Program) (f : Nat) (args : List Value) (bs : List Nat) (h : Heap) (K : Value → Heap → Prop) : Prop :=
  (∀ b ∈ bs, b < h.size) → CallH P f args h fun v h' => (∀ b ∈ bs, h'[b]? = h[b]?) ∧ K v h'
/-- an operation of the model's own -/
@[irreducible] def SemR {α : Type} (P : Program) (s : Sem α) (bs : List Nat) (h : Heap) (K : α → Heap → Prop) : Prop :=
  (∀ b ∈ bs, b < h.size) → ∀ w : World, w.heap = h → ∃ v w', s.run P w = .ok v w' ∧ SameOut w w' ∧ (∀ b ∈ bs, w'.heap[b]? = h[b]?) ∧ K v w'.heap
/-- a test -/
@[irreducible] def IfR (c : Bool) (A B : Prop) : Prop := (c = true → A) ∧ (c = false → B)

/-! ### Operands -/

def guardOf : List Oper → Nat → Option (Nat × Bool)
  | [], _ => none
  | o :: _, 0 => o.guard
  | _ :: r, n + 1 => guardOf r n
def dstOf : List Oper → Nat → Option Nat
  | [], _ => none
  | o :: _, 0 => o.dst
  | _ :: r, n + 1 => dstOf r n

theorem guardOf_eq : ∀ (l : List Oper) (j : Nat), guardOf l j = (l[j]?).bind (·.guard)
  | [], j => by simp [guardOf]
  | o :: r, 0 => by simp [guardOf]
  | o :: r, j + 1 => by simp [guardOf, guardOf_eq r j]
theorem dstOf_eq : ∀ (l : List Oper) (j : Nat), dstOf l j = (l[j]?).bind (·.dst)
  | [], j => by simp [dstOf]
  | o :: r, 0 => by simp [dstOf]
  | o :: r, j + 1 => by simp [dstOf, dstOf_eq r j]

def sameB : Bool → Bool → Bool
  | true, b => b
  | false, true => false
  | false, false => true
theorem sameB_eq {a b : Bool} (h : sameB a b = true) : a = b := by cases a <;> cases b <;> simp_all [sameB]

abbrev EnvC := List (Nat × Core)
/-- slots known only where operation 'j' of the region yielded 'w' -/
abbrev EnvG := List (Nat × Nat × Bool × Core)

def lookC : EnvC → Nat → Option Core
  | [], _ => none
  | (k, x) :: e, t => match Nat.beq k t with | true => some x | false => lookC e t
def lookG : EnvG → Nat → Option (Nat × Bool × Core)
  | [], _ => none
  | (k, x) :: e, t => match Nat.beq k t with | true => some x | false => lookG e t

/-- is 'j yields w' a guard of the operation, or one that the guard itself stood under? -/
def stands (all : List Oper) (eg : EnvG) : Nat → Option (Nat × Bool) → Nat → Bool → Bool
  | 0, _, _, _ => false
  | _ + 1, none, _, _ => false
  | f + 1, some (j', w'), j, w => match Nat.beq j' j, sameB w' w with
    | true, true => true
    | _, _ => (match dstOf all j' with
      | some d => (match lookG eg d with
        | some (j'', w'', _) => stands all eg f (some (j'', w'')) j w
        | none => false)
      | none => false)

def rd (all : List Oper) (g : Option (Nat × Bool)) (e : EnvC) (eg : EnvG) : Operand → Option Core
  | .tmp t => (match lookG eg t with
    | some (j, w, c) => (match stands all eg 9 g j w with | true => some c | false => none)
    | none => lookC e t)
  | .const v => some (.v v)
  | .global g => some (.v (.pointer (some ⟨g, 0, none⟩)))
  | .func f => some (.v (.func (.func f) ⟨[]⟩ ⟨[]⟩))

/-- does the guard 'j yields w' hold? -/
def condOf (all : List Oper) (e : EnvC) (eg : EnvG) : Nat → Nat → Bool → Option Bool
  | 0, _, _ => none
  | f + 1, j, w => (match dstOf all j with
    | some d => (match lookG eg d with
      | some (j', w', .v (.bool b)) => (match condOf all e eg f j' w' with
        | some c => (match w with | true => some (c && b) | false => some (c && !b))
        | none => none)
      | some _ => none
      | none => (match lookC e d with
        | some (.v (.bool b)) => (match w with | true => some b | false => some (!b))
        | _ => none))
    | none => none)

/-- 'a && b', 'a || b': the second is asked only where it counts -/
def armOf (all : List Oper) (g : Option (Nat × Bool)) (e : EnvC) (eg : EnvG) (t : Nat) (want : Bool) (x : Operand) : Option Core :=
  match rd all g e eg x with
  | some c => some c
  | none => (match x with
    | .tmp s => (match lookG eg s with
      | some (j, w, c) => (match dstOf all j, sameB w want with
        | some d, true => (match Nat.beq d t with | true => some c | false => none)
        | _, _ => none)
      | none => none)
    | _ => none)
def pickOp (all : List Oper) (g : Option (Nat × Bool)) (e : EnvC) (eg : EnvG) (c x y : Operand) : Option Core :=
  match c, rd all g e eg c with
  | .tmp t, some (.v (.bool b)) => (match armOf all g e eg t true x, armOf all g e eg t false y with
    | some (.v (.bool p)), some (.v (.bool q)) => some (.v (.bool (cond b p q)))
    | _, _ => none)
  | _, _ => none

/-! ### What the walk knows, and the frame -/

def BoxIn (bx : Boxes) (h : Heap) : Prop := ∀ k b vs, lookB bx k = some (b, vs) → ∃ T, h[b]? = some (.cells ⟨vs⟩ T (0, 0))
def Distinct (bx : Boxes) : Prop := ∀ k k' b b' vs vs', lookB bx k = some (b, vs) → lookB bx k' = some (b', vs') → k ≠ k' → b ≠ b'

def coreOk (bx : Boxes) : Core → Prop
  | .v _ => True
  | .lp k _ | .li k _ => (lookB bx k).isSome = true

structure Agree (ops : Array Oper) (e : EnvC) (eg : EnvG) (bx : Boxes) (a : Act) : Prop where
  defers : a.defers = []
  env : ∀ t c, lookC e t = some c → lookG eg t = none → a.tmps[t]? = some (c.val bx) ∧ coreOk bx c
  envg : ∀ t j w c, lookG eg t = some (j, w, c) → (yielded ops a.tmps j = some w → a.tmps[t]? = some (c.val bx)) ∧ (yielded ops a.tmps j ≠ some w → a.tmps[t]? = some undef) ∧ coreOk bx c

theorem yielded_of {ops : Array Oper} {tmps : Array Value} {j d : Nat} (hd : dstOf ops.toList j = some d) {b : Bool} (h : tmps[d]? = some (.bool b)) : yielded ops tmps j = some b := by
  rw [dstOf_eq] at hd
  have hd' : (ops[j]?).bind (·.dst) = some d := by simpa using hd
  simp [yielded, hd', h]
theorem yielded_undef {ops : Array Oper} {tmps : Array Value} {j d : Nat} (hd : dstOf ops.toList j = some d) (h : tmps[d]? = some undef) : yielded ops tmps j = none := by
  rw [dstOf_eq] at hd
  have hd' : (ops[j]?).bind (·.dst) = some d := by simpa using hd
  simp [yielded, hd', h, undef]

theorem stands_ok {ops : Array Oper} {e : EnvC} {eg : EnvG} {bx : Boxes} {a : Act} (A : Agree ops e eg bx a) : ∀ (f : Nat) (g : Option (Nat × Bool)) (j : Nat) (w : Bool),
    stands ops.toList eg f g j w = true → (∀ p, g = some p → yielded ops a.tmps p.1 = some p.2) → yielded ops a.tmps j = some w
  | 0, _, _, _, h, _ => by cases h
  | f + 1, none, _, _, h, _ => by cases h
  | f + 1, some (j', w'), j, w, h, hg => by
    have h0 := hg _ rfl
    simp only [stands] at h
    split at h
    · rename_i h1 h2
      have e1 := Nat.eq_of_beq_eq_true h1
      have e2 := sameB_eq h2
      subst e1; subst e2; exact h0
    · split at h
      · rename_i d hd
        split at h
        · rename_i j'' w'' c hl
          refine stands_ok A f _ j w h (fun p hp => ?_)
          simp at hp; subst hp
          obtain ⟨h1, h2, _⟩ := A.envg _ _ _ _ hl
          by_cases hy : yielded ops a.tmps j'' = some w''
          · exact hy
          · rw [yielded_undef hd (h2 hy)] at h0; cases h0
        · cases h
      · cases h

theorem rd_ok {ops : Array Oper} {e : EnvC} {eg : EnvG} {bx : Boxes} {a : Act} (A : Agree ops e eg bx a) {g : Option (Nat × Bool)} (hg : ∀ p, g = some p → yielded ops a.tmps p.1 = some p.2)
    (x : Operand) (c : Core) (h : rd ops.toList g e eg x = some c) : a.eval x = c.val bx := by
  cases x with
  | tmp t =>
    simp only [rd] at h
    split at h
    · rename_i j w c' hl
      split at h
      · rename_i hs
        simp at h; subst h
        have := (A.envg _ _ _ _ hl).1 (stands_ok A 9 g j w hs hg)
        simp [Act.eval, this]
      · cases h
    · rename_i hl
      have := (A.env _ _ h hl).1
      simp [Act.eval, this]
  | const v => simp [rd] at h; subst h; rfl
  | global n => simp [rd] at h; subst h; rfl
  | func f => simp [rd] at h; subst h; rfl

theorem condOf_ok {ops : Array Oper} {e : EnvC} {eg : EnvG} {bx : Boxes} {a : Act} (A : Agree ops e eg bx a) : ∀ (f j : Nat) (w : Bool) (c : Bool),
    condOf ops.toList e eg f j w = some c → (yielded ops a.tmps j = some w ↔ c = true)
  | 0, _, _, _, h => by cases h
  | f + 1, j, w, c, h => by
    simp only [condOf] at h
    split at h
    · rename_i d hd
      split at h
      · rename_i j' w' b hl
        split at h
        · rename_i c' hc
          have ih := condOf_ok A f j' w' c' hc
          obtain ⟨h1, h2, _⟩ := A.envg _ _ _ _ hl
          by_cases hy : yielded ops a.tmps j' = some w'
          · have hb := yielded_of hd (h1 hy)
            have hc' := ih.1 hy
            cases w <;> simp at h <;> subst h <;> simp [hb, hc']
          · have hb := yielded_undef hd (h2 hy)
            have hc' : c' = false := by cases c' with
              | false => rfl
              | true => exact absurd (ih.2 rfl) hy
            cases w <;> simp at h <;> subst h <;> simp [hb, hc']
        · cases h
      · cases h
      · rename_i hl
        split at h
        · rename_i b hb
          have := yielded_of hd (A.env _ _ hb hl).1
          cases w <;> simp at h <;> subst h <;> simp [this]
        · cases h
    · cases h

theorem armOf_ok {ops : Array Oper} {e : EnvC} {eg : EnvG} {bx : Boxes} {a : Act} (A : Agree ops e eg bx a) {g : Option (Nat × Bool)} (hg : ∀ p, g = some p → yielded ops a.tmps p.1 = some p.2)
    {t : Nat} {want : Bool} (ht : a.tmps[t]? = some (.bool want)) (x : Operand) (c : Core) (h : armOf ops.toList g e eg t want x = some c) : a.eval x = c.val bx := by
  unfold armOf at h
  split at h
  · rename_i c' hc
    simp at h; subst h
    exact rd_ok A hg x _ hc
  · split at h
    · rename_i s
      split at h
      · rename_i j w c' hl
        split at h
        · rename_i d hd hs
          split at h
          · rename_i hb
            simp at h; subst h
            have e1 := Nat.eq_of_beq_eq_true hb
            have e2 := sameB_eq hs
            subst e1; subst e2
            have := (A.envg _ _ _ _ hl).1 (yielded_of hd ht)
            simp [Act.eval, this]
          · cases h
        · cases h
      · cases h
    · cases h

theorem pickOp_ok {P : Program} {ops : Array Oper} {e : EnvC} {eg : EnvG} {bx : Boxes} {a : Act} (A : Agree ops e eg bx a) {g : Option (Nat × Bool)} (hg : ∀ p, g = some p → yielded ops a.tmps p.1 = some p.2)
    {o : Oper} {x y z : Operand} (ho : o.op = .pick x y z) {c : Core} (h : pickOp ops.toList g e eg x y z = some c) (w : World) : (execOp a.eval o).run P w = .ok (.value (c.val bx)) w := by
  unfold pickOp at h
  split at h
  · rename_i t b hc
    have hx := rd_ok A hg _ _ hc
    have ht : a.tmps[t]? = some (.bool b) := by
      simp only [Act.eval, Core.val] at hx
      cases hh : a.tmps[t]? with
      | none => simp [hh, undef] at hx
      | some v => simp [hh] at hx; rw [hx]
    split at h
    · rename_i p q hp hq
      simp at h; subst h
      simp only [execOp, ho, Sem.run_bind, hx, Core.val, asBool, Sem.run_pure, Result.andThen_ok]
      cases b with
      | true => have := armOf_ok A hg ht _ _ hp; simp [this, Core.val]
      | false => have := armOf_ok A hg ht _ _ hq; simp [this, Core.val]
    · cases h
  · cases h

end Go.Eng
