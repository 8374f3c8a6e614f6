/-
  Joined texts: EngA, EngD, EngB, EngC.
-/
import Derived.OrdersHeld
import Derived.Calls
import Derived.Laws.Sem
/-
  The engine, part A: the state of a walk (what is known of the slots, the private boxes), and what each pure operation yields.
-/
set_option linter.all false
namespace Go.Eng
open Go

abbrev Heap := Array Obj

def Heap.cell? (h : Heap) (b o : Nat) : Option Value :=
  match h[b]? with
  | some (.cells c _ _) => c[o]?
  | _ => none

theorem cell?_eq (w : World) (b o : Nat) : w.cell? ⟨b, o, none⟩ = Heap.cell? w.heap b o := by
  unfold World.cell? Heap.cell?
  cases w.heap[b]? with
  | none => rfl
  | some x => cases x <;> rfl

/-- what a slot is known to hold: a value, or an address within a private box (its number, a fixed place; or a reckoned place) -/
inductive Core where
  | v (x : Value)
  | lp (k off : Nat)
  | li (k off : Nat)

/-- known outright, or only where operation 'j' of the region yielded 'want' -/
structure AV where
  g : Option (Nat × Bool)
  c : Core

abbrev Env := List (Nat × AV)
abbrev Boxes := List (Nat × Nat × List Value)

def look : Env → Nat → Option AV
  | [], _ => none
  | (k, x) :: e, t => match Nat.beq k t with | true => some x | false => look e t

def lookB : Boxes → Nat → Option (Nat × List Value)
  | [], _ => none
  | (k, b, vs) :: e, t => match Nat.beq k t with | true => some (b, vs) | false => lookB e t

/-- a box gets a block and cells (what it had before is forgotten) -/
def setB (k b : Nat) (vs : List Value) : Boxes → Boxes
  | [] => [(k, b, vs)]
  | (k', b', vs') :: r => match Nat.beq k' k with | true => (k, b, vs) :: r | false => (k', b', vs') :: setB k b vs r

def nth : List Value → Nat → Option Value
  | [], _ => none
  | v :: _, 0 => some v
  | _ :: r, n + 1 => nth r n

theorem nth_eq : ∀ (l : List Value) (n : Nat), nth l n = l[n]?
  | [], _ => by simp [nth]
  | _ :: _, 0 => by simp [nth]
  | _ :: r, n + 1 => by simp [nth, nth_eq r n]

def dropL : Nat → List Value → List Value
  | 0, l => l
  | _ + 1, [] => []
  | n + 1, _ :: r => dropL n r

theorem dropL_eq : ∀ (n : Nat) (l : List Value), dropL n l = l.drop n
  | 0, l => by simp [dropL]
  | n + 1, [] => by simp [dropL]
  | n + 1, _ :: r => by simp [dropL, dropL_eq n r]

/-- the first 'n', if there are so many -/
def takeL : Nat → List Value → Option (List Value)
  | 0, _ => some []
  | _ + 1, [] => none
  | n + 1, v :: r => match takeL n r with | some l => some (v :: l) | none => none

theorem takeL_eq : ∀ (n : Nat) (l l' : List Value), takeL n l = some l' → l' = l.take n ∧ l'.length = n
  | 0, l, l', h => by simp [takeL] at h; subst h; simp
  | n + 1, [], l', h => by simp [takeL] at h
  | n + 1, v :: r, l', h => by
    simp only [takeL] at h
    split at h
    · rename_i l hl
      obtain ⟨h1, h2⟩ := takeL_eq n r l hl
      simp at h; subst h
      refine ⟨?_, by simp [h2]⟩
      rw [List.take_succ_cons, ← h1]
    · simp at h

/-- how a type's variables lie: one cell, or 'n' of them -/
inductive Lie where
  | one
  | agg (n : Nat)

def lieOf (P : Program) (t : TypeId) : Option Lie :=
  match P.underlying t with
  | some (.struct _) | some (.array _ _) => (match P.info? t with | some i => some (.agg i.size) | none => none)
  | some _ => (match P.info? t with | some i => (match Nat.beq i.size 1 with | true => some .one | false => none) | none => none)
  | none => none

def sizeOfT (P : Program) (t : TypeId) : Option Nat := match P.info? t with | some i => some i.size | none => none

/-- a field's place (for fields that have cells) -/
def fieldOff (P : Program) (t : TypeId) (i : Nat) : Option Nat :=
  match P.underlying t with
  | some (.struct fs) => (match fs[i]? with
    | some f => (match P.info? f.type with | some n => (match n.size with | 0 => none | _ + 1 => some f.offset) | none => none)
    | none => none)
  | _ => none

def plus (a : Nat) : Nat → Nat
  | 0 => a
  | n + 1 => a + (n + 1)
theorem plus_eq (a n : Nat) : plus a n = a + n := by cases n <;> rfl

def blk (bx : Boxes) (k : Nat) : Nat := match lookB bx k with | some (b, _) => b | none => 0

def Core.val (bx : Boxes) : Core → Value
  | .v x => x
  | .lp k off => .pointer (some ⟨blk bx k, off, none⟩)
  | .li k off => .pointer (some ⟨blk bx k, off, none⟩)

/-! ### Pure operations -/


def intV (op : BinOp) (k : IntKind) (x y : Int) : Option Value :=
  match op with
  | .add => some (.int k (k.wrap (x + y)))
  | .sub => some (.int k (k.wrap (x - y)))
  | .mul => some (.int k (k.wrap (x * y)))
  | .and => some (.int k (k.wrap ((BitVec.ofInt k.bits x &&& BitVec.ofInt k.bits y).toNat)))
  | .or => some (.int k (k.wrap ((BitVec.ofInt k.bits x ||| BitVec.ofInt k.bits y).toNat)))
  | .xor => some (.int k (k.wrap ((BitVec.ofInt k.bits x ^^^ BitVec.ofInt k.bits y).toNat)))
  | .andNot => some (.int k (k.wrap ((BitVec.ofInt k.bits x &&& ~~~BitVec.ofInt k.bits y).toNat)))
  | .eql => some (.bool (x == y))
  | .neq => some (.bool (x != y))
  | .lss => some (.bool (decide (x < y)))
  | .leq => some (.bool (decide (x ≤ y)))
  | .gtr => some (.bool (decide (x > y)))
  | .geq => some (.bool (decide (x ≥ y)))
  | _ => none

def strV (op : BinOp) (x y : ByteArray) : Option Value :=
  match op with
  | .eql => some (.bool (x.toList == y.toList))
  | .neq => some (.bool (!(x.toList == y.toList)))
  | .lss => some (.bool (Op.bytesLess x.toList y.toList))
  | .leq => some (.bool (Op.bytesLess x.toList y.toList || x.toList == y.toList))
  | .gtr => some (.bool (!(Op.bytesLess x.toList y.toList || x.toList == y.toList)))
  | .geq => some (.bool (!Op.bytesLess x.toList y.toList))
  | _ => none

/-- equality of what is no number and no text -/
def eqV (P : Program) (t : TypeId) (a b : Value) : Option Bool :=
  match P.underlying t, a, b with
  | some .bool, .bool x, .bool y => some (x == y)
  | some (.pointer _), .pointer none, .pointer b => some b.isNone
  | some (.pointer _), .pointer (some _), .pointer none => some false
  | some (.slice _), .slice none _ _, .slice b _ _ => some b.isNone
  | some (.slice _), .slice (some _) _ _, .slice none _ _ => some false
  | some (.map _ _), .map none, .map b => some b.isNone
  | some (.map _ _), .map (some _), .map none => some false
  | some (.func _ _ _), .nilFunc, .nilFunc => some true
  | some (.func _ _ _), .func _ _ _, .nilFunc => some false
  | _, _, _ => none

def binV (P : Program) (op : BinOp) (t : TypeId) (a b : Value) : Option Value :=
  match a, b with
  | .int k x, .int k' y => (match k == k' with | true => intV op k x y | false => none)
  | .string x, .string y => strV op x y
  | a, b => (match op with
    | .eql => (match eqV P t a b with | some r => some (.bool r) | none => none)
    | .neq => (match eqV P t a b with | some r => some (.bool (!r)) | none => none)
    | _ => none)

theorem eqGuard_run (P : Program) (op : BinOp) (t : TypeId) (x y : Operand) (a b : Value) (w : World)
    (h1 : ¬ (a = .nilIface ∧ b = .nilIface)) (h2 : ∀ c, a ≠ .agg c) : (eqGuard op t x y a b).run P w = .ok () w := by
  have key : ∀ o : BinOp, (o = .eql ∨ o = .neq) → (eqGuard o t x y a b).run P w = .ok () w := by
    intro o ho
    rcases ho with rfl | rfl
    all_goals
      cases a <;> first | (exact absurd rfl (h2 _)) | rfl | (cases b <;> first | rfl | (exact absurd ⟨rfl, rfl⟩ h1))
  cases op <;> first | rfl | exact key _ (.inl rfl) | exact key _ (.inr rfl)

theorem underlying_run (P : Program) (t : TypeId) (w : World) {d : TypeDesc} (h : P.underlying t = some d) : (underlying t).run P w = .ok d w := by
  simp [underlying, h]
theorem typeInfo_run (P : Program) (t : TypeId) (w : World) {d : TypeInfo} (h : P.info? t = some d) : (typeInfo t).run P w = .ok d w := by
  simp [typeInfo, h]

theorem eqV_run (P : Program) (t : TypeId) (a b : Value) (r : Bool) (h : eqV P t a b = some r) (w : World) :
    (Op.equal t a b).run P w = .ok r w := by
  unfold Op.equal
  unfold Op.maxDepth
  unfold Op.equalIn
  unfold eqV at h
  split at h <;> simp at h <;> subst h <;> simp [underlying, *]

theorem eqV_not (P : Program) (t : TypeId) (a b : Value) (r : Bool) (h : eqV P t a b = some r) :
    ¬ (a = .nilIface ∧ b = .nilIface) ∧ ∀ c, a ≠ .agg c := by
  unfold eqV at h
  split at h <;> simp at h <;> simp

theorem binV_run (P : Program) (op : BinOp) (t : TypeId) (x y : Operand) (a b : Value) (r : Value) (h : binV P op t a b = some r) (w : World) :
    (do eqGuard op t x y a b; binOp op t a b : Sem Value).run P w = .ok r w := by
  unfold binV at h
  split at h
  · rename_i k x' k' y'
    split at h
    · rename_i hk
      have hk' : k = k' := by simpa using hk
      subst hk'
      simp only [Sem.run_bind]
      rw [eqGuard_run _ _ _ _ _ _ _ _ (by simp) (by simp)]
      simp only [Result.andThen_ok]
      cases op <;> simp [intV] at h <;> subst h <;> simp [binOp, Op.intArith, Op.intBits, Op.intCmp]
    · cases h
  · rename_i x' y'
    simp only [Sem.run_bind]
    rw [eqGuard_run _ _ _ _ _ _ _ _ (by simp) (by simp)]
    simp only [Result.andThen_ok]
    cases op <;> simp [strV] at h <;> subst h <;> simp [binOp, Op.stringOp]
  · rename_i h1 h2
    split at h
    · split at h
      · rename_i r' hr
        have hn := eqV_not P t a b r' hr
        simp only [Sem.run_bind]
        rw [eqGuard_run _ _ _ _ _ _ _ _ hn.1 hn.2]
        simp only [Result.andThen_ok]
        simp at h; subst h
        have he := eqV_run P t a b r' hr w
        unfold eqV at hr
        split at hr <;> simp at hr <;> simp [binOp, he, *]
      · cases h
    · split at h
      · rename_i r' hr
        have hn := eqV_not P t a b r' hr
        simp only [Sem.run_bind]
        rw [eqGuard_run _ _ _ _ _ _ _ _ hn.1 hn.2]
        simp only [Result.andThen_ok]
        simp at h; subst h
        have he := eqV_run P t a b r' hr w
        unfold eqV at hr
        split at hr <;> simp at hr <;> simp [binOp, he, *]
      · cases h
    · cases h

/-! ### Pure operations, as a function of what is known -/

def vOf : Option Value → Option Core
  | some x => some (.v x)
  | none => none

def unV (op : UnOp) (a : Value) : Option Value :=
  match op, a with
  | .not, .bool b => some (.bool (!b))
  | .neg, .int k n => some (.int k (k.wrap (0 - n)))
  | .xor, .int k n => some (.int k (k.wrap ((BitVec.ofInt k.bits (if k.signed then -1 else k.max) ^^^ BitVec.ofInt k.bits n).toNat)))
  | _, _ => none

/-- a part of a struct's or an array's cells -/
def partV (P : Program) (t : TypeId) (cs : List Value) (off : Nat) : Option Value :=
  match lieOf P t with
  | some .one => nth cs off
  | some (.agg n) => (match takeL n (dropL off cs) with | some l => some (.agg ⟨l⟩) | none => none)
  | none => none

def spliceL : Nat → List Value → List Value → List Value
  | 0, [], l => l
  | 0, v :: vs, _ :: l => v :: spliceL 0 vs l
  | 0, _ :: _, [] => []
  | n + 1, vs, x :: l => x :: spliceL n vs l
  | _ + 1, _, [] => []

def vals (ρ : Operand → Option Core) : List Operand → Option (List Value)
  | [] => some []
  | x :: r => (match ρ x with
    | some (.v a) => (match vals ρ r with | some l => some (a :: l) | none => none)
    | _ => none)

def cellsOf : Value → List Value
  | .agg ⟨cs⟩ => cs
  | v => [v]

def leB : Nat → Nat → Bool
  | 0, _ => true
  | _ + 1, 0 => false
  | a + 1, b + 1 => leB a b
theorem leB_eq : ∀ a b : Nat, leB a b = true ↔ a ≤ b
  | 0, b => by simp [leB]
  | a + 1, 0 => by simp [leB]
  | a + 1, b + 1 => by simp [leB, leB_eq a b]

def fillL (place : Nat → Option (Nat × Nat)) (ρ : Operand → Option Core) (n : Nat) (cells : List Value) : List (Nat × Operand) → Option (List Value)
  | [] => some cells
  | (i, x) :: rest => (match place i, ρ x with
    | some (off, size), some (.v a) => (match Nat.beq (cellsOf a).length size, leB (off + size) n with
      | true, true => fillL place ρ n (spliceL off (cellsOf a) cells) rest
      | _, _ => none)
    | _, _ => none)

/-- where a field lies, and of how many cells it is -/
def placeL (P : Program) (fs : List Field) (i : Nat) : Option (Nat × Nat) :=
  match fs[i]? with
  | some f => (match P.info? f.type with | some j => some (f.offset, j.size) | none => none)
  | none => none

def buildV (P : Program) (t : TypeId) (ρ : Operand → Option Core) (parts : List (Nat × Operand)) : Option Value :=
  match P.info? t with
  | some i => (match i.zero with
    | some z => (match P.underlying t with
      | some (.struct fs) => (match (fs.toList.all fun f => (P.info? f.type).isSome), fillL (placeL P fs.toList) ρ (cellsOf z).length (cellsOf z) parts with
        | true, some l => some (.agg ⟨l⟩)
        | _, _ => none)
      | some (.array _ e) => (match P.info? e with
        | some j => (match fillL (fun i => some (i * j.size, j.size)) ρ (cellsOf z).length (cellsOf z) parts with
          | some l => some (.agg ⟨l⟩)
          | none => none)
        | none => none)
      | _ => none)
    | none => none)
  | none => none

def builtinV (P : Program) (b : Builtin) (ts : List TypeId) (as : List Value) : Option Value :=
  match b, as with
  | .len, [x] => (match ts with
    | [t] => (match P.underlying t, x with
      | some .string, .string s => some (.int .i64 s.size)
      | some (.slice _), .slice _ n _ => some (.int .i64 n)
      | some (.array n _), _ => some (.int .i64 n)
      | _, _ => none)
    | _ => none)
  | .cap, [x] => (match ts with
    | [t] => (match P.underlying t, x with
      | some (.slice _), .slice _ _ n => some (.int .i64 n)
      | _, _ => none)
    | _ => none)
  | .min, [.int k x, .int _ y] => some (.int k (if y < x then y else x))
  | .max, [.int k x, .int _ y] => some (.int k (if y > x then y else x))
  | .min, [.int k x, .int _ y, .int _ z] => some (.int k (if z < (if y < x then y else x) then z else (if y < x then y else x)))
  | _, _ => none

def pureOp (P : Program) (op : Op) (ρ : Operand → Option Core) : Option Core :=
  match op with
  | .move x | .assign x => ρ x
  | .binOp o t x y _ => (match ρ x, ρ y with | some (.v a), some (.v b) => vOf (binV P o t a b) | _, _ => none)
  | .unOp o _ x => (match ρ x with | some (.v a) => vOf (unV o a) | _ => none)
  | .extract x i => (match ρ x with | some (.v (.tuple ⟨vs⟩)) => vOf (nth vs i) | _ => none)
  | .fieldAddr t x i => (match fieldOff P t i with
    | some fo => (match ρ x with
      | some (.lp k off) => some (.lp k (plus off fo))
      | some (.li k off) => some (.li k (plus off fo))
      | some (.v (.pointer (some ⟨b, off, none⟩))) => some (.v (.pointer (some ⟨b, plus off fo, none⟩)))
      | _ => none)
    | none => none)
  | .field t x i => (match ρ x, P.underlying t with
    | some (.v (.agg ⟨cs⟩)), some (.struct fs) => (match fs[i]? with | some f => vOf (partV P f.type cs f.offset) | none => none)
    | _, _ => none)
  | .build t parts => vOf (buildV P t ρ parts.toList)
  | .makeFunc fn first captured => (match vals ρ first.toList, vals ρ captured.toList with
    | some a, some b => some (.v (.func fn ⟨a⟩ ⟨b⟩))
    | _, _ => none)
  | .nilCheck x => (match ρ x with
    | some (.lp k off) => some (.lp k off)
    | some (.li k off) => some (.li k off)
    | some (.v (.pointer (some a))) => some (.v (.pointer (some a)))
    | some (.v (.func (.func f) a b)) => some (.v (.func (.func f) a b))
    | _ => none)
  | .convert s t x => (match ρ x with
    | some (.v (.int _ n)) => (match P.underlying s, P.underlying t with | some _, some (.int k) => some (.v (.int k (k.wrap n))) | _, _ => none)
    | some (.v (.string a)) => (match P.underlying s, P.underlying t with | some _, some .string => some (.v (.string a)) | _, _ => none)
    | _ => none)
  | .call { callee := .builtin b, args, argTypes } => (match vals ρ args.toList with
    | some l => vOf (builtinV P b argTypes.toList l)
    | none => none)
  | _ => none

/-! ### and that the model says the same -/

theorem lieOf_one {P : Program} {t : TypeId} (h : lieOf P t = some .one) (w : World) : (isAgg t).run P w = .ok false w ∧ (sizeOf t).run P w = .ok 1 w := by
  unfold lieOf at h
  split at h
  · split at h <;> cases h
  · split at h <;> cases h
  · rename_i d h1 h2 hd
    split at h
    · rename_i i hi
      split at h
      · rename_i hb
        refine ⟨?_, ?_⟩
        · simp only [isAgg, Sem.run_bind, underlying_run P t w hd, Result.andThen_ok]
          first
            | rfl
            | (split
               · exact absurd hd (h1 _)
               · exact absurd hd (h2 _ _)
               · rfl)
        · simp only [sizeOf, Sem.run_bind, typeInfo_run P t w hi, Result.andThen_ok, Sem.run_pure]
          rw [Nat.eq_of_beq_eq_true hb]
      · cases h
    · cases h
  · cases h

theorem lieOf_agg {P : Program} {t : TypeId} {n : Nat} (h : lieOf P t = some (.agg n)) (w : World) : (isAgg t).run P w = .ok true w ∧ (sizeOf t).run P w = .ok n w := by
  unfold lieOf at h
  split at h
  · rename_i fs hd
    split at h
    · rename_i i hi
      simp at h; subst h
      exact ⟨by simp [isAgg, underlying_run P t w hd], by simp [sizeOf, typeInfo_run P t w hi]⟩
    · cases h
  · rename_i m e hd
    split at h
    · rename_i i hi
      simp at h; subst h
      exact ⟨by simp [isAgg, underlying_run P t w hd], by simp [sizeOf, typeInfo_run P t w hi]⟩
    · cases h
  · split at h
    · split at h <;> cases h
    · cases h
  · cases h

theorem partV_run {P : Program} {t : TypeId} {cs : List Value} {off : Nat} {r : Value} (h : partV P t cs off = some r) (w : World) :
    (part t ⟨cs⟩ off).run P w = .ok r w := by
  unfold partV at h
  split at h
  · rename_i hl
    obtain ⟨h1, h2⟩ := lieOf_one hl w
    rw [nth_eq] at h
    simp only [part, Sem.run_bind, h1, Result.andThen_ok]
    simp [h]
  · rename_i n hl
    obtain ⟨h1, h2⟩ := lieOf_agg hl w
    split at h
    · rename_i l ht
      simp at h; subst h
      obtain ⟨h3, h4⟩ := takeL_eq _ _ _ ht
      rw [dropL_eq] at h3
      simp only [part, Sem.run_bind, h1, Result.andThen_ok]
      simp only [if_true, Sem.run_bind, h2, Result.andThen_ok, Sem.run_pure]
      congr 2
      subst h3
      have : (⟨cs⟩ : Array Value).extract off (off + n) = ⟨(cs.drop off).take n⟩ := by
        apply Array.ext'
        simp
      rw [this]
    · cases h
  · cases h

theorem vals_map {ρ : Operand → Option Core} {ρ' : Operand → Value} {bx : Boxes} (hρ : ∀ x c, ρ x = some c → ρ' x = c.val bx) :
    ∀ (l : List Operand) (vs : List Value), vals ρ l = some vs → l.map ρ' = vs
  | [], vs, h => by simp [vals] at h; subst h; rfl
  | x :: r, vs, h => by
    simp only [vals] at h
    split at h
    · rename_i a ha
      split at h
      · rename_i l hl
        simp at h; subst h
        simp [vals_map hρ r l hl, hρ x _ ha, Core.val]
      · cases h
    · cases h

theorem cellsOf_eq (v : Value) : v.cells = ⟨cellsOf v⟩ := by
  cases v <;> rfl

theorem splice_nil : ∀ (n : Nat) (l : List Value), spliceL n [] l = l
  | 0, l => by cases l <;> rfl
  | n + 1, [] => rfl
  | n + 1, x :: l => by simp only [spliceL]; rw [splice_nil n l]

theorem splice_cons (v : Value) (vs : List Value) : ∀ (n : Nat) (l : List Value), n + vs.length < l.length →
    spliceL (n + 1) vs (l.set n v) = spliceL n (v :: vs) l
  | 0, [], h => by simp at h
  | 0, x :: l, h => by simp [spliceL]
  | n + 1, [], h => by simp at h
  | n + 1, x :: l, h => by
    simp only [List.set_cons_succ]
    rw [spliceL, spliceL, splice_cons v vs n l (by simp at h; omega)]

theorem splice_set : ∀ (vs l : List Value) (off : Nat), off + vs.length ≤ l.length →
    (vs.zipIdx 0).foldl (fun cs (p : Value × Nat) => cs.setIfInBounds (off + p.2) p.1) (⟨l⟩ : Array Value) = ⟨spliceL off vs l⟩ := by
  have key : ∀ (vs l : List Value) (off k : Nat), off + k + vs.length ≤ l.length →
      (vs.zipIdx k).foldl (fun cs (p : Value × Nat) => cs.setIfInBounds (off + p.2) p.1) (⟨l⟩ : Array Value) = ⟨spliceL (off + k) vs l⟩ := by
    intro vs
    induction vs with
    | nil =>
      intro l off k _
      simp only [List.zipIdx_nil, List.foldl_nil]
      rw [splice_nil]
    | cons v vs ih =>
      intro l off k h
      simp only [List.length_cons] at h
      simp only [List.zipIdx_cons, List.foldl_cons]
      have : (⟨l⟩ : Array Value).setIfInBounds (off + k) v = ⟨l.set (off + k) v⟩ := by simp [Array.setIfInBounds, show off + k < l.length by omega]
      rw [this, ih (l.set (off + k) v) off (k + 1) (by simp; omega)]
      congr 1
      generalize hn : off + k = n
      rw [show off + (k + 1) = n + 1 by omega]
      exact splice_cons v vs n l (by omega)
  intro vs l off h
  exact key vs l off 0 (by simpa using h)

theorem spliceL_length : ∀ (off : Nat) (vs l : List Value), (spliceL off vs l).length = l.length
  | 0, [], l => by simp [spliceL]
  | 0, v :: vs, x :: l => by simp [spliceL, spliceL_length 0 vs l]
  | 0, _ :: _, [] => by simp [spliceL]
  | n + 1, vs, x :: l => by simp [spliceL, spliceL_length n vs l]
  | _ + 1, _, [] => by simp [spliceL]

theorem fillL_run {place place' : Nat → Option (Nat × Nat)} {ρ : Operand → Option Core} {ρ' : Operand → Value} {bx : Boxes}
    (hρ : ∀ x c, ρ x = some c → ρ' x = c.val bx) (hp : ∀ i p, place i = some p → place' i = some p) : ∀ (parts : List (Nat × Operand)) (n : Nat) (cells l : List Value), cells.length = n →
    fillL place ρ n cells parts = some l → Instr.fill place' ⟨cells⟩ (parts.map fun p => (p.1, ρ' p.2)) = some ⟨l⟩
  | [], n, cells, l, hn, h => by simp [fillL] at h; subst h; rfl
  | (i, x) :: rest, n, cells, l, hn, h => by
    simp only [fillL] at h
    split at h
    · rename_i off size a hpl ha
      split at h
      · rename_i hb hl
        have hs := Nat.eq_of_beq_eq_true hb
        rw [leB_eq] at hl
        have ih := fillL_run hρ hp rest n (spliceL off (cellsOf a) cells) l (by rw [spliceL_length]; exact hn) h
        simp only [List.map_cons, Instr.fill, hp i _ hpl, hρ x _ ha, Core.val, cellsOf_eq]
        rw [if_neg (by simp; omega)]
        have := splice_set (cellsOf a) cells off (by omega)
        rw [← ih]
        congr 1
        rw [← this]
        simp
      · cases h
    · cases h

theorem buildV_run {P : Program} {t : TypeId} {ρ : Operand → Option Core} {ρ' : Operand → Value} {bx : Boxes} {parts : Array (Nat × Operand)} {r : Value}
    (hρ : ∀ x c, ρ x = some c → ρ' x = c.val bx) (h : buildV P t ρ parts.toList = some r) (w : World) :
    (Instr.build t (parts.map fun (i, x) => (i, ρ' x))).run P w = .ok r w := by
  unfold buildV at h
  split at h
  case h_2 => cases h
  rename_i i hi
  split at h
  case h_2 => cases h
  rename_i z hz
  have hzero : (zeroValue t).run P w = .ok z w := by simp [zeroValue, typeInfo_run P t w hi, hz]
  split at h
  · rename_i fs hu
    split at h
    case h_2 => cases h
    rename_i l hall hl
    simp at h; subst h
    have hm : ∀ (l : List Field), (l.all fun f => (P.info? f.type).isSome) = true →
        ∃ ps : List (Nat × Nat), (l.mapM fun f => (do pure (f.offset, ← sizeOf f.type) : Sem (Nat × Nat))).run P w = .ok ps w ∧ ∀ i, placeL P l i = ps[i]? := by
      intro l
      induction l with
      | nil => intro _; exact ⟨[], by simp, fun i => by simp [placeL]⟩
      | cons f l ih =>
        intro h
        simp only [List.all_cons, Bool.and_eq_true] at h
        obtain ⟨ps, h1, h2⟩ := ih h.2
        obtain ⟨j, hj⟩ := Option.isSome_iff_exists.1 h.1
        refine ⟨(f.offset, j.size) :: ps, ?_, ?_⟩
        · simp only [List.mapM_cons, Sem.run_bind, sizeOf, typeInfo_run P _ w hj, Result.andThen_ok, Sem.run_pure]
          simp only [sizeOf, Sem.run_bind] at h1
          rw [h1]
          simp
        · intro i
          cases i with
          | zero => simp [placeL, hj]
          | succ i => have := h2 i; simpa [placeL] using this
    obtain ⟨ps, h1, h2⟩ := hm fs.toList hall
    have hfill := fillL_run (place' := fun i => (⟨ps⟩ : Array (Nat × Nat))[i]?) hρ (fun i p hp => by rw [h2] at hp; simpa using hp) parts.toList _ _ l rfl hl
    unfold Instr.build
    simp only [Sem.run_bind, hzero, Result.andThen_ok, underlying_run P t w hu]
    have hmA : (fs.mapM fun f => (do pure (f.offset, ← sizeOf f.type) : Sem (Nat × Nat))).run P w = .ok ⟨ps⟩ w := by
      rw [Array.mapM_eq_mapM_toList]
      simp only [Sem.run_map, h1, Result.andThen_ok]
    simp only [hmA, Result.andThen_ok, cellsOf_eq]
    have he : (parts.map fun (x : Nat × Operand) => (x.1, ρ' x.2)).toList = parts.toList.map fun p => (p.1, ρ' p.2) := by simp
    have hfill' : Instr.fill (fun x => (⟨ps⟩ : Array (Nat × Nat))[x]?) ⟨cellsOf z⟩ (parts.map fun (x : Nat × Operand) => (x.1, ρ' x.2)).toList = some ⟨l⟩ := by rw [he]; exact hfill
    split
    · rename_i cells hc
      rw [hfill'] at hc
      simp at hc; subst hc; simp
    · rename_i hc
      rw [hfill'] at hc
      exact (hc _ rfl).elim
  · rename_i m e hu
    split at h
    case h_2 => cases h
    rename_i j hj
    split at h
    case h_2 => cases h
    rename_i l hl
    simp at h; subst h
    have hfill := fillL_run (place' := fun i => some (i * j.size, j.size)) hρ (fun i p hp => hp) parts.toList _ _ l rfl hl
    have he : (parts.map fun (x : Nat × Operand) => (x.1, ρ' x.2)).toList = parts.toList.map fun p => (p.1, ρ' p.2) := by simp
    rw [← he] at hfill
    unfold Instr.build
    have hs : (sizeOf e).run P w = .ok j.size w := by simp [sizeOf, typeInfo_run P e w hj]
    simp only [Sem.run_bind, hzero, Result.andThen_ok, underlying_run P t w hu, hs, cellsOf_eq]
    split
    · rename_i cells hc
      rw [hfill] at hc
      simp at hc; subst hc; simp
    · rename_i hc
      rw [hfill] at hc
      exact (hc _ rfl).elim
  · cases h

theorem vOf_some {x : Option Value} {c : Core} (h : vOf x = some c) : ∃ v, x = some v ∧ c = .v v := by
  cases x with
  | none => cases h
  | some v => simp [vOf] at h; exact ⟨v, rfl, h.symm⟩

theorem unV_run {P : Program} {o : UnOp} {a r : Value} (h : unV o a = some r) (w : World) : (Op.unary o a).run P w = .ok r w := by
  unfold unV at h
  split at h <;> simp at h <;> subst h <;> simp [Op.unary, Op.intArith, Op.intBits]

theorem fieldOff_run {P : Program} {t : TypeId} {i fo : Nat} (h : fieldOff P t i = some fo) (b off : Nat) (w : World) :
    (Instr.fieldAt t (.pointer (some ⟨b, off, none⟩)) i).run P w = .ok (.pointer (some ⟨b, off + fo, none⟩)) w := by
  unfold fieldOff at h
  split at h
  case h_2 => cases h
  rename_i fs hu
  split at h
  case h_2 => cases h
  rename_i f hf
  split at h
  case h_2 => cases h
  rename_i n hn
  split at h
  case h_1 => cases h
  rename_i m hm
  simp at h; subst h
  have hs : (sizeOf f.type).run P w = .ok (m + 1) w := by simp [sizeOf, typeInfo_run P _ w hn, hm]
  simp only [Instr.fieldAt, Sem.run_bind, underlying_run P t w hu, Result.andThen_ok, hf, Instr.sureAddr, fieldPlace, Sem.run_pure, hs]
  simp only [Addr.add]
  by_cases h0 : f.offset = 0
  · simp [h0]
  · simp [h0]

theorem builtinV_run {P : Program} {b : Builtin} {ts : Array TypeId} {ty : TypeId} {cs : Array Bool} {as : List Value} {r : Value}
    (h : builtinV P b ts.toList as = some r) (w : World) : (builtin b ts ty cs ⟨as⟩).run P w = .ok (.value r) w := by
  obtain ⟨ts⟩ := ts
  unfold builtinV at h
  split at h
  · split at h
    case h_2 => cases h
    rename_i x _ _ t ht
    simp only at ht; subst ht
    split at h <;> (try (cases h; done)) <;> rename_i hu <;> simp at h <;> subst h <;> simp [builtin, Builtin.len_, underlying_run P t w hu, goInt]
  · split at h
    case h_2 => cases h
    rename_i x _ _ t ht
    simp only at ht; subst ht
    split at h <;> (try (cases h; done)) <;> rename_i hu <;> simp at h <;> subst h <;> simp [builtin, Builtin.cap_, underlying_run P t w hu, goInt]
  · simp at h; subst h; simp [builtin, Builtin.min_, Builtin.min2]
  · simp at h; subst h; simp [builtin, Builtin.max_, Builtin.max2]
  · simp at h; subst h; simp [builtin, Builtin.min_, Builtin.min2]
  · cases h

theorem pureOp_run {P : Program} {o : Oper} {ρ : Operand → Option Core} {ρ' : Operand → Value} {bx : Boxes}
    (hρ : ∀ x c, ρ x = some c → ρ' x = c.val bx) {c : Core} (h : pureOp P o.op ρ = some c) (w : World) :
    (execOp ρ' o).run P w = .ok (.value (c.val bx)) w := by
  obtain ⟨dst, op, ty, pos, after, guard⟩ := o
  simp only at h
  unfold pureOp at h
  split at h
  · simp [execOp, hρ _ _ h]
  · simp [execOp, hρ _ _ h]
  · rename_i o t x y yt
    split at h
    · rename_i a b ha hb
      obtain ⟨v, hv, rfl⟩ := vOf_some h
      have := binV_run P o t x y a b v hv w
      simp only [execOp, hρ _ _ ha, hρ _ _ hb, Core.val, Sem.run_bind] at this ⊢
      rw [this]; simp
    · cases h
  · rename_i o t x
    split at h
    · rename_i a ha
      obtain ⟨v, hv, rfl⟩ := vOf_some h
      simp [execOp, hρ _ _ ha, Core.val, unV_run hv w]
    · cases h
  · rename_i x i
    split at h
    · rename_i vs ha
      obtain ⟨v, hv, rfl⟩ := vOf_some h
      rw [nth_eq] at hv
      simp [execOp, hρ _ _ ha, Core.val, Instr.extract, hv]
    · cases h
  · rename_i t x i
    split at h
    · rename_i fo hfo
      split at h
      · rename_i k off ha
        simp at h; subst h
        simp [execOp, hρ _ _ ha, Core.val, fieldOff_run hfo, plus_eq]
      · rename_i k off ha
        simp at h; subst h
        simp [execOp, hρ _ _ ha, Core.val, fieldOff_run hfo, plus_eq]
      · rename_i b off ha
        simp at h; subst h
        simp [execOp, hρ _ _ ha, Core.val, fieldOff_run hfo, plus_eq]
      · cases h
    · cases h
  · rename_i t x i
    split at h
    · rename_i cs fs ha hu
      split at h
      · rename_i f hf
        obtain ⟨v, hv, rfl⟩ := vOf_some h
        simp only [execOp, hρ _ _ ha, Core.val, Instr.field, Sem.run_bind, underlying_run P t w hu, Result.andThen_ok, hf, asAgg, Sem.run_pure, partV_run hv w]
      · cases h
    · cases h
  · rename_i t parts
    obtain ⟨v, hv, rfl⟩ := vOf_some h
    simp only [execOp, Sem.run_bind, buildV_run hρ hv w, Result.andThen_ok, Sem.run_pure, Core.val]
  · rename_i fn first captured
    split at h
    · rename_i a b ha hb
      simp at h; subst h
      have h1 := vals_map hρ _ _ ha
      have h2 := vals_map hρ _ _ hb
      have h1' : first.map ρ' = ⟨a⟩ := by apply Array.ext'; simp [h1]
      have h2' : captured.map ρ' = ⟨b⟩ := by apply Array.ext'; simp [h2]
      simp [execOp, Instr.makeFunc, h1', h2', Core.val]
    · cases h
  · rename_i x
    split at h
    · rename_i k off ha
      simp at h; subst h
      simp [execOp, hρ _ _ ha, Core.val]
    · rename_i k off ha
      simp at h; subst h
      simp [execOp, hρ _ _ ha, Core.val]
    · rename_i a ha
      simp at h; subst h
      simp [execOp, hρ _ _ ha, Core.val]
    · rename_i f a b ha
      simp at h; subst h
      simp [execOp, hρ _ _ ha, Core.val]
    · cases h
  · rename_i s t x
    split at h
    · rename_i k n ha
      split at h
      · rename_i d k hs ht
        simp at h; subst h
        simp [execOp, hρ _ _ ha, Core.val, convert, underlying_run P s w hs, underlying_run P t w ht, Conv.intToInt]
      · cases h
    · rename_i a ha
      split at h
      · rename_i d hs ht
        simp at h; subst h
        simp [execOp, hρ _ _ ha, Core.val, convert, underlying_run P s w hs, underlying_run P t w ht]
      · cases h
    · cases h
  · rename_i b args ts
    split at h
    · rename_i l hl
      obtain ⟨v, hv, rfl⟩ := vOf_some h
      have h1 := vals_map hρ _ _ hl
      have h1' : args.map ρ' = ⟨l⟩ := by apply Array.ext'; simp [h1]
      simp only [execOp, resolve, h1', Sem.run_bind, Sem.run_pure, Result.andThen_ok, invoke, builtinV_run hv w, Core.val]
    · cases h
  · cases h
end Go.Eng
/-
  The engine, part D: a region that draws its order, taken in the order of its text.
-/
set_option linter.all false
namespace Go.Eng
open Go
section
variable {P : Program} {ops : Array Oper} {Q : Exit → Act → World → Prop} {md : Region.Mode} {S : Array Bool → World → Prop}

/-- what has come up is closed under what it waited for -/
def Closed (md : Region.Mode) (ops : Array Oper) (L : Array Bool) : Prop :=
  L.size = ops.size ∧ ∀ j oj, ops[j]? = some oj → L.getD j false = true → ∀ e ∈ oj.after, Region.binds md e = true → L.getD e.on false = true

theorem getD_tf {L : Array Bool} {i : Nat} (h : L.getD i true = false) : L.getD i false = false ∧ i < L.size := by
  rcases Nat.lt_or_ge i L.size with h' | h'
  · simp [h'] at h ⊢; exact h
  · simp [Array.getElem?_eq_none h'] at h

theorem Closed.set {L : Array Bool} {i : Nat} (h : Closed md ops L) (hi : i ∈ Region.ready md ops L) : Closed md ops (L.setIfInBounds i true) := by
  obtain ⟨_, oi, hoi, hall⟩ := mem_ready.1 hi
  refine ⟨by simp [h.1], fun j oj hj hl e he hb => ?_⟩
  by_cases hij : i = j
  · subst hij
    have : oj = oi := Option.some.inj (hj.symm.trans hoi)
    subst this
    exact getD_set_true (hall e he hb)
  · rw [getD_set_ne false hij] at hl
    exact getD_set_true (h.2 j oj hj hl e he hb)

/-- whatever comes up next, and 'S' stands behind it -/
def AnyS (P : Program) (md : Region.Mode) (ops : Array Oper) (Q : Exit → Act → World → Prop) (S : Array Bool → World → Prop) : Nat → Array Bool → Act → World → Prop
  | 0, L, a, w => Region.ready md ops L = [] ∧ Q .normal a w
  | f + 1, L, a, w =>
    (Region.ready md ops L = [] → Q .normal a w) ∧
    ∀ i ∈ Region.ready md ops L, wpOp P ops Q i (fun a' w' => S (L.setIfInBounds i true) w' ∧ AnyS P md ops Q S f (L.setIfInBounds i true) a' w') a w

theorem AnyS.any : ∀ (f : Nat) (L : Array Bool) (a : Act) (w : World), AnyS P md ops Q S f L a w → wpAny P md ops Q f L a w
  | 0, _, _, _, h => h
  | f + 1, _, _, _, h => ⟨h.1, fun i hi => wpOp_mono (fun a' w' h' => AnyS.any f _ a' w' h'.2) (h.2 i hi)⟩

theorem AnyS.weaken {S' : Array Bool → World → Prop} : ∀ (f : Nat) (L : Array Bool) (a : Act) (w : World),
    (∀ L' w, (∀ i, L.getD i false = true → L'.getD i false = true) → S L' w → S' L' w) → AnyS P md ops Q S f L a w → AnyS P md ops Q S' f L a w
  | 0, _, _, _, _, h => h
  | f + 1, L, a, w, hS, h => ⟨h.1, fun i hi => wpOp_mono (fun a' w' h' => ⟨hS _ _ (fun j hj => getD_set_true hj) h'.1,
      AnyS.weaken f _ a' w' (fun L' w'' hL => hS L' w'' (fun j hj => hL j (getD_set_true hj))) h'.2⟩) (h.2 i hi)⟩

/-- AN OPERATION THAT MAY COME UP NOW MAY BE TAKEN FIRST, if it yields its value in every world in which it may yet come up. -/
theorem AnyS.first {W : World → Prop} {i : Nat} {oi : Oper} {v : Value} (hi : ops[i]? = some oi) (hsel : ∀ (j : Nat) (o : Oper) cs b, ops[j]? = some o → o.op ≠ .select cs b)
    (hQ : ∀ c a w, Q (.panic c) (a.put oi.dst v) w → Q (.panic c) a w)
    (hdown : ∀ L w, S (L.setIfInBounds i true) w → S L w)
    (hW : ∀ L w, Closed md ops L → L.getD i true = false → S L w → W w) :
    ∀ (f : Nat) (L : Array Bool) (a : Act) (w : World), Closed md ops L →
      (∀ j oj, ops[j]? = some oj → j ≠ i → L.getD j true = false → (∀ e ∈ oj.after, Region.binds md e = true → e.on ≠ i) → oi.apart ops oj = true) →
      i ∈ Region.ready md ops L → YieldsIf P ops W oi v a → S L w → S (L.setIfInBounds i true) w →
      AnyS P md ops Q S f (L.setIfInBounds i true) (a.put oi.dst v) w → AnyS P md ops Q S (f + 1) L a w := by
  intro f
  induction f with
  | zero =>
    intro L a w hcl _ hr hy hS hS1 H
    refine ⟨fun h => (by rw [h] at hr; cases hr), fun j hj => ?_⟩
    by_cases hji : j = i
    · subst hji; exact hy.wpOp hi (hW L w hcl (mem_ready.1 hr).1 hS) ⟨hS1, H⟩
    · have := ready_mono hj hji
      rw [H.1] at this
      cases this
  | succ f ih =>
    intro L a w hcl hfree hr hy hS hS1 H
    refine ⟨fun h => (by rw [h] at hr; cases hr), fun j hj => ?_⟩
    by_cases hji : j = i
    · subst hji; exact hy.wpOp hi (hW L w hcl (mem_ready.1 hr).1 hS) ⟨hS1, H⟩
    · have h1 := H.2 j (ready_mono hj hji)
      obtain ⟨hjun, oj, hoj, hall⟩ := mem_ready.1 hj
      have hnot : ∀ e ∈ oj.after, Region.binds md e = true → e.on ≠ i := fun e he hb heq => by
        have h1 := hall e he hb
        have h0 := (getD_tf (mem_ready.1 hr).1).1
        rw [heq, h0] at h1
        cases h1
      have h2 := wpOp_putIf hoj (hfree j oj hoj hji hjun hnot) (fun cs b => hsel i oi cs b hi) (fun cs b => hsel j oj cs b hoj) hQ hy h1
      refine wpOp_mono (fun a' w' h3 => ?_) h2
      obtain ⟨hy', hS', hA⟩ := h3
      rw [Array.setIfInBounds_comm _ _ (Ne.symm hji)] at hS' hA
      refine ⟨hdown _ _ hS', ih (L.setIfInBounds j true) a' w' (hcl.set hj) (fun k ok hk hki hun hno => ?_) (ready_mono hr (Ne.symm hji)) hy' (hdown _ _ hS') hS' hA⟩
      refine hfree k ok hk hki ?_ hno
      by_cases hjk : j = k
      · subst hjk; exact hjun
      · rw [getD_set_ne true hjk] at hun; exact hun

/-- where just one may come up -/
theorem AnyS.only {i : Nat} {f : Nat} {L : Array Bool} {a : Act} {w : World} (hr : Region.ready md ops L = [i])
    (h : wpOp P ops Q i (fun a' w' => S (L.setIfInBounds i true) w' ∧ AnyS P md ops Q S f (L.setIfInBounds i true) a' w') a w) : AnyS P md ops Q S (f + 1) L a w := by
  refine ⟨fun h0 => (by rw [h0] at hr; cases hr), fun j hj => ?_⟩
  rw [hr] at hj
  have : j = i := by simpa using hj
  subst this
  exact h

end

/-! ### The text's order (or another one that fits) -/

/-- pure; reads a private box; reads memory; makes a block; writes memory or calls; writes a private box -/
inductive Cls where
  | p0 | pb | rd | al | ef | be
  deriving DecidableEq

def Cls.heavy : Cls → Bool
  | .ef | .be => true
  | _ => false
def Cls.isBe : Cls → Bool
  | .be => true
  | _ => false

/-- every block is as it was; there may be more -/
def HExt (w w' : World) : Prop := w.heap.size ≤ w'.heap.size ∧ ∀ b, b < w.heap.size → w'.heap[b]? = w.heap[b]?
theorem HExt.refl (w : World) : HExt w w := ⟨Nat.le_refl _, fun _ _ => rfl⟩
theorem HExt.trans {a b c : World} (h : HExt a b) (h' : HExt b c) : HExt a c :=
  ⟨Nat.le_trans h.1 h'.1, fun i hi => (h'.2 i (Nat.lt_of_lt_of_le hi h.1)).trans (h.2 i hi)⟩

def TextRun (P : Program) (ops : Array Oper) (Q : Exit → Act → World → Prop) (F : (World → Prop) → Act → World → Prop) (cls : Nat → Cls) : List Nat → (World → Prop) → Act → World → Prop
  | [], B, a, w => F B a w
  | k :: l, B, a, w => match cls k with
    | .p0 => ∃ o v, ops[k]? = some o ∧ YieldsIf P ops (fun _ => True) o v a ∧ TextRun P ops Q F cls l B (a.put o.dst v) w
    | .pb => ∃ o v, ops[k]? = some o ∧ YieldsIf P ops B o v a ∧ TextRun P ops Q F cls l B (a.put o.dst v) w
    | .rd => ∃ o v, ops[k]? = some o ∧ YieldsIf P ops (HExt w) o v a ∧ TextRun P ops Q F cls l B (a.put o.dst v) w
    | .al => wpOp P ops Q k (fun a' w' => HExt w w' ∧ ∃ B' : World → Prop, B' w' ∧ (∀ x, B' x → B x) ∧ TextRun P ops Q F cls l B' a' w') a w
    | .ef => wpOp P ops Q k (fun a' w' => B w' ∧ TextRun P ops Q F cls l B a' w') a w
    | .be => wpOp P ops Q k (fun a' w' => ∃ B' : World → Prop, B' w' ∧ TextRun P ops Q F cls l B' a' w') a w

/-- does 'j' wait for 'i', straight or through others? -/
def reachB (ops : Array Oper) (i : Nat) : Nat → Nat → Bool
  | 0, _ => false
  | f + 1, j => match ops[j]? with
    | some o => o.after.any fun e => Region.binds .any e && (e.on == i || reachB ops i f e.on)
    | none => false

theorem reachB_closed {ops : Array Oper} {L : Array Bool} (hc : Closed .any ops L) {i : Nat} : ∀ (f j : Nat), reachB ops i f j = true → L.getD j false = true → L.getD i false = true
  | 0, _, h, _ => by cases h
  | f + 1, j, h, hj => by
    simp only [reachB] at h
    split at h
    · rename_i o ho
      obtain ⟨e, he, hb⟩ := Array.any_eq_true'.1 h
      simp only [Bool.and_eq_true, Bool.or_eq_true, beq_iff_eq] at hb
      have h1 := hc.2 j o ho hj e he hb.1
      rcases hb.2 with h2 | h2
      · rw [← h2]; exact h1
      · exact reachB_closed hc f _ h2 h1
    · cases h

/-- the first in a list that is so; else a number past all -/
def firstOf (p : Nat → Bool) (n : Nat) : List Nat → Nat
  | [] => n
  | k :: l => if p k then k else firstOf p n l

def okBefore (ops : Array Oper) (k : Nat) (h : Nat) : Bool := decide (ops.size ≤ h) || reachB ops k ops.size h

def drawB (ops : Array Oper) (cls : Nat → Cls) : List Nat → Array Bool → Bool
  | [], L => (Region.ready .any ops L).isEmpty
  | k :: l, L => (match cls k with
      | .p0 => (Region.ready .any ops L).contains k && Region.free .any ops L k
      | .pb => (Region.ready .any ops L).contains k && Region.free .any ops L k && okBefore ops k (firstOf (fun i => (cls i).isBe) ops.size l)
      | .rd => (Region.ready .any ops L).contains k && Region.free .any ops L k && okBefore ops k (firstOf (fun i => (cls i).heavy) ops.size l)
      | _ => decide (Region.ready .any ops L = [k]))
    && drawB ops cls l (L.setIfInBounds k true)

section
variable {P : Program} {ops : Array Oper} {Q : Exit → Act → World → Prop} {cls : Nat → Cls}

def StageS (ops : Array Oper) (cls : Nat → Cls) (l : List Nat) (B : World → Prop) (w : World) (L : Array Bool) (w' : World) : Prop :=
  (L.getD (firstOf (fun i => (cls i).heavy) ops.size l) false = false → HExt w w') ∧
  (L.getD (firstOf (fun i => (cls i).isBe) ops.size l) false = false → B w')

theorem firstOf_cons_no {p : Nat → Bool} {n k : Nat} {l : List Nat} (h : p k = false) : firstOf p n (k :: l) = firstOf p n l := by simp [firstOf, h]
theorem firstOf_is {p : Nat → Bool} {n : Nat} : ∀ (l : List Nat), firstOf p n l = n ∨ p (firstOf p n l) = true
  | [] => .inl rfl
  | k :: l => by
    by_cases h : p k = true
    · right; simp [firstOf, h]
    · simp only [firstOf, h]; exact firstOf_is l

theorem okBefore_spec {L : Array Bool} (hc : Closed .any ops L) {k h : Nat} (ho : okBefore ops k h = true) (hk : L.getD k true = false) : L.getD h false = false := by
  simp only [okBefore, Bool.or_eq_true, decide_eq_true_eq] at ho
  rcases ho with ho | ho
  · simp [Array.getElem?_eq_none (show L.size ≤ h by rw [hc.1]; exact ho)]
  · cases hl : L.getD h false with
    | false => rfl
    | true =>
      have := reachB_closed hc _ _ ho hl
      rw [(getD_tf hk).1] at this
      cases this

theorem text_any (hsel : Region.noSelect ops = true) (hQ : ∀ c a w (i : Nat) (o : Oper) v, ops[i]? = some o → Q (.panic c) (a.put o.dst v) w → Q (.panic c) a w) :
    ∀ (l : List Nat) (B : World → Prop) (L : Array Bool) (a : Act) (w : World), drawB ops cls l L = true → Closed .any ops L → (∀ k ∈ l, k < ops.size) →
      B w → TextRun P ops Q (fun _ a w => Q .normal a w) cls l B a w → AnyS P .any ops Q (StageS ops cls l B w) l.length L a w
  | [], B, L, a, w, hd, hc, hl, hB, h => ⟨by simpa [drawB] using hd, h⟩
  | k :: l, B, L, a, w, hd, hc, hl, hB, h => by
    have hkn : k < ops.size := hl k (by simp)
    have hln : ∀ k ∈ l, k < ops.size := fun i hi => hl i (by simp [hi])
    have hkL : k < L.size := by rw [hc.1]; exact hkn
    have hsetk : (L.setIfInBounds k true).getD k false = true := by simp [hkL]
    simp only [drawB, Bool.and_eq_true] at hd
    obtain ⟨hd1, hd2⟩ := hd
    have neq : ∀ (p : Nat → Bool), p k = false → firstOf p ops.size l ≠ k := fun p hp he => by
      rcases firstOf_is (p := p) (n := ops.size) l with h1 | h1
      · omega
      · rw [he, hp] at h1; cases h1
    have quiet : ∀ (o : Oper) (v : Value) (W : World → Prop), ops[k]? = some o → (Region.ready .any ops L).contains k = true → Region.free .any ops L k = true →
        YieldsIf P ops W o v a → (cls k).heavy = false →
        (∀ L' w', Closed .any ops L' → L'.getD k true = false → StageS ops cls l B w L' w' → W w') → TextRun P ops Q (fun _ a w => Q .normal a w) cls l B (a.put o.dst v) w →
        AnyS P .any ops Q (StageS ops cls (k :: l) B w) (k :: l).length L a w := by
      intro o v W ho hr hf hy hh hW ht
      have hb : (cls k).isBe = false := by cases hck : cls k <;> simp_all [Cls.heavy, Cls.isBe]
      have hS : StageS ops cls (k :: l) B w = StageS ops cls l B w := by
        unfold StageS
        rw [firstOf_cons_no (p := fun i => (cls i).heavy) hh, firstOf_cons_no (p := fun i => (cls i).isBe) hb]
      have hr' : k ∈ Region.ready .any ops L := by simpa using hr
      rw [hS]
      have now : ∀ L', StageS ops cls l B w L' w := fun L' => ⟨fun _ => HExt.refl w, fun _ => hB⟩
      refine AnyS.first (W := W) ho (Region.noSelect_spec hsel) (fun c a w hq => hQ c a w k o v ho hq) (fun L' w' h' => ?_) hW l.length L a w hc (Region.free_spec ho hf) hr' hy (now _) (now _)
        (text_any hsel hQ l B (L.setIfInBounds k true) (a.put o.dst v) w hd2 (hc.set hr') hln hB ht)
      refine ⟨fun h0 => h'.1 ?_, fun h0 => h'.2 ?_⟩
      · rw [getD_set_ne false (Ne.symm (neq _ hh))]; exact h0
      · rw [getD_set_ne false (Ne.symm (neq _ hb))]; exact h0
    cases hck : cls k with
    | p0 =>
      simp only [TextRun, hck] at h hd1
      obtain ⟨o, v, ho, hy, ht⟩ := h
      simp only [Bool.and_eq_true] at hd1
      exact quiet o v _ ho hd1.1 hd1.2 hy (by simp [hck, Cls.heavy]) (fun _ _ _ _ _ => trivial) ht
    | pb =>
      simp only [TextRun, hck] at h hd1
      obtain ⟨o, v, ho, hy, ht⟩ := h
      simp only [Bool.and_eq_true] at hd1
      exact quiet o v _ ho hd1.1.1 hd1.1.2 hy (by simp [hck, Cls.heavy]) (fun L' w' hc' hk' hS' => hS'.2 (okBefore_spec hc' hd1.2 hk')) ht
    | rd =>
      simp only [TextRun, hck] at h hd1
      obtain ⟨o, v, ho, hy, ht⟩ := h
      simp only [Bool.and_eq_true] at hd1
      exact quiet o v _ ho hd1.1.1 hd1.1.2 hy (by simp [hck, Cls.heavy]) (fun L' w' hc' hk' hS' => hS'.1 (okBefore_spec hc' hd1.2 hk')) ht
    | al =>
      simp only [TextRun, hck] at h hd1
      have hr : Region.ready .any ops L = [k] := by simpa using hd1
      have hr' : k ∈ Region.ready .any ops L := by rw [hr]; simp
      refine AnyS.only hr (wpOp_mono (fun a' w' h' => ?_) h)
      obtain ⟨hx, B', hB', hBB, ht⟩ := h'
      have hh : (cls k).heavy = false := by simp [hck, Cls.heavy]
      have hb : (cls k).isBe = false := by simp [hck, Cls.isBe]
      refine ⟨⟨fun _ => hx, fun _ => hBB _ hB'⟩, AnyS.weaken _ _ _ _ (fun L' x _ hS => ?_) (text_any hsel hQ l B' (L.setIfInBounds k true) a' w' hd2 (hc.set hr') hln hB' ht)⟩
      unfold StageS at hS ⊢
      rw [firstOf_cons_no (p := fun i => (cls i).heavy) hh, firstOf_cons_no (p := fun i => (cls i).isBe) hb]
      exact ⟨fun h0 => hx.trans (hS.1 h0), fun h0 => hBB _ (hS.2 h0)⟩
    | ef =>
      simp only [TextRun, hck] at h hd1
      have hr : Region.ready .any ops L = [k] := by simpa using hd1
      have hr' : k ∈ Region.ready .any ops L := by rw [hr]; simp
      refine AnyS.only hr (wpOp_mono (fun a' w' h' => ?_) h)
      obtain ⟨hB', ht⟩ := h'
      have hh : (cls k).heavy = true := by simp [hck, Cls.heavy]
      have hb : (cls k).isBe = false := by simp [hck, Cls.isBe]
      have hfk : firstOf (fun i => (cls i).heavy) ops.size (k :: l) = k := by simp [firstOf, hh]
      refine ⟨⟨fun h0 => ?_, fun _ => hB'⟩, AnyS.weaken _ _ _ _ (fun L' x hsub hS => ?_) (text_any hsel hQ l B (L.setIfInBounds k true) a' w' hd2 (hc.set hr') hln hB' ht)⟩
      · rw [hfk, hsetk] at h0; cases h0
      · unfold StageS at hS ⊢
        refine ⟨fun h0 => ?_, fun h0 => ?_⟩
        · rw [hfk, hsub k hsetk] at h0; cases h0
        · rw [firstOf_cons_no (p := fun i => (cls i).isBe) hb] at h0; exact hS.2 h0
    | be =>
      simp only [TextRun, hck] at h hd1
      have hr : Region.ready .any ops L = [k] := by simpa using hd1
      have hr' : k ∈ Region.ready .any ops L := by rw [hr]; simp
      refine AnyS.only hr (wpOp_mono (fun a' w' h' => ?_) h)
      obtain ⟨B', hB', ht⟩ := h'
      have hh : (cls k).heavy = true := by simp [hck, Cls.heavy]
      have hb : (cls k).isBe = true := by simp [hck, Cls.isBe]
      have hfk : firstOf (fun i => (cls i).heavy) ops.size (k :: l) = k := by simp [firstOf, hh]
      have hbk : firstOf (fun i => (cls i).isBe) ops.size (k :: l) = k := by simp [firstOf, hb]
      refine ⟨⟨fun h0 => ?_, fun h0 => ?_⟩, AnyS.weaken _ _ _ _ (fun L' x hsub hS => ?_) (text_any hsel hQ l B' (L.setIfInBounds k true) a' w' hd2 (hc.set hr') hln hB' ht)⟩
      · rw [hfk, hsetk] at h0; cases h0
      · rw [hbk, hsetk] at h0; cases h0
      · unfold StageS at hS ⊢
        refine ⟨fun h0 => ?_, fun h0 => ?_⟩
        · rw [hfk, hsub k hsetk] at h0; cases h0
        · rw [hbk, hsub k hsetk] at h0; cases h0

/-- A REGION THAT DRAWS ITS ORDER, in an order that fits. -/
theorem wp_region_text {id : Nat} {a : Act} {w : World} {ord : List Nat} (hm : P.follows .mixedOrders = true) (hlen : ord.length = ops.size) (hall : ∀ k ∈ ord, k < ops.size)
    (hsel : Region.noSelect ops = true) (hd : drawB ops cls ord (Array.replicate ops.size false) = true)
    (hQ : ∀ c a w (i : Nat) (o : Oper) v, ops[i]? = some o → Q (.panic c) (a.put o.dst v) w → Q (.panic c) a w)
    {B : World → Prop} (hB : B { w with drawn := w.drawn + 1 }) (h : TextRun P ops Q (fun _ a w => Q .normal a w) cls ord B a { w with drawn := w.drawn + 1 }) : (Code.region id ops true).wp P Q a w := by
  refine wp_region_any hm ?_
  have hc : Closed .any ops (Array.replicate ops.size false) := ⟨by simp, fun j oj hj hl => by
    exfalso
    rcases Nat.lt_or_ge j ops.size with h' | h'
    · simp [h'] at hl
    · simp [Array.getElem?_eq_none (show (Array.replicate ops.size false).size ≤ j by simpa using h')] at hl⟩
  have := text_any hsel hQ ord B (Array.replicate ops.size false) a _ hd hc hall hB h
  rw [hlen] at this
  exact this.any

end
/-! ### Several orders -/

/-- the orders that are looked at: a list, that parts where several operations may come up -/
inductive Tr where
  | nil
  | cons (k : Nat) (t : Tr)
  | both (s t : Tr)

def Tr.len : Tr → Nat
  | .nil => 0
  | .cons _ t => t.len + 1
  | .both s _ => s.len

def Tr.heads : Tr → List Nat
  | .nil => []
  | .cons k _ => [k]
  | .both s t => s.heads ++ t.heads

def TreeRun (P : Program) (ops : Array Oper) (Q : Exit → Act → World → Prop) (cls : Nat → Cls) : Tr → (World → Prop) → Act → World → Prop
  | .nil, _, a, w => Q .normal a w
  | .cons k t, B, a, w => TextRun P ops Q (fun B a w => TreeRun P ops Q cls t B a w) cls [k] B a w
  | .both s t, B, a, w => TreeRun P ops Q cls s B a w ∧ TreeRun P ops Q cls t B a w

/-- what is left of a kind waits for 'k' -/
def allBefore (ops : Array Oper) (p : Nat → Bool) (L : Array Bool) (k : Nat) : Bool :=
  (List.range ops.size).all fun h => !p h || L.getD h true || reachB ops k ops.size h

mutual
def drawT (ops : Array Oper) (cls : Nat → Cls) : Tr → Array Bool → Bool
  | .nil, L => (Region.ready .any ops L).isEmpty
  | .cons k t, L => (match cls k with
      | .p0 => (Region.ready .any ops L).contains k && Region.free .any ops L k
      | .pb => (Region.ready .any ops L).contains k && Region.free .any ops L k && allBefore ops (fun i => (cls i).isBe) L k
      | .rd => (Region.ready .any ops L).contains k && Region.free .any ops L k && allBefore ops (fun i => (cls i).heavy) L k
      | _ => decide (Region.ready .any ops L = [k]))
    && drawT ops cls t (L.setIfInBounds k true)
  | .both s t, L => decide (s.len = t.len) && (Region.ready .any ops L).all (fun k => (s.heads ++ t.heads).contains k) && drawH ops cls s L && drawH ops cls t L
def drawH (ops : Array Oper) (cls : Nat → Cls) : Tr → Array Bool → Bool
  | .nil, _ => false
  | .cons k t, L => (Region.ready .any ops L).contains k && drawT ops cls t (L.setIfInBounds k true)
  | .both s t, L => decide (s.len = t.len) && drawH ops cls s L && drawH ops cls t L
end

section
variable {P : Program} {ops : Array Oper} {Q : Exit → Act → World → Prop} {cls : Nat → Cls}

def StageT (ops : Array Oper) (cls : Nat → Cls) (L0 : Array Bool) (B : World → Prop) (w : World) (L : Array Bool) (w' : World) : Prop :=
  ((∀ h, (cls h).heavy = true → L0.getD h true = false → L.getD h false = false) → HExt w w') ∧
  ((∀ h, (cls h).isBe = true → L0.getD h true = false → L.getD h false = false) → B w')

theorem allBefore_spec {p : Nat → Bool} {L0 L : Array Bool} {k : Nat} (hc : Closed .any ops L) (h0 : L0.size = ops.size) (ha : allBefore ops p L0 k = true) (hk : L.getD k true = false) :
    ∀ h, p h = true → L0.getD h true = false → L.getD h false = false := by
  intro h hp hl
  have hlt : h < ops.size := by rw [← h0]; exact (getD_tf hl).2
  have := List.all_eq_true.1 ha h (by simpa using hlt)
  rw [hp, hl] at this
  simp only [Bool.not_true, Bool.false_or] at this
  cases hx : L.getD h false with
  | false => rfl
  | true =>
    have h2 := reachB_closed hc _ _ this hx
    rw [(getD_tf hk).1] at h2
    cases h2

theorem set_gone {L0 : Array Bool} {k h : Nat} (h1 : (L0.setIfInBounds k true).getD h true = false) : L0.getD h true = false ∧ h ≠ k := by
  by_cases e : k = h
  · subst e
    obtain ⟨h2, h3⟩ := getD_tf h1
    simp at h3
    simp [h3] at h2
  · rw [getD_set_ne true e] at h1
    exact ⟨h1, fun x => e x.symm⟩

/-- one operation is taken -/
theorem tree_step (hsel : Region.noSelect ops = true) (hQ : ∀ c a w (i : Nat) (o : Oper) v, ops[i]? = some o → Q (.panic c) (a.put o.dst v) w → Q (.panic c) a w)
    {k : Nat} {t : Tr} {n : Nat}
    (ih : ∀ (B : World → Prop) (L : Array Bool) (a : Act) (w : World), drawT ops cls t L = true → Closed .any ops L → B w → TreeRun P ops Q cls t B a w → AnyS P .any ops Q (StageT ops cls L B w) n L a w)
    {B : World → Prop} {L : Array Bool} {a : Act} {w : World} (hr : k ∈ Region.ready .any ops L) (hd : drawT ops cls t (L.setIfInBounds k true) = true) (hc : Closed .any ops L) (hB : B w)
    (h : TreeRun P ops Q cls (.cons k t) B a w) :
    wpOp P ops Q k (fun a' w' => StageT ops cls L B w (L.setIfInBounds k true) w' ∧ AnyS P .any ops Q (StageT ops cls L B w) n (L.setIfInBounds k true) a' w') a w := by
  have hkL : L.getD k true = false := (mem_ready.1 hr).1
  have hkn := (getD_tf hkL).2
  have hset : (L.setIfInBounds k true).getD k false = true := by simp [hkn]
  have hc' := hc.set hr
  -- what is still to come is as it was
  have low : ∀ (p : Nat → Bool), ∀ L' : Array Bool, (∀ h, p h = true → L.getD h true = false → L'.getD h false = false) → ∀ h, p h = true → (L.setIfInBounds k true).getD h true = false → L'.getD h false = false :=
    fun p L' H h hp hh => H h hp (set_gone hh).1
  simp only [TreeRun, TextRun] at h
  split at h
  · rename_i hck
    obtain ⟨o, v, ho, hy, ht⟩ := h
    refine hy.wpOp ho trivial ⟨⟨fun _ => HExt.refl w, fun _ => hB⟩, AnyS.weaken _ _ _ _ (fun L' x _ hS => ⟨fun H => hS.1 (low _ L' H), fun H => hS.2 (low _ L' H)⟩) (ih B _ _ w hd hc' hB ht)⟩
  · obtain ⟨o, v, ho, hy, ht⟩ := h
    refine hy.wpOp ho hB ⟨⟨fun _ => HExt.refl w, fun _ => hB⟩, AnyS.weaken _ _ _ _ (fun L' x _ hS => ⟨fun H => hS.1 (low _ L' H), fun H => hS.2 (low _ L' H)⟩) (ih B _ _ w hd hc' hB ht)⟩
  · obtain ⟨o, v, ho, hy, ht⟩ := h
    refine hy.wpOp ho (HExt.refl w) ⟨⟨fun _ => HExt.refl w, fun _ => hB⟩, AnyS.weaken _ _ _ _ (fun L' x _ hS => ⟨fun H => hS.1 (low _ L' H), fun H => hS.2 (low _ L' H)⟩) (ih B _ _ w hd hc' hB ht)⟩
  · refine wpOp_mono (fun a' w' h' => ?_) h
    obtain ⟨hx, B', hB', hBB, ht⟩ := h'
    exact ⟨⟨fun _ => hx, fun _ => hBB _ hB'⟩, AnyS.weaken _ _ _ _ (fun L' x _ hS => ⟨fun H => hx.trans (hS.1 (low _ L' H)), fun H => hBB _ (hS.2 (low _ L' H))⟩) (ih B' _ a' w' hd hc' hB' ht)⟩
  · rename_i hck
    refine wpOp_mono (fun a' w' h' => ?_) h
    obtain ⟨hB', ht⟩ := h'
    have hh : (cls k).heavy = true := by simp [hck, Cls.heavy]
    refine ⟨⟨fun H => ?_, fun _ => hB'⟩, AnyS.weaken _ _ _ _ (fun L' x hsub hS => ⟨fun H => ?_, fun H => hS.2 (low _ L' H)⟩) (ih B _ a' w' hd hc' hB' ht)⟩
    · have := H k hh hkL; rw [hset] at this; cases this
    · have := H k hh hkL; rw [hsub k hset] at this; cases this
  · rename_i hck
    refine wpOp_mono (fun a' w' h' => ?_) h
    obtain ⟨B', hB', ht⟩ := h'
    have hh : (cls k).heavy = true := by simp [hck, Cls.heavy]
    have hb : (cls k).isBe = true := by simp [hck, Cls.isBe]
    refine ⟨⟨fun H => ?_, fun H => ?_⟩, AnyS.weaken _ _ _ _ (fun L' x hsub hS => ⟨fun H => ?_, fun H => ?_⟩) (ih B' _ a' w' hd hc' hB' ht)⟩
    · have := H k hh hkL; rw [hset] at this; cases this
    · have := H k hb hkL; rw [hset] at this; cases this
    · have := H k hh hkL; rw [hsub k hset] at this; cases this
    · have := H k hb hkL; rw [hsub k hset] at this; cases this

theorem heads_some {cls : Nat → Cls} {ops : Array Oper} {L : Array Bool} : ∀ (t : Tr), drawH ops cls t L = true → ∃ k, k ∈ t.heads
  | .nil, h => by simp [drawH] at h
  | .cons k t, _ => ⟨k, by simp [Tr.heads]⟩
  | .both s t, h => by
    simp only [drawH, Bool.and_eq_true] at h
    obtain ⟨k, hk⟩ := heads_some s h.1.2
    exact ⟨k, by simp [Tr.heads, hk]⟩
theorem heads_ready {cls : Nat → Cls} {ops : Array Oper} {L : Array Bool} : ∀ (t : Tr), drawH ops cls t L = true → ∀ k ∈ t.heads, k ∈ Region.ready .any ops L
  | .nil, h, _, _ => by simp [drawH] at h
  | .cons k t, h, j, hj => by
    simp only [drawH, Bool.and_eq_true] at h
    simp [Tr.heads] at hj; subst hj
    simpa using h.1
  | .both s t, h, j, hj => by
    simp only [drawH, Bool.and_eq_true] at h
    simp only [Tr.heads, List.mem_append] at hj
    rcases hj with hj | hj
    · exact heads_ready s h.1.2 j hj
    · exact heads_ready t h.2 j hj

mutual
theorem tree_any (hsel : Region.noSelect ops = true) (hQ : ∀ c a w (i : Nat) (o : Oper) v, ops[i]? = some o → Q (.panic c) (a.put o.dst v) w → Q (.panic c) a w) :
    ∀ (t : Tr) (B : World → Prop) (L : Array Bool) (a : Act) (w : World), drawT ops cls t L = true → Closed .any ops L → B w → TreeRun P ops Q cls t B a w → AnyS P .any ops Q (StageT ops cls L B w) t.len L a w
  | .nil, B, L, a, w, hd, hc, hB, h => ⟨by simpa [drawT] using hd, h⟩
  | .cons k t, B, L, a, w, hd, hc, hB, h => by
    have ih := fun B L a w h1 h2 h3 h4 => tree_any hsel hQ t B L a w h1 h2 h3 h4
    simp only [drawT, Bool.and_eq_true] at hd
    obtain ⟨hd1, hd2⟩ := hd
    have heavyCase : Region.ready .any ops L = [k] → AnyS P .any ops Q (StageT ops cls L B w) (Tr.cons k t).len L a w := fun hr => by
      have hr' : k ∈ Region.ready .any ops L := by rw [hr]; simp
      exact AnyS.only hr (tree_step hsel hQ ih hr' hd2 hc hB h)
    have quiet : ∀ (o : Oper) (v : Value) (W : World → Prop), ops[k]? = some o → (Region.ready .any ops L).contains k = true → Region.free .any ops L k = true →
        YieldsIf P ops W o v a → (cls k).heavy = false →
        (∀ L' w', Closed .any ops L' → L'.getD k true = false → StageT ops cls L B w L' w' → W w') → TreeRun P ops Q cls t B (a.put o.dst v) w →
        AnyS P .any ops Q (StageT ops cls L B w) (Tr.cons k t).len L a w := by
      intro o v W ho hr hf hy hh hW ht
      have hb : (cls k).isBe = false := by cases hck : cls k <;> simp_all [Cls.heavy, Cls.isBe]
      have hr' : k ∈ Region.ready .any ops L := by simpa using hr
      have now : ∀ L', StageT ops cls L B w L' w := fun L' => ⟨fun _ => HExt.refl w, fun _ => hB⟩
      have hsub := ih B _ _ w hd2 (hc.set hr') hB ht
      refine AnyS.first (W := W) ho (Region.noSelect_spec hsel) (fun c a w hq => hQ c a w k o v ho hq) (fun L' w' h' => ⟨fun H => h'.1 fun x hx hl => ?_, fun H => h'.2 fun x hx hl => ?_⟩) hW t.len L a w hc (Region.free_spec ho hf) hr' hy (now _) (now _)
        (AnyS.weaken _ _ _ _ (fun L' x _ hS => ⟨fun H => hS.1 fun y hy hl => H y hy (set_gone hl).1, fun H => hS.2 fun y hy hl => H y hy (set_gone hl).1⟩) hsub)
      · have hne : k ≠ x := fun e => by subst e; rw [hh] at hx; cases hx
        rw [getD_set_ne false hne]; exact H x hx hl
      · have hne : k ≠ x := fun e => by subst e; rw [hb] at hx; cases hx
        rw [getD_set_ne false hne]; exact H x hx hl
    have h' := h
    simp only [TreeRun, TextRun] at h'
    split at h'
    · rename_i hck
      rw [hck] at hd1
      simp only [Bool.and_eq_true] at hd1
      obtain ⟨o, v, ho, hy, ht⟩ := h'
      exact quiet o v _ ho hd1.1 hd1.2 hy (by simp [hck, Cls.heavy]) (fun _ _ _ _ _ => trivial) ht
    · rename_i hck
      rw [hck] at hd1
      simp only [Bool.and_eq_true] at hd1
      obtain ⟨o, v, ho, hy, ht⟩ := h'
      exact quiet o v _ ho hd1.1.1 hd1.1.2 hy (by simp [hck, Cls.heavy]) (fun L' w' hc' hk' hS' => hS'.2 (allBefore_spec hc' hc.1 hd1.2 hk')) ht
    · rename_i hck
      rw [hck] at hd1
      simp only [Bool.and_eq_true] at hd1
      obtain ⟨o, v, ho, hy, ht⟩ := h'
      exact quiet o v _ ho hd1.1.1 hd1.1.2 hy (by simp [hck, Cls.heavy]) (fun L' w' hc' hk' hS' => hS'.1 (allBefore_spec hc' hc.1 hd1.2 hk')) ht
    · rename_i hck
      rw [hck] at hd1
      exact heavyCase (by simpa using hd1)
    · rename_i hck
      rw [hck] at hd1
      exact heavyCase (by simpa using hd1)
    · rename_i hck
      rw [hck] at hd1
      exact heavyCase (by simpa using hd1)
  | .both s t, B, L, a, w, hd, hc, hB, h => by
    simp only [drawT, Bool.and_eq_true, decide_eq_true_eq] at hd
    obtain ⟨⟨⟨hl, hall⟩, hs⟩, ht⟩ := hd
    have h1 := tree_head hsel hQ s B L a w hs hc hB h.1
    have h2 := tree_head hsel hQ t B L a w ht hc hB h.2
    obtain ⟨n, hn1, hh1⟩ := h1
    obtain ⟨m, hm1, hh2⟩ := h2
    have hnm : m = n := by omega
    subst hnm
    simp only [Tr.len]
    rw [hn1]
    refine ⟨fun h0 => ?_, fun j hj => ?_⟩
    · exfalso
      obtain ⟨k, hk⟩ := heads_some s hs
      have := heads_ready s hs k hk
      rw [h0] at this; cases this
    · have := List.all_eq_true.1 hall j hj
      rw [List.contains_iff_mem, List.mem_append] at this
      rcases this with h | h
      · exact hh1 j h
      · exact hh2 j h
theorem tree_head (hsel : Region.noSelect ops = true) (hQ : ∀ c a w (i : Nat) (o : Oper) v, ops[i]? = some o → Q (.panic c) (a.put o.dst v) w → Q (.panic c) a w) :
    ∀ (t : Tr) (B : World → Prop) (L : Array Bool) (a : Act) (w : World), drawH ops cls t L = true → Closed .any ops L → B w → TreeRun P ops Q cls t B a w →
      ∃ n, t.len = n + 1 ∧ ∀ k ∈ t.heads, wpOp P ops Q k (fun a' w' => StageT ops cls L B w (L.setIfInBounds k true) w' ∧ AnyS P .any ops Q (StageT ops cls L B w) n (L.setIfInBounds k true) a' w') a w
  | .nil, B, L, a, w, hd, hc, hB, h => by simp [drawH] at hd
  | .cons k t, B, L, a, w, hd, hc, hB, h => by
    simp only [drawH, Bool.and_eq_true] at hd
    refine ⟨t.len, rfl, fun j hj => ?_⟩
    simp [Tr.heads] at hj
    subst hj
    exact tree_step hsel hQ (fun B L a w h1 h2 h3 h4 => tree_any hsel hQ t B L a w h1 h2 h3 h4) (by simpa using hd.1) hd.2 hc hB h
  | .both s t, B, L, a, w, hd, hc, hB, h => by
    simp only [drawH, Bool.and_eq_true, decide_eq_true_eq] at hd
    obtain ⟨n, hn, h1⟩ := tree_head hsel hQ s B L a w hd.1.2 hc hB h.1
    obtain ⟨m, hm, h2⟩ := tree_head hsel hQ t B L a w hd.2 hc hB h.2
    have : m = n := by omega
    subst this
    refine ⟨m, by simp only [Tr.len]; exact hn, fun j hj => ?_⟩
    simp only [Tr.heads, List.mem_append] at hj
    rcases hj with hj | hj
    · exact h1 j hj
    · exact h2 j hj
end

/-- A REGION THAT DRAWS ITS ORDER, all its orders that matter. -/
theorem wp_region_tree {id : Nat} {a : Act} {w : World} {t : Tr} (hm : P.follows .mixedOrders = true) (hlen : t.len = ops.size)
    (hsel : Region.noSelect ops = true) (hd : drawT ops cls t (Array.replicate ops.size false) = true)
    (hQ : ∀ c a w (i : Nat) (o : Oper) v, ops[i]? = some o → Q (.panic c) (a.put o.dst v) w → Q (.panic c) a w)
    {B : World → Prop} (hB : B { w with drawn := w.drawn + 1 }) (h : TreeRun P ops Q cls t B a { w with drawn := w.drawn + 1 }) : (Code.region id ops true).wp P Q a w := by
  refine wp_region_any hm ?_
  have hc : Closed .any ops (Array.replicate ops.size false) := ⟨by simp, fun j oj hj hl => by
    exfalso
    rcases Nat.lt_or_ge j ops.size with h' | h'
    · simp [h'] at hl
    · simp [Array.getElem?_eq_none (show (Array.replicate ops.size false).size ≤ j by simpa using h')] at hl⟩
  have := tree_any hsel hQ t B (Array.replicate ops.size false) a _ hd hc hB h
  rw [hlen] at this
  exact this.any

end
end Go.Eng
/-
  The engine, part B: what a walk asks (residuals), operation by operation, region by region, code by code; and that it is sound.
-/
set_option linter.all false
namespace Go.Eng
open Go

/-! ### What is left to a person -/

def Under (c : Option Bool) (p : Prop) : Prop := match c with | none => p | some b => b = true → p

/-- a cell that is loaded -/
@[irreducible] def LoadR (c : Option Bool) (h : Heap) (b off : Nat) (K : Value → Prop) : Prop := ∃ v, Under c (Heap.cell? h b off = some v) ∧ K v
/-- cells that are loaded -/
@[irreducible] def LoadN (c : Option Bool) (h : Heap) (b off n : Nat) (K : List Value → Prop) : Prop :=
  ∃ vs : List Value, vs.length = n ∧ Under c (∀ i, i < n → Heap.cell? h b (off + i) = vs[i]?) ∧ K vs
/-- an index that fits -/
@[irreducible] def IdxR (c : Option Bool) (i : Int) (n : Nat) (K : Nat → Prop) : Prop := ∃ j : Nat, Under c (i = (j : Int) ∧ j < n) ∧ K j
/-- an index that fits, and where that element lies -/
@[irreducible] def IdxS (c : Option Bool) (i : Int) (n : Nat) (a : Option Addr) (s : Nat) (K : Nat → Nat → Prop) : Prop :=
  ∃ j b off : Nat, Under c (i = (j : Int) ∧ j < n ∧ a = some ⟨b, off, none⟩) ∧ K b (off + j * s)
/-- where a part of a slice begins -/
def slA (a : Option Addr) (cap l s : Nat) : Option Addr := if cap = l then a else a.map (·.add (l * s))
/-- bounds that fit -/
@[irreducible] def SliceR (c : Option Bool) (lo hi : Int) (cap : Nat) (K : Nat → Nat → Prop) : Prop :=
  ∃ l h : Nat, Under c (lo = (l : Int) ∧ hi = (h : Int) ∧ l ≤ h ∧ h ≤ cap) ∧ K l h
@[irreducible] def Need (c : Option Bool) (p : Prop) (K : Prop) : Prop := Under c p ∧ K
@[irreducible] def NthR (c : Option Bool) (vs : List Value) (i : Nat) (K : Value → Prop) : Prop := ∃ v, Under c (vs[i]? = some v) ∧ K v
/-- what a map has for a key -/
@[irreducible] def LookR (c : Option Bool) (h : Heap) (kd : TypeDesc) (r : Nat) (k : Value) (K : Option Value → Prop) : Prop :=
  ∃ o : Option Value, Under c (∃ es cl, h[r]? = some (.map es cl) ∧ ((Instr.findNow kd k es.toList 0).map fun x => x.map (·.2)) = some o) ∧ K o
@[irreducible] def LenR (c : Option Bool) (h : Heap) (r : Nat) (K : Nat → Prop) : Prop := ∃ n : Nat, Under c (∃ es cl, h[r]? = some (.map es cl) ∧ es.size = n) ∧ K n
/-- a new block -/
@[irreducible] def AllocR (h : Heap) (o : Obj) (K : Nat → Heap → Prop) : Prop := ∀ b h', b = h.size → h' = h.push o → K b h'
/-- a private box is written -/
@[irreducible] def BoxR (h : Heap) (b : Nat) (K : Heap → Prop) : Prop := ∀ h' : Heap, h'.size = h.size → (∀ b', b' ≠ b → h'[b']? = h[b']?) → K h'
/-- cells that are stored -/
@[irreducible] def StoreR (h : Heap) (b off : Nat) (vs : List Value) (bs : List Nat) (K : Heap → Prop) : Prop :=
  ∃ c T, h[b]? = some (.cells ⟨c⟩ T (0, 0)) ∧ off + vs.length ≤ c.length ∧ b ∉ bs ∧
    ∀ h' : Heap, h'.size = h.size → h'[b]? = some (.cells ⟨spliceL off vs c⟩ T (0, 0)) → (∀ b', b' ≠ b → h'[b']? = h[b']?) → K h'
/-- the streams, the tape and the outside are as they were -/
def SameOut (w w' : World) : Prop := w'.os = w.os ∧ w'.output = w.output ∧ w'.tape = w.tape
theorem SameOut.refl (w : World) : SameOut w w := ⟨rfl, rfl, rfl⟩
theorem SameOut.trans {a b c : World} (h : SameOut a b) (h' : SameOut b c) : SameOut a c := ⟨h'.1.trans h.1, h'.2.1.trans h.2.1, h'.2.2.trans h.2.2⟩

/-- a call -/
def CallH (P : Program) (f : Nat) (args : List Value) (h : Heap) (R : Value → Heap → Prop) : Prop :=
  ∀ w : World, w.heap = h → Calls P f ⟨args⟩ w fun e w' => ∃ v, e = .returned v ∧ SameOut w w' ∧ R v w'.heap
@[irreducible] def CallR (P : Program) (f : Nat) (args : List Value) (bs : List Nat) (h : Heap) (K : Value → Heap → Prop) : Prop :=
  (∀ b ∈ bs, b < h.size) → CallH P f args h fun v h' => (∀ b ∈ bs, h'[b]? = h[b]?) ∧ K v h'
/-- an operation of the model's own -/
@[irreducible] def SemR {α : Type} (P : Program) (s : Sem α) (bs : List Nat) (h : Heap) (K : α → Heap → Prop) : Prop :=
  (∀ b ∈ bs, b < h.size) → ∀ w : World, w.heap = h → ∃ v w', s.run P w = .ok v w' ∧ SameOut w w' ∧ (∀ b ∈ bs, w'.heap[b]? = h[b]?) ∧ K v w'.heap
/-- a test -/
@[irreducible] def IfR (c : Bool) (A B : Prop) : Prop := (c = true → A) ∧ (c = false → B)

/-! ### Operands -/

def guardOf : List Oper → Nat → Option (Nat × Bool)
  | [], _ => none
  | o :: _, 0 => o.guard
  | _ :: r, n + 1 => guardOf r n
def dstOf : List Oper → Nat → Option Nat
  | [], _ => none
  | o :: _, 0 => o.dst
  | _ :: r, n + 1 => dstOf r n

theorem dstOf_eq : ∀ (l : List Oper) (j : Nat), dstOf l j = (l[j]?).bind (·.dst)
  | [], j => by simp [dstOf]
  | o :: r, 0 => by simp [dstOf]
  | o :: r, j + 1 => by simp [dstOf, dstOf_eq r j]

def sameB : Bool → Bool → Bool
  | true, b => b
  | false, true => false
  | false, false => true
theorem sameB_eq {a b : Bool} (h : sameB a b = true) : a = b := by cases a <;> cases b <;> simp_all [sameB]

abbrev EnvC := List (Nat × Core)
/-- slots known only where operation 'j' of the region yielded 'w' -/
abbrev EnvG := List (Nat × Nat × Bool × Core)

def lookC : EnvC → Nat → Option Core
  | [], _ => none
  | (k, x) :: e, t => match Nat.beq k t with | true => some x | false => lookC e t
def lookG : EnvG → Nat → Option (Nat × Bool × Core)
  | [], _ => none
  | (k, x) :: e, t => match Nat.beq k t with | true => some x | false => lookG e t

/-- is 'j yields w' a guard of the operation, or one that the guard itself stood under? -/
def stands (all : List Oper) (eg : EnvG) : Nat → Option (Nat × Bool) → Nat → Bool → Bool
  | 0, _, _, _ => false
  | _ + 1, none, _, _ => false
  | f + 1, some (j', w'), j, w => match Nat.beq j' j, sameB w' w with
    | true, true => true
    | _, _ => (match dstOf all j' with
      | some d => (match lookG eg d with
        | some (j'', w'', _) => stands all eg f (some (j'', w'')) j w
        | none => false)
      | none => false)

def rd (all : List Oper) (g : Option (Nat × Bool)) (e : EnvC) (eg : EnvG) : Operand → Option Core
  | .tmp t => (match lookG eg t with
    | some (j, w, c) => (match stands all eg 9 g j w with | true => some c | false => none)
    | none => lookC e t)
  | .const v => some (.v v)
  | .global g => some (.v (.pointer (some ⟨g, 0, none⟩)))
  | .func f => some (.v (.func (.func f) ⟨[]⟩ ⟨[]⟩))

/-- does the guard 'j yields w' hold? -/
def condOf (all : List Oper) (e : EnvC) (eg : EnvG) : Nat → Nat → Bool → Option Bool
  | 0, _, _ => none
  | f + 1, j, w => (match dstOf all j with
    | some d => (match lookG eg d with
      | some (j', w', .v (.bool b)) => (match condOf all e eg f j' w' with
        | some c => (match w with | true => some (c && b) | false => some (c && !b))
        | none => none)
      | some _ => none
      | none => (match lookC e d with
        | some (.v (.bool b)) => (match w with | true => some b | false => some (!b))
        | _ => none))
    | none => none)

/-- 'a && b', 'a || b': the second is asked only where it counts -/
def armOf (all : List Oper) (g : Option (Nat × Bool)) (e : EnvC) (eg : EnvG) (t : Nat) (want : Bool) (x : Operand) : Option Core :=
  match rd all g e eg x with
  | some c => some c
  | none => (match x with
    | .tmp s => (match lookG eg s with
      | some (j, w, c) => (match dstOf all j, sameB w want with
        | some d, true => (match Nat.beq d t with | true => some c | false => none)
        | _, _ => none)
      | none => none)
    | _ => none)
def pickOp (all : List Oper) (g : Option (Nat × Bool)) (e : EnvC) (eg : EnvG) (c x y : Operand) : Option Core :=
  match c, rd all g e eg c with
  | .tmp t, some (.v (.bool b)) => (match armOf all g e eg t true x, armOf all g e eg t false y with
    | some (.v (.bool p)), some (.v (.bool q)) => some (.v (.bool (cond b p q)))
    | _, _ => none)
  | _, _ => none

/-! ### What the walk knows, and the frame -/

def BoxIn (bx : Boxes) (h : Heap) : Prop := ∀ k b vs, lookB bx k = some (b, vs) → ∃ T, h[b]? = some (.cells ⟨vs⟩ T (0, 0))
def Distinct (bx : Boxes) : Prop := ∀ k k' b b' vs vs', lookB bx k = some (b, vs) → lookB bx k' = some (b', vs') → k ≠ k' → b ≠ b'

def coreOk (bx : Boxes) : Core → Prop
  | .v _ => True
  | .lp k _ | .li k _ => (lookB bx k).isSome = true

structure Agree (ops : Array Oper) (e : EnvC) (eg : EnvG) (bx : Boxes) (a : Act) : Prop where
  defers : a.defers = []
  env : ∀ t c, lookC e t = some c → lookG eg t = none → a.tmps[t]? = some (c.val bx) ∧ coreOk bx c
  envg : ∀ t j w c, lookG eg t = some (j, w, c) → (yielded ops a.tmps j = some w → a.tmps[t]? = some (c.val bx)) ∧ (yielded ops a.tmps j ≠ some w → a.tmps[t]? = some undef) ∧ coreOk bx c

theorem yielded_of {ops : Array Oper} {tmps : Array Value} {j d : Nat} (hd : dstOf ops.toList j = some d) {b : Bool} (h : tmps[d]? = some (.bool b)) : yielded ops tmps j = some b := by
  rw [dstOf_eq] at hd
  have hd' : (ops[j]?).bind (·.dst) = some d := by simpa using hd
  simp [yielded, hd', h]
theorem yielded_undef {ops : Array Oper} {tmps : Array Value} {j d : Nat} (hd : dstOf ops.toList j = some d) (h : tmps[d]? = some undef) : yielded ops tmps j = none := by
  rw [dstOf_eq] at hd
  have hd' : (ops[j]?).bind (·.dst) = some d := by simpa using hd
  simp [yielded, hd', h, undef]

theorem stands_ok {ops : Array Oper} {e : EnvC} {eg : EnvG} {bx : Boxes} {a : Act} (A : Agree ops e eg bx a) : ∀ (f : Nat) (g : Option (Nat × Bool)) (j : Nat) (w : Bool),
    stands ops.toList eg f g j w = true → (∀ p, g = some p → yielded ops a.tmps p.1 = some p.2) → yielded ops a.tmps j = some w
  | 0, _, _, _, h, _ => by cases h
  | f + 1, none, _, _, h, _ => by cases h
  | f + 1, some (j', w'), j, w, h, hg => by
    have h0 := hg _ rfl
    simp only [stands] at h
    split at h
    · rename_i h1 h2
      have e1 := Nat.eq_of_beq_eq_true h1
      have e2 := sameB_eq h2
      subst e1; subst e2; exact h0
    · split at h
      · rename_i d hd
        split at h
        · rename_i j'' w'' c hl
          refine stands_ok A f _ j w h (fun p hp => ?_)
          simp at hp; subst hp
          obtain ⟨h1, h2, _⟩ := A.envg _ _ _ _ hl
          by_cases hy : yielded ops a.tmps j'' = some w''
          · exact hy
          · rw [yielded_undef hd (h2 hy)] at h0; cases h0
        · cases h
      · cases h

theorem rd_ok {ops : Array Oper} {e : EnvC} {eg : EnvG} {bx : Boxes} {a : Act} (A : Agree ops e eg bx a) {g : Option (Nat × Bool)} (hg : ∀ p, g = some p → yielded ops a.tmps p.1 = some p.2)
    (x : Operand) (c : Core) (h : rd ops.toList g e eg x = some c) : a.eval x = c.val bx := by
  cases x with
  | tmp t =>
    simp only [rd] at h
    split at h
    · rename_i j w c' hl
      split at h
      · rename_i hs
        simp at h; subst h
        have := (A.envg _ _ _ _ hl).1 (stands_ok A 9 g j w hs hg)
        simp [Act.eval, this]
      · cases h
    · rename_i hl
      have := (A.env _ _ h hl).1
      simp [Act.eval, this]
  | const v => simp [rd] at h; subst h; rfl
  | global n => simp [rd] at h; subst h; rfl
  | func f => simp [rd] at h; subst h; rfl

theorem condOf_ok {ops : Array Oper} {e : EnvC} {eg : EnvG} {bx : Boxes} {a : Act} (A : Agree ops e eg bx a) : ∀ (f j : Nat) (w : Bool) (c : Bool),
    condOf ops.toList e eg f j w = some c → (yielded ops a.tmps j = some w ↔ c = true)
  | 0, _, _, _, h => by cases h
  | f + 1, j, w, c, h => by
    simp only [condOf] at h
    split at h
    · rename_i d hd
      split at h
      · rename_i j' w' b hl
        split at h
        · rename_i c' hc
          have ih := condOf_ok A f j' w' c' hc
          obtain ⟨h1, h2, _⟩ := A.envg _ _ _ _ hl
          by_cases hy : yielded ops a.tmps j' = some w'
          · have hb := yielded_of hd (h1 hy)
            have hc' := ih.1 hy
            cases w <;> simp at h <;> subst h <;> simp [hb, hc']
          · have hb := yielded_undef hd (h2 hy)
            have hc' : c' = false := by cases c' with
              | false => rfl
              | true => exact absurd (ih.2 rfl) hy
            cases w <;> simp at h <;> subst h <;> simp [hb, hc']
        · cases h
      · cases h
      · rename_i hl
        split at h
        · rename_i b hb
          have := yielded_of hd (A.env _ _ hb hl).1
          cases w <;> simp at h <;> subst h <;> simp [this]
        · cases h
    · cases h

theorem armOf_ok {ops : Array Oper} {e : EnvC} {eg : EnvG} {bx : Boxes} {a : Act} (A : Agree ops e eg bx a) {g : Option (Nat × Bool)} (hg : ∀ p, g = some p → yielded ops a.tmps p.1 = some p.2)
    {t : Nat} {want : Bool} (ht : a.tmps[t]? = some (.bool want)) (x : Operand) (c : Core) (h : armOf ops.toList g e eg t want x = some c) : a.eval x = c.val bx := by
  unfold armOf at h
  split at h
  · rename_i c' hc
    simp at h; subst h
    exact rd_ok A hg x _ hc
  · split at h
    · rename_i s
      split at h
      · rename_i j w c' hl
        split at h
        · rename_i d hd hs
          split at h
          · rename_i hb
            simp at h; subst h
            have e1 := Nat.eq_of_beq_eq_true hb
            have e2 := sameB_eq hs
            subst e1; subst e2
            have := (A.envg _ _ _ _ hl).1 (yielded_of hd ht)
            simp [Act.eval, this]
          · cases h
        · cases h
      · cases h
    · cases h

theorem pickOp_ok {P : Program} {ops : Array Oper} {e : EnvC} {eg : EnvG} {bx : Boxes} {a : Act} (A : Agree ops e eg bx a) {g : Option (Nat × Bool)} (hg : ∀ p, g = some p → yielded ops a.tmps p.1 = some p.2)
    {o : Oper} {x y z : Operand} (ho : o.op = .pick x y z) {c : Core} (h : pickOp ops.toList g e eg x y z = some c) (w : World) : (execOp a.eval o).run P w = .ok (.value (c.val bx)) w := by
  unfold pickOp at h
  split at h
  · rename_i t b hc
    have hx := rd_ok A hg _ _ hc
    have ht : a.tmps[t]? = some (.bool b) := by
      simp only [Act.eval, Core.val] at hx
      cases hh : a.tmps[t]? with
      | none => simp [hh, undef] at hx
      | some v => simp [hh] at hx; rw [hx]
    split at h
    · rename_i p q hp hq
      simp at h; subst h
      simp only [execOp, ho, Sem.run_bind, hx, Core.val, asBool, Sem.run_pure, Result.andThen_ok]
      cases b with
      | true => have := armOf_ok A hg ht _ _ hp; simp [this, Core.val]
      | false => have := armOf_ok A hg ht _ _ hq; simp [this, Core.val]
    · cases h
  · cases h

end Go.Eng
/-
  The engine, part C: what a walk asks, operation by operation, region by region, code by code.
-/
set_option linter.all false
namespace Go.Eng
open Go

structure Cfg where
  /-- the slots that are kept from region to region -/
  keep : List Nat
  /-- the slots of private boxes -/
  priv : List Nat
  /-- and of what is reckoned from them -/
  pv : List Nat
  /-- regions that draw, in an order other than the text's -/
  ord : List (Nat × List Nat)
  /-- regions that draw, of which several orders are looked at -/
  trs : List (Nat × Tr) := []

def memB : Nat → List Nat → Bool
  | _, [] => false
  | n, k :: l => match Nat.beq k n with | true => true | false => memB n l

def clsOf (P : Program) (C : Cfg) (o : Oper) : Cls :=
  match o.op with
  | .load _ (.tmp t) => (match memB t C.pv with | true => .pb | false => .rd)
  | .load _ _ | .lookup .. => .rd
  | .call { callee := .builtin .len, .. } => .rd
  | .call { callee := .builtin .cap, .. } => .p0
  | .call { callee := .builtin .min, .. } => .p0
  | .call { callee := .builtin .max, .. } => .p0
  | .call _ => .ef
  | .alloc _ | .box _ _ | .buildSlice .. | .makeMap .. => .al
  | .store _ (.tmp t) _ => (match memB t C.pv with | true => .be | false => .ef)
  | .move _ | .assign _ | .pick .. | .build .. | .nilCheck _ | .unOp .. | .makeFunc .. | .slice .. | .fieldAddr .. | .field .. | .indexAddr .. | .index .. | .extract .. => .p0
  | .binOp op t _ _ _ => (match P.underlying t, op with
    | some (.float _), .add | some (.float _), .sub | some (.float _), .mul | some (.float _), .quo => .ef
    | _, _ => .p0)
  | .convert s t _ => (match P.underlying s, P.underlying t with
    | some (.int _), some (.int _) => .p0
    | some .string, some .string => .p0
    | _, _ => .ef)
  | _ => .ef

def optInt (ρ : Operand → Option Core) (d : Int) : Option Operand → Option Int
  | none => some d
  | some x => (match ρ x with | some (.v (.int _ n)) => some n | _ => none)

def byteN (s : ByteArray) (j : Nat) : Int := ((s.data.toList[j]?).getD 0).toNat

/-- something that leaves the world as it is, whatever it is -/
@[irreducible] def PureR (c : Option Bool) (P : Program) (s : Sem Value) (K : Value → Prop) : Prop := ∃ v, Under c (∀ w : World, s.run P w = .ok v w) ∧ K v

def shiftV (op : BinOp) (k : IntKind) (x y : Int) : Option Value :=
  match op with
  | .shl => some (.int k (k.wrap (x * 2 ^ (min y.toNat k.bits))))
  | .shr => some (.int k (x.fdiv (2 ^ (min y.toNat k.bits))))
  | _ => none

def optVal (ρ : Operand → Option Core) : Option Operand → Option (Option Value)
  | none => some none
  | some x => (match ρ x with | some (.v v) => some (some v) | _ => none)

def rdOnly (cls : Cls) (p : Prop) : Prop := match cls with | .rd => p | _ => False

def lookK (K : Core → Prop) (z : Value) (ok : Bool) (o : Option Value) : Prop :=
  match o, ok with
  | some v, true => K (.v (.tuple ⟨[v, .bool true]⟩))
  | some v, false => K (.v v)
  | none, true => K (.v (.tuple ⟨[z, .bool false]⟩))
  | none, false => K (.v z)

/-- operations that leave the world as it is and may fail, or look at memory -/
def vcRead (P : Program) (cls : Cls) (c : Option Bool) (op : Op) (ρ : Operand → Option Core) (bx : Boxes) (h : Heap) (K : Core → Prop) : Prop :=
  match op with
  | .load t x => (match cls, lieOf P t, ρ x with
    | .pb, some .one, some (.lp k off) => (match lookB bx k with
      | some (_, vs) => (match nth vs off with | some v => K (.v v) | none => False)
      | none => False)
    | .pb, some (.agg n), some (.lp k off) => (match lookB bx k with
      | some (_, vs) => (match takeL n (dropL off vs) with | some l => K (.v (.agg ⟨l⟩)) | none => False)
      | none => False)
    | .pb, some .one, some (.li k off) => (match lookB bx k with
      | some (_, vs) => NthR c vs off fun v => K (.v v)
      | none => False)
    | .rd, some .one, some (.v (.pointer (some ⟨b, off, none⟩))) => LoadR c h b off fun v => K (.v v)
    | .rd, some (.agg n), some (.v (.pointer (some ⟨b, off, none⟩))) => LoadN c h b off n fun vs => K (.v (.agg ⟨vs⟩))
    | _, _, _ => False)
  | .indexAddr t x i => (match ρ i with
    | some (.v (.int _ n)) => (match P.underlying t, ρ x with
      | some (.slice e), some (.v (.slice a len _)) => (match sizeOfT P e with
        | some s => IdxS c n len a s fun b off => K (.v (.pointer (some ⟨b, off, none⟩)))
        | none => False)
      | some (.array len e), some (.lp k off) => (match sizeOfT P e with
        | some s => IdxR c n len fun j => K (.li k (off + j * s))
        | none => False)
      | some (.array len e), some (.v (.pointer (some ⟨b, off, none⟩))) => (match sizeOfT P e with
        | some s => IdxR c n len fun j => K (.v (.pointer (some ⟨b, off + j * s, none⟩)))
        | none => False)
      | _, _ => False)
    | _ => False)
  | .index t x i => (match ρ i with
    | some (.v (.int _ n)) => (match P.underlying t, ρ x with
      | some .string, some (.v (.string s)) => IdxR c n s.size fun j => K (.v (.int .u8 (byteN s j)))
      | some (.array len e), some (.v (.agg ⟨cs⟩)) => (match lieOf P e with
        | some .one => IdxR c n len fun j => NthR c cs j fun v => K (.v v)
        | _ => False)
      | _, _ => False)
    | _ => False)
  | .binOp o xt x y _ => (match ρ x, ρ y with
    | some (.v (.string a)), some (.v (.string b)) => (match o with
      | .add => Need c (a.size + b.size ≤ 9223372036854775807) (K (.v (.string (a ++ b))))
      | _ => False)
    | some (.v (.int k a)), some (.v (.int k' b)) => (match o with
      | .quo => (match k == k' with | true => Need c (b ≠ 0) (K (.v (.int k (k.wrap (a.tdiv b))))) | false => False)
      | .rem => (match k == k' with | true => Need c (b ≠ 0) (K (.v (.int k (a.tmod b)))) | false => False)
      | .shl => Need c (0 ≤ b) (K (.v (.int k (k.wrap (a * 2 ^ (min b.toNat k.bits))))))
      | .shr => Need c (0 ≤ b) (K (.v (.int k (a.fdiv (2 ^ (min b.toNat k.bits))))))
      | _ => False)
    | some (.v a), some (.v b) => PureR c P (do eqGuard o xt x y a b; binOp o xt a b : Sem Value) fun v => K (.v v)
    | _, _ => False)
  | .slice t x lo hi (some mx) => (match ρ x, optVal ρ lo, optVal ρ hi, optVal ρ (some mx) with
    | some (.v xv), some lov, some hiv, some mxv => PureR c P (Instr.sliceAt t xv lov hiv mxv) fun v => K (.v v)
    | _, _, _, _ => False)
  | .slice t x lo hi none => (match P.underlying t, ρ x with
    | some .string, some (.v (.string s)) => (match optInt ρ 0 lo, optInt ρ s.size hi with
      | some l, some r => SliceR c l r s.size fun l r => K (.v (.string (s.extract l r)))
      | _, _ => False)
    | some (.slice e), some (.v (.slice a len cap)) => (match optInt ρ 0 lo, optInt ρ len hi, sizeOfT P e with
      | some l, some r, some s => SliceR c l r cap fun l r => K (.v (.slice (slA a cap l s) (r - l) (cap - l)))
      | _, _, _ => False)
    | some (.pointer _), some (.v xv) => (match optVal ρ lo, optVal ρ hi with
      | some lov, some hiv => PureR c P (Instr.sliceAt t xv lov hiv none) fun v => K (.v v)
      | _, _ => False)
    | some (.array _ _), some (.v xv) => (match optVal ρ lo, optVal ρ hi with
      | some lov, some hiv => PureR c P (Instr.sliceAt t xv lov hiv none) fun v => K (.v v)
      | _, _ => False)
    | _, _ => False)
  | .lookup t m k ok => (match P.underlying t, ρ m, ρ k with
    | some (.map kt et), some (.v (.map (some r))), some (.v kv) => (match P.underlying kt, P.info? et with
      | some kd, some i => (match kd, i.zero with
        | .int _, some z | .string, some z => rdOnly cls (LookR c h kd r kv (lookK K z ok))
        | _, _ => False)
      | _, _ => False)
    | some (.map kt et), some (.v (.map none)), some (.v kv) => (match P.underlying kt, P.info? et with
      | some kd, some i => (match kd, i.zero with
        | .int _, some z | .string, some z => lookK K z ok none
        | _, _ => False)
      | _, _ => False)
    | _, _, _ => False)
  | .call { callee := .builtin .len, args, argTypes } => (match args.toList, argTypes.toList with
    | [x], [t] => (match P.underlying t, ρ x with
      | some (.map _ _), some (.v (.map none)) => K (.v (.int .i64 0))
      | some (.map _ _), some (.v (.map (some r))) => (match cls with | .rd => LenR c h r fun n => K (.v (.int .i64 n)) | _ => False)
      | _, _ => False)
    | _, _ => False)
  | _ => False

def hasBody (P : Program) (f : Nat) : Bool :=
  match P.funcs[f]? with
  | some fn => fn.body.isSome && !(fn.name == "runtime.NumGoroutine")
  | none => false

def blocksOf : Boxes → List Nat
  | [] => []
  | (_, b, _) :: r => b :: blocksOf r

def zeroCellsL (P : Program) (t : TypeId) : Option (List Value) :=
  match P.info? t with
  | some i => (match i.zero with | some z => some (cellsOf z) | none => none)
  | none => none

/-- what a slot under a guard that doesn't hold may be said to have -/
def anyV (P : Program) (t : TypeId) : Value :=
  match P.info? t with
  | some i => (match i.zero with | some z => z | none => undef)
  | none => undef

def repL (n : Nat) (l : List Value) : List Value := match n with | 0 => [] | n + 1 => l ++ repL n l

def oneV : Value → Bool
  | .agg _ | .tuple _ => false
  | _ => true
def allOne : List Value → Bool
  | [] => true
  | v :: r => (match oneV v with | true => allOne r | false => false)

/-- a function without a body, that yields a value -/
def extCall (f : FuncId) (args : Array Value) : Sem Value := do
  match ← callFunc f args with
  | .value v => pure v
  | _ => stuck "extCall"

/-- operations that make blocks, write, or call -/
def vcEff (P : Program) (C : Cfg) (cls : Cls) (o : Oper) (ρ : Operand → Option Core) (bx : Boxes) (h : Heap) (K : Core → Boxes → Heap → Prop) : Prop :=
  match o.op with
  | .box e x => (match ρ x with
    | some (.v v) => (match o.dst with
      | some d => (match memB d C.priv with
        | true => (match lookB bx d with
          | none => AllocR h (.cells ⟨cellsOf v⟩ e) fun b h' => K (.lp d 0) (setB d b (cellsOf v) bx) h'
          | some _ => False)
        | false => AllocR h (.cells ⟨cellsOf v⟩ e) fun b h' => K (.v (.pointer (some ⟨b, 0, none⟩))) bx h')
      | none => False)
    | _ => False)
  | .alloc e => (match zeroCellsL P e, o.dst with
    | some l, some d => (match memB d C.priv with
      | true => (match lookB bx d with
        | none => AllocR h (.cells ⟨l⟩ e) fun b h' => K (.lp d 0) (setB d b l bx) h'
        | some _ => False)
      | false => AllocR h (.cells ⟨l⟩ e) fun b h' => K (.v (.pointer (some ⟨b, 0, none⟩))) bx h')
    | _, _ => False)
  | .buildSlice t n parts => (match P.underlying t with
    | some (.slice e) => (match zeroCellsL P e, sizeOfT P e with
      | some z, some s => (match Nat.ble (n * s) 16777216, Nat.beq z.length s, fillL (fun i => some (i * s, s)) ρ (n * s) (repL n z) parts.toList with
        | true, true, some l => AllocR h (.cells ⟨l⟩ e) fun b h' => K (.v (.slice (some ⟨b, 0, none⟩) n n)) bx h'
        | _, _, _ => False)
      | _, _ => False)
    | _ => False)
  | .makeMap _ none => AllocR h (.map #[] 0) fun b h' => K (.v (.map (some b))) bx h'
  | .store t a x => (match cls, ρ x with
    | .be, some (.v v) => (match ρ a, lieOf P t with
      | some (.lp k off), some l => (match lookB bx k, sizeOfT P t with
        | some (b, vs), some s => (match Nat.beq (cellsOf v).length s, leB (off + s) vs.length, allOne (cellsOf v) with
          | true, true, true => BoxR h b fun h' => K (.v undef) (setB k b (spliceL off (cellsOf v) vs) bx) h'
          | _, _, _ => False)
        | _, _ => False)
      | some (.li k off), some l => (match lookB bx k, sizeOfT P t with
        | some (b, vs), some s => (match Nat.beq (cellsOf v).length s, allOne (cellsOf v) with
          | true, true => Need none (off + s ≤ vs.length) (BoxR h b fun h' => K (.v undef) (setB k b (spliceL off (cellsOf v) vs) bx) h')
          | _, _ => False)
        | _, _ => False)
      | _, _ => False)
    | .ef, some (.v v) => (match ρ a, lieOf P t, sizeOfT P t with
      | some (.v (.pointer (some ⟨b, off, none⟩))), some l, some s => (match Nat.beq (cellsOf v).length s, allOne (cellsOf v) with
        | true, true => StoreR h b off (cellsOf v) (blocksOf bx) fun h' => K (.v undef) bx h'
        | _, _ => False)
      | _, _, _ => False)
    | _, _ => False)
  | .mapUpdate t m k x | .insert t m k x => (match ρ m, ρ k, ρ x with
    | some (.v m), some (.v k), some (.v x) => SemR P (Instr.mapUpdate t m k x) (blocksOf bx) h fun _ h' => K (.v undef) bx h'
    | _, _, _ => False)
  | .makeSlice t l c => (match ρ l, ρ c with
    | some (.v l), some (.v c) => SemR P (Instr.makeSlice t l c) (blocksOf bx) h fun v h' => K (.v v) bx h'
    | _, _ => False)
  | .convert s t x => (match ρ x with
    | some (.v x) => SemR P (convert s t x) (blocksOf bx) h fun v h' => K (.v v) bx h'
    | _ => False)
  | .range t x => (match ρ x with
    | some (.v x) => SemR P (Instr.range t x) (blocksOf bx) h fun v h' => K (.v v) bx h'
    | _ => False)
  | .next it s => (match ρ it with
    | some (.v it) => SemR P (Instr.next it s o.type) (blocksOf bx) h fun v h' => K (.v v) bx h'
    | _ => False)
  | .entry it => (match ρ it with
    | some (.v it) => SemR P (Instr.entry it) (blocksOf bx) h fun v h' => K (.v v) bx h'
    | _ => False)
  | .mapEntry t m k => (match ρ m, ρ k with
    | some (.v m), some (.v k) => SemR P (Instr.mapEntry t m k) (blocksOf bx) h fun v h' => K (.v v) bx h'
    | _, _ => False)
  | .entryStore t m s x => (match ρ m, ρ s, ρ x with
    | some (.v m), some (.v s), some (.v x) => SemR P (Instr.entryStore t m s x) (blocksOf bx) h fun _ h' => K (.v undef) bx h'
    | _, _, _ => False)
  | .binOp op t x y _ => (match ρ x, ρ y with
    | some (.v a), some (.v b) => SemR P (do eqGuard op t x y a b; binOp op t a b : Sem Value) (blocksOf bx) h fun v h' => K (.v v) bx h'
    | _, _ => False)
  | .call { callee := .builtin b, args, argTypes } => (match vals ρ args.toList with
    | some as => (match b with
      | .append => SemR P (Builtin.append_ argTypes o.type ⟨as⟩) (blocksOf bx) h fun v h' => K (.v v) bx h'
      | .copy => SemR P (Builtin.copy_ argTypes o.type ⟨as⟩) (blocksOf bx) h fun v h' => K (.v v) bx h'
      | .delete => SemR P (Builtin.delete_ argTypes o.type ⟨as⟩) (blocksOf bx) h fun v h' => K (.v v) bx h'
      | .clear => SemR P (Builtin.clear_ argTypes o.type ⟨as⟩) (blocksOf bx) h fun v h' => K (.v v) bx h'
      | .unsafeSliceData => SemR P (Builtin.unsafeSliceData_ argTypes o.type ⟨as⟩) (blocksOf bx) h fun v h' => K (.v v) bx h'
      | .unsafeString => SemR P (Builtin.unsafeString_ argTypes o.type ⟨as⟩) (blocksOf bx) h fun v h' => K (.v v) bx h'
      | _ => False)
    | none => False)
  | .call { callee := .value f, args, .. } => (match ρ f, vals ρ args.toList with
    | some (.v (.func (.func f) ⟨first⟩ ⟨captured⟩)), some as => (match hasBody P f with
      | true => CallR P f (first ++ as ++ captured) (blocksOf bx) h fun v h' => K (.v v) bx h'
      | false => SemR P (extCall f ⟨first ++ as ++ captured⟩) (blocksOf bx) h fun v h' => K (.v v) bx h')
    | _, _ => False)
  | _ => False

def isEff : Cls → Bool
  | .al | .ef | .be => true
  | _ => false

def freeG (all : List Oper) (d : Nat) : EnvG → Bool
  | [] => true
  | (t, j, _, _) :: r => match Nat.beq t d with
    | true => false
    | false => (match dstOf all j with
      | some d' => (match Nat.beq d' d with | true => false | false => freeG all d r)
      | none => freeG all d r)

/-- slots are written: outright, or under a guard -/
def putE (all : List Oper) (dst : Option Nat) (g : Option (Nat × Bool)) (c : Core) (e : EnvC) (eg : EnvG) (K : EnvC → EnvG → Prop) : Prop :=
  match dst with
  | none => K e eg
  | some d => (match freeG all d eg with
    | true => (match g with
      | none => K ((d, c) :: e) eg
      | some (j, w) => (match dstOf all j with
        | some d' => (match Nat.beq d' d with | true => False | false => K e ((d, j, w, c) :: eg))
        | none => False))
    | false => False)

def pickOr (all : List Oper) (P : Program) (g : Option (Nat × Bool)) (e : EnvC) (eg : EnvG) (op : Op) : Option Core :=
  match op with
  | .pick c x y => pickOp all g e eg c x y
  | op => pureOp P op (rd all g e eg)

/-- one operation under a guard that stands (or none) -/
def vcOp (P : Program) (C : Cfg) (all : List Oper) (o : Oper) (g : Option (Nat × Bool)) (c : Option Bool) (e : EnvC) (eg : EnvG) (bx : Boxes) (h : Heap) (K : EnvC → EnvG → Boxes → Heap → Prop) : Prop :=
  match pickOr all P g e eg o.op with
  | some x => putE all o.dst g x e eg fun e eg => K e eg bx h
  | none => (match isEff (clsOf P C o), g with
    | false, _ => vcRead P (clsOf P C o) c o.op (rd all g e eg) bx h fun x => putE all o.dst g x e eg fun e eg => K e eg bx h
    | true, none => vcEff P C (clsOf P C o) o (rd all g e eg) bx h fun x bx h => putE all o.dst none x e eg fun e eg => K e eg bx h
    | true, some _ => False)

def vcOps (P : Program) (C : Cfg) (all : List Oper) (K : EnvC → EnvG → Boxes → Heap → Prop) : List Oper → EnvC → EnvG → Boxes → Heap → Prop
  | [], e, eg, bx, h => K e eg bx h
  | o :: os, e, eg, bx, h => (match o.guard with
    | none => vcOp P C all o none none e eg bx h fun e eg bx h => vcOps P C all K os e eg bx h
    | some (j, w) => (match condOf all e eg 9 j w with
      | some c => (match isEff (clsOf P C o) with
        | false => vcOp P C all o (some (j, w)) (some c) e eg bx h fun e eg bx h => vcOps P C all K os e eg bx h
        | true => IfR c
            (vcOpE P C all o (some (j, w)) e eg bx h fun e eg bx h => vcOps P C all K os e eg bx h)
            (putE all o.dst (some (j, w)) (.v (anyV P o.type)) e eg fun e eg => vcOps P C all K os e eg bx h))
      | none => False))
where
  /-- an effect under a guard that is known to hold -/
  vcOpE (P : Program) (C : Cfg) (all : List Oper) (o : Oper) (g : Option (Nat × Bool)) (e : EnvC) (eg : EnvG) (bx : Boxes) (h : Heap) (K : EnvC → EnvG → Boxes → Heap → Prop) : Prop :=
    match pickOr all P g e eg o.op with
    | some x => putE all o.dst none x e eg fun e eg => K e eg bx h
    | none => vcEff P C (clsOf P C o) o (rd all g e eg) bx h fun x bx h => putE all o.dst none x e eg fun e eg => K e eg bx h

/-- what is kept behind a region -/
def keepE : List Nat → EnvC → (EnvC → Prop) → Prop
  | [], _, K => K []
  | t :: L, e, K => (match lookC e t with
    | some c => keepE L e fun e' => K ((t, c) :: e')
    | none => keepE L e K)


/-- the same, behind a region: what stood under a guard is forgotten -/
def keepG : List Nat → EnvC → EnvG → (EnvC → Prop) → Prop
  | [], _, _, K => K []
  | t :: L, e, eg, K => (match lookG eg t with
    | some _ => keepG L e eg K
    | none => (match lookC e t with
      | some c => keepG L e eg fun e' => K ((t, c) :: e')
      | none => keepG L e eg K))

/-- no slot leads into a box that is forgotten -/
def coresIn (bx : Boxes) : EnvC → Bool
  | [] => true
  | (_, .v _) :: r => coresIn bx r
  | (_, .lp k _) :: r => (match lookB bx k with | some _ => coresIn bx r | none => false)
  | (_, .li k _) :: r => (match lookB bx k with | some _ => coresIn bx r | none => false)

def properB : Boxes → Bool
  | [] => true
  | (k, _, _) :: r => (match lookB r k with | some _ => false | none => properB r)

def keepB : List Nat → Boxes → (Boxes → Prop) → Prop
  | [], _, K => K []
  | k :: L, bx, K => (match lookB bx k with
    | some (b, vs) => keepB L bx fun bx' => K ((k, b, vs) :: bx')
    | none => keepB L bx K)

/-- what is kept at a loop's head -/
def keepS (L B : List Nat) (e : EnvC) (bx : Boxes) (K : EnvC → Boxes → Prop) : Prop :=
  keepE L e fun e => keepB B bx fun bx => match coresIn bx e, properB bx with
    | true, true => K e bx
    | _, _ => False

abbrev Post := Exit → EnvC → Boxes → Heap → Prop

/-- a loop: the slots and boxes that are kept at its head, and what holds there -/
@[irreducible] def LoopR (body : Post → EnvC → Boxes → Heap → Prop) (Q : Post) (e : EnvC) (bx : Boxes) (h : Heap) : Prop :=
  ∃ (L B : List Nat) (I : Nat → EnvC → Boxes → Heap → Prop), (∃ d, keepS L B e bx fun e bx => I d e bx h) ∧
    ∀ d e bx h, I d e bx h → body (fun x e bx h => match x with
      | .normal => ∃ d', d' < d ∧ keepS L B e bx fun e bx => I d' e bx h
      | x => Q x e bx h) e bx h

/-- ways that meet again -/
@[irreducible] def MeetR (first : Post → EnvC → Boxes → Heap → Prop) (rest : EnvC → Boxes → Heap → Prop) (Q : Post) (e : EnvC) (bx : Boxes) (h : Heap) : Prop :=
  first (fun x e bx h => match x with | .normal => rest e bx h | x => Q x e bx h) e bx h

/-- how often a block is left by its number -/
def exitsB (id : Nat) : Code → Nat
  | .exit j => (match Nat.beq j id with | true => 1 | false => 0)
  | .seq a b | .cond _ a b => exitsB id a + exitsB id b
  | .block _ b | .loop b | .scope b => exitsB id b
  | _ => 0

/-- may the code end in the common way? -/
def fallsB : Code → Bool
  | .ret => false
  | .exit _ => false
  | .goto _ => false
  | .loop _ => false
  | .seq a b => (match fallsB a with | true => fallsB b | false => false)
  | .cond _ a b => (match fallsB a with | true => true | false => fallsB b)
  | .block id b => (match exitsB id b with | 0 => fallsB b | _ + 1 => true)
  | _ => true

/-- do several ways lead to what follows? -/
def forks : Code → Bool
  | .cond _ a b => (match fallsB a with | true => fallsB b | false => (match fallsB b with | true => forks b | false => false))
  | .seq _ b => forks b
  | .scope b => forks b
  | .block id b => (match exitsB id b, fallsB b with
    | 0, true => forks b
    | 0, false => false
    | 1, false => false
    | _, _ => true)
  | _ => false

def permL (all : List Oper) : List Nat → List Oper
  | [] => []
  | k :: l => (match nthO all k with | some o => o :: permL all l | none => permL all l)
where nthO : List Oper → Nat → Option Oper
  | [], _ => none
  | o :: _, 0 => some o
  | _ :: r, n + 1 => nthO r n

def ordOf : List (Nat × List Nat) → Nat → Option (List Nat)
  | [], _ => none
  | (k, l) :: r, n => (match Nat.beq k n with | true => some l | false => ordOf r n)

/-- two orders -/
@[irreducible] def BothR (a b : Prop) : Prop := a ∧ b
def trOf : List (Nat × Tr) → Nat → Option Tr
  | [], _ => none
  | (k, l) :: r, n => (match Nat.beq k n with | true => some l | false => trOf r n)
def vcT (P : Program) (C : Cfg) (all : List Oper) (K : EnvC → EnvG → Boxes → Heap → Prop) : Tr → EnvC → EnvG → Boxes → Heap → Prop
  | .nil, e, eg, bx, h => K e eg bx h
  | .cons k t, e, eg, bx, h => (match permL.nthO all k with
    | some o => vcOps P C all (fun e eg bx h => vcT P C all K t e eg bx h) [o] e eg bx h
    | none => False)
  | .both s t, e, eg, bx, h => BothR (vcT P C all K s e eg bx h) (vcT P C all K t e eg bx h)

def vc (P : Program) (C : Cfg) : Code → Post → EnvC → Boxes → Heap → Prop
  | .skip, Q, e, bx, h => Q .normal e bx h
  | .label _, Q, e, bx, h => Q .normal e bx h
  | .exit id, Q, e, bx, h => Q (.exit id) e bx h
  | .ret, Q, e, bx, h => Q .ret e bx h
  | .seq a b, Q, e, bx, h => (match forks a with
    | true => MeetR (fun Q e bx h => vc P C a Q e bx h) (fun e bx h => vc P C b Q e bx h) Q e bx h
    | false => vc P C a (fun x e bx h => match x with | .normal => vc P C b Q e bx h | x => Q x e bx h) e bx h)
  | .cond c a b, Q, e, bx, h => (match rd [] none e [] c with
    | some (.v (.bool t)) => IfR t (vc P C a Q e bx h) (vc P C b Q e bx h)
    | _ => False)
  | .block id b, Q, e, bx, h => vc P C b (fun x e bx h => match x with
    | .exit j => (match Nat.beq j id with | true => Q .normal e bx h | false => Q (.exit j) e bx h)
    | x => Q x e bx h) e bx h
  | .loop b, Q, e, bx, h => LoopR (fun Q e bx h => vc P C b Q e bx h) Q e bx h
  | .scope b, Q, e, bx, h => vc P C b (fun x e bx h => match x with | .goto _ => False | x => Q x e bx h) e bx h
  | .region id ops false, Q, e, bx, h => vcOps P C ops.toList (fun e eg bx h => keepG C.keep e eg fun e => Q .normal e bx h) ops.toList e [] bx h
  | .region id ops true, Q, e, bx, h => (match trOf C.trs id with
    | some t => vcT P C ops.toList (fun e eg bx h => keepG C.keep e eg fun e => Q .normal e bx h) t e [] bx h
    | none => match ordOf C.ord id with
    | none => vcOps P C ops.toList (fun e eg bx h => keepG C.keep e eg fun e => Q .normal e bx h) ops.toList e [] bx h
    | some l => vcOps P C ops.toList (fun e eg bx h => keepG C.keep e eg fun e => Q .normal e bx h) (permL ops.toList l) e [] bx h)
  | _, _, _, _, _ => False

def clsAt (P : Program) (C : Cfg) (ops : Array Oper) (k : Nat) : Cls := match ops[k]? with | some o => clsOf P C o | none => .p0

/-- what is asked of a code once, by the kernel -/
def codeOK (P : Program) (C : Cfg) (n : Nat) : Code → Bool
  | .seq a b | .cond _ a b => codeOK P C n a && codeOK P C n b
  | .block _ b | .loop b | .scope b => codeOK P C n b
  | .region id ops d => ops.all (fun o => match o.dst with | some t => decide (t < n) | none => true) && (!d ||
      (match trOf C.trs id with
       | some t => decide (t.len = ops.size) && Region.noSelect ops && drawT ops (clsAt P C ops) t (Array.replicate ops.size false)
       | none =>
       let l := (ordOf C.ord id).getD (List.range ops.size)
       decide (l.length = ops.size) && l.all (fun k => decide (k < ops.size)) && Region.noSelect ops && drawB ops (clsAt P C ops) l (Array.replicate ops.size false)))
  | _ => true

end Go.Eng
