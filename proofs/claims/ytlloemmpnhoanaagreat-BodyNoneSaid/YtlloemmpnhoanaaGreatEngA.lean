/-
  The engine, part A: the state of a walk (what is known of the slots, the private boxes), and what each pure operation yields.
-/
import Derived.OrdersHeld
import Derived.Calls
import Derived.Laws.Sem
set_option linter.all false
namespace Go.Eng
open Go

abbrev Heap := Array Obj

def Heap.cell? (h : Heap) (b o : Nat) : Option Value :=
  match h[b]? with
  | some (.cells c _ _) => c[o]?
  | _ => none

theorem cell?_eq (w : World) (b o : Nat) : w.cell? ⟨b, o, none⟩ = Heap.cell? w.heap b o := by
  unfold World.cell? Heap.cell?
  cases w.heap[b]? with
  | none => rfl
  | some x => cases x <;> rfl

/-- what a slot is known to hold: a value, or an address within a private box (its number, a fixed place; or a reckoned place) -/
inductive Core where
  | v (x : Value)
  | lp (k off : Nat)
  | li (k off : Nat)

/-- known outright, or only where operation 'j' of the region yielded 'want' -/
structure AV where
  g : Option (Nat × Bool)
  c : Core

abbrev Env := List (Nat × AV)
abbrev Boxes := List (Nat × Nat × List Value)

def look : Env → Nat → Option AV
  | [], _ => none
  | (k, x) :: e, t => match Nat.beq k t with | true => some x | false => look e t

def lookB : Boxes → Nat → Option (Nat × List Value)
  | [], _ => none
  | (k, b, vs) :: e, t => match Nat.beq k t with | true => some (b, vs) | false => lookB e t

/-- a box gets a block and cells (what it had before is forgotten) -/
def setB (k b : Nat) (vs : List Value) : Boxes → Boxes
  | [] => [(k, b, vs)]
  | (k', b', vs') :: r => match Nat.beq k' k with | true => (k, b, vs) :: r | false => (k', b', vs') :: setB k b vs r

def nth : List Value → Nat → Option Value
  | [], _ => none
  | v :: _, 0 => some v
  | _ :: r, n + 1 => nth r n

theorem nth_eq : ∀ (l : List Value) (n : Nat), nth l n = l[n]?
  | [], _ => by simp [nth]
  | _ :: _, 0 => by simp [nth]
  | _ :: r, n + 1 => by simp [nth, nth_eq r n]

def dropL : Nat → List Value → List Value
  | 0, l => l
  | _ + 1, [] => []
  | n + 1, _ :: r => dropL n r

theorem dropL_eq : ∀ (n : Nat) (l : List Value), dropL n l = l.drop n
  | 0, l => by simp [dropL]
  | n + 1, [] => by simp [dropL]
  | n + 1, _ :: r => by simp [dropL, dropL_eq n r]

/-- the first 'n', if there are so many -/
def takeL : Nat → List Value → Option (List Value)
  | 0, _ => some []
  | _ + 1, [] => none
  | n + 1, v :: r => match takeL n r with | some l => some (v :: l) | none => none

theorem takeL_eq : ∀ (n : Nat) (l l' : List Value), takeL n l = some l' → l' = l.take n ∧ l'.length = n
  | 0, l, l', h => by simp [takeL] at h; subst h; simp
  | n + 1, [], l', h => by simp [takeL] at h
  | n + 1, v :: r, l', h => by
    simp only [takeL] at h
    split at h
    · rename_i l hl
      obtain ⟨h1, h2⟩ := takeL_eq n r l hl
      simp at h; subst h
      refine ⟨?_, by simp [h2]⟩
      rw [List.take_succ_cons, ← h1]
    · simp at h

/-- how a type's variables lie: one cell, or 'n' of them -/
inductive Lie where
  | one
  | agg (n : Nat)

def lieOf (P : Program) (t : TypeId) : Option Lie :=
  match P.underlying t with
  | some (.struct _) | some (.array _ _) => (match P.info? t with | some i => some (.agg i.size) | none => none)
  | some _ => (match P.info? t with | some i => (match Nat.beq i.size 1 with | true => some .one | false => none) | none => none)
  | none => none

def sizeOfT (P : Program) (t : TypeId) : Option Nat := match P.info? t with | some i => some i.size | none => none

/-- a field's place (for fields that have cells) -/
def fieldOff (P : Program) (t : TypeId) (i : Nat) : Option Nat :=
  match P.underlying t with
  | some (.struct fs) => (match fs[i]? with
    | some f => (match P.info? f.type with | some n => (match n.size with | 0 => none | _ + 1 => some f.offset) | none => none)
    | none => none)
  | _ => none

def plus (a : Nat) : Nat → Nat
  | 0 => a
  | n + 1 => a + (n + 1)
theorem plus_eq (a n : Nat) : plus a n = a + n := by cases n <;> rfl

def blk (bx : Boxes) (k : Nat) : Nat := match lookB bx k with | some (b, _) => b | none => 0

def Core.val (bx : Boxes) : Core → Value
  | .v x => x
  | .lp k off => .pointer (some ⟨blk bx k, off, none⟩)
  | .li k off => .pointer (some ⟨blk bx k, off, none⟩)

/-! ### Pure operations -/


def intV (op : BinOp) (k : IntKind) (x y : Int) : Option Value :=
  match op with
  | .add => some (.int k (k.wrap (x + y)))
  | .sub => some (.int k (k.wrap (x - y)))
  | .mul => some (.int k (k.wrap (x * y)))
  | .and => some (.int k (k.wrap ((BitVec.ofInt k.bits x &&& BitVec.ofInt k.bits y).toNat)))
  | .or => some (.int k (k.wrap ((BitVec.ofInt k.bits x ||| BitVec.ofInt k.bits y).toNat)))
  | .xor => some (.int k (k.wrap ((BitVec.ofInt k.bits x ^^^ BitVec.ofInt k.bits y).toNat)))
  | .andNot => some (.int k (k.wrap ((BitVec.ofInt k.bits x &&& ~~~BitVec.ofInt k.bits y).toNat)))
  | .eql => some (.bool (x == y))
  | .neq => some (.bool (x != y))
  | .lss => some (.bool (decide (x < y)))
  | .leq => some (.bool (decide (x ≤ y)))
  | .gtr => some (.bool (decide (x > y)))
  | .geq => some (.bool (decide (x ≥ y)))
  | _ => none

def strV (op : BinOp) (x y : ByteArray) : Option Value :=
  match op with
  | .eql => some (.bool (x.toList == y.toList))
  | .neq => some (.bool (!(x.toList == y.toList)))
  | .lss => some (.bool (Op.bytesLess x.toList y.toList))
  | _ => none

/-- equality of what is no number and no text -/
def eqV (P : Program) (t : TypeId) (a b : Value) : Option Bool :=
  match P.underlying t, a, b with
  | some .bool, .bool x, .bool y => some (x == y)
  | some (.pointer _), .pointer none, .pointer b => some b.isNone
  | some (.pointer _), .pointer (some _), .pointer none => some false
  | some (.slice _), .slice none _ _, .slice b _ _ => some b.isNone
  | some (.slice _), .slice (some _) _ _, .slice none _ _ => some false
  | some (.map _ _), .map none, .map b => some b.isNone
  | some (.map _ _), .map (some _), .map none => some false
  | some (.func _ _ _), .nilFunc, .nilFunc => some true
  | some (.func _ _ _), .func _ _ _, .nilFunc => some false
  | _, _, _ => none

def binV (P : Program) (op : BinOp) (t : TypeId) (a b : Value) : Option Value :=
  match a, b with
  | .int k x, .int k' y => (match k == k' with | true => intV op k x y | false => none)
  | .string x, .string y => strV op x y
  | a, b => (match op with
    | .eql => (match eqV P t a b with | some r => some (.bool r) | none => none)
    | .neq => (match eqV P t a b with | some r => some (.bool (!r)) | none => none)
    | _ => none)

theorem eqGuard_run (P : Program) (op : BinOp) (t : TypeId) (x y : Operand) (a b : Value) (w : World)
    (h1 : ¬ (a = .nilIface ∧ b = .nilIface)) (h2 : ∀ c, a ≠ .agg c) : (eqGuard op t x y a b).run P w = .ok () w := by
  have key : ∀ o : BinOp, (o = .eql ∨ o = .neq) → (eqGuard o t x y a b).run P w = .ok () w := by
    intro o ho
    rcases ho with rfl | rfl
    all_goals
      cases a <;> first | (exact absurd rfl (h2 _)) | rfl | (cases b <;> first | rfl | (exact absurd ⟨rfl, rfl⟩ h1))
  cases op <;> first | rfl | exact key _ (.inl rfl) | exact key _ (.inr rfl)

theorem underlying_run (P : Program) (t : TypeId) (w : World) {d : TypeDesc} (h : P.underlying t = some d) : (underlying t).run P w = .ok d w := by
  simp [underlying, h]
theorem typeInfo_run (P : Program) (t : TypeId) (w : World) {d : TypeInfo} (h : P.info? t = some d) : (typeInfo t).run P w = .ok d w := by
  simp [typeInfo, h]

theorem eqV_run (P : Program) (t : TypeId) (a b : Value) (r : Bool) (h : eqV P t a b = some r) (w : World) :
    (Op.equal t a b).run P w = .ok r w := by
  unfold Op.equal
  unfold Op.maxDepth
  unfold Op.equalIn
  unfold eqV at h
  split at h <;> simp at h <;> subst h <;> simp [underlying, *]

theorem eqV_not (P : Program) (t : TypeId) (a b : Value) (r : Bool) (h : eqV P t a b = some r) :
    ¬ (a = .nilIface ∧ b = .nilIface) ∧ ∀ c, a ≠ .agg c := by
  unfold eqV at h
  split at h <;> simp at h <;> simp

theorem binV_run (P : Program) (op : BinOp) (t : TypeId) (x y : Operand) (a b : Value) (r : Value) (h : binV P op t a b = some r) (w : World) :
    (do eqGuard op t x y a b; binOp op t a b : Sem Value).run P w = .ok r w := by
  unfold binV at h
  split at h
  · rename_i k x' k' y'
    split at h
    · rename_i hk
      have hk' : k = k' := by simpa using hk
      subst hk'
      simp only [Sem.run_bind]
      rw [eqGuard_run _ _ _ _ _ _ _ _ (by simp) (by simp)]
      simp only [Result.andThen_ok]
      cases op <;> simp [intV] at h <;> subst h <;> simp [binOp, Op.intArith, Op.intBits, Op.intCmp]
    · cases h
  · rename_i x' y'
    simp only [Sem.run_bind]
    rw [eqGuard_run _ _ _ _ _ _ _ _ (by simp) (by simp)]
    simp only [Result.andThen_ok]
    cases op <;> simp [strV] at h <;> subst h <;> simp [binOp, Op.stringOp]
  · rename_i h1 h2
    split at h
    · split at h
      · rename_i r' hr
        have hn := eqV_not P t a b r' hr
        simp only [Sem.run_bind]
        rw [eqGuard_run _ _ _ _ _ _ _ _ hn.1 hn.2]
        simp only [Result.andThen_ok]
        simp at h; subst h
        have he := eqV_run P t a b r' hr w
        unfold eqV at hr
        split at hr <;> simp at hr <;> simp [binOp, he, *]
      · cases h
    · split at h
      · rename_i r' hr
        have hn := eqV_not P t a b r' hr
        simp only [Sem.run_bind]
        rw [eqGuard_run _ _ _ _ _ _ _ _ hn.1 hn.2]
        simp only [Result.andThen_ok]
        simp at h; subst h
        have he := eqV_run P t a b r' hr w
        unfold eqV at hr
        split at hr <;> simp at hr <;> simp [binOp, he, *]
      · cases h
    · cases h

/-! ### Pure operations, as a function of what is known -/

def vOf : Option Value → Option Core
  | some x => some (.v x)
  | none => none

def unV (op : UnOp) (a : Value) : Option Value :=
  match op, a with
  | .not, .bool b => some (.bool (!b))
  | .neg, .int k n => some (.int k (k.wrap (0 - n)))
  | .xor, .int k n => some (.int k (k.wrap ((BitVec.ofInt k.bits (if k.signed then -1 else k.max) ^^^ BitVec.ofInt k.bits n).toNat)))
  | _, _ => none

/-- a part of a struct's or an array's cells -/
def partV (P : Program) (t : TypeId) (cs : List Value) (off : Nat) : Option Value :=
  match lieOf P t with
  | some .one => nth cs off
  | some (.agg n) => (match takeL n (dropL off cs) with | some l => some (.agg ⟨l⟩) | none => none)
  | none => none

def spliceL : Nat → List Value → List Value → List Value
  | 0, [], l => l
  | 0, v :: vs, _ :: l => v :: spliceL 0 vs l
  | 0, _ :: _, [] => []
  | n + 1, vs, x :: l => x :: spliceL n vs l
  | _ + 1, _, [] => []

def vals (ρ : Operand → Option Core) : List Operand → Option (List Value)
  | [] => some []
  | x :: r => (match ρ x with
    | some (.v a) => (match vals ρ r with | some l => some (a :: l) | none => none)
    | _ => none)

def cellsOf : Value → List Value
  | .agg ⟨cs⟩ => cs
  | v => [v]

def leB : Nat → Nat → Bool
  | 0, _ => true
  | _ + 1, 0 => false
  | a + 1, b + 1 => leB a b
theorem leB_eq : ∀ a b : Nat, leB a b = true ↔ a ≤ b
  | 0, b => by simp [leB]
  | a + 1, 0 => by simp [leB]
  | a + 1, b + 1 => by simp [leB, leB_eq a b]

def fillL (place : Nat → Option (Nat × Nat)) (ρ : Operand → Option Core) (n : Nat) (cells : List Value) : List (Nat × Operand) → Option (List Value)
  | [] => some cells
  | (i, x) :: rest => (match place i, ρ x with
    | some (off, size), some (.v a) => (match Nat.beq (cellsOf a).length size, leB (off + size) n with
      | true, true => fillL place ρ n (spliceL off (cellsOf a) cells) rest
      | _, _ => none)
    | _, _ => none)

/-- where a field lies, and of how many cells it is -/
def placeL (P : Program) (fs : List Field) (i : Nat) : Option (Nat × Nat) :=
  match fs[i]? with
  | some f => (match P.info? f.type with | some j => some (f.offset, j.size) | none => none)
  | none => none

def buildV (P : Program) (t : TypeId) (ρ : Operand → Option Core) (parts : List (Nat × Operand)) : Option Value :=
  match P.info? t with
  | some i => (match i.zero with
    | some z => (match P.underlying t with
      | some (.struct fs) => (match (fs.toList.all fun f => (P.info? f.type).isSome), fillL (placeL P fs.toList) ρ (cellsOf z).length (cellsOf z) parts with
        | true, some l => some (.agg ⟨l⟩)
        | _, _ => none)
      | some (.array _ e) => (match P.info? e with
        | some j => (match fillL (fun i => some (i * j.size, j.size)) ρ (cellsOf z).length (cellsOf z) parts with
          | some l => some (.agg ⟨l⟩)
          | none => none)
        | none => none)
      | _ => none)
    | none => none)
  | none => none

def builtinV (P : Program) (b : Builtin) (ts : List TypeId) (as : List Value) : Option Value :=
  match b, as with
  | .len, [x] => (match ts with
    | [t] => (match P.underlying t, x with
      | some .string, .string s => some (.int .i64 s.size)
      | some (.slice _), .slice _ n _ => some (.int .i64 n)
      | some (.array n _), _ => some (.int .i64 n)
      | _, _ => none)
    | _ => none)
  | .cap, [x] => (match ts with
    | [t] => (match P.underlying t, x with
      | some (.slice _), .slice _ _ n => some (.int .i64 n)
      | _, _ => none)
    | _ => none)
  | .min, [.int k x, .int _ y] => some (.int k (if y < x then y else x))
  | .max, [.int k x, .int _ y] => some (.int k (if y > x then y else x))
  | .min, [.int k x, .int _ y, .int _ z] => some (.int k (if z < (if y < x then y else x) then z else (if y < x then y else x)))
  | _, _ => none

def pureOp (P : Program) (op : Op) (ρ : Operand → Option Core) : Option Core :=
  match op with
  | .move x | .assign x => ρ x
  | .binOp o t x y _ => (match ρ x, ρ y with | some (.v a), some (.v b) => vOf (binV P o t a b) | _, _ => none)
  | .unOp o _ x => (match ρ x with | some (.v a) => vOf (unV o a) | _ => none)
  | .extract x i => (match ρ x with | some (.v (.tuple ⟨vs⟩)) => vOf (nth vs i) | _ => none)
  | .fieldAddr t x i => (match fieldOff P t i with
    | some fo => (match ρ x with
      | some (.lp k off) => some (.lp k (plus off fo))
      | some (.li k off) => some (.li k (plus off fo))
      | some (.v (.pointer (some ⟨b, off, none⟩))) => some (.v (.pointer (some ⟨b, plus off fo, none⟩)))
      | _ => none)
    | none => none)
  | .field t x i => (match ρ x, P.underlying t with
    | some (.v (.agg ⟨cs⟩)), some (.struct fs) => (match fs[i]? with | some f => vOf (partV P f.type cs f.offset) | none => none)
    | _, _ => none)
  | .build t parts => vOf (buildV P t ρ parts.toList)
  | .makeFunc fn first captured => (match vals ρ first.toList, vals ρ captured.toList with
    | some a, some b => some (.v (.func fn ⟨a⟩ ⟨b⟩))
    | _, _ => none)
  | .nilCheck x => (match ρ x with
    | some (.lp k off) => some (.lp k off)
    | some (.li k off) => some (.li k off)
    | some (.v (.pointer (some a))) => some (.v (.pointer (some a)))
    | some (.v (.func (.func f) a b)) => some (.v (.func (.func f) a b))
    | _ => none)
  | .convert s t x => (match ρ x with
    | some (.v (.int _ n)) => (match P.underlying s, P.underlying t with | some _, some (.int k) => some (.v (.int k (k.wrap n))) | _, _ => none)
    | some (.v (.string a)) => (match P.underlying s, P.underlying t with | some _, some .string => some (.v (.string a)) | _, _ => none)
    | _ => none)
  | .call { callee := .builtin b, args, argTypes } => (match vals ρ args.toList with
    | some l => vOf (builtinV P b argTypes.toList l)
    | none => none)
  | _ => none

/-! ### and that the model says the same -/

theorem lieOf_one {P : Program} {t : TypeId} (h : lieOf P t = some .one) (w : World) : (isAgg t).run P w = .ok false w ∧ (sizeOf t).run P w = .ok 1 w := by
  unfold lieOf at h
  split at h
  · split at h <;> cases h
  · split at h <;> cases h
  · rename_i d h1 h2 hd
    split at h
    · rename_i i hi
      split at h
      · rename_i hb
        refine ⟨?_, ?_⟩
        · simp only [isAgg, Sem.run_bind, underlying_run P t w hd, Result.andThen_ok]
          first
            | rfl
            | (split
               · exact absurd hd (h1 _)
               · exact absurd hd (h2 _ _)
               · rfl)
        · simp only [sizeOf, Sem.run_bind, typeInfo_run P t w hi, Result.andThen_ok, Sem.run_pure]
          rw [Nat.eq_of_beq_eq_true hb]
      · cases h
    · cases h
  · cases h

theorem lieOf_agg {P : Program} {t : TypeId} {n : Nat} (h : lieOf P t = some (.agg n)) (w : World) : (isAgg t).run P w = .ok true w ∧ (sizeOf t).run P w = .ok n w := by
  unfold lieOf at h
  split at h
  · rename_i fs hd
    split at h
    · rename_i i hi
      simp at h; subst h
      exact ⟨by simp [isAgg, underlying_run P t w hd], by simp [sizeOf, typeInfo_run P t w hi]⟩
    · cases h
  · rename_i m e hd
    split at h
    · rename_i i hi
      simp at h; subst h
      exact ⟨by simp [isAgg, underlying_run P t w hd], by simp [sizeOf, typeInfo_run P t w hi]⟩
    · cases h
  · split at h
    · split at h <;> cases h
    · cases h
  · cases h

theorem partV_run {P : Program} {t : TypeId} {cs : List Value} {off : Nat} {r : Value} (h : partV P t cs off = some r) (w : World) :
    (part t ⟨cs⟩ off).run P w = .ok r w := by
  unfold partV at h
  split at h
  · rename_i hl
    obtain ⟨h1, h2⟩ := lieOf_one hl w
    rw [nth_eq] at h
    simp only [part, Sem.run_bind, h1, Result.andThen_ok]
    simp [h]
  · rename_i n hl
    obtain ⟨h1, h2⟩ := lieOf_agg hl w
    split at h
    · rename_i l ht
      simp at h; subst h
      obtain ⟨h3, h4⟩ := takeL_eq _ _ _ ht
      rw [dropL_eq] at h3
      simp only [part, Sem.run_bind, h1, Result.andThen_ok]
      simp only [if_true, Sem.run_bind, h2, Result.andThen_ok, Sem.run_pure]
      congr 2
      subst h3
      have : (⟨cs⟩ : Array Value).extract off (off + n) = ⟨(cs.drop off).take n⟩ := by
        apply Array.ext'
        simp
      rw [this]
    · cases h
  · cases h

theorem vals_map {ρ : Operand → Option Core} {ρ' : Operand → Value} {bx : Boxes} (hρ : ∀ x c, ρ x = some c → ρ' x = c.val bx) :
    ∀ (l : List Operand) (vs : List Value), vals ρ l = some vs → l.map ρ' = vs
  | [], vs, h => by simp [vals] at h; subst h; rfl
  | x :: r, vs, h => by
    simp only [vals] at h
    split at h
    · rename_i a ha
      split at h
      · rename_i l hl
        simp at h; subst h
        simp [vals_map hρ r l hl, hρ x _ ha, Core.val]
      · cases h
    · cases h

theorem cellsOf_eq (v : Value) : v.cells = ⟨cellsOf v⟩ := by
  cases v <;> rfl

theorem splice_nil : ∀ (n : Nat) (l : List Value), spliceL n [] l = l
  | 0, l => by cases l <;> rfl
  | n + 1, [] => rfl
  | n + 1, x :: l => by simp only [spliceL]; rw [splice_nil n l]

theorem splice_cons (v : Value) (vs : List Value) : ∀ (n : Nat) (l : List Value), n + vs.length < l.length →
    spliceL (n + 1) vs (l.set n v) = spliceL n (v :: vs) l
  | 0, [], h => by simp at h
  | 0, x :: l, h => by simp [spliceL]
  | n + 1, [], h => by simp at h
  | n + 1, x :: l, h => by
    simp only [List.set_cons_succ]
    rw [spliceL, spliceL, splice_cons v vs n l (by simp at h; omega)]

theorem splice_set : ∀ (vs l : List Value) (off : Nat), off + vs.length ≤ l.length →
    (vs.zipIdx 0).foldl (fun cs (p : Value × Nat) => cs.setIfInBounds (off + p.2) p.1) (⟨l⟩ : Array Value) = ⟨spliceL off vs l⟩ := by
  have key : ∀ (vs l : List Value) (off k : Nat), off + k + vs.length ≤ l.length →
      (vs.zipIdx k).foldl (fun cs (p : Value × Nat) => cs.setIfInBounds (off + p.2) p.1) (⟨l⟩ : Array Value) = ⟨spliceL (off + k) vs l⟩ := by
    intro vs
    induction vs with
    | nil =>
      intro l off k _
      simp only [List.zipIdx_nil, List.foldl_nil]
      rw [splice_nil]
    | cons v vs ih =>
      intro l off k h
      simp only [List.length_cons] at h
      simp only [List.zipIdx_cons, List.foldl_cons]
      have : (⟨l⟩ : Array Value).setIfInBounds (off + k) v = ⟨l.set (off + k) v⟩ := by simp [Array.setIfInBounds, show off + k < l.length by omega]
      rw [this, ih (l.set (off + k) v) off (k + 1) (by simp; omega)]
      congr 1
      generalize hn : off + k = n
      rw [show off + (k + 1) = n + 1 by omega]
      exact splice_cons v vs n l (by omega)
  intro vs l off h
  exact key vs l off 0 (by simpa using h)

theorem spliceL_length : ∀ (off : Nat) (vs l : List Value), (spliceL off vs l).length = l.length
  | 0, [], l => by simp [spliceL]
  | 0, v :: vs, x :: l => by simp [spliceL, spliceL_length 0 vs l]
  | 0, _ :: _, [] => by simp [spliceL]
  | n + 1, vs, x :: l => by simp [spliceL, spliceL_length n vs l]
  | _ + 1, _, [] => by simp [spliceL]

theorem fillL_run {place place' : Nat → Option (Nat × Nat)} {ρ : Operand → Option Core} {ρ' : Operand → Value} {bx : Boxes}
    (hρ : ∀ x c, ρ x = some c → ρ' x = c.val bx) (hp : ∀ i p, place i = some p → place' i = some p) : ∀ (parts : List (Nat × Operand)) (n : Nat) (cells l : List Value), cells.length = n →
    fillL place ρ n cells parts = some l → Instr.fill place' ⟨cells⟩ (parts.map fun p => (p.1, ρ' p.2)) = some ⟨l⟩
  | [], n, cells, l, hn, h => by simp [fillL] at h; subst h; rfl
  | (i, x) :: rest, n, cells, l, hn, h => by
    simp only [fillL] at h
    split at h
    · rename_i off size a hpl ha
      split at h
      · rename_i hb hl
        have hs := Nat.eq_of_beq_eq_true hb
        rw [leB_eq] at hl
        have ih := fillL_run hρ hp rest n (spliceL off (cellsOf a) cells) l (by rw [spliceL_length]; exact hn) h
        simp only [List.map_cons, Instr.fill, hp i _ hpl, hρ x _ ha, Core.val, cellsOf_eq]
        rw [if_neg (by simp; omega)]
        have := splice_set (cellsOf a) cells off (by omega)
        rw [← ih]
        congr 1
        rw [← this]
        simp
      · cases h
    · cases h

theorem buildV_run {P : Program} {t : TypeId} {ρ : Operand → Option Core} {ρ' : Operand → Value} {bx : Boxes} {parts : Array (Nat × Operand)} {r : Value}
    (hρ : ∀ x c, ρ x = some c → ρ' x = c.val bx) (h : buildV P t ρ parts.toList = some r) (w : World) :
    (Instr.build t (parts.map fun (i, x) => (i, ρ' x))).run P w = .ok r w := by
  unfold buildV at h
  split at h
  case h_2 => cases h
  rename_i i hi
  split at h
  case h_2 => cases h
  rename_i z hz
  have hzero : (zeroValue t).run P w = .ok z w := by simp [zeroValue, typeInfo_run P t w hi, hz]
  split at h
  · rename_i fs hu
    split at h
    case h_2 => cases h
    rename_i l hall hl
    simp at h; subst h
    have hm : ∀ (l : List Field), (l.all fun f => (P.info? f.type).isSome) = true →
        ∃ ps : List (Nat × Nat), (l.mapM fun f => (do pure (f.offset, ← sizeOf f.type) : Sem (Nat × Nat))).run P w = .ok ps w ∧ ∀ i, placeL P l i = ps[i]? := by
      intro l
      induction l with
      | nil => intro _; exact ⟨[], by simp, fun i => by simp [placeL]⟩
      | cons f l ih =>
        intro h
        simp only [List.all_cons, Bool.and_eq_true] at h
        obtain ⟨ps, h1, h2⟩ := ih h.2
        obtain ⟨j, hj⟩ := Option.isSome_iff_exists.1 h.1
        refine ⟨(f.offset, j.size) :: ps, ?_, ?_⟩
        · simp only [List.mapM_cons, Sem.run_bind, sizeOf, typeInfo_run P _ w hj, Result.andThen_ok, Sem.run_pure]
          simp only [sizeOf, Sem.run_bind] at h1
          rw [h1]
          simp
        · intro i
          cases i with
          | zero => simp [placeL, hj]
          | succ i => have := h2 i; simpa [placeL] using this
    obtain ⟨ps, h1, h2⟩ := hm fs.toList hall
    have hfill := fillL_run (place' := fun i => (⟨ps⟩ : Array (Nat × Nat))[i]?) hρ (fun i p hp => by rw [h2] at hp; simpa using hp) parts.toList _ _ l rfl hl
    unfold Instr.build
    simp only [Sem.run_bind, hzero, Result.andThen_ok, underlying_run P t w hu]
    have hmA : (fs.mapM fun f => (do pure (f.offset, ← sizeOf f.type) : Sem (Nat × Nat))).run P w = .ok ⟨ps⟩ w := by
      rw [Array.mapM_eq_mapM_toList]
      simp only [Sem.run_map, h1, Result.andThen_ok]
    simp only [hmA, Result.andThen_ok, cellsOf_eq]
    have he : (parts.map fun (x : Nat × Operand) => (x.1, ρ' x.2)).toList = parts.toList.map fun p => (p.1, ρ' p.2) := by simp
    have hfill' : Instr.fill (fun x => (⟨ps⟩ : Array (Nat × Nat))[x]?) ⟨cellsOf z⟩ (parts.map fun (x : Nat × Operand) => (x.1, ρ' x.2)).toList = some ⟨l⟩ := by rw [he]; exact hfill
    split
    · rename_i cells hc
      rw [hfill'] at hc
      simp at hc; subst hc; simp
    · rename_i hc
      rw [hfill'] at hc
      exact (hc _ rfl).elim
  · rename_i m e hu
    split at h
    case h_2 => cases h
    rename_i j hj
    split at h
    case h_2 => cases h
    rename_i l hl
    simp at h; subst h
    have hfill := fillL_run (place' := fun i => some (i * j.size, j.size)) hρ (fun i p hp => hp) parts.toList _ _ l rfl hl
    have he : (parts.map fun (x : Nat × Operand) => (x.1, ρ' x.2)).toList = parts.toList.map fun p => (p.1, ρ' p.2) := by simp
    rw [← he] at hfill
    unfold Instr.build
    have hs : (sizeOf e).run P w = .ok j.size w := by simp [sizeOf, typeInfo_run P e w hj]
    simp only [Sem.run_bind, hzero, Result.andThen_ok, underlying_run P t w hu, hs, cellsOf_eq]
    split
    · rename_i cells hc
      rw [hfill] at hc
      simp at hc; subst hc; simp
    · rename_i hc
      rw [hfill] at hc
      exact (hc _ rfl).elim
  · cases h

theorem vOf_some {x : Option Value} {c : Core} (h : vOf x = some c) : ∃ v, x = some v ∧ c = .v v := by
  cases x with
  | none => cases h
  | some v => simp [vOf] at h; exact ⟨v, rfl, h.symm⟩

theorem unV_run {P : Program} {o : UnOp} {a r : Value} (h : unV o a = some r) (w : World) : (Op.unary o a).run P w = .ok r w := by
  unfold unV at h
  split at h <;> simp at h <;> subst h <;> simp [Op.unary, Op.intArith, Op.intBits]

theorem fieldOff_run {P : Program} {t : TypeId} {i fo : Nat} (h : fieldOff P t i = some fo) (b off : Nat) (w : World) :
    (Instr.fieldAt t (.pointer (some ⟨b, off, none⟩)) i).run P w = .ok (.pointer (some ⟨b, off + fo, none⟩)) w := by
  unfold fieldOff at h
  split at h
  case h_2 => cases h
  rename_i fs hu
  split at h
  case h_2 => cases h
  rename_i f hf
  split at h
  case h_2 => cases h
  rename_i n hn
  split at h
  case h_1 => cases h
  rename_i m hm
  simp at h; subst h
  have hs : (sizeOf f.type).run P w = .ok (m + 1) w := by simp [sizeOf, typeInfo_run P _ w hn, hm]
  simp only [Instr.fieldAt, Sem.run_bind, underlying_run P t w hu, Result.andThen_ok, hf, Instr.sureAddr, fieldPlace, Sem.run_pure, hs]
  simp only [Addr.add]
  by_cases h0 : f.offset = 0
  · simp [h0]
  · simp [h0]

theorem builtinV_run {P : Program} {b : Builtin} {ts : Array TypeId} {ty : TypeId} {cs : Array Bool} {as : List Value} {r : Value}
    (h : builtinV P b ts.toList as = some r) (w : World) : (builtin b ts ty cs ⟨as⟩).run P w = .ok (.value r) w := by
  obtain ⟨ts⟩ := ts
  unfold builtinV at h
  split at h
  · split at h
    case h_2 => cases h
    rename_i x _ _ t ht
    simp only at ht; subst ht
    split at h <;> (try (cases h; done)) <;> rename_i hu <;> simp at h <;> subst h <;> simp [builtin, Builtin.len_, underlying_run P t w hu, goInt]
  · split at h
    case h_2 => cases h
    rename_i x _ _ t ht
    simp only at ht; subst ht
    split at h <;> (try (cases h; done)) <;> rename_i hu <;> simp at h <;> subst h <;> simp [builtin, Builtin.cap_, underlying_run P t w hu, goInt]
  · simp at h; subst h; simp [builtin, Builtin.min_, Builtin.min2]
  · simp at h; subst h; simp [builtin, Builtin.max_, Builtin.max2]
  · simp at h; subst h; simp [builtin, Builtin.min_, Builtin.min2]
  · cases h

theorem pureOp_run {P : Program} {o : Oper} {ρ : Operand → Option Core} {ρ' : Operand → Value} {bx : Boxes}
    (hρ : ∀ x c, ρ x = some c → ρ' x = c.val bx) {c : Core} (h : pureOp P o.op ρ = some c) (w : World) :
    (execOp ρ' o).run P w = .ok (.value (c.val bx)) w := by
  obtain ⟨dst, op, ty, pos, after, guard⟩ := o
  simp only at h
  unfold pureOp at h
  split at h
  · simp [execOp, hρ _ _ h]
  · simp [execOp, hρ _ _ h]
  · rename_i o t x y yt
    split at h
    · rename_i a b ha hb
      obtain ⟨v, hv, rfl⟩ := vOf_some h
      have := binV_run P o t x y a b v hv w
      simp only [execOp, hρ _ _ ha, hρ _ _ hb, Core.val, Sem.run_bind] at this ⊢
      rw [this]; simp
    · cases h
  · rename_i o t x
    split at h
    · rename_i a ha
      obtain ⟨v, hv, rfl⟩ := vOf_some h
      simp [execOp, hρ _ _ ha, Core.val, unV_run hv w]
    · cases h
  · rename_i x i
    split at h
    · rename_i vs ha
      obtain ⟨v, hv, rfl⟩ := vOf_some h
      rw [nth_eq] at hv
      simp [execOp, hρ _ _ ha, Core.val, Instr.extract, hv]
    · cases h
  · rename_i t x i
    split at h
    · rename_i fo hfo
      split at h
      · rename_i k off ha
        simp at h; subst h
        simp [execOp, hρ _ _ ha, Core.val, fieldOff_run hfo, plus_eq]
      · rename_i k off ha
        simp at h; subst h
        simp [execOp, hρ _ _ ha, Core.val, fieldOff_run hfo, plus_eq]
      · rename_i b off ha
        simp at h; subst h
        simp [execOp, hρ _ _ ha, Core.val, fieldOff_run hfo, plus_eq]
      · cases h
    · cases h
  · rename_i t x i
    split at h
    · rename_i cs fs ha hu
      split at h
      · rename_i f hf
        obtain ⟨v, hv, rfl⟩ := vOf_some h
        simp only [execOp, hρ _ _ ha, Core.val, Instr.field, Sem.run_bind, underlying_run P t w hu, Result.andThen_ok, hf, asAgg, Sem.run_pure, partV_run hv w]
      · cases h
    · cases h
  · rename_i t parts
    obtain ⟨v, hv, rfl⟩ := vOf_some h
    simp only [execOp, Sem.run_bind, buildV_run hρ hv w, Result.andThen_ok, Sem.run_pure, Core.val]
  · rename_i fn first captured
    split at h
    · rename_i a b ha hb
      simp at h; subst h
      have h1 := vals_map hρ _ _ ha
      have h2 := vals_map hρ _ _ hb
      have h1' : first.map ρ' = ⟨a⟩ := by apply Array.ext'; simp [h1]
      have h2' : captured.map ρ' = ⟨b⟩ := by apply Array.ext'; simp [h2]
      simp [execOp, Instr.makeFunc, h1', h2', Core.val]
    · cases h
  · rename_i x
    split at h
    · rename_i k off ha
      simp at h; subst h
      simp [execOp, hρ _ _ ha, Core.val]
    · rename_i k off ha
      simp at h; subst h
      simp [execOp, hρ _ _ ha, Core.val]
    · rename_i a ha
      simp at h; subst h
      simp [execOp, hρ _ _ ha, Core.val]
    · rename_i f a b ha
      simp at h; subst h
      simp [execOp, hρ _ _ ha, Core.val]
    · cases h
  · rename_i s t x
    split at h
    · rename_i k n ha
      split at h
      · rename_i d k hs ht
        simp at h; subst h
        simp [execOp, hρ _ _ ha, Core.val, convert, underlying_run P s w hs, underlying_run P t w ht, Conv.intToInt]
      · cases h
    · rename_i a ha
      split at h
      · rename_i d hs ht
        simp at h; subst h
        simp [execOp, hρ _ _ ha, Core.val, convert, underlying_run P s w hs, underlying_run P t w ht]
      · cases h
    · cases h
  · rename_i b args ts
    split at h
    · rename_i l hl
      obtain ⟨v, hv, rfl⟩ := vOf_some h
      have h1 := vals_map hρ _ _ hl
      have h1' : args.map ρ' = ⟨l⟩ := by apply Array.ext'; simp [h1]
      simp only [execOp, resolve, h1', Sem.run_bind, Sem.run_pure, Result.andThen_ok, invoke, builtinV_run hv w, Core.val]
    · cases h
  · cases h
end Go.Eng
