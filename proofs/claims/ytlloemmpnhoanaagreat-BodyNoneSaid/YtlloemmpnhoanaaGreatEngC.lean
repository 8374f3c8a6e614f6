/-
  The engine, part C: what a walk asks, operation by operation, region by region, code by code.
-/
import Derived.Test.YtlloemmpnhoanaaGreatEngB
set_option linter.all false
namespace Go.Eng
open Go

structure Cfg where
  /-- the slots that are kept from region to region -/
  keep : List Nat
  /-- the slots of private boxes -/
  priv : List Nat
  /-- and of what is reckoned from them -/
  pv : List Nat
  /-- regions that draw, in an order other than the text's -/
  ord : List (Nat × List Nat)
  /-- regions that draw, of which several orders are looked at -/
  trs : List (Nat × Tr) := []

def memB : Nat → List Nat → Bool
  | _, [] => false
  | n, k :: l => match Nat.beq k n with | true => true | false => memB n l

def clsOf (P : Program) (C : Cfg) (o : Oper) : Cls :=
  match o.op with
  | .load _ (.tmp t) => (match memB t C.pv with | true => .pb | false => .rd)
  | .load _ _ | .lookup .. => .rd
  | .call { callee := .builtin .len, .. } => .rd
  | .call { callee := .builtin .cap, .. } => .p0
  | .call { callee := .builtin .min, .. } => .p0
  | .call { callee := .builtin .max, .. } => .p0
  | .call _ => .ef
  | .alloc _ | .box _ _ | .buildSlice .. | .makeMap .. => .al
  | .store _ (.tmp t) _ => (match memB t C.pv with | true => .be | false => .ef)
  | .move _ | .assign _ | .pick .. | .build .. | .nilCheck _ | .unOp .. | .makeFunc .. | .slice .. | .fieldAddr .. | .field .. | .indexAddr .. | .index .. | .extract .. => .p0
  | .binOp op t _ _ _ => (match P.underlying t, op with
    | some (.float _), .add | some (.float _), .sub | some (.float _), .mul | some (.float _), .quo => .ef
    | _, _ => .p0)
  | .convert s t _ => (match P.underlying s, P.underlying t with
    | some (.int _), some (.int _) => .p0
    | some .string, some .string => .p0
    | _, _ => .ef)
  | _ => .ef

def optInt (ρ : Operand → Option Core) (d : Int) : Option Operand → Option Int
  | none => some d
  | some x => (match ρ x with | some (.v (.int _ n)) => some n | _ => none)

def byteN (s : ByteArray) (j : Nat) : Int := ((s.data.toList[j]?).getD 0).toNat

/-- something that leaves the world as it is, whatever it is -/
@[irreducible] def PureR (c : Option Bool) (P : Program) (s : Sem Value) (K : Value → Prop) : Prop := ∃ v, Under c (∀ w : World, s.run P w = .ok v w) ∧ K v

def shiftV (op : BinOp) (k : IntKind) (x y : Int) : Option Value :=
  match op with
  | .shl => some (.int k (k.wrap (x * 2 ^ (min y.toNat k.bits))))
  | .shr => some (.int k (x.fdiv (2 ^ (min y.toNat k.bits))))
  | _ => none

def optVal (ρ : Operand → Option Core) : Option Operand → Option (Option Value)
  | none => some none
  | some x => (match ρ x with | some (.v v) => some (some v) | _ => none)

def rdOnly (cls : Cls) (p : Prop) : Prop := match cls with | .rd => p | _ => False

def lookK (K : Core → Prop) (z : Value) (ok : Bool) (o : Option Value) : Prop :=
  match o, ok with
  | some v, true => K (.v (.tuple ⟨[v, .bool true]⟩))
  | some v, false => K (.v v)
  | none, true => K (.v (.tuple ⟨[z, .bool false]⟩))
  | none, false => K (.v z)

/-- operations that leave the world as it is and may fail, or look at memory -/
def vcRead (P : Program) (cls : Cls) (c : Option Bool) (op : Op) (ρ : Operand → Option Core) (bx : Boxes) (h : Heap) (K : Core → Prop) : Prop :=
  match op with
  | .load t x => (match cls, lieOf P t, ρ x with
    | .pb, some .one, some (.lp k off) => (match lookB bx k with
      | some (_, vs) => (match nth vs off with | some v => K (.v v) | none => False)
      | none => False)
    | .pb, some (.agg n), some (.lp k off) => (match lookB bx k with
      | some (_, vs) => (match takeL n (dropL off vs) with | some l => K (.v (.agg ⟨l⟩)) | none => False)
      | none => False)
    | .pb, some .one, some (.li k off) => (match lookB bx k with
      | some (_, vs) => NthR c vs off fun v => K (.v v)
      | none => False)
    | .rd, some .one, some (.v (.pointer (some ⟨b, off, none⟩))) => LoadR c h b off fun v => K (.v v)
    | .rd, some (.agg n), some (.v (.pointer (some ⟨b, off, none⟩))) => LoadN c h b off n fun vs => K (.v (.agg ⟨vs⟩))
    | _, _, _ => False)
  | .indexAddr t x i => (match ρ i with
    | some (.v (.int _ n)) => (match P.underlying t, ρ x with
      | some (.slice e), some (.v (.slice a len _)) => (match sizeOfT P e with
        | some s => IdxS c n len a s fun b off => K (.v (.pointer (some ⟨b, off, none⟩)))
        | none => False)
      | some (.array len e), some (.lp k off) => (match sizeOfT P e with
        | some s => IdxR c n len fun j => K (.li k (off + j * s))
        | none => False)
      | some (.array len e), some (.v (.pointer (some ⟨b, off, none⟩))) => (match sizeOfT P e with
        | some s => IdxR c n len fun j => K (.v (.pointer (some ⟨b, off + j * s, none⟩)))
        | none => False)
      | _, _ => False)
    | _ => False)
  | .index t x i => (match ρ i with
    | some (.v (.int _ n)) => (match P.underlying t, ρ x with
      | some .string, some (.v (.string s)) => IdxR c n s.size fun j => K (.v (.int .u8 (byteN s j)))
      | some (.array len e), some (.v (.agg ⟨cs⟩)) => (match lieOf P e with
        | some .one => IdxR c n len fun j => NthR c cs j fun v => K (.v v)
        | _ => False)
      | _, _ => False)
    | _ => False)
  | .binOp o xt x y _ => (match ρ x, ρ y with
    | some (.v (.string a)), some (.v (.string b)) => (match o with
      | .add => Need c (a.size + b.size ≤ 9223372036854775807) (K (.v (.string (a ++ b))))
      | _ => False)
    | some (.v (.int k a)), some (.v (.int k' b)) => (match o with
      | .quo => (match k == k' with | true => Need c (b ≠ 0) (K (.v (.int k (k.wrap (a.tdiv b))))) | false => False)
      | .rem => (match k == k' with | true => Need c (b ≠ 0) (K (.v (.int k (a.tmod b)))) | false => False)
      | .shl => Need c (0 ≤ b) (K (.v (.int k (k.wrap (a * 2 ^ (min b.toNat k.bits))))))
      | .shr => Need c (0 ≤ b) (K (.v (.int k (a.fdiv (2 ^ (min b.toNat k.bits))))))
      | _ => False)
    | some (.v a), some (.v b) => PureR c P (do eqGuard o xt x y a b; binOp o xt a b : Sem Value) fun v => K (.v v)
    | _, _ => False)
  | .slice t x lo hi (some mx) => (match ρ x, optVal ρ lo, optVal ρ hi, optVal ρ (some mx) with
    | some (.v xv), some lov, some hiv, some mxv => PureR c P (Instr.sliceAt t xv lov hiv mxv) fun v => K (.v v)
    | _, _, _, _ => False)
  | .slice t x lo hi none => (match P.underlying t, ρ x with
    | some .string, some (.v (.string s)) => (match optInt ρ 0 lo, optInt ρ s.size hi with
      | some l, some r => SliceR c l r s.size fun l r => K (.v (.string (s.extract l r)))
      | _, _ => False)
    | some (.slice e), some (.v (.slice a len cap)) => (match optInt ρ 0 lo, optInt ρ len hi, sizeOfT P e with
      | some l, some r, some s => SliceR c l r cap fun l r => K (.v (.slice (slA a cap l s) (r - l) (cap - l)))
      | _, _, _ => False)
    | some (.pointer _), some (.v xv) => (match optVal ρ lo, optVal ρ hi with
      | some lov, some hiv => PureR c P (Instr.sliceAt t xv lov hiv none) fun v => K (.v v)
      | _, _ => False)
    | some (.array _ _), some (.v xv) => (match optVal ρ lo, optVal ρ hi with
      | some lov, some hiv => PureR c P (Instr.sliceAt t xv lov hiv none) fun v => K (.v v)
      | _, _ => False)
    | _, _ => False)
  | .lookup t m k ok => (match P.underlying t, ρ m, ρ k with
    | some (.map kt et), some (.v (.map (some r))), some (.v kv) => (match P.underlying kt, P.info? et with
      | some kd, some i => (match kd, i.zero with
        | .int _, some z | .string, some z => rdOnly cls (LookR c h kd r kv (lookK K z ok))
        | _, _ => False)
      | _, _ => False)
    | some (.map kt et), some (.v (.map none)), some (.v kv) => (match P.underlying kt, P.info? et with
      | some kd, some i => (match kd, i.zero with
        | .int _, some z | .string, some z => lookK K z ok none
        | _, _ => False)
      | _, _ => False)
    | _, _, _ => False)
  | .call { callee := .builtin .len, args, argTypes } => (match args.toList, argTypes.toList with
    | [x], [t] => (match P.underlying t, ρ x with
      | some (.map _ _), some (.v (.map none)) => K (.v (.int .i64 0))
      | some (.map _ _), some (.v (.map (some r))) => (match cls with | .rd => LenR c h r fun n => K (.v (.int .i64 n)) | _ => False)
      | _, _ => False)
    | _, _ => False)
  | _ => False

def hasBody (P : Program) (f : Nat) : Bool :=
  match P.funcs[f]? with
  | some fn => fn.body.isSome && !(fn.name == "runtime.NumGoroutine")
  | none => false

def blocksOf : Boxes → List Nat
  | [] => []
  | (_, b, _) :: r => b :: blocksOf r

def zeroCellsL (P : Program) (t : TypeId) : Option (List Value) :=
  match P.info? t with
  | some i => (match i.zero with | some z => some (cellsOf z) | none => none)
  | none => none

/-- what a slot under a guard that doesn't hold may be said to have -/
def anyV (P : Program) (t : TypeId) : Value :=
  match P.info? t with
  | some i => (match i.zero with | some z => z | none => undef)
  | none => undef

def repL (n : Nat) (l : List Value) : List Value := match n with | 0 => [] | n + 1 => l ++ repL n l

def oneV : Value → Bool
  | .agg _ | .tuple _ => false
  | _ => true
def allOne : List Value → Bool
  | [] => true
  | v :: r => (match oneV v with | true => allOne r | false => false)

/-- a function without a body, that yields a value -/
def extCall (f : FuncId) (args : Array Value) : Sem Value := do
  match ← callFunc f args with
  | .value v => pure v
  | _ => stuck "extCall"

/-- operations that make blocks, write, or call -/
def vcEff (P : Program) (C : Cfg) (cls : Cls) (o : Oper) (ρ : Operand → Option Core) (bx : Boxes) (h : Heap) (K : Core → Boxes → Heap → Prop) : Prop :=
  match o.op with
  | .box e x => (match ρ x with
    | some (.v v) => (match o.dst with
      | some d => (match memB d C.priv with
        | true => (match lookB bx d with
          | none => AllocR h (.cells ⟨cellsOf v⟩ e) fun b h' => K (.lp d 0) (setB d b (cellsOf v) bx) h'
          | some _ => False)
        | false => AllocR h (.cells ⟨cellsOf v⟩ e) fun b h' => K (.v (.pointer (some ⟨b, 0, none⟩))) bx h')
      | none => False)
    | _ => False)
  | .alloc e => (match zeroCellsL P e, o.dst with
    | some l, some d => (match memB d C.priv with
      | true => (match lookB bx d with
        | none => AllocR h (.cells ⟨l⟩ e) fun b h' => K (.lp d 0) (setB d b l bx) h'
        | some _ => False)
      | false => AllocR h (.cells ⟨l⟩ e) fun b h' => K (.v (.pointer (some ⟨b, 0, none⟩))) bx h')
    | _, _ => False)
  | .buildSlice t n parts => (match P.underlying t with
    | some (.slice e) => (match zeroCellsL P e, sizeOfT P e with
      | some z, some s => (match Nat.ble (n * s) 16777216, Nat.beq z.length s, fillL (fun i => some (i * s, s)) ρ (n * s) (repL n z) parts.toList with
        | true, true, some l => AllocR h (.cells ⟨l⟩ e) fun b h' => K (.v (.slice (some ⟨b, 0, none⟩) n n)) bx h'
        | _, _, _ => False)
      | _, _ => False)
    | _ => False)
  | .makeMap _ none => AllocR h (.map #[] 0) fun b h' => K (.v (.map (some b))) bx h'
  | .store t a x => (match cls, ρ x with
    | .be, some (.v v) => (match ρ a, lieOf P t with
      | some (.lp k off), some l => (match lookB bx k, sizeOfT P t with
        | some (b, vs), some s => (match Nat.beq (cellsOf v).length s, leB (off + s) vs.length, allOne (cellsOf v) with
          | true, true, true => BoxR h b fun h' => K (.v undef) (setB k b (spliceL off (cellsOf v) vs) bx) h'
          | _, _, _ => False)
        | _, _ => False)
      | some (.li k off), some l => (match lookB bx k, sizeOfT P t with
        | some (b, vs), some s => (match Nat.beq (cellsOf v).length s, allOne (cellsOf v) with
          | true, true => Need none (off + s ≤ vs.length) (BoxR h b fun h' => K (.v undef) (setB k b (spliceL off (cellsOf v) vs) bx) h')
          | _, _ => False)
        | _, _ => False)
      | _, _ => False)
    | .ef, some (.v v) => (match ρ a, lieOf P t, sizeOfT P t with
      | some (.v (.pointer (some ⟨b, off, none⟩))), some l, some s => (match Nat.beq (cellsOf v).length s, allOne (cellsOf v) with
        | true, true => StoreR h b off (cellsOf v) (blocksOf bx) fun h' => K (.v undef) bx h'
        | _, _ => False)
      | _, _, _ => False)
    | _, _ => False)
  | .mapUpdate t m k x | .insert t m k x => (match ρ m, ρ k, ρ x with
    | some (.v m), some (.v k), some (.v x) => SemR P (Instr.mapUpdate t m k x) (blocksOf bx) h fun _ h' => K (.v undef) bx h'
    | _, _, _ => False)
  | .makeSlice t l c => (match ρ l, ρ c with
    | some (.v l), some (.v c) => SemR P (Instr.makeSlice t l c) (blocksOf bx) h fun v h' => K (.v v) bx h'
    | _, _ => False)
  | .convert s t x => (match ρ x with
    | some (.v x) => SemR P (convert s t x) (blocksOf bx) h fun v h' => K (.v v) bx h'
    | _ => False)
  | .range t x => (match ρ x with
    | some (.v x) => SemR P (Instr.range t x) (blocksOf bx) h fun v h' => K (.v v) bx h'
    | _ => False)
  | .next it s => (match ρ it with
    | some (.v it) => SemR P (Instr.next it s o.type) (blocksOf bx) h fun v h' => K (.v v) bx h'
    | _ => False)
  | .entry it => (match ρ it with
    | some (.v it) => SemR P (Instr.entry it) (blocksOf bx) h fun v h' => K (.v v) bx h'
    | _ => False)
  | .mapEntry t m k => (match ρ m, ρ k with
    | some (.v m), some (.v k) => SemR P (Instr.mapEntry t m k) (blocksOf bx) h fun v h' => K (.v v) bx h'
    | _, _ => False)
  | .entryStore t m s x => (match ρ m, ρ s, ρ x with
    | some (.v m), some (.v s), some (.v x) => SemR P (Instr.entryStore t m s x) (blocksOf bx) h fun _ h' => K (.v undef) bx h'
    | _, _, _ => False)
  | .binOp op t x y _ => (match ρ x, ρ y with
    | some (.v a), some (.v b) => SemR P (do eqGuard op t x y a b; binOp op t a b : Sem Value) (blocksOf bx) h fun v h' => K (.v v) bx h'
    | _, _ => False)
  | .call { callee := .builtin b, args, argTypes } => (match vals ρ args.toList with
    | some as => (match b with
      | .append => SemR P (Builtin.append_ argTypes o.type ⟨as⟩) (blocksOf bx) h fun v h' => K (.v v) bx h'
      | .copy => SemR P (Builtin.copy_ argTypes o.type ⟨as⟩) (blocksOf bx) h fun v h' => K (.v v) bx h'
      | .delete => SemR P (Builtin.delete_ argTypes o.type ⟨as⟩) (blocksOf bx) h fun v h' => K (.v v) bx h'
      | .clear => SemR P (Builtin.clear_ argTypes o.type ⟨as⟩) (blocksOf bx) h fun v h' => K (.v v) bx h'
      | .unsafeSliceData => SemR P (Builtin.unsafeSliceData_ argTypes o.type ⟨as⟩) (blocksOf bx) h fun v h' => K (.v v) bx h'
      | .unsafeString => SemR P (Builtin.unsafeString_ argTypes o.type ⟨as⟩) (blocksOf bx) h fun v h' => K (.v v) bx h'
      | _ => False)
    | none => False)
  | .call { callee := .value f, args, .. } => (match ρ f, vals ρ args.toList with
    | some (.v (.func (.func f) ⟨first⟩ ⟨captured⟩)), some as => (match hasBody P f with
      | true => CallR P f (first ++ as ++ captured) (blocksOf bx) h fun v h' => K (.v v) bx h'
      | false => SemR P (extCall f ⟨first ++ as ++ captured⟩) (blocksOf bx) h fun v h' => K (.v v) bx h')
    | _, _ => False)
  | _ => False

def isEff : Cls → Bool
  | .al | .ef | .be => true
  | _ => false

def freeG (all : List Oper) (d : Nat) : EnvG → Bool
  | [] => true
  | (t, j, _, _) :: r => match Nat.beq t d with
    | true => false
    | false => (match dstOf all j with
      | some d' => (match Nat.beq d' d with | true => false | false => freeG all d r)
      | none => freeG all d r)

/-- slots are written: outright, or under a guard -/
def putE (all : List Oper) (dst : Option Nat) (g : Option (Nat × Bool)) (c : Core) (e : EnvC) (eg : EnvG) (K : EnvC → EnvG → Prop) : Prop :=
  match dst with
  | none => K e eg
  | some d => (match freeG all d eg with
    | true => (match g with
      | none => K ((d, c) :: e) eg
      | some (j, w) => (match dstOf all j with
        | some d' => (match Nat.beq d' d with | true => False | false => K e ((d, j, w, c) :: eg))
        | none => False))
    | false => False)

def pickOr (all : List Oper) (P : Program) (g : Option (Nat × Bool)) (e : EnvC) (eg : EnvG) (op : Op) : Option Core :=
  match op with
  | .pick c x y => pickOp all g e eg c x y
  | op => pureOp P op (rd all g e eg)

/-- one operation under a guard that stands (or none) -/
def vcOp (P : Program) (C : Cfg) (all : List Oper) (o : Oper) (g : Option (Nat × Bool)) (c : Option Bool) (e : EnvC) (eg : EnvG) (bx : Boxes) (h : Heap) (K : EnvC → EnvG → Boxes → Heap → Prop) : Prop :=
  match pickOr all P g e eg o.op with
  | some x => putE all o.dst g x e eg fun e eg => K e eg bx h
  | none => (match isEff (clsOf P C o), g with
    | false, _ => vcRead P (clsOf P C o) c o.op (rd all g e eg) bx h fun x => putE all o.dst g x e eg fun e eg => K e eg bx h
    | true, none => vcEff P C (clsOf P C o) o (rd all g e eg) bx h fun x bx h => putE all o.dst none x e eg fun e eg => K e eg bx h
    | true, some _ => False)

def vcOps (P : Program) (C : Cfg) (all : List Oper) (K : EnvC → EnvG → Boxes → Heap → Prop) : List Oper → EnvC → EnvG → Boxes → Heap → Prop
  | [], e, eg, bx, h => K e eg bx h
  | o :: os, e, eg, bx, h => (match o.guard with
    | none => vcOp P C all o none none e eg bx h fun e eg bx h => vcOps P C all K os e eg bx h
    | some (j, w) => (match condOf all e eg 9 j w with
      | some c => (match isEff (clsOf P C o) with
        | false => vcOp P C all o (some (j, w)) (some c) e eg bx h fun e eg bx h => vcOps P C all K os e eg bx h
        | true => IfR c
            (vcOpE P C all o (some (j, w)) e eg bx h fun e eg bx h => vcOps P C all K os e eg bx h)
            (putE all o.dst (some (j, w)) (.v (anyV P o.type)) e eg fun e eg => vcOps P C all K os e eg bx h))
      | none => False))
where
  /-- an effect under a guard that is known to hold -/
  vcOpE (P : Program) (C : Cfg) (all : List Oper) (o : Oper) (g : Option (Nat × Bool)) (e : EnvC) (eg : EnvG) (bx : Boxes) (h : Heap) (K : EnvC → EnvG → Boxes → Heap → Prop) : Prop :=
    match pickOr all P g e eg o.op with
    | some x => putE all o.dst none x e eg fun e eg => K e eg bx h
    | none => vcEff P C (clsOf P C o) o (rd all g e eg) bx h fun x bx h => putE all o.dst none x e eg fun e eg => K e eg bx h

/-- what is kept behind a region -/
def keepE : List Nat → EnvC → (EnvC → Prop) → Prop
  | [], _, K => K []
  | t :: L, e, K => (match lookC e t with
    | some c => keepE L e fun e' => K ((t, c) :: e')
    | none => keepE L e K)


/-- the same, behind a region: what stood under a guard is forgotten -/
def keepG : List Nat → EnvC → EnvG → (EnvC → Prop) → Prop
  | [], _, _, K => K []
  | t :: L, e, eg, K => (match lookG eg t with
    | some _ => keepG L e eg K
    | none => (match lookC e t with
      | some c => keepG L e eg fun e' => K ((t, c) :: e')
      | none => keepG L e eg K))

/-- no slot leads into a box that is forgotten -/
def coresIn (bx : Boxes) : EnvC → Bool
  | [] => true
  | (_, .v _) :: r => coresIn bx r
  | (_, .lp k _) :: r => (match lookB bx k with | some _ => coresIn bx r | none => false)
  | (_, .li k _) :: r => (match lookB bx k with | some _ => coresIn bx r | none => false)

def properB : Boxes → Bool
  | [] => true
  | (k, _, _) :: r => (match lookB r k with | some _ => false | none => properB r)

def keepB : List Nat → Boxes → (Boxes → Prop) → Prop
  | [], _, K => K []
  | k :: L, bx, K => (match lookB bx k with
    | some (b, vs) => keepB L bx fun bx' => K ((k, b, vs) :: bx')
    | none => keepB L bx K)

/-- what is kept at a loop's head -/
def keepS (L B : List Nat) (e : EnvC) (bx : Boxes) (K : EnvC → Boxes → Prop) : Prop :=
  keepE L e fun e => keepB B bx fun bx => match coresIn bx e, properB bx with
    | true, true => K e bx
    | _, _ => False

abbrev Post := Exit → EnvC → Boxes → Heap → Prop

/-- a loop: the slots and boxes that are kept at its head, and what holds there -/
@[irreducible] def LoopR (body : Post → EnvC → Boxes → Heap → Prop) (Q : Post) (e : EnvC) (bx : Boxes) (h : Heap) : Prop :=
  ∃ (L B : List Nat) (I : Nat → EnvC → Boxes → Heap → Prop), (∃ d, keepS L B e bx fun e bx => I d e bx h) ∧
    ∀ d e bx h, I d e bx h → body (fun x e bx h => match x with
      | .normal => ∃ d', d' < d ∧ keepS L B e bx fun e bx => I d' e bx h
      | x => Q x e bx h) e bx h

/-- ways that meet again -/
@[irreducible] def MeetR (first : Post → EnvC → Boxes → Heap → Prop) (rest : EnvC → Boxes → Heap → Prop) (Q : Post) (e : EnvC) (bx : Boxes) (h : Heap) : Prop :=
  first (fun x e bx h => match x with | .normal => rest e bx h | x => Q x e bx h) e bx h

/-- how often a block is left by its number -/
def exitsB (id : Nat) : Code → Nat
  | .exit j => (match Nat.beq j id with | true => 1 | false => 0)
  | .seq a b | .cond _ a b => exitsB id a + exitsB id b
  | .block _ b | .loop b | .scope b => exitsB id b
  | _ => 0

/-- may the code end in the common way? -/
def fallsB : Code → Bool
  | .ret => false
  | .exit _ => false
  | .goto _ => false
  | .loop _ => false
  | .seq a b => (match fallsB a with | true => fallsB b | false => false)
  | .cond _ a b => (match fallsB a with | true => true | false => fallsB b)
  | .block id b => (match exitsB id b with | 0 => fallsB b | _ + 1 => true)
  | _ => true

/-- do several ways lead to what follows? -/
def forks : Code → Bool
  | .cond _ a b => (match fallsB a with | true => fallsB b | false => (match fallsB b with | true => forks b | false => false))
  | .seq _ b => forks b
  | .scope b => forks b
  | .block id b => (match exitsB id b, fallsB b with
    | 0, true => forks b
    | 0, false => false
    | 1, false => false
    | _, _ => true)
  | _ => false

def permL (all : List Oper) : List Nat → List Oper
  | [] => []
  | k :: l => (match nthO all k with | some o => o :: permL all l | none => permL all l)
where nthO : List Oper → Nat → Option Oper
  | [], _ => none
  | o :: _, 0 => some o
  | _ :: r, n + 1 => nthO r n

def ordOf : List (Nat × List Nat) → Nat → Option (List Nat)
  | [], _ => none
  | (k, l) :: r, n => (match Nat.beq k n with | true => some l | false => ordOf r n)

/-- two orders -/
@[irreducible] def BothR (a b : Prop) : Prop := a ∧ b
def trOf : List (Nat × Tr) → Nat → Option Tr
  | [], _ => none
  | (k, l) :: r, n => (match Nat.beq k n with | true => some l | false => trOf r n)
def vcT (P : Program) (C : Cfg) (all : List Oper) (K : EnvC → EnvG → Boxes → Heap → Prop) : Tr → EnvC → EnvG → Boxes → Heap → Prop
  | .nil, e, eg, bx, h => K e eg bx h
  | .cons k t, e, eg, bx, h => (match permL.nthO all k with
    | some o => vcOps P C all (fun e eg bx h => vcT P C all K t e eg bx h) [o] e eg bx h
    | none => False)
  | .both s t, e, eg, bx, h => BothR (vcT P C all K s e eg bx h) (vcT P C all K t e eg bx h)

def vc (P : Program) (C : Cfg) : Code → Post → EnvC → Boxes → Heap → Prop
  | .skip, Q, e, bx, h => Q .normal e bx h
  | .label _, Q, e, bx, h => Q .normal e bx h
  | .exit id, Q, e, bx, h => Q (.exit id) e bx h
  | .ret, Q, e, bx, h => Q .ret e bx h
  | .seq a b, Q, e, bx, h => (match forks a with
    | true => MeetR (fun Q e bx h => vc P C a Q e bx h) (fun e bx h => vc P C b Q e bx h) Q e bx h
    | false => vc P C a (fun x e bx h => match x with | .normal => vc P C b Q e bx h | x => Q x e bx h) e bx h)
  | .cond c a b, Q, e, bx, h => (match rd [] none e [] c with
    | some (.v (.bool t)) => IfR t (vc P C a Q e bx h) (vc P C b Q e bx h)
    | _ => False)
  | .block id b, Q, e, bx, h => vc P C b (fun x e bx h => match x with
    | .exit j => (match Nat.beq j id with | true => Q .normal e bx h | false => Q (.exit j) e bx h)
    | x => Q x e bx h) e bx h
  | .loop b, Q, e, bx, h => LoopR (fun Q e bx h => vc P C b Q e bx h) Q e bx h
  | .scope b, Q, e, bx, h => vc P C b (fun x e bx h => match x with | .goto _ => False | x => Q x e bx h) e bx h
  | .region id ops false, Q, e, bx, h => vcOps P C ops.toList (fun e eg bx h => keepG C.keep e eg fun e => Q .normal e bx h) ops.toList e [] bx h
  | .region id ops true, Q, e, bx, h => (match trOf C.trs id with
    | some t => vcT P C ops.toList (fun e eg bx h => keepG C.keep e eg fun e => Q .normal e bx h) t e [] bx h
    | none => match ordOf C.ord id with
    | none => vcOps P C ops.toList (fun e eg bx h => keepG C.keep e eg fun e => Q .normal e bx h) ops.toList e [] bx h
    | some l => vcOps P C ops.toList (fun e eg bx h => keepG C.keep e eg fun e => Q .normal e bx h) (permL ops.toList l) e [] bx h)
  | _, _, _, _, _ => False

def clsAt (P : Program) (C : Cfg) (ops : Array Oper) (k : Nat) : Cls := match ops[k]? with | some o => clsOf P C o | none => .p0

/-- what is asked of a code once, by the kernel -/
def codeOK (P : Program) (C : Cfg) (n : Nat) : Code → Bool
  | .seq a b | .cond _ a b => codeOK P C n a && codeOK P C n b
  | .block _ b | .loop b | .scope b => codeOK P C n b
  | .region id ops d => ops.all (fun o => match o.dst with | some t => decide (t < n) | none => true) && (!d ||
      (match trOf C.trs id with
       | some t => decide (t.len = ops.size) && Region.noSelect ops && drawT ops (clsAt P C ops) t (Array.replicate ops.size false)
       | none =>
       let l := (ordOf C.ord id).getD (List.range ops.size)
       decide (l.length = ops.size) && l.all (fun k => decide (k < ops.size)) && Region.noSelect ops && drawB ops (clsAt P C ops) l (Array.replicate ops.size false)))
  | _ => true

end Go.Eng
