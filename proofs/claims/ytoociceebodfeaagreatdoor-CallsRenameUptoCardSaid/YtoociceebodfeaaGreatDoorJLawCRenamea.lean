/-
  Joined texts: EngA, EngD, EngB, EngC, EngS.
-/
import Derived.OrdersHeld
import Derived.Calls
import Derived.Laws.Sem
set_option linter.all false
namespace Go.aN
open Go
abbrev Heap:=Array Obj
def Heap.cell? (h:Heap)(b o:Nat):Option Value:=
 match h[b]? with
 | some (.cells c _ _)=>c[o]?
 | _=>none
theorem uM (w:World)(b o:Nat):w.cell? ⟨b,o,none⟩=Heap.cell? w.heap b o:=by
 unfold World.cell? Heap.cell?;cases w.heap[b]? with
 | none=>rfl
 | some x=>cases x <;> rfl
inductive Core where
 | v (x:Value)
 | lp (k off:Nat)
 | li (k off:Nat)
structure AV where
 g:Option (Nat×Bool)
 c:Core
abbrev Env:=List (Nat×AV)
abbrev bA:=List (Nat×Nat×List Value)
def dS:bA->Nat->Option (Nat×List Value)
 | [],_=>none
 | (k,b,vs)::e,t=>match Nat.beq k t with | true=>some (b,vs) | false=>dS e t
def aZ (k b:Nat)(vs:List Value):bA->bA
 | []=>[(k,b,vs)]
 | (k',b',vs')::r=>match Nat.beq k' k with | true=>(k,b,vs)::r | false=>(k',b',vs')::aZ k b vs r
def nth:List Value->Nat->Option Value
 | [],_=>none
 | v::_,0=>some v
 | _::r,n+1=>nth r n
theorem nN:∀ (l:List Value) (n:Nat),nth l n=l[n]?
 | [],_=>by simp [nth]
 | _::_,0=>by simp [nth]
 | _::r,n+1=>by simp [nth,nN r n]
def pz:Nat->List Value->List Value
 | 0,l=>l
 | _+1,[]=>[]
 | n+1,_::r=>pz n r
theorem yI:∀ (n:Nat) (l:List Value),pz n l=l.drop n
 | 0,l=>by simp [pz]
 | n+1,[]=>by simp [pz]
 | n+1,_::r=>by simp [pz,yI n r]
def pu:Nat->List Value->Option (List Value)
 | 0,_=>some []
 | _+1,[]=>none
 | n+1,v::r=>match pu n r with | some l=>some (v::l) | none=>none
theorem yH:∀ (n:Nat) (l l':List Value),pu n l=some l'->l'=l.take n/\l'.length=n
 | 0,l,l',h=>by simp [pu] at h;subst h;simp
 | n+1,[],l',h=>by simp [pu] at h
 | n+1,v::r,l',h=>by
  simp only [pu] at h;split at h
  ·rename_i l hl;obtain ⟨h1,h2⟩:=yH n r l hl;simp at h;subst h;refine ⟨?_,by simp [h2]⟩;rw [List.take_succ_cons,<-h1]
  ·simp at h
inductive K3 where
 | one
 | agg (n:Nat)
def oF (P:Program)(t:TypeId):Option K3:=
 match P.underlying t with
 | some (.struct _) | some (.array _ _)=>(match P.info? t with | some i=>some (.agg i.size) | none=>none)
 | some _=>(match P.info? t with | some i=>(match Nat.beq i.size 1 with | true=>some .one | false=>none) | none=>none)
 | none=>none
def pG (P:Program)(t:TypeId):Option Nat:=match P.info? t with|some i=>some i.size|none=>none
def Fh (P:Program)(t:TypeId)(i:Nat):Option Nat:=
 match P.underlying t with
 | some (.struct fs)=>(match fs[i]? with
  | some f=>(match P.info? f.type with | some n=>(match n.size with | 0=>none | _+1=>some f.offset) | none=>none)
  | none=>none)
 | _=>none
def plus (a:Nat):Nat->Nat
 | 0=>a
 | n+1=>a+(n+1)
theorem Fj (a n:Nat):plus a n=a+n:=by cases n <;> rfl
def blk (bx:bA)(k:Nat):Nat:=match dS bx k with|some (b,_)=>b|none=>0
def Core.val (bx:bA):Core->Value
 | .v x=>x
 | .lp k off=>.pointer (some ⟨blk bx k,off,none⟩)
 | .li k off=>.pointer (some ⟨blk bx k,off,none⟩)
def Li (op:BinOp)(k:IntKind)(x y:Int):Option Value:=
 match op with
 | .add=>some (.int k (k.wrap (x+y)))
 | .sub=>some (.int k (k.wrap (x-y)))
 | .mul=>some (.int k (k.wrap (x*y)))
 | .and=>some (.int k (k.wrap ((BitVec.ofInt k.bits x &&& BitVec.ofInt k.bits y).toNat)))
 | .or=>some (.int k (k.wrap ((BitVec.ofInt k.bits x ||| BitVec.ofInt k.bits y).toNat)))
 | .xor=>some (.int k (k.wrap ((BitVec.ofInt k.bits x ^^^ BitVec.ofInt k.bits y).toNat)))
 | .andNot=>some (.int k (k.wrap ((BitVec.ofInt k.bits x &&& ~~~BitVec.ofInt k.bits y).toNat)))
 | .eql=>some (.bool (x==y))
 | .neq=>some (.bool (x != y))
 | .lss=>some (.bool (decide (x<y)))
 | .leq=>some (.bool (decide (x<=y)))
 | .gtr=>some (.bool (decide (x>y)))
 | .geq=>some (.bool (decide (x>=y)))
 | _=>none
def Lj (op:BinOp)(x y:ByteArray):Option Value:=
 match op with
 | .eql=>some (.bool (x.toList==y.toList))
 | .neq=>some (.bool (!(x.toList==y.toList)))
 | .lss=>some (.bool (Op.bytesLess x.toList y.toList))
 | .leq=>some (.bool (Op.bytesLess x.toList y.toList||x.toList==y.toList))
 | .gtr=>some (.bool (!(Op.bytesLess x.toList y.toList||x.toList==y.toList)))
 | .geq=>some (.bool (!Op.bytesLess x.toList y.toList))
 | _=>none
def sN (P:Program)(t:TypeId)(a b:Value):Option Bool:=
 match P.underlying t,a,b with
 | some .bool,.bool x,.bool y=>some (x==y)
 | some (.pointer _),.pointer none,.pointer b=>some b.isNone
 | some (.pointer _),.pointer (some _),.pointer none=>some false
 | some (.slice _),.slice none _ _,.slice b _ _=>some b.isNone
 | some (.slice _),.slice (some _) _ _,.slice none _ _=>some false
 | some (.map _ _),.map none,.map b=>some b.isNone
 | some (.map _ _),.map (some _),.map none=>some false
 | some (.func _ _ _),.nilFunc,.nilFunc=>some true
 | some (.func _ _ _),.func _ _ _,.nilFunc=>some false
 | _,_,_=>none
def Fp (P:Program)(op:BinOp)(t:TypeId)(a b:Value):Option Value:=
 match a,b with
 | .int k x,.int k' y=>(match k==k' with | true=>Li op k x y | false=>none)
 | .string x,.string y=>Lj op x y
 | a,b=>(match op with
  | .eql=>(match sN P t a b with | some r=>some (.bool r) | none=>none)
  | .neq=>(match sN P t a b with | some r=>some (.bool (!r)) | none=>none)
  | _=>none)
theorem qc (P:Program)(op:BinOp)(t:TypeId)(x y:Operand)(a b:Value)(w:World)
 (h1:¬ (a=.nilIface/\b=.nilIface)) (h2:∀ c,a≠.agg c):(eqGuard op t x y a b).run P w=.ok () w:=by
 have key:∀ o:BinOp,(o=.eql\/o=.neq)->(eqGuard o t x y a b).run P w=.ok () w:=by
  intro o ho;rcases ho with rfl|rfl
  all_goals
   cases a <;> first|(exact absurd rfl (h2 _))|rfl|(cases b <;> first|rfl|(exact absurd ⟨rfl,rfl⟩ h1))
 cases op <;> first|rfl|exact key _ (.inl rfl)|exact key _ (.inr rfl)
theorem dK (P:Program)(t:TypeId)(w:World){d:TypeDesc}(h:P.underlying t=some d):(underlying t).run P w=.ok d w:=by
 simp [underlying,h]
theorem gZ (P:Program)(t:TypeId)(w:World){d:TypeInfo}(h:P.info? t=some d):(typeInfo t).run P w=.ok d w:=by
 simp [typeInfo,h]
theorem Ll (P:Program)(t:TypeId)(a b:Value)(r:Bool)(h:sN P t a b=some r)(w:World) :
 (Op.equal t a b).run P w=.ok r w:=by
 unfold Op.equal;unfold Op.maxDepth;unfold Op.equalIn;unfold sN at h;split at h <;> simp at h <;> subst h <;> simp [underlying, *]
theorem Lm (P:Program)(t:TypeId)(a b:Value)(r:Bool)(h:sN P t a b=some r) :
 ¬ (a=.nilIface/\b=.nilIface)/\∀ c,a≠.agg c:=by
 unfold sN at h;split at h <;> simp at h <;> simp
theorem TP (P:Program)(op:BinOp)(t:TypeId)(x y:Operand)(a b:Value)(r:Value)(h:Fp P op t a b=some r)(w:World) :
 (do eqGuard op t x y a b;binOp op t a b:Sem Value).run P w=.ok r w:=by
 unfold Fp at h;split at h
 ·rename_i k x' k' y';split at h
  ·rename_i hk;have hk':k=k':=by simpa using hk
   subst hk';simp only [Sem.run_bind];rw [qc _ _ _ _ _ _ _ _ (by simp) (by simp)];simp only [Result.andThen_ok];cases op <;> simp [Li] at h <;> subst h <;> simp [binOp,Op.intArith,Op.intBits,Op.intCmp]
  ·cases h
 ·rename_i x' y';simp only [Sem.run_bind];rw [qc _ _ _ _ _ _ _ _ (by simp) (by simp)];simp only [Result.andThen_ok];cases op <;> simp [Lj] at h <;> subst h <;> simp [binOp,Op.stringOp]
 ·rename_i h1 h2;split at h
  ·split at h
   ·rename_i r' hr;have hn:=Lm P t a b r' hr;simp only [Sem.run_bind];rw [qc _ _ _ _ _ _ _ _ hn.1 hn.2];simp only [Result.andThen_ok];simp at h;subst h;have he:=Ll P t a b r' hr w;unfold sN at hr;split at hr <;> simp at hr <;> simp [binOp,he, *]
   ·cases h
  ·split at h
   ·rename_i r' hr;have hn:=Lm P t a b r' hr;simp only [Sem.run_bind];rw [qc _ _ _ _ _ _ _ _ hn.1 hn.2];simp only [Result.andThen_ok];simp at h;subst h;have he:=Ll P t a b r' hr w;unfold sN at hr;split at hr <;> simp at hr <;> simp [binOp,he, *]
   ·cases h
  ·cases h
def rq:Option Value->Option Core
 | some x=>some (.v x)
 | none=>none
def Fq (op:UnOp)(a:Value):Option Value:=
 match op,a with
 | .not,.bool b=>some (.bool (!b))
 | .neg,.int k n=>some (.int k (k.wrap (0-n)))
 | .xor,.int k n=>some (.int k (k.wrap ((BitVec.ofInt k.bits (if k.signed then -1 else k.max) ^^^ BitVec.ofInt k.bits n).toNat)))
 | _,_=>none
def uQ (P:Program)(t:TypeId)(cs:List Value)(off:Nat):Option Value:=
 match oF P t with
 | some .one=>nth cs off
 | some (.agg n)=>(match pu n (pz off cs) with | some l=>some (.agg ⟨l⟩) | none=>none)
 | none=>none
def bF:Nat->List Value->List Value->List Value
 | 0,[],l=>l
 | 0,v::vs,_::l=>v::bF 0 vs l
 | 0,_::_,[]=>[]
 | n+1,vs,x::l=>x::bF n vs l
 | _+1,_,[]=>[]
def vals (ρ:Operand->Option Core):List Operand->Option (List Value)
 | []=>some []
 | x::r=>(match ρ x with
  | some (.v a)=>(match vals ρ r with | some l=>some (a::l) | none=>none)
  | _=>none)
def cellsOf:Value->List Value
 | .agg ⟨cs⟩=>cs
 | v=>[v]
def leB:Nat->Nat->Bool
 | 0,_=>true
 | _+1,0=>false
 | a+1,b+1=>leB a b
theorem EX:∀ a b:Nat,leB a b=true↔a<=b
 | 0,b=>by simp [leB]
 | a+1,0=>by simp [leB]
 | a+1,b+1=>by simp [leB,EX a b]
def uP (place:Nat->Option (Nat×Nat))(ρ:Operand->Option Core)(n:Nat)(cells:List Value):List (Nat×Operand)->Option (List Value)
 | []=>some cells
 | (i,x)::rest=>(match place i,ρ x with
  | some (off,size),some (.v a)=>(match Nat.beq (cellsOf a).length size,leB (off+size) n with
   | true,true=>uP place ρ n (bF off (cellsOf a) cells) rest
   | _,_=>none)
  | _,_=>none)
def yS (P:Program)(fs:List Field)(i:Nat):Option (Nat×Nat):=
 match fs[i]? with
 | some f=>(match P.info? f.type with | some j=>some (f.offset,j.size) | none=>none)
 | none=>none
def Fu (P:Program)(t:TypeId)(ρ:Operand->Option Core)(parts:List (Nat×Operand)):Option Value:=
 match P.info? t with
 | some i=>(match i.zero with
  | some z=>(match P.underlying t with
   | some (.struct fs)=>(match (fs.toList.all λf=>(P.info? f.type).isSome),uP (yS P fs.toList) ρ (cellsOf z).length (cellsOf z) parts with
    | true,some l=>some (.agg ⟨l⟩)
    | _,_=>none)
   | some (.array _ e)=>(match P.info? e with
    | some j=>(match uP (λi=>some (i*j.size,j.size)) ρ (cellsOf z).length (cellsOf z) parts with
     | some l=>some (.agg ⟨l⟩)
     | none=>none)
    | none=>none)
   | _=>none)
  | none=>none)
 | none=>none
def Fv (P:Program)(b:Builtin)(ts:List TypeId)(as:List Value):Option Value:=
 match b,as with
 | .len,[x]=>(match ts with
  | [t]=>(match P.underlying t,x with
   | some .string,.string s=>some (.int .i64 s.size)
   | some (.slice _),.slice _ n _=>some (.int .i64 n)
   | some (.array n _),_=>some (.int .i64 n)
   | _,_=>none)
  | _=>none)
 | .cap,[x]=>(match ts with
  | [t]=>(match P.underlying t,x with
   | some (.slice _),.slice _ _ n=>some (.int .i64 n)
   | _,_=>none)
  | _=>none)
 | .min,[.int k x,.int _ y]=>some (.int k (if y<x then y else x))
 | .max,[.int k x,.int _ y]=>some (.int k (if y>x then y else x))
 | .min,[.int k x,.int _ y,.int _ z]=>some (.int k (if z<(if y<x then y else x) then z else (if y<x then y else x)))
 | _,_=>none
def yJ (P:Program)(op:Op)(ρ:Operand->Option Core):Option Core:=
 match op with
 | .move x | .assign x=>ρ x
 | .binOp o t x y _=>(match ρ x,ρ y with | some (.v a),some (.v b)=>rq (Fp P o t a b) | _,_=>none)
 | .unOp o _ x=>(match ρ x with | some (.v a)=>rq (Fq o a) | _=>none)
 | .extract x i=>(match ρ x with | some (.v (.tuple ⟨vs⟩))=>rq (nth vs i) | _=>none)
 | .fieldAddr t x i=>(match Fh P t i with
  | some fo=>(match ρ x with
   | some (.lp k off)=>some (.lp k (plus off fo))
   | some (.li k off)=>some (.li k (plus off fo))
   | some (.v (.pointer (some ⟨b,off,none⟩)))=>some (.v (.pointer (some ⟨b,plus off fo,none⟩)))
   | _=>none)
  | none=>none)
 | .field t x i=>(match ρ x,P.underlying t with
  | some (.v (.agg ⟨cs⟩)),some (.struct fs)=>(match fs[i]? with | some f=>rq (uQ P f.type cs f.offset) | none=>none)
  | _,_=>none)
 | .build t parts=>rq (Fu P t ρ parts.toList)
 | .makeFunc fn first captured=>(match vals ρ first.toList,vals ρ captured.toList with
  | some a,some b=>some (.v (.func fn ⟨a⟩ ⟨b⟩))
  | _,_=>none)
 | .nilCheck x=>(match ρ x with
  | some (.lp k off)=>some (.lp k off)
  | some (.li k off)=>some (.li k off)
  | some (.v (.pointer (some a)))=>some (.v (.pointer (some a)))
  | some (.v (.func (.func f) a b))=>some (.v (.func (.func f) a b))
  | _=>none)
 | .convert s t x=>(match ρ x with
  | some (.v (.int _ n))=>(match P.underlying s,P.underlying t with | some _,some (.int k)=>some (.v (.int k (k.wrap n))) | _,_=>none)
  | some (.v (.string a))=>(match P.underlying s,P.underlying t with | some _,some .string=>some (.v (.string a)) | _,_=>none)
  | _=>none)
 | .call { callee:=.builtin b,args,argTypes }=>(match vals ρ args.toList with
  | some l=>rq (Fv P b argTypes.toList l)
  | none=>none)
 | _=>none
theorem EY {P:Program}{t:TypeId}(h:oF P t=some .one)(w:World):(isAgg t).run P w=.ok false w/\(sizeOf t).run P w=.ok 1 w:=by
 unfold oF at h;split at h
 ·split at h <;> cases h
 ·split at h <;> cases h
 ·rename_i d h1 h2 hd;split at h
  ·rename_i i hi;split at h
   ·rename_i hb;refine ⟨?_,?_⟩
    ·simp only [isAgg,Sem.run_bind,dK P t w hd,Result.andThen_ok]
     first
      | rfl
      | (
       split
       ·exact absurd hd (h1 _)
       ·exact absurd hd (h2 _ _)
       ·rfl)
    ·simp only [sizeOf,Sem.run_bind,gZ P t w hi,Result.andThen_ok,Sem.run_pure];rw [Nat.eq_of_beq_eq_true hb]
   ·cases h
  ·cases h
 ·cases h
theorem K9 {P:Program}{t:TypeId}{n:Nat}(h:oF P t=some (.agg n))(w:World):(isAgg t).run P w=.ok true w/\(sizeOf t).run P w=.ok n w:=by
 unfold oF at h;split at h
 ·rename_i fs hd;split at h
  ·rename_i i hi;simp at h;subst h;exact ⟨by simp [isAgg,dK P t w hd],by simp [sizeOf,gZ P t w hi]⟩
  ·cases h
 ·rename_i m e hd;split at h
  ·rename_i i hi;simp at h;subst h;exact ⟨by simp [isAgg,dK P t w hd],by simp [sizeOf,gZ P t w hi]⟩
  ·cases h
 ·split at h
  ·split at h <;> cases h
  ·cases h
 ·cases h
theorem yT {P:Program}{t:TypeId}{cs:List Value}{off:Nat}{r:Value}(h:uQ P t cs off=some r)(w:World) :
 (part t ⟨cs⟩ off).run P w=.ok r w:=by
 unfold uQ at h;split at h
 ·rename_i hl;obtain ⟨h1,h2⟩:=EY hl w;rw [nN] at h;simp only [part,Sem.run_bind,h1,Result.andThen_ok];simp [h]
 ·rename_i n hl;obtain ⟨h1,h2⟩:=K9 hl w;split at h
  ·rename_i l ht;simp at h;subst h;obtain ⟨h3,h4⟩:=yH _ _ _ ht;rw [yI] at h3;simp only [part,Sem.run_bind,h1,Result.andThen_ok];simp only [if_true,Sem.run_bind,h2,Result.andThen_ok,Sem.run_pure]
   congr 2
   subst h3;have:(⟨cs⟩:Array Value).extract off (off+n)=⟨(cs.drop off).take n⟩:=by
    apply Array.ext';simp
   rw [this]
  ·cases h
 ·cases h
theorem wD {ρ:Operand->Option Core}{ρ':Operand->Value}{bx:bA}(hρ:∀ x c,ρ x=some c->ρ' x=c.val bx) :
 ∀ (l:List Operand) (vs:List Value),vals ρ l=some vs->l.map ρ'=vs
 | [],vs,h=>by simp [vals] at h;subst h;rfl
 | x::r,vs,h=>by
  simp only [vals] at h;split at h
  ·rename_i a ha;split at h
   ·rename_i l hl;simp at h;subst h;simp [wD hρ r l hl,hρ x _ ha,Core.val]
   ·cases h
  ·cases h
theorem qg (v:Value):v.cells=⟨cellsOf v⟩:=by
 cases v <;> rfl
theorem yN:∀ (n:Nat) (l:List Value),bF n [] l=l
 | 0,l=>by cases l <;> rfl
 | n+1,[]=>rfl
 | n+1,x::l=>by simp only [bF];rw [yN n l]
theorem BG (v:Value)(vs:List Value):∀ (n:Nat) (l:List Value),n+vs.length<l.length ->
 bF (n+1) vs (l.set n v)=bF n (v::vs) l
 | 0,[],h=>by simp at h
 | 0,x::l,h=>by simp [bF]
 | n+1,[],h=>by simp at h
 | n+1,x::l,h=>by
  simp only [List.set_cons_succ];rw [bF,bF,BG v vs n l (by simp at h;omega)]
theorem TR:∀ (vs l:List Value) (off:Nat),off+vs.length<=l.length ->
 (vs.zipIdx 0).foldl (λcs (p:Value×Nat)=>cs.setIfInBounds (off+p.2) p.1) (⟨l⟩:Array Value)=⟨bF off vs l⟩:=by
 have key:∀ (vs l:List Value) (off k:Nat),off+k+vs.length<=l.length ->
  (vs.zipIdx k).foldl (λcs (p:Value×Nat)=>cs.setIfInBounds (off+p.2) p.1) (⟨l⟩:Array Value)=⟨bF (off+k) vs l⟩:=by
  intro vs
  induction vs with
  | nil=>
   intro l off k _;simp only [List.zipIdx_nil,List.foldl_nil];rw [yN]
  | cons v vs ih=>
   intro l off k h;simp only [List.length_cons] at h;simp only [List.zipIdx_cons,List.foldl_cons];have:(⟨l⟩:Array Value).setIfInBounds (off+k) v=⟨l.set (off+k) v⟩:=by simp [Array.setIfInBounds,show off+k<l.length by omega]
   rw [this,ih (l.set (off+k) v) off (k+1) (by simp;omega)]
   congr 1
   generalize hn:off+k=n;rw [show off+(k+1)=n+1 by omega];exact BG v vs n l (by omega)
 intro vs l off h;exact key vs l off 0 (by simpa using h)
theorem vR:∀ (off:Nat) (vs l:List Value),(bF off vs l).length=l.length
 | 0,[],l=>by simp [bF]
 | 0,v::vs,x::l=>by simp [bF,vR 0 vs l]
 | 0,_::_,[]=>by simp [bF]
 | n+1,vs,x::l=>by simp [bF,vR n vs l]
 | _+1,_,[]=>by simp [bF]
theorem BM {place place':Nat->Option (Nat×Nat)}{ρ:Operand->Option Core}{ρ':Operand->Value}{bx:bA}
 (hρ:∀ x c,ρ x=some c->ρ' x=c.val bx) (hp:∀ i p,place i=some p->place' i=some p):∀ (parts:List (Nat×Operand)) (n:Nat) (cells l:List Value),cells.length=n ->
 uP place ρ n cells parts=some l->Instr.fill place' ⟨cells⟩ (parts.map λp=>(p.1,ρ' p.2))=some ⟨l⟩
 | [],n,cells,l,hn,h=>by simp [uP] at h;subst h;rfl
 | (i,x)::rest,n,cells,l,hn,h=>by
  simp only [uP] at h;split at h
  ·rename_i off size a hpl ha;split at h
   ·rename_i hb hl;have hs:=Nat.eq_of_beq_eq_true hb;rw [EX] at hl;have ih:=BM hρ hp rest n (bF off (cellsOf a) cells) l (by rw [vR];exact hn) h;simp only [List.map_cons,Instr.fill,hp i _ hpl,hρ x _ ha,Core.val,qg];rw [if_neg (by simp;omega)];have:=TR (cellsOf a) cells off (by omega);rw [<-ih]
    congr 1
    rw [<-this];simp
   ·cases h
  ·cases h
theorem TT {P:Program}{t:TypeId}{ρ:Operand->Option Core}{ρ':Operand->Value}{bx:bA}{parts:Array (Nat×Operand)}{r:Value}
 (hρ:∀ x c,ρ x=some c->ρ' x=c.val bx) (h:Fu P t ρ parts.toList=some r) (w:World) :
 (Instr.build t (parts.map λ(i,x)=>(i,ρ' x))).run P w=.ok r w:=by
 unfold Fu at h;split at h
 case h_2=>cases h
 rename_i i hi;split at h
 case h_2=>cases h
 rename_i z hz;have hzero:(zeroValue t).run P w=.ok z w:=by simp [zeroValue,gZ P t w hi,hz]
 split at h
 ·rename_i fs hu;split at h
  case h_2=>cases h
  rename_i l hall hl;simp at h;subst h;have hm:∀ (l:List Field),(l.all λf=>(P.info? f.type).isSome)=true ->
   ∃ ps:List (Nat×Nat),(l.mapM λf=>(do pure (f.offset,<-sizeOf f.type):Sem (Nat×Nat))).run P w=.ok ps w/\∀ i,yS P l i=ps[i]?:=by
   intro l
   induction l with
   | nil=>intro _;exact ⟨[],by simp,λi=>by simp [yS]⟩
   | cons f l ih=>
    intro h;simp only [List.all_cons,Bool.and_eq_true] at h;obtain ⟨ps,h1,h2⟩:=ih h.2;obtain ⟨j,hj⟩:=Option.isSome_iff_exists.1 h.1;refine ⟨(f.offset,j.size)::ps,?_,?_⟩
    ·simp only [List.mapM_cons,Sem.run_bind,sizeOf,gZ P _ w hj,Result.andThen_ok,Sem.run_pure];simp only [sizeOf,Sem.run_bind] at h1;rw [h1];simp
    ·intro i;cases i with
     | zero=>simp [yS,hj]
     | succ i=>have:=h2 i;simpa [yS] using this
  obtain ⟨ps,h1,h2⟩:=hm fs.toList hall;have pI:=BM (place':=λi=>(⟨ps⟩:Array (Nat×Nat))[i]?) hρ (λi p hp=>by rw [h2] at hp;simpa using hp) parts.toList _ _ l rfl hl;unfold Instr.build;simp only [Sem.run_bind,hzero,Result.andThen_ok,dK P t w hu];have TU:(fs.mapM λf=>(do pure (f.offset,<-sizeOf f.type):Sem (Nat×Nat))).run P w=.ok ⟨ps⟩ w:=by
   rw [Array.mapM_eq_mapM_toList];simp only [Sem.run_map,h1,Result.andThen_ok]
  simp only [TU,Result.andThen_ok,qg];have he:(parts.map λ(x:Nat×Operand)=>(x.1,ρ' x.2)).toList=parts.toList.map λp=>(p.1,ρ' p.2):=by simp
  have yP:Instr.fill (λx=>(⟨ps⟩:Array (Nat×Nat))[x]?) ⟨cellsOf z⟩ (parts.map λ(x:Nat×Operand)=>(x.1,ρ' x.2)).toList=some ⟨l⟩:=by rw [he];exact pI
  split
  ·rename_i cells hc;rw [yP] at hc;simp at hc;subst hc;simp
  ·rename_i hc;rw [yP] at hc;exact (hc _ rfl).elim
 ·rename_i m e hu;split at h
  case h_2=>cases h
  rename_i j hj;split at h
  case h_2=>cases h
  rename_i l hl;simp at h;subst h;have pI:=BM (place':=λi=>some (i*j.size,j.size)) hρ (λi p hp=>hp) parts.toList _ _ l rfl hl;have he:(parts.map λ(x:Nat×Operand)=>(x.1,ρ' x.2)).toList=parts.toList.map λp=>(p.1,ρ' p.2):=by simp
  rw [<-he] at pI;unfold Instr.build;have hs:(sizeOf e).run P w=.ok j.size w:=by simp [sizeOf,gZ P e w hj]
  simp only [Sem.run_bind,hzero,Result.andThen_ok,dK P t w hu,hs,qg];split
  ·rename_i cells hc;rw [pI] at hc;simp at hc;subst hc;simp
  ·rename_i hc;rw [pI] at hc;exact (hc _ rfl).elim
 ·cases h
theorem uL {x:Option Value}{c:Core}(h:rq x=some c):∃ v,x=some v/\c=.v v:=by
 cases x with
 | none=>cases h
 | some v=>simp [rq] at h;exact ⟨v,rfl,h.symm⟩
theorem TV {P:Program}{o:UnOp}{a r:Value}(h:Fq o a=some r)(w:World):(Op.unary o a).run P w=.ok r w:=by
 unfold Fq at h;split at h <;> simp at h <;> subst h <;> simp [Op.unary,Op.intArith,Op.intBits]
theorem Fw {P:Program}{t:TypeId}{i fo:Nat}(h:Fh P t i=some fo)(b off:Nat)(w:World) :
 (Instr.fieldAt t (.pointer (some ⟨b,off,none⟩)) i).run P w=.ok (.pointer (some ⟨b,off+fo,none⟩)) w:=by
 unfold Fh at h;split at h
 case h_2=>cases h
 rename_i fs hu;split at h
 case h_2=>cases h
 rename_i f hf;split at h
 case h_2=>cases h
 rename_i n hn;split at h
 case h_1=>cases h
 rename_i m hm;simp at h;subst h;have hs:(sizeOf f.type).run P w=.ok (m+1) w:=by simp [sizeOf,gZ P _ w hn,hm]
 simp only [Instr.fieldAt,Sem.run_bind,dK P t w hu,Result.andThen_ok,hf,Instr.sureAddr,fieldPlace,Sem.run_pure,hs];simp only [Addr.add];by_cases h0:f.offset=0
 ·simp [h0]
 ·simp [h0]
theorem TW {P:Program}{b:Builtin}{ts:Array TypeId}{ty:TypeId}{cs:Array Bool}{as:List Value}{r:Value}
 (h:Fv P b ts.toList as=some r) (w:World):(builtin b ts ty cs ⟨as⟩).run P w=.ok (.value r) w:=by
 obtain ⟨ts⟩:=ts;unfold Fv at h;split at h
 ·split at h
  case h_2=>cases h
  rename_i x _ _ t ht;simp only at ht;subst ht;split at h <;> (try (cases h;done)) <;> rename_i hu <;> simp at h <;> subst h <;> simp [builtin,Builtin.len_,dK P t w hu,goInt]
 ·split at h
  case h_2=>cases h
  rename_i x _ _ t ht;simp only at ht;subst ht;split at h <;> (try (cases h;done)) <;> rename_i hu <;> simp at h <;> subst h <;> simp [builtin,Builtin.cap_,dK P t w hu,goInt]
 ·simp at h;subst h;simp [builtin,Builtin.min_,Builtin.min2]
 ·simp at h;subst h;simp [builtin,Builtin.max_,Builtin.max2]
 ·simp at h;subst h;simp [builtin,Builtin.min_,Builtin.min2]
 ·cases h
theorem Tx {P:Program}{o:Oper}{ρ:Operand->Option Core}{ρ':Operand->Value}{bx:bA}
 (hρ:∀ x c,ρ x=some c->ρ' x=c.val bx) {c:Core} (h:yJ P o.op ρ=some c) (w:World) :
 (execOp ρ' o).run P w=.ok (.value (c.val bx)) w:=by
 obtain ⟨dst,op,ty,pos,after,guard⟩:=o;simp only at h;unfold yJ at h;split at h
 ·simp [execOp,hρ _ _ h]
 ·simp [execOp,hρ _ _ h]
 ·rename_i o t x y yt;split at h
  ·rename_i a b ha hb;obtain ⟨v,hv,rfl⟩:=uL h;have:=TP P o t x y a b v hv w;simp only [execOp,hρ _ _ ha,hρ _ _ hb,Core.val,Sem.run_bind] at this ⊢;rw [this];simp
  ·cases h
 ·rename_i o t x;split at h
  ·rename_i a ha;obtain ⟨v,hv,rfl⟩:=uL h;simp [execOp,hρ _ _ ha,Core.val,TV hv w]
  ·cases h
 ·rename_i x i;split at h
  ·rename_i vs ha;obtain ⟨v,hv,rfl⟩:=uL h;rw [nN] at hv;simp [execOp,hρ _ _ ha,Core.val,Instr.extract,hv]
  ·cases h
 ·rename_i t x i;split at h
  ·rename_i fo hfo;split at h
   ·rename_i k off ha;simp at h;subst h;simp [execOp,hρ _ _ ha,Core.val,Fw hfo,Fj]
   ·rename_i k off ha;simp at h;subst h;simp [execOp,hρ _ _ ha,Core.val,Fw hfo,Fj]
   ·rename_i b off ha;simp at h;subst h;simp [execOp,hρ _ _ ha,Core.val,Fw hfo,Fj]
   ·cases h
  ·cases h
 ·rename_i t x i;split at h
  ·rename_i cs fs ha hu;split at h
   ·rename_i f hf;obtain ⟨v,hv,rfl⟩:=uL h;simp only [execOp,hρ _ _ ha,Core.val,Instr.field,Sem.run_bind,dK P t w hu,Result.andThen_ok,hf,asAgg,Sem.run_pure,yT hv w]
   ·cases h
  ·cases h
 ·rename_i t parts;obtain ⟨v,hv,rfl⟩:=uL h;simp only [execOp,Sem.run_bind,TT hρ hv w,Result.andThen_ok,Sem.run_pure,Core.val]
 ·rename_i fn first captured;split at h
  ·rename_i a b ha hb;simp at h;subst h;have h1:=wD hρ _ _ ha;have h2:=wD hρ _ _ hb;have h1':first.map ρ'=⟨a⟩:=by apply Array.ext';simp [h1]
   have h2':captured.map ρ'=⟨b⟩:=by apply Array.ext';simp [h2]
   simp [execOp,Instr.makeFunc,h1',h2',Core.val]
  ·cases h
 ·rename_i x;split at h
  ·rename_i k off ha;simp at h;subst h;simp [execOp,hρ _ _ ha,Core.val]
  ·rename_i k off ha;simp at h;subst h;simp [execOp,hρ _ _ ha,Core.val]
  ·rename_i a ha;simp at h;subst h;simp [execOp,hρ _ _ ha,Core.val]
  ·rename_i f a b ha;simp at h;subst h;simp [execOp,hρ _ _ ha,Core.val]
  ·cases h
 ·rename_i s t x;split at h
  ·rename_i k n ha;split at h
   ·rename_i d k hs ht;simp at h;subst h;simp [execOp,hρ _ _ ha,Core.val,convert,dK P s w hs,dK P t w ht,Conv.intToInt]
   ·cases h
  ·rename_i a ha;split at h
   ·rename_i d hs ht;simp at h;subst h;simp [execOp,hρ _ _ ha,Core.val,convert,dK P s w hs,dK P t w ht]
   ·cases h
  ·cases h
 ·rename_i b args ts;split at h
  ·rename_i l hl;obtain ⟨v,hv,rfl⟩:=uL h;have h1:=wD hρ _ _ hl;have h1':args.map ρ'=⟨l⟩:=by apply Array.ext';simp [h1]
   simp only [execOp,resolve,h1',Sem.run_bind,Sem.run_pure,Result.andThen_ok,invoke,TW hv w,Core.val]
  ·cases h
 ·cases h
section
variable {P:Program} {ops:Array Oper} {Q:Exit->Act->World->Prop} {md:Region.Mode} {S:Array Bool->World->Prop}
def Closed (md:Region.Mode)(ops:Array Oper)(L:Array Bool):Prop:=
 L.size=ops.size/\∀ j oj,ops[j]?=some oj->L.getD j false=true->∀ e∈oj.after,Region.binds md e=true->L.getD e.on false=true
theorem wE {L:Array Bool}{i:Nat}(h:L.getD i true=false):L.getD i false=false/\i<L.size:=by
 rcases Nat.lt_or_ge i L.size with h'|h'
 ·simp [h'] at h ⊢;exact h
 ·simp [Array.getElem?_eq_none h'] at h
theorem Closed.set {L:Array Bool}{i:Nat}(h:Closed md ops L)(hi:i∈Region.ready md ops L):Closed md ops (L.setIfInBounds i true):=by
 obtain ⟨_,oi,hoi,hall⟩:=mem_ready.1 hi;refine ⟨by simp [h.1],λj oj hj hl e he hb=>?_⟩;by_cases hij:i=j
 ·subst hij;have:oj=oi:=Option.some.inj (hj.symm.trans hoi);subst this;exact getD_set_true (hall e he hb)
 ·rw [getD_set_ne false hij] at hl;exact getD_set_true (h.2 j oj hj hl e he hb)
def AnyS (P:Program)(md:Region.Mode)(ops:Array Oper)(Q:Exit->Act->World->Prop)(S:Array Bool->World->Prop):Nat->Array Bool->Act->World->Prop
 | 0,L,a,w=>Region.ready md ops L=[]/\Q .normal a w
 | f+1,L,a,w=>
  (Region.ready md ops L=[]->Q .normal a w) /\
  ∀ i∈Region.ready md ops L,wpOp P ops Q i (λa' w'=>S (L.setIfInBounds i true) w'/\AnyS P md ops Q S f (L.setIfInBounds i true) a' w') a w
theorem AnyS.any:∀ (f:Nat) (L:Array Bool) (a:Act) (w:World),AnyS P md ops Q S f L a w->wpAny P md ops Q f L a w
 | 0,_,_,_,h=>h
 | f+1,_,_,_,h=>⟨h.1,λi hi=>wpOp_mono (λa' w' h'=>AnyS.any f _ a' w' h'.2) (h.2 i hi)⟩
theorem AnyS.weaken {S':Array Bool->World->Prop}:∀ (f:Nat) (L:Array Bool) (a:Act) (w:World),
 (∀ L' w,(∀ i,L.getD i false=true->L'.getD i false=true)->S L' w->S' L' w)->AnyS P md ops Q S f L a w->AnyS P md ops Q S' f L a w
 | 0,_,_,_,_,h=>h
 | f+1,L,a,w,hS,h=>⟨h.1,λi hi=>wpOp_mono (λa' w' h'=>⟨hS _ _ (λj hj=>getD_set_true hj) h'.1,
  AnyS.weaken f _ a' w' (λL' w'' hL=>hS L' w'' (λj hj=>hL j (getD_set_true hj))) h'.2⟩) (h.2 i hi)⟩
theorem AnyS.first {W:World->Prop}{i:Nat}{oi:Oper}{v:Value}(hi:ops[i]?=some oi)(hsel:∀ (j:Nat) (o:Oper) cs b,ops[j]?=some o->o.op≠.select cs b)
 (hQ:∀ c a w,Q (.panic c) (a.put oi.dst v) w->Q (.panic c) a w)
 (Lp:∀ L w,S (L.setIfInBounds i true) w->S L w)
 (hW:∀ L w,Closed md ops L->L.getD i true=false->S L w->W w) :
 ∀ (f:Nat) (L:Array Bool) (a:Act) (w:World),Closed md ops L ->
  (∀ j oj,ops[j]?=some oj->j≠i->L.getD j true=false->(∀ e∈oj.after,Region.binds md e=true->e.on≠i)->oi.apart ops oj=true) ->
  i∈Region.ready md ops L->YieldsIf P ops W oi v a->S L w->S (L.setIfInBounds i true) w ->
  AnyS P md ops Q S f (L.setIfInBounds i true) (a.put oi.dst v) w->AnyS P md ops Q S (f+1) L a w:=by
 intro f
 induction f with
 | zero=>
  intro L a w hcl _ hr hy hS hS1 H;refine ⟨λh=>(by rw [h] at hr;cases hr),λj hj=>?_⟩;by_cases hji:j=i
  ·subst hji;exact hy.wpOp hi (hW L w hcl (mem_ready.1 hr).1 hS) ⟨hS1,H⟩
  ·have:=ready_mono hj hji;rw [H.1] at this;cases this
 | succ f ih=>
  intro L a w hcl hfree hr hy hS hS1 H;refine ⟨λh=>(by rw [h] at hr;cases hr),λj hj=>?_⟩;by_cases hji:j=i
  ·subst hji;exact hy.wpOp hi (hW L w hcl (mem_ready.1 hr).1 hS) ⟨hS1,H⟩
  ·have h1:=H.2 j (ready_mono hj hji);obtain ⟨hjun,oj,hoj,hall⟩:=mem_ready.1 hj;have hnot:∀ e∈oj.after,Region.binds md e=true->e.on≠i:=λe he hb heq=>by
    have h1:=hall e he hb;have h0:=(wE (mem_ready.1 hr).1).1;rw [heq,h0] at h1;cases h1
   have h2:=wpOp_putIf hoj (hfree j oj hoj hji hjun hnot) (λcs b=>hsel i oi cs b hi) (λcs b=>hsel j oj cs b hoj) hQ hy h1;refine wpOp_mono (λa' w' h3=>?_) h2;obtain ⟨hy',hS',hA⟩:=h3;rw [Array.setIfInBounds_comm _ _ (Ne.symm hji)] at hS' hA;refine ⟨Lp _ _ hS',ih (L.setIfInBounds j true) a' w' (hcl.set hj) (λk ok hk hki hun hno=>?_) (ready_mono hr (Ne.symm hji)) hy' (Lp _ _ hS') hS' hA⟩;refine hfree k ok hk hki ?_ hno;by_cases hjk:j=k
   ·subst hjk;exact hjun
   ·rw [getD_set_ne true hjk] at hun;exact hun
theorem AnyS.only {i:Nat}{f:Nat}{L:Array Bool}{a:Act}{w:World}(hr:Region.ready md ops L=[i])
 (h:wpOp P ops Q i (λa' w'=>S (L.setIfInBounds i true) w'/\AnyS P md ops Q S f (L.setIfInBounds i true) a' w') a w):AnyS P md ops Q S (f+1) L a w:=by
 refine ⟨λh0=>(by rw [h0] at hr;cases hr),λj hj=>?_⟩;rw [hr] at hj;have:j=i:=by simpa using hj
 subst this;exact h
end
inductive dQ where
 | p0 | pb | rd | al | ef | be
 deriving DecidableEq
def dQ.heavy:dQ->Bool
 | .ef | .be=>true
 | _=>false
def dQ.jG:dQ->Bool
 | .be=>true
 | _=>false
def kD (w w':World):Prop:=w.heap.size<=w'.heap.size/\∀ b,b<w.heap.size->w'.heap[b]?=w.heap[b]?
theorem kD.refl (w:World):kD w w:=⟨Nat.le_refl _,λ_ _=>rfl⟩
theorem kD.trans {a b c:World}(h:kD a b)(h':kD b c):kD a c:=
 ⟨Nat.le_trans h.1 h'.1,λi hi=>(h'.2 i (Nat.lt_of_lt_of_le hi h.1)).trans (h.2 i hi)⟩
def gM (P:Program)(ops:Array Oper)(Q:Exit->Act->World->Prop)(F:(World->Prop)->Act->World->Prop)(bg:Nat->dQ):List Nat->(World->Prop)->Act->World->Prop
 | [],B,a,w=>F B a w
 | k::l,B,a,w=>match bg k with
  | .p0=>∃ o v,ops[k]?=some o/\YieldsIf P ops (λ_=>True) o v a/\gM P ops Q F bg l B (a.put o.dst v) w
  | .pb=>∃ o v,ops[k]?=some o/\YieldsIf P ops B o v a/\gM P ops Q F bg l B (a.put o.dst v) w
  | .rd=>∃ o v,ops[k]?=some o/\YieldsIf P ops (kD w) o v a/\gM P ops Q F bg l B (a.put o.dst v) w
  | .al=>wpOp P ops Q k (λa' w'=>kD w w'/\∃ B':World->Prop,B' w'/\(∀ x,B' x->B x)/\gM P ops Q F bg l B' a' w') a w
  | .ef=>wpOp P ops Q k (λa' w'=>B w'/\gM P ops Q F bg l B a' w') a w
  | .be=>wpOp P ops Q k (λa' w'=>∃ B':World->Prop,B' w'/\gM P ops Q F bg l B' a' w') a w
def yU (ops:Array Oper)(i:Nat):Nat->Nat->Bool
 | 0,_=>false
 | f+1,j=>match ops[j]? with
  | some o=>o.after.any λe=>Region.binds .any e&&(e.on==i||yU ops i f e.on)
  | none=>false
theorem Fx {ops:Array Oper}{L:Array Bool}(hc:Closed .any ops L){i:Nat}:∀ (f j:Nat),yU ops i f j=true->L.getD j false=true->L.getD i false=true
 | 0,_,h,_=>by cases h
 | f+1,j,h,hj=>by
  simp only [yU] at h;split at h
  ·rename_i o ho;obtain ⟨e,he,hb⟩:=Array.any_eq_true'.1 h;simp only [Bool.and_eq_true,Bool.or_eq_true,beq_iff_eq] at hb;have h1:=hc.2 j o ho hj e he hb.1;rcases hb.2 with h2|h2
   ·rw [<-h2];exact h1
   ·exact Fx hc f _ h2 h1
  ·cases h
def jS (p:Nat->Bool)(n:Nat):List Nat->Nat
 | []=>n
 | k::l=>if p k then k else jS p n l
def BU (ops:Array Oper)(k:Nat)(h:Nat):Bool:=decide (ops.size<=h)||yU ops k ops.size h
def uI (ops:Array Oper)(bg:Nat->dQ):List Nat->Array Bool->Bool
 | [],L=>(Region.ready .any ops L).isEmpty
 | k::l,L=>(match bg k with
  | .p0=>(Region.ready .any ops L).contains k&&Region.free .any ops L k
  | .pb=>(Region.ready .any ops L).contains k&&Region.free .any ops L k&&BU ops k (jS (λi=>(bg i).jG) ops.size l)
  | .rd=>(Region.ready .any ops L).contains k&&Region.free .any ops L k&&BU ops k (jS (λi=>(bg i).heavy) ops.size l)
  | _=>decide (Region.ready .any ops L=[k]))
  && uI ops bg l (L.setIfInBounds k true)
section
variable {P:Program} {ops:Array Oper} {Q:Exit->Act->World->Prop} {bg:Nat->dQ}
def qj (ops:Array Oper)(bg:Nat->dQ)(l:List Nat)(B:World->Prop)(w:World)(L:Array Bool)(w':World):Prop:=
 (L.getD (jS (λi=>(bg i).heavy) ops.size l) false=false->kD w w') /\
 (L.getD (jS (λi=>(bg i).jG) ops.size l) false=false->B w')
theorem yV {p:Nat->Bool}{n k:Nat}{l:List Nat}(h:p k=false):jS p n (k::l)=jS p n l:=by simp [jS,h]
theorem Lr {p:Nat->Bool}{n:Nat}:∀ (l:List Nat),jS p n l=n\/p (jS p n l)=true
 | []=>.inl rfl
 | k::l=>by
  by_cases h:p k=true
  ·right;simp [jS,h]
  ·simp only [jS,h];exact Lr l
theorem Ls {L:Array Bool}(hc:Closed .any ops L){k h:Nat}(ho:BU ops k h=true)(hk:L.getD k true=false):L.getD h false=false:=by
 simp only [BU,Bool.or_eq_true,decide_eq_true_eq] at ho;rcases ho with ho|ho
 ·simp [Array.getElem?_eq_none (show L.size<=h by rw [hc.1];exact ho)]
 ·cases hl:L.getD h false with
  | false=>rfl
  | true=>
   have:=Fx hc _ _ ho hl;rw [(wE hk).1] at this;cases this
theorem yX (hsel:Region.noSelect ops=true)(hQ:∀ c a w (i:Nat) (o:Oper) v,ops[i]?=some o->Q (.panic c) (a.put o.dst v) w->Q (.panic c) a w) :
 ∀ (l:List Nat) (B:World->Prop) (L:Array Bool) (a:Act) (w:World),uI ops bg l L=true->Closed .any ops L->(∀ k∈l,k<ops.size) ->
  B w->gM P ops Q (λ_ a w=>Q .normal a w) bg l B a w->AnyS P .any ops Q (qj ops bg l B w) l.length L a w
 | [],B,L,a,w,hd,hc,hl,hB,h=>⟨by simpa [uI] using hd,h⟩
 | k::l,B,L,a,w,hd,hc,hl,hB,h=>by
  have hkn:k<ops.size:=hl k (by simp);have hln:∀ k∈l,k<ops.size:=λi hi=>hl i (by simp [hi]);have rC:k<L.size:=by rw [hc.1];exact hkn
  have wF:(L.setIfInBounds k true).getD k false=true:=by simp [rC]
  simp only [uI,Bool.and_eq_true] at hd;obtain ⟨hd1,hd2⟩:=hd;have neq:∀ (p:Nat->Bool),p k=false->jS p ops.size l≠k:=λp hp he=>by
   rcases Lr (p:=p) (n:=ops.size) l with h1|h1
   ·omega
   ·rw [he,hp] at h1;cases h1
  have quiet:∀ (o:Oper) (v:Value) (W:World->Prop),ops[k]?=some o->(Region.ready .any ops L).contains k=true->Region.free .any ops L k=true ->
   YieldsIf P ops W o v a->(bg k).heavy=false ->
   (∀ L' w',Closed .any ops L'->L'.getD k true=false->qj ops bg l B w L' w'->W w')->gM P ops Q (λ_ a w=>Q .normal a w) bg l B (a.put o.dst v) w ->
   AnyS P .any ops Q (qj ops bg (k::l) B w) (k::l).length L a w:=by
   intro o v W ho hr hf hy hh hW ht;have hb:(bg k).jG=false:=by cases hck:bg k <;> simp_all [dQ.heavy,dQ.jG]
   have hS:qj ops bg (k::l) B w=qj ops bg l B w:=by
    unfold qj;rw [yV (p:=λi=>(bg i).heavy) hh,yV (p:=λi=>(bg i).jG) hb]
   have hr':k∈Region.ready .any ops L:=by simpa using hr
   rw [hS];have now:∀ L',qj ops bg l B w L' w:=λL'=>⟨λ_=>kD.refl w,λ_=>hB⟩;refine AnyS.first (W:=W) ho (Region.noSelect_spec hsel) (λc a w hq=>hQ c a w k o v ho hq) (λL' w' h'=>?_) hW l.length L a w hc (Region.free_spec ho hf) hr' hy (now _) (now _)
    (yX hsel hQ l B (L.setIfInBounds k true) (a.put o.dst v) w hd2 (hc.set hr') hln hB ht)
   refine ⟨λh0=>h'.1 ?_,λh0=>h'.2 ?_⟩
   ·rw [getD_set_ne false (Ne.symm (neq _ hh))];exact h0
   ·rw [getD_set_ne false (Ne.symm (neq _ hb))];exact h0
  cases hck:bg k with
  | p0=>
   simp only [gM,hck] at h hd1;obtain ⟨o,v,ho,hy,ht⟩:=h;simp only [Bool.and_eq_true] at hd1;exact quiet o v _ ho hd1.1 hd1.2 hy (by simp [hck,dQ.heavy]) (λ_ _ _ _ _=>trivial) ht
  | pb=>
   simp only [gM,hck] at h hd1;obtain ⟨o,v,ho,hy,ht⟩:=h;simp only [Bool.and_eq_true] at hd1;exact quiet o v _ ho hd1.1.1 hd1.1.2 hy (by simp [hck,dQ.heavy]) (λL' w' hc' hk' hS'=>hS'.2 (Ls hc' hd1.2 hk')) ht
  | rd=>
   simp only [gM,hck] at h hd1;obtain ⟨o,v,ho,hy,ht⟩:=h;simp only [Bool.and_eq_true] at hd1;exact quiet o v _ ho hd1.1.1 hd1.1.2 hy (by simp [hck,dQ.heavy]) (λL' w' hc' hk' hS'=>hS'.1 (Ls hc' hd1.2 hk')) ht
  | al=>
   simp only [gM,hck] at h hd1;have hr:Region.ready .any ops L=[k]:=by simpa using hd1
   have hr':k∈Region.ready .any ops L:=by rw [hr];simp
   refine AnyS.only hr (wpOp_mono (λa' w' h'=>?_) h);obtain ⟨hx,B',hB',yY,ht⟩:=h';have hh:(bg k).heavy=false:=by simp [hck,dQ.heavy]
   have hb:(bg k).jG=false:=by simp [hck,dQ.jG]
   refine ⟨⟨λ_=>hx,λ_=>yY _ hB'⟩,AnyS.weaken _ _ _ _ (λL' x _ hS=>?_) (yX hsel hQ l B' (L.setIfInBounds k true) a' w' hd2 (hc.set hr') hln hB' ht)⟩;unfold qj at hS ⊢;rw [yV (p:=λi=>(bg i).heavy) hh,yV (p:=λi=>(bg i).jG) hb];exact ⟨λh0=>hx.trans (hS.1 h0),λh0=>yY _ (hS.2 h0)⟩
  | ef=>
   simp only [gM,hck] at h hd1;have hr:Region.ready .any ops L=[k]:=by simpa using hd1
   have hr':k∈Region.ready .any ops L:=by rw [hr];simp
   refine AnyS.only hr (wpOp_mono (λa' w' h'=>?_) h);obtain ⟨hB',ht⟩:=h';have hh:(bg k).heavy=true:=by simp [hck,dQ.heavy]
   have hb:(bg k).jG=false:=by simp [hck,dQ.jG]
   have jw:jS (λi=>(bg i).heavy) ops.size (k::l)=k:=by simp [jS,hh]
   refine ⟨⟨λh0=>?_,λ_=>hB'⟩,AnyS.weaken _ _ _ _ (λL' x hsub hS=>?_) (yX hsel hQ l B (L.setIfInBounds k true) a' w' hd2 (hc.set hr') hln hB' ht)⟩
   ·rw [jw,wF] at h0;cases h0
   ·unfold qj at hS ⊢;refine ⟨λh0=>?_,λh0=>?_⟩
    ·rw [jw,hsub k wF] at h0;cases h0
    ·rw [yV (p:=λi=>(bg i).jG) hb] at h0;exact hS.2 h0
  | be=>
   simp only [gM,hck] at h hd1;have hr:Region.ready .any ops L=[k]:=by simpa using hd1
   have hr':k∈Region.ready .any ops L:=by rw [hr];simp
   refine AnyS.only hr (wpOp_mono (λa' w' h'=>?_) h);obtain ⟨B',hB',ht⟩:=h';have hh:(bg k).heavy=true:=by simp [hck,dQ.heavy]
   have hb:(bg k).jG=true:=by simp [hck,dQ.jG]
   have jw:jS (λi=>(bg i).heavy) ops.size (k::l)=k:=by simp [jS,hh]
   have hbk:jS (λi=>(bg i).jG) ops.size (k::l)=k:=by simp [jS,hb]
   refine ⟨⟨λh0=>?_,λh0=>?_⟩,AnyS.weaken _ _ _ _ (λL' x hsub hS=>?_) (yX hsel hQ l B' (L.setIfInBounds k true) a' w' hd2 (hc.set hr') hln hB' ht)⟩
   ·rw [jw,wF] at h0;cases h0
   ·rw [hbk,wF] at h0;cases h0
   ·unfold qj at hS ⊢;refine ⟨λh0=>?_,λh0=>?_⟩
    ·rw [jw,hsub k wF] at h0;cases h0
    ·rw [hbk,hsub k wF] at h0;cases h0
theorem Tp {id:Nat}{a:Act}{w:World}{ord:List Nat}(hm:P.follows .mixedOrders=true)(hlen:ord.length=ops.size)(hall:∀ k∈ord,k<ops.size)
 (hsel:Region.noSelect ops=true) (hd:uI ops bg ord (Array.replicate ops.size false)=true)
 (hQ:∀ c a w (i:Nat) (o:Oper) v,ops[i]?=some o->Q (.panic c) (a.put o.dst v) w->Q (.panic c) a w)
 {B:World->Prop} (hB:B { w with drawn:=w.drawn+1 }) (h:gM P ops Q (λ_ a w=>Q .normal a w) bg ord B a { w with drawn:=w.drawn+1 }):(Code.region id ops true).wp P Q a w:=by
 refine wp_region_any hm ?_;have hc:Closed .any ops (Array.replicate ops.size false):=⟨by simp,λj oj hj hl=>by
  exfalso;rcases Nat.lt_or_ge j ops.size with h'|h'
  ·simp [h'] at hl
  ·simp [Array.getElem?_eq_none (show (Array.replicate ops.size false).size<=j by simpa using h')] at hl⟩
 have:=yX hsel hQ ord B (Array.replicate ops.size false) a _ hd hc hall hB h;rw [hlen] at this;exact this.any
end
inductive Tr where
 | nil
 | cons (k:Nat) (t:Tr)
 | both (s t:Tr)
def Tr.len:Tr->Nat
 | .nil=>0
 | .cons _ t=>t.len+1
 | .both s _=>s.len
def Tr.heads:Tr->List Nat
 | .nil=>[]
 | .cons k _=>[k]
 | .both s t=>s.heads++t.heads
def nS (P:Program)(ops:Array Oper)(Q:Exit->Act->World->Prop)(bg:Nat->dQ):Tr->(World->Prop)->Act->World->Prop
 | .nil,_,a,w=>Q .normal a w
 | .cons k t,B,a,w=>gM P ops Q (λB a w=>nS P ops Q bg t B a w) bg [k] B a w
 | .both s t,B,a,w=>nS P ops Q bg s B a w/\nS P ops Q bg t B a w
def Fy (ops:Array Oper)(p:Nat->Bool)(L:Array Bool)(k:Nat):Bool:=
 (List.range ops.size).all λh=>!p h||L.getD h true||yU ops k ops.size h
mutual
def qi (ops:Array Oper)(bg:Nat->dQ):Tr->Array Bool->Bool
 | .nil,L=>(Region.ready .any ops L).isEmpty
 | .cons k t,L=>(match bg k with
  | .p0=>(Region.ready .any ops L).contains k&&Region.free .any ops L k
  | .pb=>(Region.ready .any ops L).contains k&&Region.free .any ops L k&&Fy ops (λi=>(bg i).jG) L k
  | .rd=>(Region.ready .any ops L).contains k&&Region.free .any ops L k&&Fy ops (λi=>(bg i).heavy) L k
  | _=>decide (Region.ready .any ops L=[k]))
  && qi ops bg t (L.setIfInBounds k true)
 | .both s t,L=>decide (s.len=t.len)&&(Region.ready .any ops L).all (λk=>(s.heads++t.heads).contains k)&&l6 ops bg s L&&l6 ops bg t L
def l6 (ops:Array Oper)(bg:Nat->dQ):Tr->Array Bool->Bool
 | .nil,_=>false
 | .cons k t,L=>(Region.ready .any ops L).contains k&&qi ops bg t (L.setIfInBounds k true)
 | .both s t,L=>decide (s.len=t.len)&&l6 ops bg s L&&l6 ops bg t L
end
section
variable {P:Program} {ops:Array Oper} {Q:Exit->Act->World->Prop} {bg:Nat->dQ}
def qm (ops:Array Oper)(bg:Nat->dQ)(L0:Array Bool)(B:World->Prop)(w:World)(L:Array Bool)(w':World):Prop:=
 ((∀ h,(bg h).heavy=true->L0.getD h true=false->L.getD h false=false)->kD w w') /\
 ((∀ h,(bg h).jG=true->L0.getD h true=false->L.getD h false=false)->B w')
theorem Lu {p:Nat->Bool}{L0 L:Array Bool}{k:Nat}(hc:Closed .any ops L)(h0:L0.size=ops.size)(ha:Fy ops p L0 k=true)(hk:L.getD k true=false) :
 ∀ h,p h=true->L0.getD h true=false->L.getD h false=false:=by
 intro h hp hl;have hlt:h<ops.size:=by rw [<-h0];exact (wE hl).2
 have:=List.all_eq_true.1 ha h (by simpa using hlt);rw [hp,hl] at this;simp only [Bool.not_true,Bool.false_or] at this;cases hx:L.getD h false with
 | false=>rfl
 | true=>
  have h2:=Fx hc _ _ this hx;rw [(wE hk).1] at h2;cases h2
theorem Fz {L0:Array Bool}{k h:Nat}(h1:(L0.setIfInBounds k true).getD h true=false):L0.getD h true=false/\h≠k:=by
 by_cases e:k=h
 ·subst e;obtain ⟨h2,h3⟩:=wE h1;simp at h3;simp [h3] at h2
 ·rw [getD_set_ne true e] at h1;exact ⟨h1,λx=>e x.symm⟩
theorem Lv (hsel:Region.noSelect ops=true)(hQ:∀ c a w (i:Nat) (o:Oper) v,ops[i]?=some o->Q (.panic c) (a.put o.dst v) w->Q (.panic c) a w)
 {k:Nat} {t:Tr} {n:Nat}
 (ih:∀ (B:World->Prop) (L:Array Bool) (a:Act) (w:World),qi ops bg t L=true->Closed .any ops L->B w->nS P ops Q bg t B a w->AnyS P .any ops Q (qm ops bg L B w) n L a w)
 {B:World->Prop} {L:Array Bool} {a:Act} {w:World} (hr:k∈Region.ready .any ops L) (hd:qi ops bg t (L.setIfInBounds k true)=true) (hc:Closed .any ops L) (hB:B w)
 (h:nS P ops Q bg (.cons k t) B a w) :
 wpOp P ops Q k (λa' w'=>qm ops bg L B w (L.setIfInBounds k true) w'/\AnyS P .any ops Q (qm ops bg L B w) n (L.setIfInBounds k true) a' w') a w:=by
 have rC:L.getD k true=false:=(mem_ready.1 hr).1;have hkn:=(wE rC).2;have hset:(L.setIfInBounds k true).getD k false=true:=by simp [hkn]
 have hc':=hc.set hr;have low:∀ (p:Nat->Bool),∀ L':Array Bool,(∀ h,p h=true->L.getD h true=false->L'.getD h false=false)->∀ h,p h=true->(L.setIfInBounds k true).getD h true=false->L'.getD h false=false:=
  λp L' H h hp hh=>H h hp (Fz hh).1
 simp only [nS,gM] at h;split at h
 ·rename_i hck;obtain ⟨o,v,ho,hy,ht⟩:=h;refine hy.wpOp ho trivial ⟨⟨λ_=>kD.refl w,λ_=>hB⟩,AnyS.weaken _ _ _ _ (λL' x _ hS=>⟨λH=>hS.1 (low _ L' H),λH=>hS.2 (low _ L' H)⟩) (ih B _ _ w hd hc' hB ht)⟩
 ·obtain ⟨o,v,ho,hy,ht⟩:=h;refine hy.wpOp ho hB ⟨⟨λ_=>kD.refl w,λ_=>hB⟩,AnyS.weaken _ _ _ _ (λL' x _ hS=>⟨λH=>hS.1 (low _ L' H),λH=>hS.2 (low _ L' H)⟩) (ih B _ _ w hd hc' hB ht)⟩
 ·obtain ⟨o,v,ho,hy,ht⟩:=h;refine hy.wpOp ho (kD.refl w) ⟨⟨λ_=>kD.refl w,λ_=>hB⟩,AnyS.weaken _ _ _ _ (λL' x _ hS=>⟨λH=>hS.1 (low _ L' H),λH=>hS.2 (low _ L' H)⟩) (ih B _ _ w hd hc' hB ht)⟩
 ·refine wpOp_mono (λa' w' h'=>?_) h;obtain ⟨hx,B',hB',yY,ht⟩:=h';exact ⟨⟨λ_=>hx,λ_=>yY _ hB'⟩,AnyS.weaken _ _ _ _ (λL' x _ hS=>⟨λH=>hx.trans (hS.1 (low _ L' H)),λH=>yY _ (hS.2 (low _ L' H))⟩) (ih B' _ a' w' hd hc' hB' ht)⟩
 ·rename_i hck;refine wpOp_mono (λa' w' h'=>?_) h;obtain ⟨hB',ht⟩:=h';have hh:(bg k).heavy=true:=by simp [hck,dQ.heavy]
  refine ⟨⟨λH=>?_,λ_=>hB'⟩,AnyS.weaken _ _ _ _ (λL' x hsub hS=>⟨λH=>?_,λH=>hS.2 (low _ L' H)⟩) (ih B _ a' w' hd hc' hB' ht)⟩
  ·have:=H k hh rC;rw [hset] at this;cases this
  ·have:=H k hh rC;rw [hsub k hset] at this;cases this
 ·rename_i hck;refine wpOp_mono (λa' w' h'=>?_) h;obtain ⟨B',hB',ht⟩:=h';have hh:(bg k).heavy=true:=by simp [hck,dQ.heavy]
  have hb:(bg k).jG=true:=by simp [hck,dQ.jG]
  refine ⟨⟨λH=>?_,λH=>?_⟩,AnyS.weaken _ _ _ _ (λL' x hsub hS=>⟨λH=>?_,λH=>?_⟩) (ih B' _ a' w' hd hc' hB' ht)⟩
  ·have:=H k hh rC;rw [hset] at this;cases this
  ·have:=H k hb rC;rw [hset] at this;cases this
  ·have:=H k hh rC;rw [hsub k hset] at this;cases this
  ·have:=H k hb rC;rw [hsub k hset] at this;cases this
theorem Lx {bg:Nat->dQ}{ops:Array Oper}{L:Array Bool}:∀ (t:Tr),l6 ops bg t L=true->∃ k,k∈t.heads
 | .nil,h=>by simp [l6] at h
 | .cons k t,_=>⟨k,by simp [Tr.heads]⟩
 | .both s t,h=>by
  simp only [l6,Bool.and_eq_true] at h;obtain ⟨k,hk⟩:=Lx s h.1.2;exact ⟨k,by simp [Tr.heads,hk]⟩
theorem FB {bg:Nat->dQ}{ops:Array Oper}{L:Array Bool}:∀ (t:Tr),l6 ops bg t L=true->∀ k∈t.heads,k∈Region.ready .any ops L
 | .nil,h,_,_=>by simp [l6] at h
 | .cons k t,h,j,hj=>by
  simp only [l6,Bool.and_eq_true] at h;simp [Tr.heads] at hj;subst hj;simpa using h.1
 | .both s t,h,j,hj=>by
  simp only [l6,Bool.and_eq_true] at h;simp only [Tr.heads,List.mem_append] at hj;rcases hj with hj|hj
  ·exact FB s h.1.2 j hj
  ·exact FB t h.2 j hj
mutual
theorem FC (hsel:Region.noSelect ops=true)(hQ:∀ c a w (i:Nat) (o:Oper) v,ops[i]?=some o->Q (.panic c) (a.put o.dst v) w->Q (.panic c) a w) :
 ∀ (t:Tr) (B:World->Prop) (L:Array Bool) (a:Act) (w:World),qi ops bg t L=true->Closed .any ops L->B w->nS P ops Q bg t B a w->AnyS P .any ops Q (qm ops bg L B w) t.len L a w
 | .nil,B,L,a,w,hd,hc,hB,h=>⟨by simpa [qi] using hd,h⟩
 | .cons k t,B,L,a,w,hd,hc,hB,h=>by
  have ih:=λB L a w h1 h2 h3 h4=>FC hsel hQ t B L a w h1 h2 h3 h4;simp only [qi,Bool.and_eq_true] at hd;obtain ⟨hd1,hd2⟩:=hd;have FD:Region.ready .any ops L=[k]->AnyS P .any ops Q (qm ops bg L B w) (Tr.cons k t).len L a w:=λhr=>by
   have hr':k∈Region.ready .any ops L:=by rw [hr];simp
   exact AnyS.only hr (Lv hsel hQ ih hr' hd2 hc hB h)
  have quiet:∀ (o:Oper) (v:Value) (W:World->Prop),ops[k]?=some o->(Region.ready .any ops L).contains k=true->Region.free .any ops L k=true ->
   YieldsIf P ops W o v a->(bg k).heavy=false ->
   (∀ L' w',Closed .any ops L'->L'.getD k true=false->qm ops bg L B w L' w'->W w')->nS P ops Q bg t B (a.put o.dst v) w ->
   AnyS P .any ops Q (qm ops bg L B w) (Tr.cons k t).len L a w:=by
   intro o v W ho hr hf hy hh hW ht;have hb:(bg k).jG=false:=by cases hck:bg k <;> simp_all [dQ.heavy,dQ.jG]
   have hr':k∈Region.ready .any ops L:=by simpa using hr
   have now:∀ L',qm ops bg L B w L' w:=λL'=>⟨λ_=>kD.refl w,λ_=>hB⟩;have hsub:=ih B _ _ w hd2 (hc.set hr') hB ht;refine AnyS.first (W:=W) ho (Region.noSelect_spec hsel) (λc a w hq=>hQ c a w k o v ho hq) (λL' w' h'=>⟨λH=>h'.1 λx hx hl=>?_,λH=>h'.2 λx hx hl=>?_⟩) hW t.len L a w hc (Region.free_spec ho hf) hr' hy (now _) (now _)
    (AnyS.weaken _ _ _ _ (λL' x _ hS=>⟨λH=>hS.1 λy hy hl=>H y hy (Fz hl).1,λH=>hS.2 λy hy hl=>H y hy (Fz hl).1⟩) hsub)
   ·have hne:k≠x:=λe=>by subst e;rw [hh] at hx;cases hx
    rw [getD_set_ne false hne];exact H x hx hl
   ·have hne:k≠x:=λe=>by subst e;rw [hb] at hx;cases hx
    rw [getD_set_ne false hne];exact H x hx hl
  have h':=h;simp only [nS,gM] at h';split at h'
  ·rename_i hck;rw [hck] at hd1;simp only [Bool.and_eq_true] at hd1;obtain ⟨o,v,ho,hy,ht⟩:=h';exact quiet o v _ ho hd1.1 hd1.2 hy (by simp [hck,dQ.heavy]) (λ_ _ _ _ _=>trivial) ht
  ·rename_i hck;rw [hck] at hd1;simp only [Bool.and_eq_true] at hd1;obtain ⟨o,v,ho,hy,ht⟩:=h';exact quiet o v _ ho hd1.1.1 hd1.1.2 hy (by simp [hck,dQ.heavy]) (λL' w' hc' hk' hS'=>hS'.2 (Lu hc' hc.1 hd1.2 hk')) ht
  ·rename_i hck;rw [hck] at hd1;simp only [Bool.and_eq_true] at hd1;obtain ⟨o,v,ho,hy,ht⟩:=h';exact quiet o v _ ho hd1.1.1 hd1.1.2 hy (by simp [hck,dQ.heavy]) (λL' w' hc' hk' hS'=>hS'.1 (Lu hc' hc.1 hd1.2 hk')) ht
  ·rename_i hck;rw [hck] at hd1;exact FD (by simpa using hd1)
  ·rename_i hck;rw [hck] at hd1;exact FD (by simpa using hd1)
  ·rename_i hck;rw [hck] at hd1;exact FD (by simpa using hd1)
 | .both s t,B,L,a,w,hd,hc,hB,h=>by
  simp only [qi,Bool.and_eq_true,decide_eq_true_eq] at hd;obtain ⟨⟨⟨hl,hall⟩,hs⟩,ht⟩:=hd;have h1:=BV hsel hQ s B L a w hs hc hB h.1;have h2:=BV hsel hQ t B L a w ht hc hB h.2;obtain ⟨n,hn1,hh1⟩:=h1;obtain ⟨m,hm1,hh2⟩:=h2;have hnm:m=n:=by omega
  subst hnm;simp only [Tr.len];rw [hn1];refine ⟨λh0=>?_,λj hj=>?_⟩
  ·exfalso;obtain ⟨k,hk⟩:=Lx s hs;have:=FB s hs k hk;rw [h0] at this;cases this
  ·have:=List.all_eq_true.1 hall j hj;rw [List.contains_iff_mem,List.mem_append] at this;rcases this with h|h
   ·exact hh1 j h
   ·exact hh2 j h
theorem BV (hsel:Region.noSelect ops=true)(hQ:∀ c a w (i:Nat) (o:Oper) v,ops[i]?=some o->Q (.panic c) (a.put o.dst v) w->Q (.panic c) a w) :
 ∀ (t:Tr) (B:World->Prop) (L:Array Bool) (a:Act) (w:World),l6 ops bg t L=true->Closed .any ops L->B w->nS P ops Q bg t B a w ->
  ∃ n,t.len=n+1/\∀ k∈t.heads,wpOp P ops Q k (λa' w'=>qm ops bg L B w (L.setIfInBounds k true) w'/\AnyS P .any ops Q (qm ops bg L B w) n (L.setIfInBounds k true) a' w') a w
 | .nil,B,L,a,w,hd,hc,hB,h=>by simp [l6] at hd
 | .cons k t,B,L,a,w,hd,hc,hB,h=>by
  simp only [l6,Bool.and_eq_true] at hd;refine ⟨t.len,rfl,λj hj=>?_⟩;simp [Tr.heads] at hj;subst hj;exact Lv hsel hQ (λB L a w h1 h2 h3 h4=>FC hsel hQ t B L a w h1 h2 h3 h4) (by simpa using hd.1) hd.2 hc hB h
 | .both s t,B,L,a,w,hd,hc,hB,h=>by
  simp only [l6,Bool.and_eq_true,decide_eq_true_eq] at hd;obtain ⟨n,hn,h1⟩:=BV hsel hQ s B L a w hd.1.2 hc hB h.1;obtain ⟨m,hm,h2⟩:=BV hsel hQ t B L a w hd.2 hc hB h.2;have:m=n:=by omega
  subst this;refine ⟨m,by simp only [Tr.len];exact hn,λj hj=>?_⟩;simp only [Tr.heads,List.mem_append] at hj;rcases hj with hj|hj
  ·exact h1 j hj
  ·exact h2 j hj
end
theorem Tn {id:Nat}{a:Act}{w:World}{t:Tr}(hm:P.follows .mixedOrders=true)(hlen:t.len=ops.size)
 (hsel:Region.noSelect ops=true) (hd:qi ops bg t (Array.replicate ops.size false)=true)
 (hQ:∀ c a w (i:Nat) (o:Oper) v,ops[i]?=some o->Q (.panic c) (a.put o.dst v) w->Q (.panic c) a w)
 {B:World->Prop} (hB:B { w with drawn:=w.drawn+1 }) (h:nS P ops Q bg t B a { w with drawn:=w.drawn+1 }):(Code.region id ops true).wp P Q a w:=by
 refine wp_region_any hm ?_;have hc:Closed .any ops (Array.replicate ops.size false):=⟨by simp,λj oj hj hl=>by
  exfalso;rcases Nat.lt_or_ge j ops.size with h'|h'
  ·simp [h'] at hl
  ·simp [Array.getElem?_eq_none (show (Array.replicate ops.size false).size<=j by simpa using h')] at hl⟩
 have:=FC hsel hQ t B (Array.replicate ops.size false) a _ hd hc hB h;rw [hlen] at this;exact this.any
end
def Under (c:Option Bool)(p:Prop):Prop:=match c with|none=>p|some b=>b=true->p
@[irreducible] def ax (c:Option Bool) (h:Heap) (b off:Nat) (K:Value->Prop):Prop:=∃ v,Under c (Heap.cell? h b off=some v)/\K v
@[irreducible] def fq (c:Option Bool) (h:Heap) (b off n:Nat) (K:List Value->Prop):Prop:=
 ∃ vs:List Value,vs.length=n/\Under c (∀ i,i<n->Heap.cell? h b (off+i)=vs[i]?)/\K vs
@[irreducible] def dO (c:Option Bool) (i:Int) (n:Nat) (K:Nat->Prop):Prop:=∃ j:Nat,Under c (i=(j:Int)/\j<n)/\K j
@[irreducible] def aX (c:Option Bool) (i:Int) (n:Nat) (a:Option Addr) (s:Nat) (K:Nat->Nat->Prop):Prop:=
 ∃ j b off:Nat,Under c (i=(j:Int)/\j<n/\a=some ⟨b,off,none⟩)/\K b (off+j*s)
def jh (a:Option Addr)(cap l s:Nat):Option Addr:=if cap=l then a else a.map (·.add (l*s))
@[irreducible] def dw (c:Option Bool) (lo hi:Int) (cap:Nat) (K:Nat->Nat->Prop):Prop:=
 ∃ l h:Nat,Under c (lo=(l:Int)/\hi=(h:Int)/\l<=h/\h<=cap)/\K l h
@[irreducible] def dL (c:Option Bool) (p:Prop) (K:Prop):Prop:=Under c p/\K
@[irreducible] def iO (c:Option Bool) (vs:List Value) (i:Nat) (K:Value->Prop):Prop:=∃ v,Under c (vs[i]?=some v)/\K v
@[irreducible] def gL (c:Option Bool) (h:Heap) (kd:TypeDesc) (r:Nat) (k:Value) (K:Option Value->Prop):Prop:=
 ∃ o:Option Value,Under c (∃ es cl,h[r]?=some (.map es cl)/\((Instr.findNow kd k es.toList 0).map λx=>x.map (·.2))=some o)/\K o
@[irreducible] def sF (c:Option Bool) (h:Heap) (r:Nat) (K:Nat->Prop):Prop:=∃ n:Nat,Under c (∃ es cl,h[r]?=some (.map es cl)/\es.size=n)/\K n
@[irreducible] def aL (h:Heap) (o:Obj) (K:Nat->Heap->Prop):Prop:=∀ b h',b=h.size->h'=h.push o->K b h'
@[irreducible] def aK (h:Heap) (b:Nat) (K:Heap->Prop):Prop:=∀ h':Heap,h'.size=h.size->(∀ b',b'≠b->h'[b']?=h[b']?)->K h'
@[irreducible] def dN (h:Heap) (b off:Nat) (vs:List Value) (bs:List Nat) (K:Heap->Prop):Prop:=
 ∃ c T,h[b]?=some (.cells ⟨c⟩ T (0,0))/\off+vs.length<=c.length/\b∉bs /\
  ∀ h':Heap,h'.size=h.size->h'[b]?=some (.cells ⟨bF off vs c⟩ T (0,0))->(∀ b',b'≠b->h'[b']?=h[b']?)->K h'
def dG (w w':World):Prop:=w'.os=w.os/\w'.output=w.output/\w'.tape=w.tape
theorem dG.refl (w:World):dG w w:=⟨rfl,rfl,rfl⟩
theorem dG.trans {a b c:World}(h:dG a b)(h':dG b c):dG a c:=⟨h'.1.trans h.1,h'.2.1.trans h.2.1,h'.2.2.trans h.2.2⟩
def aC (P:Program)(f:Nat)(args:List Value)(h:Heap)(R:Value->Heap->Prop):Prop:=
 ∀ w:World,w.heap=h->Calls P f ⟨args⟩ w λe w'=>∃ v,e=.returned v/\dG w w'/\R v w'.heap
@[irreducible] def ak (P:Program) (f:Nat) (args:List Value) (bs:List Nat) (h:Heap) (K:Value->Heap->Prop):Prop:=
 (∀ b∈bs,b<h.size)->aC P f args h λv h'=>(∀ b∈bs,h'[b]?=h[b]?)/\K v h'
@[irreducible] def aW {α:Type} (P:Program) (s:Sem α) (bs:List Nat) (h:Heap) (K:α->Heap->Prop):Prop:=
 (∀ b∈bs,b<h.size)->∀ w:World,w.heap=h->∃ v w',s.run P w=.ok v w'/\dG w w'/\(∀ b∈bs,w'.heap[b]?=h[b]?)/\K v w'.heap
@[irreducible] def aj (c:Bool) (A B:Prop):Prop:=(c=true->A)/\(c=false->B)
def guardOf:List Oper->Nat->Option (Nat×Bool)
 | [],_=>none
 | o::_,0=>o.guard
 | _::r,n+1=>guardOf r n
def lH:List Oper->Nat->Option Nat
 | [],_=>none
 | o::_,0=>o.dst
 | _::r,n+1=>lH r n
theorem Bz:∀ (l:List Oper) (j:Nat),lH l j=(l[j]?).bind (·.dst)
 | [],j=>by simp [lH]
 | o::r,0=>by simp [lH]
 | o::r,j+1=>by simp [lH,Bz r j]
def BQ:Bool->Bool->Bool
 | true,b=>b
 | false,true=>false
 | false,false=>true
theorem Le {a b:Bool}(h:BQ a b=true):a=b:=by cases a <;> cases b <;> simp_all [BQ]
abbrev cu:=List (Nat×Core)
abbrev fG:=List (Nat×Nat×Bool×Core)
def jF:cu->Nat->Option Core
 | [],_=>none
 | (k,x)::e,t=>match Nat.beq k t with | true=>some x | false=>jF e t
def mQ:fG->Nat->Option (Nat×Bool×Core)
 | [],_=>none
 | (k,x)::e,t=>match Nat.beq k t with | true=>some x | false=>mQ e t
def stands (all:List Oper)(eg:fG):Nat->Option (Nat×Bool)->Nat->Bool->Bool
 | 0,_,_,_=>false
 | _+1,none,_,_=>false
 | f+1,some (j',w'),j,w=>match Nat.beq j' j,BQ w' w with
  | true,true=>true
  | _,_=>(match lH all j' with
   | some d=>(match mQ eg d with
    | some (Ff,w'',_)=>stands all eg f (some (Ff,w'')) j w
    | none=>false)
   | none=>false)
def rd (all:List Oper)(g:Option (Nat×Bool))(e:cu)(eg:fG):Operand->Option Core
 | .tmp t=>(match mQ eg t with
  | some (j,w,c)=>(match stands all eg 9 g j w with | true=>some c | false=>none)
  | none=>jF e t)
 | .const v=>some (.v v)
 | .global g=>some (.v (.pointer (some ⟨g,0,none⟩)))
 | .func f=>some (.v (.func (.func f) ⟨[]⟩ ⟨[]⟩))
def BP (all:List Oper)(e:cu)(eg:fG):Nat->Nat->Bool->Option Bool
 | 0,_,_=>none
 | f+1,j,w=>(match lH all j with
  | some d=>(match mQ eg d with
   | some (j',w',.v (.bool b))=>(match BP all e eg f j' w' with
    | some c=>(match w with | true=>some (c&&b) | false=>some (c&&!b))
    | none=>none)
   | some _=>none
   | none=>(match jF e d with
    | some (.v (.bool b))=>(match w with | true=>some b | false=>some (!b))
    | _=>none))
  | none=>none)
def BR (all:List Oper)(g:Option (Nat×Bool))(e:cu)(eg:fG)(t:Nat)(want:Bool)(x:Operand):Option Core:=
 match rd all g e eg x with
 | some c=>some c
 | none=>(match x with
  | .tmp s=>(match mQ eg s with
   | some (j,w,c)=>(match lH all j,BQ w want with
    | some d,true=>(match Nat.beq d t with | true=>some c | false=>none)
    | _,_=>none)
   | none=>none)
  | _=>none)
def BB (all:List Oper)(g:Option (Nat×Bool))(e:cu)(eg:fG)(c x y:Operand):Option Core:=
 match c,rd all g e eg c with
 | .tmp t,some (.v (.bool b))=>(match BR all g e eg t true x,BR all g e eg t false y with
  | some (.v (.bool p)),some (.v (.bool q))=>some (.v (.bool (cond b p q)))
  | _,_=>none)
 | _,_=>none
def kN (bx:bA)(h:Heap):Prop:=∀ k b vs,dS bx k=some (b,vs)->∃ T,h[b]?=some (.cells ⟨vs⟩ T (0,0))
def Distinct (bx:bA):Prop:=∀ k k' b b' vs vs',dS bx k=some (b,vs)->dS bx k'=some (b',vs')->k≠k'->b≠b'
def fK (bx:bA):Core->Prop
 | .v _=>True
 | .lp k _ | .li k _=>(dS bx k).isSome=true
structure Agree (ops:Array Oper)(e:cu)(eg:fG)(bx:bA)(a:Act):Prop where
 defers:a.defers=[]
 env:∀ t c,jF e t=some c->mQ eg t=none->a.tmps[t]?=some (c.val bx)/\fK bx c
 uK:∀ t j w c,mQ eg t=some (j,w,c)->(yielded ops a.tmps j=some w->a.tmps[t]?=some (c.val bx))/\(yielded ops a.tmps j≠some w->a.tmps[t]?=some undef)/\fK bx c
theorem Fg {ops:Array Oper}{tmps:Array Value}{j d:Nat}(hd:lH ops.toList j=some d){b:Bool}(h:tmps[d]?=some (.bool b)):yielded ops tmps j=some b:=by
 rw [Bz] at hd;have hd':(ops[j]?).bind (·.dst)=some d:=by simpa using hd
 simp [yielded,hd',h]
theorem Lf {ops:Array Oper}{tmps:Array Value}{j d:Nat}(hd:lH ops.toList j=some d)(h:tmps[d]?=some undef):yielded ops tmps j=none:=by
 rw [Bz] at hd;have hd':(ops[j]?).bind (·.dst)=some d:=by simpa using hd
 simp [yielded,hd',h,undef]
theorem Lg {ops:Array Oper}{e:cu}{eg:fG}{bx:bA}{a:Act}(A:Agree ops e eg bx a):∀ (f:Nat) (g:Option (Nat×Bool)) (j:Nat) (w:Bool),
 stands ops.toList eg f g j w=true->(∀ p,g=some p->yielded ops a.tmps p.1=some p.2)->yielded ops a.tmps j=some w
 | 0,_,_,_,h,_=>by cases h
 | f+1,none,_,_,h,_=>by cases h
 | f+1,some (j',w'),j,w,h,hg=>by
  have h0:=hg _ rfl;simp only [stands] at h;split at h
  ·rename_i h1 h2;have e1:=Nat.eq_of_beq_eq_true h1;have e2:=Le h2;subst e1;subst e2;exact h0
  ·split at h
   ·rename_i d hd;split at h
    ·rename_i Ff w'' c hl;refine Lg A f _ j w h (λp hp=>?_);simp at hp;subst hp;obtain ⟨h1,h2,_⟩:=A.uK _ _ _ _ hl;by_cases hy:yielded ops a.tmps Ff=some w''
     ·exact hy
     ·rw [Lf hd (h2 hy)] at h0;cases h0
    ·cases h
   ·cases h
theorem uH {ops:Array Oper}{e:cu}{eg:fG}{bx:bA}{a:Act}(A:Agree ops e eg bx a){g:Option (Nat×Bool)}(hg:∀ p,g=some p->yielded ops a.tmps p.1=some p.2)
 (x:Operand) (c:Core) (h:rd ops.toList g e eg x=some c):a.eval x=c.val bx:=by
 cases x with
 | tmp t=>
  simp only [rd] at h;split at h
  ·rename_i j w c' hl;split at h
   ·rename_i hs;simp at h;subst h;have:=(A.uK _ _ _ _ hl).1 (Lg A 9 g j w hs hg);simp [Act.eval,this]
   ·cases h
  ·rename_i hl;have:=(A.env _ _ h hl).1;simp [Act.eval,this]
 | const v=>simp [rd] at h;subst h;rfl
 | global n=>simp [rd] at h;subst h;rfl
 | func f=>simp [rd] at h;subst h;rfl
theorem KV {ops:Array Oper}{e:cu}{eg:fG}{bx:bA}{a:Act}(A:Agree ops e eg bx a):∀ (f j:Nat) (w:Bool) (c:Bool),
 BP ops.toList e eg f j w=some c->(yielded ops a.tmps j=some w↔c=true)
 | 0,_,_,_,h=>by cases h
 | f+1,j,w,c,h=>by
  simp only [BP] at h;split at h
  ·rename_i d hd;split at h
   ·rename_i j' w' b hl;split at h
    ·rename_i c' hc;have ih:=KV A f j' w' c' hc;obtain ⟨h1,h2,_⟩:=A.uK _ _ _ _ hl;by_cases hy:yielded ops a.tmps j'=some w'
     ·have hb:=Fg hd (h1 hy);have hc':=ih.1 hy;cases w <;> simp at h <;> subst h <;> simp [hb,hc']
     ·have hb:=Lf hd (h2 hy);have hc':c'=false:=by cases c' with
       | false=>rfl
       | true=>exact absurd (ih.2 rfl) hy
      cases w <;> simp at h <;> subst h <;> simp [hb,hc']
    ·cases h
   ·cases h
   ·rename_i hl;split at h
    ·rename_i b hb;have:=Fg hd (A.env _ _ hb hl).1;cases w <;> simp at h <;> subst h <;> simp [this]
    ·cases h
  ·cases h
theorem Lh {ops:Array Oper}{e:cu}{eg:fG}{bx:bA}{a:Act}(A:Agree ops e eg bx a){g:Option (Nat×Bool)}(hg:∀ p,g=some p->yielded ops a.tmps p.1=some p.2)
 {t:Nat} {want:Bool} (ht:a.tmps[t]?=some (.bool want)) (x:Operand) (c:Core) (h:BR ops.toList g e eg t want x=some c):a.eval x=c.val bx:=by
 unfold BR at h;split at h
 ·rename_i c' hc;simp at h;subst h;exact uH A hg x _ hc
 ·split at h
  ·rename_i s;split at h
   ·rename_i j w c' hl;split at h
    ·rename_i d hd hs;split at h
     ·rename_i hb;simp at h;subst h;have e1:=Nat.eq_of_beq_eq_true hb;have e2:=Le hs;subst e1;subst e2;have:=(A.uK _ _ _ _ hl).1 (Fg hd ht);simp [Act.eval,this]
     ·cases h
    ·cases h
   ·cases h
  ·cases h
theorem Tw {P:Program}{ops:Array Oper}{e:cu}{eg:fG}{bx:bA}{a:Act}(A:Agree ops e eg bx a){g:Option (Nat×Bool)}(hg:∀ p,g=some p->yielded ops a.tmps p.1=some p.2)
 {o:Oper} {x y z:Operand} (ho:o.op=.pick x y z) {c:Core} (h:BB ops.toList g e eg x y z=some c) (w:World):(execOp a.eval o).run P w=.ok (.value (c.val bx)) w:=by
 unfold BB at h;split at h
 ·rename_i t b hc;have hx:=uH A hg _ _ hc;have ht:a.tmps[t]?=some (.bool b):=by
   simp only [Act.eval,Core.val] at hx;cases hh:a.tmps[t]? with
   | none=>simp [hh,undef] at hx
   | some v=>simp [hh] at hx;rw [hx]
  split at h
  ·rename_i p q hp hq;simp at h;subst h;simp only [execOp,ho,Sem.run_bind,hx,Core.val,asBool,Sem.run_pure,Result.andThen_ok];cases b with
   | true=>have:=Lh A hg ht _ _ hp;simp [this,Core.val]
   | false=>have:=Lh A hg ht _ _ hq;simp [this,Core.val]
  ·cases h
 ·cases h
structure aI where
 keep:List Nat
 Ld:List Nat
 pv:List Nat
 ord:List (Nat×List Nat)
 EO:List (Nat×Tr):=[]
def yQ:Nat->List Nat->Bool
 | _,[]=>false
 | n,k::l=>match Nat.beq k n with | true=>true | false=>yQ n l
def eP (P:Program)(C:aI)(o:Oper):dQ:=
 match o.op with
 | .load _ (.tmp t)=>(match yQ t C.pv with | true=>.pb | false=>.rd)
 | .load _ _ | .lookup ..=>.rd
 | .call { callee:=.builtin .len,.. }=>.rd
 | .call { callee:=.builtin .cap,.. }=>.p0
 | .call { callee:=.builtin .min,.. }=>.p0
 | .call { callee:=.builtin .max,.. }=>.p0
 | .call _=>.ef
 | .alloc _ | .box _ _ | .buildSlice .. | .makeMap ..=>.al
 | .store _ (.tmp t) _=>(match yQ t C.pv with | true=>.be | false=>.ef)
 | .move _ | .assign _ | .pick .. | .build .. | .nilCheck _ | .unOp .. | .makeFunc .. | .slice .. | .fieldAddr .. | .field .. | .indexAddr .. | .index .. | .extract ..=>.p0
 | .binOp op t _ _ _=>(match P.underlying t,op with
  | some (.float _),.add | some (.float _),.sub | some (.float _),.mul | some (.float _),.quo=>.ef
  | _,_=>.p0)
 | .convert s t _=>(match P.underlying s,P.underlying t with
  | some (.int _),some (.int _)=>.p0
  | some .string,some .string=>.p0
  | _,_=>.ef)
 | _=>.ef
def rz (ρ:Operand->Option Core)(d:Int):Option Operand->Option Int
 | none=>some d
 | some x=>(match ρ x with | some (.v (.int _ n))=>some n | _=>none)
def ji (s:ByteArray)(j:Nat):Int:=((s.data.toList[j]?).getD 0).toNat
@[irreducible] def gJ (c:Option Bool) (P:Program) (s:Sem Value) (K:Value->Prop):Prop:=∃ v,Under c (∀ w:World,s.run P w=.ok v w)/\K v
def YX (op:BinOp)(k:IntKind)(x y:Int):Option Value:=
 match op with
 | .shl=>some (.int k (k.wrap (x*2 ^ (min y.toNat k.bits))))
 | .shr=>some (.int k (x.fdiv (2 ^ (min y.toNat k.bits))))
 | _=>none
def qh (ρ:Operand->Option Core):Option Operand->Option (Option Value)
 | none=>some none
 | some x=>(match ρ x with | some (.v v)=>some (some v) | _=>none)
def Fa (bg:dQ)(p:Prop):Prop:=match bg with|.rd=>p|_=>False
def BO (K:Core->Prop)(z:Value)(ok:Bool)(o:Option Value):Prop:=
 match o,ok with
 | some v,true=>K (.v (.tuple ⟨[v,.bool true]⟩))
 | some v,false=>K (.v v)
 | none,true=>K (.v (.tuple ⟨[z,.bool false]⟩))
 | none,false=>K (.v z)
def E9 (P:Program)(bg:dQ)(c:Option Bool)(op:Op)(ρ:Operand->Option Core)(bx:bA)(h:Heap)(K:Core->Prop):Prop:=
 match op with
 | .load t x=>(match bg,oF P t,ρ x with
  | .pb,some .one,some (.lp k off)=>(match dS bx k with
   | some (_,vs)=>(match nth vs off with | some v=>K (.v v) | none=>False)
   | none=>False)
  | .pb,some (.agg n),some (.lp k off)=>(match dS bx k with
   | some (_,vs)=>(match pu n (pz off vs) with | some l=>K (.v (.agg ⟨l⟩)) | none=>False)
   | none=>False)
  | .pb,some .one,some (.li k off)=>(match dS bx k with
   | some (_,vs)=>iO c vs off λv=>K (.v v)
   | none=>False)
  | .rd,some .one,some (.v (.pointer (some ⟨b,off,none⟩)))=>ax c h b off λv=>K (.v v)
  | .rd,some (.agg n),some (.v (.pointer (some ⟨b,off,none⟩)))=>fq c h b off n λvs=>K (.v (.agg ⟨vs⟩))
  | _,_,_=>False)
 | .indexAddr t x i=>(match ρ i with
  | some (.v (.int _ n))=>(match P.underlying t,ρ x with
   | some (.slice e),some (.v (.slice a len _))=>(match pG P e with
    | some s=>aX c n len a s λb off=>K (.v (.pointer (some ⟨b,off,none⟩)))
    | none=>False)
   | some (.array len e),some (.lp k off)=>(match pG P e with
    | some s=>dO c n len λj=>K (.li k (off+j*s))
    | none=>False)
   | some (.array len e),some (.v (.pointer (some ⟨b,off,none⟩)))=>(match pG P e with
    | some s=>dO c n len λj=>K (.v (.pointer (some ⟨b,off+j*s,none⟩)))
    | none=>False)
   | _,_=>False)
  | _=>False)
 | .index t x i=>(match ρ i with
  | some (.v (.int _ n))=>(match P.underlying t,ρ x with
   | some .string,some (.v (.string s))=>dO c n s.size λj=>K (.v (.int .u8 (ji s j)))
   | some (.array len e),some (.v (.agg ⟨cs⟩))=>(match oF P e with
    | some .one=>dO c n len λj=>iO c cs j λv=>K (.v v)
    | _=>False)
   | _,_=>False)
  | _=>False)
 | .binOp o xt x y _=>(match ρ x,ρ y with
  | some (.v (.string a)),some (.v (.string b))=>(match o with
   | .add=>dL c (a.size+b.size<=9223372036854775807) (K (.v (.string (a++b))))
   | _=>False)
  | some (.v (.int k a)),some (.v (.int k' b))=>(match o with
   | .quo=>(match k==k' with | true=>dL c (b≠0) (K (.v (.int k (k.wrap (a.tdiv b))))) | false=>False)
   | .rem=>(match k==k' with | true=>dL c (b≠0) (K (.v (.int k (a.tmod b)))) | false=>False)
   | .shl=>dL c (0<=b) (K (.v (.int k (k.wrap (a*2 ^ (min b.toNat k.bits))))))
   | .shr=>dL c (0<=b) (K (.v (.int k (a.fdiv (2 ^ (min b.toNat k.bits))))))
   | _=>False)
  | some (.v a),some (.v b)=>gJ c P (do eqGuard o xt x y a b;binOp o xt a b:Sem Value) λv=>K (.v v)
  | _,_=>False)
 | .slice t x lo hi (some mx)=>(match ρ x,qh ρ lo,qh ρ hi,qh ρ (some mx) with
  | some (.v xv),some sM,some hiv,some Lb=>gJ c P (Instr.sliceAt t xv sM hiv Lb) λv=>K (.v v)
  | _,_,_,_=>False)
 | .slice t x lo hi none=>(match P.underlying t,ρ x with
  | some .string,some (.v (.string s))=>(match rz ρ 0 lo,rz ρ s.size hi with
   | some l,some r=>dw c l r s.size λl r=>K (.v (.string (s.extract l r)))
   | _,_=>False)
  | some (.slice e),some (.v (.slice a len cap))=>(match rz ρ 0 lo,rz ρ len hi,pG P e with
   | some l,some r,some s=>dw c l r cap λl r=>K (.v (.slice (jh a cap l s) (r-l) (cap-l)))
   | _,_,_=>False)
  | some (.pointer _),some (.v xv)=>(match qh ρ lo,qh ρ hi with
   | some sM,some hiv=>gJ c P (Instr.sliceAt t xv sM hiv none) λv=>K (.v v)
   | _,_=>False)
  | some (.array _ _),some (.v xv)=>(match qh ρ lo,qh ρ hi with
   | some sM,some hiv=>gJ c P (Instr.sliceAt t xv sM hiv none) λv=>K (.v v)
   | _,_=>False)
  | _,_=>False)
 | .lookup t m k ok=>(match P.underlying t,ρ m,ρ k with
  | some (.map kt et),some (.v (.map (some r))),some (.v kv)=>(match P.underlying kt,P.info? et with
   | some kd,some i=>(match kd,i.zero with
    | .int _,some z | .string,some z=>Fa bg (gL c h kd r kv (BO K z ok))
    | _,_=>False)
   | _,_=>False)
  | some (.map kt et),some (.v (.map none)),some (.v kv)=>(match P.underlying kt,P.info? et with
   | some kd,some i=>(match kd,i.zero with
    | .int _,some z | .string,some z=>BO K z ok none
    | _,_=>False)
   | _,_=>False)
  | _,_,_=>False)
 | .call { callee:=.builtin .len,args,argTypes }=>(match args.toList,argTypes.toList with
  | [x],[t]=>(match P.underlying t,ρ x with
   | some (.map _ _),some (.v (.map none))=>K (.v (.int .i64 0))
   | some (.map _ _),some (.v (.map (some r)))=>(match bg with | .rd=>sF c h r λn=>K (.v (.int .i64 n)) | _=>False)
   | _,_=>False)
  | _,_=>False)
 | _=>False
def BH (P:Program)(f:Nat):Bool:=
 match P.funcs[f]? with
 | some fn => fn.body.isSome && !(fn.name == "runtime.NumGoroutine")
 | none=>false
def au:bA->List Nat
 | []=>[]
 | (_,b,_)::r=>b::au r
def xZ (P:Program)(t:TypeId):Option (List Value):=
 match P.info? t with
 | some i=>(match i.zero with | some z=>some (cellsOf z) | none=>none)
 | none=>none
def TN (P:Program)(t:TypeId):Value:=
 match P.info? t with
 | some i=>(match i.zero with | some z=>z | none=>undef)
 | none=>undef
def mM (n:Nat)(l:List Value):List Value:=match n with|0=>[]|n+1=>l++mM n l
def uE:Value->Bool
 | .agg _ | .tuple _=>false
 | _=>true
def gV:List Value->Bool
 | []=>true
 | v::r=>(match uE v with | true=>gV r | false=>false)
def yO (f:FuncId)(args:Array Value):Sem Value:=do
 match <-callFunc f args with
 | .value v=>pure v
 | _ => stuck "extCall"
def yL (P:Program)(C:aI)(bg:dQ)(o:Oper)(ρ:Operand->Option Core)(bx:bA)(h:Heap)(K:Core->bA->Heap->Prop):Prop:=
 match o.op with
 | .box e x=>(match ρ x with
  | some (.v v)=>(match o.dst with
   | some d=>(match yQ d C.Ld with
    | true=>(match dS bx d with
     | none=>aL h (.cells ⟨cellsOf v⟩ e) λb h'=>K (.lp d 0) (aZ d b (cellsOf v) bx) h'
     | some _=>False)
    | false=>aL h (.cells ⟨cellsOf v⟩ e) λb h'=>K (.v (.pointer (some ⟨b,0,none⟩))) bx h')
   | none=>False)
  | _=>False)
 | .alloc e=>(match xZ P e,o.dst with
  | some l,some d=>(match yQ d C.Ld with
   | true=>(match dS bx d with
    | none=>aL h (.cells ⟨l⟩ e) λb h'=>K (.lp d 0) (aZ d b l bx) h'
    | some _=>False)
   | false=>aL h (.cells ⟨l⟩ e) λb h'=>K (.v (.pointer (some ⟨b,0,none⟩))) bx h')
  | _,_=>False)
 | .buildSlice t n parts=>(match P.underlying t with
  | some (.slice e)=>(match xZ P e,pG P e with
   | some z,some s=>(match Nat.ble (n*s) 16777216,Nat.beq z.length s,uP (λi=>some (i*s,s)) ρ (n*s) (mM n z) parts.toList with
    | true,true,some l=>aL h (.cells ⟨l⟩ e) λb h'=>K (.v (.slice (some ⟨b,0,none⟩) n n)) bx h'
    | _,_,_=>False)
   | _,_=>False)
  | _=>False)
 | .makeMap _ none=>aL h (.map #[] 0) λb h'=>K (.v (.map (some b))) bx h'
 | .store t a x=>(match bg,ρ x with
  | .be,some (.v v)=>(match ρ a,oF P t with
   | some (.lp k off),some l=>(match dS bx k,pG P t with
    | some (b,vs),some s=>(match Nat.beq (cellsOf v).length s,leB (off+s) vs.length,gV (cellsOf v) with
     | true,true,true=>aK h b λh'=>K (.v undef) (aZ k b (bF off (cellsOf v) vs) bx) h'
     | _,_,_=>False)
    | _,_=>False)
   | some (.li k off),some l=>(match dS bx k,pG P t with
    | some (b,vs),some s=>(match Nat.beq (cellsOf v).length s,gV (cellsOf v) with
     | true,true=>dL none (off+s<=vs.length) (aK h b λh'=>K (.v undef) (aZ k b (bF off (cellsOf v) vs) bx) h')
     | _,_=>False)
    | _,_=>False)
   | _,_=>False)
  | .ef,some (.v v)=>(match ρ a,oF P t,pG P t with
   | some (.v (.pointer (some ⟨b,off,none⟩))),some l,some s=>(match Nat.beq (cellsOf v).length s,gV (cellsOf v) with
    | true,true=>dN h b off (cellsOf v) (au bx) λh'=>K (.v undef) bx h'
    | _,_=>False)
   | _,_,_=>False)
  | _,_=>False)
 | .mapUpdate t m k x | .insert t m k x=>(match ρ m,ρ k,ρ x with
  | some (.v m),some (.v k),some (.v x)=>aW P (Instr.mapUpdate t m k x) (au bx) h λ_ h'=>K (.v undef) bx h'
  | _,_,_=>False)
 | .makeSlice t l c=>(match ρ l,ρ c with
  | some (.v l),some (.v c)=>aW P (Instr.makeSlice t l c) (au bx) h λv h'=>K (.v v) bx h'
  | _,_=>False)
 | .convert s t x=>(match ρ x with
  | some (.v x)=>aW P (convert s t x) (au bx) h λv h'=>K (.v v) bx h'
  | _=>False)
 | .range t x=>(match ρ x with
  | some (.v x)=>aW P (Instr.range t x) (au bx) h λv h'=>K (.v v) bx h'
  | _=>False)
 | .next it s=>(match ρ it with
  | some (.v it)=>aW P (Instr.next it s o.type) (au bx) h λv h'=>K (.v v) bx h'
  | _=>False)
 | .entry it=>(match ρ it with
  | some (.v it)=>aW P (Instr.entry it) (au bx) h λv h'=>K (.v v) bx h'
  | _=>False)
 | .mapEntry t m k=>(match ρ m,ρ k with
  | some (.v m),some (.v k)=>aW P (Instr.mapEntry t m k) (au bx) h λv h'=>K (.v v) bx h'
  | _,_=>False)
 | .entryStore t m s x=>(match ρ m,ρ s,ρ x with
  | some (.v m),some (.v s),some (.v x)=>aW P (Instr.entryStore t m s x) (au bx) h λ_ h'=>K (.v undef) bx h'
  | _,_,_=>False)
 | .binOp op t x y _=>(match ρ x,ρ y with
  | some (.v a),some (.v b)=>aW P (do eqGuard op t x y a b;binOp op t a b:Sem Value) (au bx) h λv h'=>K (.v v) bx h'
  | _,_=>False)
 | .call { callee:=.builtin b,args,argTypes }=>(match vals ρ args.toList with
  | some as=>(match b with
   | .append=>aW P (Builtin.append_ argTypes o.type ⟨as⟩) (au bx) h λv h'=>K (.v v) bx h'
   | .copy=>aW P (Builtin.copy_ argTypes o.type ⟨as⟩) (au bx) h λv h'=>K (.v v) bx h'
   | .delete=>aW P (Builtin.delete_ argTypes o.type ⟨as⟩) (au bx) h λv h'=>K (.v v) bx h'
   | .clear=>aW P (Builtin.clear_ argTypes o.type ⟨as⟩) (au bx) h λv h'=>K (.v v) bx h'
   | .unsafeSliceData=>aW P (Builtin.unsafeSliceData_ argTypes o.type ⟨as⟩) (au bx) h λv h'=>K (.v v) bx h'
   | .unsafeString=>aW P (Builtin.unsafeString_ argTypes o.type ⟨as⟩) (au bx) h λv h'=>K (.v v) bx h'
   | _=>False)
  | none=>False)
 | .call { callee:=.value f,args,.. }=>(match ρ f,vals ρ args.toList with
  | some (.v (.func (.func f) ⟨first⟩ ⟨captured⟩)),some as=>(match BH P f with
   | true=>ak P f (first++as++captured) (au bx) h λv h'=>K (.v v) bx h'
   | false=>aW P (yO f ⟨first++as++captured⟩) (au bx) h λv h'=>K (.v v) bx h')
  | _,_=>False)
 | _=>False
def sJ:dQ->Bool
 | .al | .ef | .be=>true
 | _=>false
def wo (all:List Oper)(d:Nat):fG->Bool
 | []=>true
 | (t,j,_,_)::r=>match Nat.beq t d with
  | true=>false
  | false=>(match lH all j with
   | some d'=>(match Nat.beq d' d with | true=>false | false=>wo all d r)
   | none=>wo all d r)
def rf (all:List Oper)(dst:Option Nat)(g:Option (Nat×Bool))(c:Core)(e:cu)(eg:fG)(K:cu->fG->Prop):Prop:=
 match dst with
 | none=>K e eg
 | some d=>(match wo all d eg with
  | true=>(match g with
   | none=>K ((d,c)::e) eg
   | some (j,w)=>(match lH all j with
    | some d'=>(match Nat.beq d' d with | true=>False | false=>K e ((d,j,w,c)::eg))
    | none=>False))
  | false=>False)
def BA (all:List Oper)(P:Program)(g:Option (Nat×Bool))(e:cu)(eg:fG)(op:Op):Option Core:=
 match op with
 | .pick c x y=>BB all g e eg c x y
 | op=>yJ P op (rd all g e eg)
def BD (P:Program)(C:aI)(all:List Oper)(o:Oper)(g:Option (Nat×Bool))(c:Option Bool)(e:cu)(eg:fG)(bx:bA)(h:Heap)(K:cu->fG->bA->Heap->Prop):Prop:=
 match BA all P g e eg o.op with
 | some x=>rf all o.dst g x e eg λe eg=>K e eg bx h
 | none=>(match sJ (eP P C o),g with
  | false,_=>E9 P (eP P C o) c o.op (rd all g e eg) bx h λx=>rf all o.dst g x e eg λe eg=>K e eg bx h
  | true,none=>yL P C (eP P C o) o (rd all g e eg) bx h λx bx h=>rf all o.dst none x e eg λe eg=>K e eg bx h
  | true,some _=>False)
def mU (P:Program)(C:aI)(all:List Oper)(K:cu->fG->bA->Heap->Prop):List Oper->cu->fG->bA->Heap->Prop
 | [],e,eg,bx,h=>K e eg bx h
 | o::os,e,eg,bx,h=>(match o.guard with
  | none=>BD P C all o none none e eg bx h λe eg bx h=>mU P C all K os e eg bx h
  | some (j,w)=>(match BP all e eg 9 j w with
   | some c=>(match sJ (eP P C o) with
    | false=>BD P C all o (some (j,w)) (some c) e eg bx h λe eg bx h=>mU P C all K os e eg bx h
    | true=>aj c
     (KW P C all o (some (j,w)) e eg bx h λe eg bx h=>mU P C all K os e eg bx h)
     (rf all o.dst (some (j,w)) (.v (TN P o.type)) e eg λe eg=>mU P C all K os e eg bx h))
   | none=>False))
where
 KW (P:Program) (C:aI) (all:List Oper) (o:Oper) (g:Option (Nat×Bool)) (e:cu) (eg:fG) (bx:bA) (h:Heap) (K:cu->fG->bA->Heap->Prop):Prop:=
  match BA all P g e eg o.op with
  | some x=>rf all o.dst none x e eg λe eg=>K e eg bx h
  | none=>yL P C (eP P C o) o (rd all g e eg) bx h λx bx h=>rf all o.dst none x e eg λe eg=>K e eg bx h
def yE:List Nat->cu->(cu->Prop)->Prop
 | [],_,K=>K []
 | t::L,e,K=>(match jF e t with
  | some c=>yE L e λe'=>K ((t,c)::e')
  | none=>yE L e K)
def lZ:List Nat->cu->fG->(cu->Prop)->Prop
 | [],_,_,K=>K []
 | t::L,e,eg,K=>(match mQ eg t with
  | some _=>lZ L e eg K
  | none=>(match jF e t with
   | some c=>lZ L e eg λe'=>K ((t,c)::e')
   | none=>lZ L e eg K))
def sG (bx:bA):cu->Bool
 | []=>true
 | (_,.v _)::r=>sG bx r
 | (_,.lp k _)::r=>(match dS bx k with | some _=>sG bx r | none=>false)
 | (_,.li k _)::r=>(match dS bx k with | some _=>sG bx r | none=>false)
def Br:bA->Bool
 | []=>true
 | (k,_,_)::r=>(match dS r k with | some _=>false | none=>Br r)
def jm:List Nat->bA->(bA->Prop)->Prop
 | [],_,K=>K []
 | k::L,bx,K=>(match dS bx k with
  | some (b,vs)=>jm L bx λbx'=>K ((k,b,vs)::bx')
  | none=>jm L bx K)
def qY (L B:List Nat)(e:cu)(bx:bA)(K:cu->bA->Prop):Prop:=
 yE L e λe=>jm B bx λbx=>match sG bx e,Br bx with
  | true,true=>K e bx
  | _,_=>False
abbrev Post:=Exit->cu->bA->Heap->Prop
@[irreducible] def bP (body:Post->cu->bA->Heap->Prop) (Q:Post) (e:cu) (bx:bA) (h:Heap):Prop:=
 ∃ (L B:List Nat) (I:Nat->cu->bA->Heap->Prop),(∃ d,qY L B e bx λe bx=>I d e bx h) /\
  ∀ d e bx h,I d e bx h->body (λx e bx h=>match x with
   | .normal=>∃ d',d'<d/\qY L B e bx λe bx=>I d' e bx h
   | x=>Q x e bx h) e bx h
@[irreducible] def aV (first:Post->cu->bA->Heap->Prop) (rest:cu->bA->Heap->Prop) (Q:Post) (e:cu) (bx:bA) (h:Heap):Prop:=
 first (λx e bx h=>match x with | .normal=>rest e bx h | x=>Q x e bx h) e bx h
def yR (id:Nat):Code->Nat
 | .exit j=>(match Nat.beq j id with | true=>1 | false=>0)
 | .seq a b | .cond _ a b=>yR id a+yR id b
 | .block _ b | .loop b | .scope b=>yR id b
 | _=>0
def rA:Code->Bool
 | .ret=>false
 | .exit _=>false
 | .goto _=>false
 | .loop _=>false
 | .seq a b=>(match rA a with | true=>rA b | false=>false)
 | .cond _ a b=>(match rA a with | true=>true | false=>rA b)
 | .block id b=>(match yR id b with | 0=>rA b | _+1=>true)
 | _=>true
def forks:Code->Bool
 | .cond _ a b=>(match rA a with | true=>rA b | false=>(match rA b with | true=>forks b | false=>false))
 | .seq _ b=>forks b
 | .scope b=>forks b
 | .block id b=>(match yR id b,rA b with
  | 0,true=>forks b
  | 0,false=>false
  | 1,false=>false
  | _,_=>true)
 | _=>false
def kC (all:List Oper):List Nat->List Oper
 | []=>[]
 | k::l=>(match oD all k with | some o=>o::kC all l | none=>kC all l)
where oD:List Oper->Nat->Option Oper
 | [],_=>none
 | o::_,0=>some o
 | _::r,n+1=>oD r n
def Fe:List (Nat×List Nat)->Nat->Option (List Nat)
 | [],_=>none
 | (k,l)::r,n=>(match Nat.beq k n with | true=>some l | false=>Fe r n)
@[irreducible] def gI (a b:Prop):Prop:=a/\b
def Bu:List (Nat×Tr)->Nat->Option Tr
 | [],_=>none
 | (k,l)::r,n=>(match Nat.beq k n with | true=>some l | false=>Bu r n)
def sK (P:Program)(C:aI)(all:List Oper)(K:cu->fG->bA->Heap->Prop):Tr->cu->fG->bA->Heap->Prop
 | .nil,e,eg,bx,h=>K e eg bx h
 | .cons k t,e,eg,bx,h=>(match kC.oD all k with
  | some o=>mU P C all (λe eg bx h=>sK P C all K t e eg bx h) [o] e eg bx h
  | none=>False)
 | .both s t,e,eg,bx,h=>gI (sK P C all K s e eg bx h) (sK P C all K t e eg bx h)
def vc (P:Program)(C:aI):Code->Post->cu->bA->Heap->Prop
 | .skip,Q,e,bx,h=>Q .normal e bx h
 | .label _,Q,e,bx,h=>Q .normal e bx h
 | .exit id,Q,e,bx,h=>Q (.exit id) e bx h
 | .ret,Q,e,bx,h=>Q .ret e bx h
 | .seq a b,Q,e,bx,h=>(match forks a with
  | true=>aV (λQ e bx h=>vc P C a Q e bx h) (λe bx h=>vc P C b Q e bx h) Q e bx h
  | false=>vc P C a (λx e bx h=>match x with | .normal=>vc P C b Q e bx h | x=>Q x e bx h) e bx h)
 | .cond c a b,Q,e,bx,h=>(match rd [] none e [] c with
  | some (.v (.bool t))=>aj t (vc P C a Q e bx h) (vc P C b Q e bx h)
  | _=>False)
 | .block id b,Q,e,bx,h=>vc P C b (λx e bx h=>match x with
  | .exit j=>(match Nat.beq j id with | true=>Q .normal e bx h | false=>Q (.exit j) e bx h)
  | x=>Q x e bx h) e bx h
 | .loop b,Q,e,bx,h=>bP (λQ e bx h=>vc P C b Q e bx h) Q e bx h
 | .scope b,Q,e,bx,h=>vc P C b (λx e bx h=>match x with | .goto _=>False | x=>Q x e bx h) e bx h
 | .region id ops false,Q,e,bx,h=>mU P C ops.toList (λe eg bx h=>lZ C.keep e eg λe=>Q .normal e bx h) ops.toList e [] bx h
 | .region id ops true,Q,e,bx,h=>(match Bu C.EO id with
  | some t=>sK P C ops.toList (λe eg bx h=>lZ C.keep e eg λe=>Q .normal e bx h) t e [] bx h
  | none=>match Fe C.ord id with
  | none=>mU P C ops.toList (λe eg bx h=>lZ C.keep e eg λe=>Q .normal e bx h) ops.toList e [] bx h
  | some l=>mU P C ops.toList (λe eg bx h=>lZ C.keep e eg λe=>Q .normal e bx h) (kC ops.toList l) e [] bx h)
 | _,_,_,_,_=>False
def lG (P:Program)(C:aI)(ops:Array Oper)(k:Nat):dQ:=match ops[k]? with|some o=>eP P C o|none=>.p0
def aJ (P:Program)(C:aI)(n:Nat):Code->Bool
 | .seq a b | .cond _ a b=>aJ P C n a&&aJ P C n b
 | .block _ b | .loop b | .scope b=>aJ P C n b
 | .region id ops d=>ops.all (λo=>match o.dst with | some t=>decide (t<n) | none=>true)&&(!d ||
  (
   match Bu C.EO id with
   | some t=>decide (t.len=ops.size)&&Region.noSelect ops&&qi ops (lG P C ops) t (Array.replicate ops.size false)
   | none=>
   let l:=(Fe C.ord id).getD (List.range ops.size)
   decide (l.length=ops.size)&&l.all (λk=>decide (k<ops.size))&&Region.noSelect ops&&uI ops (lG P C ops) l (Array.replicate ops.size false)))
 | _=>true
def pF (h h':Heap):Prop:=h.size<=h'.size/\∀ b,b<h.size->h'[b]?=h[b]?
theorem pF.cell {h h':Heap}(x:pF h h'){b o:Nat}{v:Value}(hc:Heap.cell? h b o=some v):Heap.cell? h' b o=some v:=by
 have hb:b<h.size:=by
  unfold Heap.cell? at hc;rcases Nat.lt_or_ge b h.size with h1|h1
  ·exact h1
  ·simp [Array.getElem?_eq_none h1] at hc
 unfold Heap.cell? at hc ⊢;rw [x.2 b hb];exact hc
theorem pF.obj {h h':Heap}(x:pF h h'){b:Nat}{o:Obj}(hc:h[b]?=some o):h'[b]?=some o:=by
 have hb:b<h.size:=by
  rcases Nat.lt_or_ge b h.size with h1|h1
  ·exact h1
  ·simp [Array.getElem?_eq_none h1] at hc
 rw [x.2 b hb];exact hc
def yK (bg:dQ)(bx:bA)(h:Heap)(w:World):Prop:=
 match bg with
 | .pb=>kN bx w.heap
 | .rd=>pF h w.heap
 | _=>True
theorem yG {P:Program}{t:TypeId}(hl:oF P t=some .one){b off:Nat}{v:Value}{w:World}(hc:Heap.cell? w.heap b off=some v) :
 (Instr.loadAt t (.pointer (some ⟨b,off,none⟩))).run P w=.ok v w:=by
 obtain ⟨h1,h2⟩:=EY hl w;simp only [Instr.loadAt,Instr.sureAddr,Sem.run_bind,Sem.run_pure,Result.andThen_ok,loadVar,h1,Bool.false_eq_true,if_false,run_load,uM,hc]
theorem EZ {P:Program}{w:World}{b:Nat}:∀ (n i off:Nat) (vs:List Value) (acc:Array Value),vs.length=n->(∀ k,k<n->Heap.cell? w.heap b (off+i+k)=vs[k]?) ->
 (loadCellsFrom ⟨b,off,none⟩ i n acc).run P w=.ok (acc++⟨vs⟩) w
 | 0,i,off,vs,acc,hn,_=>by
  have:vs=[]:=by simpa using hn
  subst this;simp [loadCellsFrom]
 | n+1,i,off,vs,acc,hn,hc=>by
  cases vs with
  | nil=>simp at hn
  | cons v vs=>
   have h0:=hc 0 (by omega);have ha:(⟨b,off,none⟩:Addr).add i=⟨b,off+i,none⟩:=by
    unfold Addr.add;split
    ·rename_i h;subst h;rfl
    ·rfl
   simp only [Nat.add_zero,List.getElem?_cons_zero] at h0;simp only [loadCellsFrom,Sem.run_bind,ha,run_load,uM,h0,Result.andThen_ok];rw [EZ n (i+1) off vs (acc.push v) (by simpa using hn) (λk hk=>by
    have:=hc (k+1) (by omega);rw [show off+i+(k+1)=off+(i+1)+k by omega] at this;simpa using this)]
   congr 1
   apply Array.ext';simp
theorem Bw {P:Program}{t:TypeId}{n:Nat}(hl:oF P t=some (.agg n)){b off:Nat}{vs:List Value}{w:World}(hn:vs.length=n)
 (hc:∀ k,k<n->Heap.cell? w.heap b (off+k)=vs[k]?):(Instr.loadAt t (.pointer (some ⟨b,off,none⟩))).run P w=.ok (.agg ⟨vs⟩) w:=by
 obtain ⟨h1,h2⟩:=K9 hl w;simp only [Instr.loadAt,Instr.sureAddr,Sem.run_bind,Sem.run_pure,Result.andThen_ok,loadVar,h1,if_true,h2,loadCells];rw [EZ n 0 off vs #[] hn (by simpa using hc)];simp
theorem E5 {bx:bA}{h:Heap}(hb:kN bx h){k b:Nat}{vs:List Value}(hl:dS bx k=some (b,vs))(i:Nat):Heap.cell? h b i=vs[i]?:=by
 obtain ⟨T,hT⟩:=hb _ _ _ hl;simp [Heap.cell?,hT]
theorem uJ {bx:bA}{k b:Nat}{vs:List Value}(hl:dS bx k=some (b,vs)):blk bx k=b:=by simp [blk,hl]
theorem wB {P:Program}{t:TypeId}{s:Nat}(h:pG P t=some s)(w:World):(sizeOf t).run P w=.ok s w:=by
 unfold pG at h;split at h
 ·rename_i i hi;simp at h;subst h;simp [sizeOf,gZ P t w hi]
 ·cases h
theorem addr_add (b off n:Nat):(⟨b,off,none⟩:Addr).add n=⟨b,off+n,none⟩:=by
 unfold Addr.add;split
 ·rename_i h;subst h;rfl
 ·rfl
theorem BN {P:Program}{k:IntKind}{i:Int}{l y:Nat}{code:BoundsCode}(h:i=(l:Int))(hl:l<=y)(w:World):(Instr.sliceBound (.int k i) y code).run P w=.ok l w:=by
 subst h;simp only [Instr.sliceBound,asIntOf,Sem.run_bind,Sem.run_pure,Result.andThen_ok];rw [if_pos ⟨by omega,by omega⟩];simp
theorem E8 {ρ:Operand->Option Core}{ρ':Operand->Value}{bx:bA}(hρ:∀ y c,ρ y=some c->ρ' y=c.val bx){d:Int}{x:Option Operand}{n:Int}(h:rz ρ d x=some n) :
 (x=none/\n=d)\/∃ y k,x=some y/\ρ' y=.int k n:=by
 cases x with
 | none=>simp [rz] at h;exact .inl ⟨rfl,h.symm⟩
 | some y=>
  simp only [rz] at h;split at h
  ·rename_i k n' hy;simp at h;subst h;exact .inr ⟨y,k,rfl,hρ _ _ hy⟩
  ·cases h
theorem La {P:Program}{ρ:Operand->Option Core}{ρ':Operand->Value}{bx:bA}(hρ:∀ y c,ρ y=some c->ρ' y=c.val bx)
 {lo hi:Option Operand} {a b:Int} {len cap l r:Nat} {TK:Bool} (ha:rz ρ 0 lo=some a) (hb:rz ρ len hi=some b)
 (h1:a=(l:Int)) (h2:b=(r:Int)) (h3:l<=r) (h4:r<=cap) (w:World) :
 (Instr.sliceBounds TK len cap (lo.map ρ') (hi.map ρ') none).run P w=.ok (l,r,cap) w:=by
 unfold Instr.sliceBounds;rcases E8 hρ ha with ⟨rfl,h5⟩|⟨y,k,rfl,h5⟩
 ·have hl0:l=0:=by omega
  subst hl0;rcases E8 hρ hb with ⟨rfl,h6⟩|⟨y',k',rfl,h6⟩
  ·have:r=len:=by omega
   subst this;simp
  ·simp only [Option.map_none,Option.map_some,Sem.run_bind,Sem.run_pure,Result.andThen_ok,h6];rw [BN h2 h4 w];simp
 ·rcases E8 hρ hb with ⟨rfl,h6⟩|⟨y',k',rfl,h6⟩
  ·have:r=len:=by omega
   subst this;simp only [Option.map_none,Option.map_some,Sem.run_bind,Sem.run_pure,Result.andThen_ok,h5];rw [BN h1 h3 w];simp
  ·simp only [Option.map_some,Sem.run_bind,Sem.run_pure,Result.andThen_ok,h5,h6];rw [BN h2 h4 w];simp only [Result.andThen_ok];rw [BN h1 h3 w];simp
theorem uj {P:Program}{kt:TypeId}{kd:TypeDesc}(hk:P.underlying kt=some kd)(hp:(∃ k,kd=.int k)\/kd=.string)(e:Bool)(n:Nat)(v:Value)(w:World) :
 (Instr.checkKey e (n+1) kt v).run P w=.ok () w:=by
 simp only [Instr.checkKey,Sem.run_bind,dK P kt w hk,Result.andThen_ok];rcases hp with ⟨k,rfl⟩|rfl <;> simp
theorem uh {P:Program}{kt:TypeId}{kd:TypeDesc}(hk:P.underlying kt=some kd){k:Value}{es:List MapEntry}{r:Option (Nat×Value)}(h:Instr.findNow kd k es 0=some r)(w:World) :
 (Instr.findKey kt k es).run P w=.ok r w:=by
 simp only [Instr.findKey,Sem.run_bind,dK P kt w hk,Result.andThen_ok,h,Sem.run_pure]
theorem iK {c:Option Bool}{p q:Prop}(h:Under c p)(hq:p->q):Under c q:=by
 cases c with
 | none=>exact hq h
 | some b=>exact λhb=>hq (h hb)
theorem lY {c:Option Bool}{q:Prop}(h:q):Under c q:=by
 cases c with
 | none=>exact h
 | some b=>exact λ_=>h
theorem uO {ρ:Operand->Option Core}{ρ':Operand->Value}{bx:bA}(hρ:∀ y c,ρ y=some c->ρ' y=c.val bx){x:Option Operand}{v:Option Value}(h:qh ρ x=some v):x.map ρ'=v:=by
 cases x with
 | none=>simp [qh] at h;subst h;rfl
 | some y=>
  simp only [qh] at h;split at h
  ·rename_i v' hy;simp at h;subst h;simp [hρ _ _ hy,Core.val]
  ·cases h
theorem KU {P:Program}{bg:dQ}{c:Option Bool}{o:Oper}{ρ:Operand->Option Core}{bx:bA}{h:Heap}{K:Core->Prop}
 (H:E9 P bg c o.op ρ bx h K) :
 ∃ x,K x/\(∀ k,dS bx k=none->fK bx x->True)/\((∀ y c,ρ y=some c->fK bx c)->fK bx x) /\
  ∀ (ρ':Operand->Value) (w:World),(∀ y c,ρ y=some c->ρ' y=c.val bx)->yK bg bx h w->Under c ((execOp ρ' o).run P w=.ok (.value (x.val bx)) w):=by
 obtain ⟨dst,op,ty,pos,after,guard⟩:=o;simp only at H;unfold E9 at H;split at H
 ·
  rename_i t x;split at H
  ·rename_i k off hl hx;split at H
   ·rename_i b vs hb;split at H
    ·rename_i v hv;rw [nN] at hv;refine ⟨.v v,H,λ_ _ _=>trivial,λ_=>trivial,λρ' w hρ hw=>lY ?_⟩;simp only [execOp,Sem.run_bind,hρ _ _ hx,Core.val,uJ hb];rw [yG hl (by rw [E5 hw hb];exact hv)];simp
    ·exact H.elim
   ·exact H.elim
  ·rename_i n k off hl hx;split at H
   ·rename_i b vs hb;split at H
    ·rename_i l hv;obtain ⟨h1,h2⟩:=yH _ _ _ hv;rw [yI] at h1;refine ⟨.v (.agg ⟨l⟩),H,λ_ _ _=>trivial,λ_=>trivial,λρ' w hρ hw=>lY ?_⟩;simp only [execOp,Sem.run_bind,hρ _ _ hx,Core.val,uJ hb];rw [Bw hl h2 (λk hk=>by rw [E5 hw hb,h1];simp [hk])];simp
    ·exact H.elim
   ·exact H.elim
  ·rename_i k off hl hx;split at H
   ·rename_i b vs hb;unfold iO at H;obtain ⟨v,hv,hK⟩:=H;refine ⟨.v v,hK,λ_ _ _=>trivial,λ_=>trivial,λρ' w hρ hw=>iK hv λhv=>?_⟩;simp only [execOp,Sem.run_bind,hρ _ _ hx,Core.val,uJ hb];rw [yG hl (by rw [E5 hw hb];exact hv)];simp
   ·exact H.elim
  ·rename_i b off hl hx;unfold ax at H;obtain ⟨v,hv,hK⟩:=H;refine ⟨.v v,hK,λ_ _ _=>trivial,λ_=>trivial,λρ' w hρ hw=>iK hv λhv=>?_⟩;simp only [execOp,Sem.run_bind,hρ _ _ hx,Core.val];rw [yG hl (pF.cell hw hv)];simp
  ·rename_i n b off hl hx;unfold fq at H;obtain ⟨vs,hn,hv,hK⟩:=H;refine ⟨.v (.agg ⟨vs⟩),hK,λ_ _ _=>trivial,λ_=>trivial,λρ' w hρ hw=>iK hv λhv=>?_⟩;simp only [execOp,Sem.run_bind,hρ _ _ hx,Core.val];rw [Bw hl hn (λk hk=>by
    have h1:=hv k hk;have h2:vs[k]?=some (vs[k]'(by omega)):=by simp [hn,hk]
    rw [h2] at h1 ⊢;exact pF.cell hw h1)];simp
  ·exact H.elim
 ·
  rename_i t x i;split at H
  case h_2=>exact H.elim
  rename_i k n hi;split at H
  ·rename_i e ad len cp hu hx;split at H
   case h_2=>exact H.elim
   rename_i s hs;unfold aX at H;obtain ⟨j,b,off,hj,hK⟩:=H;refine ⟨_,hK,λ_ _ _=>trivial,λ_=>trivial,λρ' w hρ hw=>iK hj λhj=>?_⟩;obtain ⟨rfl,hj,rfl⟩:=hj;simp only [execOp,Sem.run_bind,hρ _ _ hx,hρ _ _ hi,Core.val,Instr.indexAt,asIntOf,Sem.run_pure,Result.andThen_ok,dK P t w hu];rw [if_pos ⟨by omega,by omega⟩];simp [wB hs w,addr_add]
  ·rename_i len e k' off hu hx;split at H
   case h_2=>exact H.elim
   rename_i s hs;unfold dO at H;obtain ⟨j,hj,hK⟩:=H;refine ⟨_,hK,λ_ _ _=>trivial,λTL=>(by have:=TL _ _ hx;simpa [fK] using this),λρ' w hρ hw=>iK hj λhj=>?_⟩;obtain ⟨rfl,hj⟩:=hj;simp only [execOp,Sem.run_bind,hρ _ _ hx,hρ _ _ hi,Core.val,Instr.indexAt,asIntOf,Sem.run_pure,Result.andThen_ok,dK P t w hu,Instr.sureAddr];rw [if_pos ⟨by omega,by omega⟩];simp [wB hs w,addr_add]
  ·rename_i len e b off hu hx;split at H
   case h_2=>exact H.elim
   rename_i s hs;unfold dO at H;obtain ⟨j,hj,hK⟩:=H;refine ⟨_,hK,λ_ _ _=>trivial,λ_=>trivial,λρ' w hρ hw=>iK hj λhj=>?_⟩;obtain ⟨rfl,hj⟩:=hj;simp only [execOp,Sem.run_bind,hρ _ _ hx,hρ _ _ hi,Core.val,Instr.indexAt,asIntOf,Sem.run_pure,Result.andThen_ok,dK P t w hu,Instr.sureAddr];rw [if_pos ⟨by omega,by omega⟩];simp [wB hs w,addr_add]
  ·exact H.elim
 ·
  rename_i t x i;split at H
  case h_2=>exact H.elim
  rename_i k n hi;split at H
  ·rename_i s hu hx;unfold dO at H;obtain ⟨j,hj,hK⟩:=H;refine ⟨_,hK,λ_ _ _=>trivial,λ_=>trivial,λρ' w hρ hw=>iK hj λhjj=>?_⟩;obtain ⟨hj1,hj2⟩:=hjj;subst hj1;simp only [execOp,Sem.run_bind,hρ _ _ hx,hρ _ _ hi,Core.val,Instr.index,asIntOf,Sem.run_pure,Result.andThen_ok,dK P t w hu];have h0:(0:Int)<=(j:Int):=by omega
   simp only [h0,if_true,Int.toNat_natCast];have:s[j]?=some s[j]:=by simp [hj2]
   have h2:ji s j=(s[j]).toNat:=by
    unfold ji;have:s.data.toList[j]?=some s[j]:=by
     have hj':j<s.data.size:=hj2;simp [ByteArray.getElem_eq_getElem_data,hj']
    rw [this];rfl
   rw [this,h2];simp
  ·rename_i len e cs hu hx;split at H
   ·rename_i hl;unfold dO at H;obtain ⟨j,hj,hK⟩:=H;unfold iO at hK;obtain ⟨v,hv,hK⟩:=hK;refine ⟨.v v,hK,λ_ _ _=>trivial,λ_=>trivial,λρ' w hρ hw=>?_⟩;have hboth:Under c ((n=(j:Int)/\j<len)/\cs[j]?=some v):=by
     cases c with
     | none=>exact ⟨hj,hv⟩
     | some b=>exact λhb=>⟨hj hb,hv hb⟩
    refine iK hboth λ⟨⟨hj1,hj2⟩,hv⟩=>?_;subst hj1;obtain ⟨h1,h2⟩:=EY hl w;simp only [execOp,Sem.run_bind,hρ _ _ hx,hρ _ _ hi,Core.val,Instr.index,asIntOf,Sem.run_pure,Result.andThen_ok,dK P t w hu];rw [if_pos ⟨by omega,by omega⟩];simp only [Sem.run_bind,h2,Result.andThen_ok,part,h1,Int.toNat_natCast,Nat.mul_one];simp [hv]
   ·exact H.elim
  ·exact H.elim
 ·
  rename_i o t x y yt;split at H
  ·rename_i a b ha hb;split at H
   ·unfold dL at H;refine ⟨_,H.2,λ_ _ _=>trivial,λ_=>trivial,λρ' w hρ hw=>iK H.1 λhn=>?_⟩;simp only [execOp,Sem.run_bind,hρ _ _ ha,hρ _ _ hb,Core.val];rw [qc _ _ _ _ _ _ _ _ (by simp) (by simp)];simp only [Result.andThen_ok,binOp,Op.stringOp];rw [if_neg (by simp [IntKind.max,IntKind.bits,IntKind.signed];omega)];simp
   ·exact H.elim
  ·rename_i k a k' b ha hb;split at H
   ·split at H
    ·rename_i hk;have hk':k=k':=by simpa using hk
     subst hk';unfold dL at H;refine ⟨_,H.2,λ_ _ _=>trivial,λ_=>trivial,λρ' w hρ hw=>iK H.1 λhn=>?_⟩;simp only [execOp,Sem.run_bind,hρ _ _ ha,hρ _ _ hb,Core.val];rw [qc _ _ _ _ _ _ _ _ (by simp) (by simp)];simp [binOp,Op.intDiv,hn]
    ·exact H.elim
   ·split at H
    ·rename_i hk;have hk':k=k':=by simpa using hk
     subst hk';unfold dL at H;refine ⟨_,H.2,λ_ _ _=>trivial,λ_=>trivial,λρ' w hρ hw=>iK H.1 λhn=>?_⟩;simp only [execOp,Sem.run_bind,hρ _ _ ha,hρ _ _ hb,Core.val];rw [qc _ _ _ _ _ _ _ _ (by simp) (by simp)];simp [binOp,Op.intDiv,hn]
    ·exact H.elim
   ·unfold dL at H;refine ⟨_,H.2,λ_ _ _=>trivial,λ_=>trivial,λρ' w hρ hw=>iK H.1 λhn=>?_⟩;simp only [execOp,Sem.run_bind,hρ _ _ ha,hρ _ _ hb,Core.val];rw [qc _ _ _ _ _ _ _ _ (by simp) (by simp)];simp [binOp,Op.shift,show ¬ b<0 by omega]
   ·unfold dL at H;refine ⟨_,H.2,λ_ _ _=>trivial,λ_=>trivial,λρ' w hρ hw=>iK H.1 λhn=>?_⟩;simp only [execOp,Sem.run_bind,hρ _ _ ha,hρ _ _ hb,Core.val];rw [qc _ _ _ _ _ _ _ _ (by simp) (by simp)];simp [binOp,Op.shift,show ¬ b<0 by omega]
   ·exact H.elim
  ·rename_i a b h1 h2 ha hb;unfold gJ at H;obtain ⟨v,hv,hK⟩:=H;refine ⟨.v v,hK,λ_ _ _=>trivial,λ_=>trivial,λρ' w hρ hw=>iK hv λhv=>?_⟩;have:=hv w;simp only [execOp,Sem.run_bind,hρ _ _ ha,hρ _ _ hb,Core.val] at this ⊢;rw [this];simp
  ·exact H.elim
 ·
  rename_i t x lo hi mx;split at H
  ·rename_i xv sM hiv Lb hx h1 h2 h3;unfold gJ at H;obtain ⟨v,hv,hK⟩:=H;refine ⟨.v v,hK,λ_ _ _=>trivial,λ_=>trivial,λρ' w hρ hw=>iK hv λhv=>?_⟩;simp only [execOp,Sem.run_bind,hρ _ _ hx,Core.val,uO hρ h1,uO hρ h2,uO hρ h3,hv w,Result.andThen_ok,Sem.run_pure]
  ·exact H.elim
 ·
  rename_i t x lo hi;split at H
  ·rename_i s hu hx;split at H
   ·rename_i l r hl hr;unfold dw at H;obtain ⟨a,b,hab,hK⟩:=H;refine ⟨_,hK,λ_ _ _=>trivial,λ_=>trivial,λρ' w hρ hw=>iK hab λ⟨h1,h2,h3,h4⟩=>?_⟩;simp only [execOp,Sem.run_bind,hρ _ _ hx,Core.val,Instr.sliceAt,Instr.slice,dK P t w hu,Result.andThen_ok,Option.map_none];simp only [Option.isSome_none,Bool.false_eq_true,if_false,Sem.run_bind];rw [La hρ hl hr h1 h2 h3 h4 w];simp
   ·exact H.elim
  ·rename_i e a len cap hu hx;split at H
   ·rename_i l r s hl hr hs;unfold dw at H;obtain ⟨p,q,hpq,hK⟩:=H;refine ⟨_,hK,λ_ _ _=>trivial,λ_=>trivial,λρ' w hρ hw=>iK hpq λ⟨h1,h2,h3,h4⟩=>?_⟩;simp only [execOp,Sem.run_bind,hρ _ _ hx,Core.val,Instr.sliceAt,Instr.slice,dK P t w hu,Result.andThen_ok,Option.map_none];rw [La hρ hl hr h1 h2 h3 h4 w];simp only [Result.andThen_ok,wB hs w,Sem.run_pure,jh]
   ·exact H.elim
  ·rename_i e xv hu hx;split at H
   ·rename_i sM hiv h1 h2;unfold gJ at H;obtain ⟨v,hv,hK⟩:=H;refine ⟨.v v,hK,λ_ _ _=>trivial,λ_=>trivial,λρ' w hρ hw=>iK hv λhv=>?_⟩;simp only [execOp,Sem.run_bind,hρ _ _ hx,Core.val,uO hρ h1,uO hρ h2,Option.map_none,hv w,Result.andThen_ok,Sem.run_pure]
   ·exact H.elim
  ·rename_i m e xv hu hx;split at H
   ·rename_i sM hiv h1 h2;unfold gJ at H;obtain ⟨v,hv,hK⟩:=H;refine ⟨.v v,hK,λ_ _ _=>trivial,λ_=>trivial,λρ' w hρ hw=>iK hv λhv=>?_⟩;simp only [execOp,Sem.run_bind,hρ _ _ hx,Core.val,uO hρ h1,uO hρ h2,Option.map_none,hv w,Result.andThen_ok,Sem.run_pure]
   ·exact H.elim
  ·exact H.elim
 ·
  rename_i t m k ok;split at H
  ·rename_i kt et r kv hu hm hk;split at H
   case h_2=>exact H.elim
   rename_i kd i hkd hi;have main:∀ z,i.zero=some z->((∃ k,kd=.int k)\/kd=.string)->Fa bg (gL c h kd r kv (BO K z ok))->∃ x,K x/\(∀ k,dS bx k=none->fK bx x->True)/\((∀ y c,ρ y=some c->fK bx c)->fK bx x) /\
   ∀ (ρ':Operand->Value) (w:World),(∀ y c,ρ y=some c->ρ' y=c.val bx)->yK bg bx h w->Under c ((execOp ρ' (⟨dst,.lookup t m k ok,ty,pos,after,guard⟩:Oper)).run P w=.ok (.value (x.val bx)) w):=by
    intro z hz hp H;cases bg <;> simp only [Fa] at H;unfold gL at H;obtain ⟨o',hl,hK⟩:=H;have fin:∀ (w:World) (ρ':Operand->Value),(∀ y c,ρ y=some c->ρ' y=c.val bx)->yK .rd bx h w ->
     Under c ((Instr.lookup t (ρ' m) (ρ' k) ok).run P w=.ok (match o',ok with
      | some v,true=>.tuple ⟨[v,.bool true]⟩ | some v,false=>v | none,true=>.tuple ⟨[z,.bool false]⟩ | none,false=>z) w):=by
     intro w ρ' hρ hw;refine iK hl λ⟨es,cl,he,hf⟩=>?_;have he':=pF.obj hw he;cases hfn:Instr.findNow kd kv es.toList 0 with
     | none=>rw [hfn] at hf;simp at hf
     | some q=>
      rw [hfn] at hf;simp at hf;have hgo:(getObj r).run P w=.ok (.map es cl) w:=by simp [getObj,Sem.run,he']
      simp only [Instr.lookup,Sem.run_bind,dK P t w hu,Result.andThen_ok,hρ _ _ hm,hρ _ _ hk,Core.val,hgo,Sem.run_pure];rw [uj hkd hp];simp only [Result.andThen_ok,uh hkd hfn w];have Fb:(zeroValue et).run P w=.ok z w:=by simp [zeroValue,gZ P et w hi,hz]
      subst hf;cases q with
      | none=>cases ok <;> simp [Fb]
      | some p=>obtain ⟨a,b⟩:=p;cases ok <;> simp
    cases o' with
    | none=>cases ok with
     | true=>exact ⟨_,hK,λ_ _ _=>trivial,λ_=>trivial,λρ' w hρ hw=>iK (fin w ρ' hρ hw) λhr=>by simp [execOp,hr,Core.val]⟩
     | false=>exact ⟨_,hK,λ_ _ _=>trivial,λ_=>trivial,λρ' w hρ hw=>iK (fin w ρ' hρ hw) λhr=>by simp [execOp,hr,Core.val]⟩
    | some v=>cases ok with
     | true=>exact ⟨_,hK,λ_ _ _=>trivial,λ_=>trivial,λρ' w hρ hw=>iK (fin w ρ' hρ hw) λhr=>by simp [execOp,hr,Core.val]⟩
     | false=>exact ⟨_,hK,λ_ _ _=>trivial,λ_=>trivial,λρ' w hρ hw=>iK (fin w ρ' hρ hw) λhr=>by simp [execOp,hr,Core.val]⟩
   split at H
   ·exact main _ (by assumption) (.inl ⟨_,rfl⟩) H
   ·exact main _ (by assumption) (.inr rfl) H
   ·exact H.elim
  ·rename_i kt et kv hu hm hk;split at H
   case h_2=>exact H.elim
   rename_i kd i hkd hi;have main:∀ z,i.zero=some z->((∃ k,kd=.int k)\/kd=.string)->BO K z ok none->∃ x,K x/\(∀ k,dS bx k=none->fK bx x->True)/\((∀ y c,ρ y=some c->fK bx c)->fK bx x) /\
   ∀ (ρ':Operand->Value) (w:World),(∀ y c,ρ y=some c->ρ' y=c.val bx)->yK bg bx h w->Under c ((execOp ρ' (⟨dst,.lookup t m k ok,ty,pos,after,guard⟩:Oper)).run P w=.ok (.value (x.val bx)) w):=by
    intro z hz hp H;have fin:∀ (w:World) (ρ':Operand->Value),(∀ y c,ρ y=some c->ρ' y=c.val bx) ->
     (Instr.lookup t (ρ' m) (ρ' k) ok).run P w=.ok (match ok with|true=>.tuple ⟨[z,.bool false]⟩|false=>z) w:=by
     intro w ρ' hρ;simp only [Instr.lookup,Sem.run_bind,dK P t w hu,Result.andThen_ok,hρ _ _ hm,hρ _ _ hk,Core.val,Sem.run_pure];rw [uj hkd hp];have hfn:Instr.findNow kd kv (#[]:Array MapEntry).toList 0=some none:=rfl;simp only [Result.andThen_ok,uh hkd hfn w];have Fb:(zeroValue et).run P w=.ok z w:=by simp [zeroValue,gZ P et w hi,hz]
     cases ok <;> simp [Fb]
    cases ok with
    | true=>exact ⟨_,H,λ_ _ _=>trivial,λ_=>trivial,λρ' w hρ hw=>lY (by simp [execOp,fin w ρ' hρ,Core.val])⟩
    | false=>exact ⟨_,H,λ_ _ _=>trivial,λ_=>trivial,λρ' w hρ hw=>lY (by simp [execOp,fin w ρ' hρ,Core.val])⟩
   split at H
   ·exact main _ (by assumption) (.inl ⟨_,rfl⟩) H
   ·exact main _ (by assumption) (.inr rfl) H
   ·exact H.elim
  ·exact H.elim
 ·
  rename_i args ts;split at H
  case h_2=>exact H.elim
  rename_i x t hargs hts;have hargs':args=#[x]:=Array.ext' (by simpa using hargs);have TM:ts=#[t]:=Array.ext' (by simpa using hts);subst hargs';subst TM;split at H
  ·rename_i kt et hu hx;refine ⟨_,H,λ_ _ _=>trivial,λ_=>trivial,λρ' w hρ hw=>lY ?_⟩;simp [execOp,resolve,invoke,builtin,Builtin.len_,hρ _ _ hx,Core.val,dK P t w hu,goInt]
  ·rename_i kt et r hu hx;cases bg <;> simp only at H;unfold sF at H;obtain ⟨n,hn,hK⟩:=H;refine ⟨_,hK,λ_ _ _=>trivial,λ_=>trivial,λρ' w hρ hw=>iK hn λ⟨es,cl,he,hn⟩=>?_⟩;have hgo:(getObj r).run P w=.ok (.map es cl) w:=by simp [getObj,Sem.run,pF.obj hw he]
   simp [execOp,resolve,invoke,builtin,Builtin.len_,hρ _ _ hx,Core.val,dK P t w hu,goInt,hgo,hn]
  ·exact H.elim
 ·exact H.elim
end Go.aN
