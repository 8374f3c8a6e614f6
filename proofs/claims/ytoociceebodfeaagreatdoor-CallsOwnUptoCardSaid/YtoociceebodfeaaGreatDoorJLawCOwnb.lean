/-
  Joined texts: EngT, EngV, EngW, EngR, EngM, EngL, EngN, EngP.
-/
import Derived.Test.YtoociceebodfeaaGreatDoorJLawCOwna
import Derived.Scope
import Derived.Deep.LoopGhost
import Derived.KernelRfl
import Derived.Deep.Slices
import Derived.Carry
import Derived.ProofKit
import Derived.Laws.Strings
import Derived.Maps.RangeRun
set_option linter.all false
namespace Go.aK
open Go
theorem oC:∀ (bx:bA) (k b:Nat) (vs:List Value) (k':Nat),dP (bg k b vs bx) k'=if k'=k then some (b,vs) else dP bx k'
 | [],k,b,vs,k'=>by
  simp only [bg,dP];by_cases h:k'=k
  ·subst h;simp [Nat.beq_refl]
  ·have:Nat.beq k k'=false:=by cases hb:Nat.beq k k' with|false=>rfl|true=>exact absurd (Nat.eq_of_beq_eq_true hb).symm h
   simp [this,h]
 | (k1,b1,vs1)::r,k,b,vs,k'=>by
  simp only [bg];cases hb:Nat.beq k1 k with
  | true=>
   have:=Nat.eq_of_beq_eq_true hb;subst this;simp only [dP];by_cases h:k'=k1
   ·subst h;simp [Nat.beq_refl]
   ·have:Nat.beq k1 k'=false:=by cases hb:Nat.beq k1 k' with|false=>rfl|true=>exact absurd (Nat.eq_of_beq_eq_true hb).symm h
    simp [this,h]
  | false=>
   have hne:k1≠k:=by intro h;subst h;simp [Nat.beq_refl] at hb
   simp only [dP];rw [oC r k b vs k'];cases hb':Nat.beq k1 k' with
   | true=>
    have:=Nat.eq_of_beq_eq_true hb';subst this;simp [hne]
   | false=>rfl
theorem wX:∀ (bx:bA) (k b:Nat) (vs:List Value),dP bx k=some (b,vs)->b∈aA bx
 | [],_,_,_,h=>by cases h
 | (k1,b1,vs1)::r,k,b,vs,h=>by
  simp only [dP] at h;split at h
  ·simp at h;simp [aA,h.1]
  ·simp [aA,wX r k b vs h]
def uQ:bA->Prop
 | []=>True
 | (k,_,_)::r=>dP r k=none/\uQ r
theorem HV:∀ (bx:bA),uQ bx->∀ b∈aA bx,∃ k vs,dP bx k=some (b,vs)
 | [],_,b,h=>by cases h
 | (k1,b1,vs1)::r,hp,b,h=>by
  simp only [aA,List.mem_cons] at h;rcases h with rfl|h
  ·exact ⟨k1,vs1,by simp [dP,Nat.beq_refl]⟩
  ·obtain ⟨k,vs,hk⟩:=HV r hp.2 b h;refine ⟨k,vs,?_⟩;simp only [dP];cases hb:Nat.beq k1 k with
   | true=>
    have:=Nat.eq_of_beq_eq_true hb;subst this;rw [hp.1] at hk;cases hk
   | false=>exact hk
theorem CU:∀ (bx:bA) (k b:Nat) (vs:List Value),uQ bx->uQ (bg k b vs bx)
 | [],k,b,vs,_=>⟨rfl,trivial⟩
 | (k1,b1,vs1)::r,k,b,vs,h=>by
  simp only [bg];cases hb:Nat.beq k1 k with
  | true=>
   have:=Nat.eq_of_beq_eq_true hb;subst this;exact h
  | false=>
   have hne:k1≠k:=by intro h;subst h;simp [Nat.beq_refl] at hb
   exact ⟨by rw [oC];simp [hne,h.1],CU r k b vs h.2⟩
structure Boxed (bx:bA)(h:Heap):Prop where
 jZ:j4 bx h
 distinct:Distinct bx
 proper:uQ bx
theorem Boxed.lt {bx:bA}{h:Heap}(B:Boxed bx h):∀ b∈aA bx,b<h.size:=λb hb=>by
 obtain ⟨k,vs,hk⟩:=HV bx B.proper b hb;obtain ⟨T,hT⟩:=B.jZ _ _ _ hk;rcases Nat.lt_or_ge b h.size with h1|h1
 ·exact h1
 ·simp [Array.getElem?_eq_none h1] at hT
theorem Boxed.keep {bx:bA}{h h':Heap}(B:Boxed bx h)(hk:∀ b∈aA bx,h'[b]?=h[b]?):Boxed bx h':=
 ⟨λk b vs hl=>by rw [hk b (wX bx k b vs hl)];exact B.jZ k b vs hl,B.distinct,B.proper⟩
theorem iX (h:Heap)(o:Obj)(b:Nat):(h.push o)[b]?=if b=h.size then some o else h[b]?:=by
 rw [Array.getElem?_push]
theorem HY (h:Heap)(o:Obj):oD h (h.push o):=⟨by simp,λb hb=>by rw [iX,if_neg (by omega)]⟩
theorem Boxed.new {bx:bA}{h:Heap}(B:Boxed bx h){k:Nat}(hk:dP bx k=none)(vs:List Value)(T:TypeId):Boxed (bg k h.size vs bx) (h.push (.cells ⟨vs⟩ T)):=by
 refine ⟨λk' b vs' hl=>?_,λk1 k2 b1 b2 v1 v2 h1 h2 hne=>?_,CU _ _ _ _ B.proper⟩
 ·rw [oC] at hl;split at hl
  ·simp at hl;obtain ⟨rfl,rfl⟩:=hl;exact ⟨T,by rw [iX,if_pos rfl]⟩
  ·have hlt:=B.lt b (wX _ _ _ _ hl);rw [iX,if_neg (by omega)];exact B.jZ _ _ _ hl
 ·rw [oC] at h1 h2;split at h1 <;> split at h2
  ·rename_i e1 e2;exact absurd (e1.trans e2.symm) hne
  ·simp at h1;have hlt:=B.lt b2 (wX _ _ _ _ h2);omega
  ·simp at h2;have hlt:=B.lt b1 (wX _ _ _ _ h1);omega
  ·exact B.distinct _ _ _ _ _ _ h1 h2 hne
theorem Boxed.OZ {bx:bA}{k b:Nat}(hk:dP bx k=none)(vs:List Value){h:Heap}(hb:j4 (bg k b vs bx) h):j4 bx h:=λk' b' vs' hl=>by
 refine hb k' b' vs' ?_;rw [oC];split
 ·rename_i e;subst e;rw [hk] at hl;cases hl
 ·exact hl
theorem Boxed.write {bx:bA}{h h':Heap}(B:Boxed bx h){k b:Nat}{vs vs':List Value}(hk:dP bx k=some (b,vs))(hb:∃ T,h'[b]?=some (.cells ⟨vs'⟩ T (0,0)))
 (ho:∀ b',b'≠b->h'[b']?=h[b']?):Boxed (bg k b vs' bx) h':=by
 refine ⟨λk' b1 vs1 hl=>?_,λk1 k2 b1 b2 v1 v2 h1 h2 hne=>?_,CU _ _ _ _ B.proper⟩
 ·rw [oC] at hl;split at hl
  ·simp at hl;obtain ⟨rfl,rfl⟩:=hl;exact hb
  ·rename_i hne;have:=B.distinct _ _ _ _ _ _ hl hk hne;rw [ho b1 this];exact B.jZ _ _ _ hl
 ·rw [oC] at h1 h2;split at h1 <;> split at h2
  ·rename_i e1 e2;exact absurd (e1.trans e2.symm) hne
  ·rename_i e1 e2;simp at h1;rw [<-h1.1];exact λhh=>B.distinct _ _ _ _ _ _ h2 hk e2 hh.symm
  ·rename_i e1 e2;simp at h2;rw [<-h2.1];exact B.distinct _ _ _ _ _ _ h1 hk e1
  ·exact B.distinct _ _ _ _ _ _ h1 h2 hne
theorem HZ {bx:bA}{k b:Nat}{vs:List Value}(hk:dP bx k=none\/∃ vs',dP bx k=some (b,vs'))(c:Core)(hc:fE bx c) :
 c.val (bg k b vs bx)=c.val bx/\fE (bg k b vs bx) c:=by
 have key:∀ k',(dP bx k').isSome=true->blk (bg k b vs bx) k'=blk bx k'/\(dP (bg k b vs bx) k').isSome=true:=by
  intro k' h;unfold blk;rw [oC];by_cases e:k'=k
  ·subst e;rcases hk with hk|⟨vs',hk⟩
   ·rw [hk] at h;cases h
   ·simp [hk]
  ·rw [if_neg e];exact ⟨rfl,h⟩
 cases c with
 | v x=>exact ⟨rfl,trivial⟩
 | lp k' off=>have:=key k' hc;exact ⟨by simp [Core.val,this.1],this.2⟩
 | li k' off=>have:=key k' hc;exact ⟨by simp [Core.val,this.1],this.2⟩
structure After (aZ:dM)(bx:bA)(h:Heap)(x:Core)(bx':bA)(h':Heap):Prop where
 boxed:Boxed bx' h'
 val:∀ c,fE bx c->c.val bx'=c.val bx/\fE bx' c
 core:fE bx' x
 al:aZ=.al->oD h h'/\∀ x:Heap,j4 bx' x->j4 bx x
 ef:aZ=.ef->bx'=bx
theorem uU:∀ {l:List Value},gM l=true->∀ v∈l,v.oneCell'=true
 | [],_,v,h=>by cases h
 | x::r,h,v,hv=>by
  simp only [gM] at h;split at h
  ·rename_i hx;simp only [List.mem_cons] at hv;rcases hv with rfl|hv
   ·cases v <;> simp [tF] at hx <;> rfl
   ·exact uU h v hv
  ·cases h
def setObj1 (off:Nat)(v:Value):Obj->Obj
 | .cells c elem fr=>.cells (c.setIfInBounds off v) elem fr
 | o=>o
theorem uV (w:World)(b off:Nat)(v:Value):(w.setCell ⟨b,off,none⟩ v).heap=w.heap.modify b (setObj1 off v):=by
 unfold World.setCell;simp only
 congr 1
theorem wY {P:Program}{b:Nat}{T:TypeId}:∀ (vs:List Value) (i off:Nat) (c:List Value) (w:World),(∀ v∈vs,v.oneCell'=true)->off+i+vs.length<=c.length ->
 w.heap[b]?=some (.cells ⟨c⟩ T (0,0))->∃ w',(storeCells ⟨b,off,none⟩ vs i).run P w=.ok () w'/\dD w w'/\w'.heap.size=w.heap.size /\
  w'.heap[b]?=some (.cells ⟨bC (off+i) vs c⟩ T (0,0))/\∀ b',b'≠b->w'.heap[b']?=w.heap[b']?
 | [],i,off,c,w,_,_,hb=>⟨w,by simp [storeCells],dD.refl w,rfl,by rw [wZ];exact hb,λ_ _=>rfl⟩
 | v::vs,i,off,c,w,hv,hl,hb=>by
  simp only [List.length_cons] at hl;have hcell:w.cell? ⟨b,off+i,none⟩=some (c[off+i]'(by omega)):=by
   rw [tH];simp [Heap.cell?,hb,show off+i<c.length by omega]
  have hfr:w.frozen? ⟨b,off+i,none⟩=false:=by simp [World.frozen?,hb]
  have hrun:=run_store P w ⟨b,off+i,none⟩ v .plain (hv v (by simp));rw [hcell] at hrun;simp only [hfr,Bool.false_eq_true,if_false] at hrun;have hb2:(w.setCell ⟨b,off+i,none⟩ v).heap[b]?=some (.cells ⟨c.set (off+i) v⟩ T (0,0)):=by
   rw [uV,Array.getElem?_modify];simp [hb,setObj1,Array.setIfInBounds,show off+i<c.length by omega]
  obtain ⟨w',h1,h2,h3,h4,h5⟩:=wY vs (i+1) off (c.set (off+i) v) (w.setCell ⟨b,off+i,none⟩ v) (λu hu=>hv u (by simp [hu])) (by simp;omega) hb2;refine ⟨w',?_,⟨h2.1,h2.2⟩,?_,?_,λb' hne=>?_⟩
  ·simp only [storeCells,Sem.run_bind,addr_add];rw [hrun];simp only [Result.andThen_ok];exact h1
  ·rw [h3,uV];simp
  ·rw [h4,show off+(i+1)=off+i+1 by omega,zU v vs (off+i) c (by omega)]
  ·rw [h5 b' hne,uV,Array.getElem?_modify,if_neg (Ne.symm hne)]
theorem CV {P:Program}{t:TypeId}{l:H8}{s:Nat}(hs:oF P t=some s){b off:Nat}{v:Value}{c:List Value}{T:TypeId}{w:World}
 (h1:Nat.beq (cellsOf v).length s=true) (h2:gM (cellsOf v)=true) (h3:off+(cellsOf v).length<=c.length) (hb:w.heap[b]?=some (.cells ⟨c⟩ T (0,0))) :
 ∃ w',(Instr.storeAt t (.pointer (some ⟨b,off,none⟩)) v).run P w=.ok () w'/\dD w w'/\w'.heap.size=w.heap.size /\
  w'.heap[b]?=some (.cells ⟨bC off (cellsOf v) c⟩ T (0,0))/\∀ b',b'≠b->w'.heap[b']?=w.heap[b']?:=by
 obtain ⟨w',h4,h5⟩:=wY (P:=P) (cellsOf v) 0 off c w (uU h2) (by simpa using h3) hb;refine ⟨w',?_,by simpa using h5⟩;have:=Nat.eq_of_beq_eq_true h1;simp only [Instr.storeAt,Instr.sureAddr,Sem.run_bind,Sem.run_pure,Result.andThen_ok,storeVar,uW hs w,pF];rw [if_neg (by simp;omega)];simpa using h4
theorem CW {P:Program}{t:TypeId}{l:List Value}(h:w9 P t=some l)(w:World):∃ z,(zeroValue t).run P w=.ok z w/\z.cells=⟨l⟩:=by
 unfold w9 at h;split at h
 ·rename_i i hi;split at h
  ·rename_i z hz;simp at h;subst h;exact ⟨z,by simp [zeroValue,gQ P t w hi,hz],pF z⟩
  ·cases h
 ·cases h
theorem O0 {P:Program}{f:Nat}(h:zu P f=true)(args:Array Value)(w:World):(callFunc f args).run P w=.ok (.enter f args) w:=by
 unfold zu at h;split at h
 ·rename_i fn hf;simp only [Bool.and_eq_true,Bool.not_eq_true'] at h;simp only [callFunc,Sem.run_bind,run_program,Result.andThen_ok,hf];have h1:fn.body.isNone=false:=by cases hb:fn.body <;> simp_all
  simp [h.2,h1]
 ·cases h
theorem O9 {P:Program}{f:Nat}{args:Array Value}{w w':World}{v:Value}(h:(xg f args).run P w=.ok v w'):(callFunc f args).run P w=.ok (.value v) w':=by
 unfold xg at h;simp only [Sem.run_bind] at h;generalize (callFunc f args).run P w=r at h;cases r with
 | ok n w1=>
  simp only [Result.andThen_ok] at h;cases n <;> simp [stuck] at h ⊢
  all_goals first|exact h|(obtain ⟨rfl,rfl⟩:=h;exact ⟨rfl,rfl⟩)
 | _=>simp [Result.andThen] at h
theorem H9 (n s:Nat)(z:List Value)(h:z.length=s):(l6 n z).length=n*s:=by
 induction n with
 | zero=>simp [l6]
 | succ n ih=>simp only [l6,List.length_append,ih,h,Nat.succ_mul];omega
theorem Ia:∀ (n s:Nat) (z:List Value),z.length=s->0<s->(Array.range (n*s)).map (λi=>(⟨z⟩:Array Value)[i%(⟨z⟩:Array Value).size]!)=⟨l6 n z⟩:=by
 intro n s z hz hs;apply Array.ext';simp only [Array.toList_map,Array.toList_range];have hsz:(⟨z⟩:Array Value).size=s:=by simpa using hz
 rw [hsz]
 induction n with
 | zero=>simp [l6]
 | succ n ih=>
  rw [Nat.succ_mul,Nat.add_comm (n*s) s,List.range_add,List.map_append,List.map_map];have h1:(List.range s).map (λi=>(⟨z⟩:Array Value)[i%s]!)=z:=by
   apply List.ext_getElem
   ·simp [hz]
   ·intro i h1 h2;simp at h1;simp [Nat.mod_eq_of_lt h1,show i<z.length by omega]
  have h2:(List.range (n*s)).map ((λi=>(⟨z⟩:Array Value)[i%s]!) ∘ (s+·))=(List.range (n*s)).map (λi=>(⟨z⟩:Array Value)[i%s]!):=by
   apply List.map_congr_left;intro i _;simp [Nat.add_mod_left]
  rw [h1,h2,ih];rfl
def qj (P:Program)(aZ:dM)(o:Oper)(bx:bA)(h:Heap)(K:Core->bA->Heap->Prop)(a:Act)(w:World)(Q:Exit->Act->World->Prop):Prop:=
 o.wp P a w (λa' w'=>∃ x bx',a'=a.put o.dst (x.val bx')/\After aZ bx h x bx' w'.heap/\dD w w'/\K x bx' w'.heap) Q
theorem tJ {P:Program}{aZ:dM}{o:Oper}{bx:bA}{h:Heap}{K:Core->bA->Heap->Prop}{a:Act}{w w':World}{Q:Exit->Act->World->Prop}
 {x:Core} {bx':bA} (hr:(execOp a.eval o).run P w=.ok (.value (x.val bx')) w') (hA:After aZ bx h x bx' w'.heap) (hs:dD w w') (hK:K x bx' w'.heap):qj P aZ o bx h K a w Q:=by
 unfold qj Oper.wp;rw [hr];exact ⟨x,bx',rfl,hA,hs,hK⟩
theorem zV {P:Program}{aZ:dM}{o:Oper}{bx:bA}{h:Heap}{K:Core->bA->Heap->Prop}{a:Act}{w w':World}{Q:Exit->Act->World->Prop}
 {bx':bA} (hr:(execOp a.eval o).run P w=.ok .skip w') (hA:After aZ bx h (.v undef) bx' w'.heap) (hs:dD w w') (hK:K (.v undef) bx' w'.heap):qj P aZ o bx h K a w Q:=by
 unfold qj Oper.wp;rw [hr];exact ⟨.v undef,bx',rfl,hA,hs,hK⟩
theorem zW {aZ:dM}{bx:bA}{h:Heap}(B:Boxed bx h)(o:Obj)(v:Value):After aZ bx h (.v v) bx (h.push o):=
 ⟨B.keep λb hb=>by rw [iX,if_neg (by have:=B.lt b hb;omega)],λc hc=>⟨rfl,hc⟩,trivial,λ_=>⟨HY h o,λ_ h=>h⟩,λ_=>rfl⟩
theorem Ib {bx:bA}{h:Heap}(B:Boxed bx h){k:Nat}(hk:dP bx k=none)(vs:List Value)(T:TypeId) :
 After .al bx h (.lp k 0) (bg k h.size vs bx) (h.push (.cells ⟨vs⟩ T)):=
 ⟨B.new hk vs T,λc hc=>HZ (.inl hk) c hc,by simp [fE,oC],λ_=>⟨HY h _,λ_ hb=>Boxed.OZ hk vs hb⟩,λh=>by cases h⟩
theorem zX {aZ:dM}{bx:bA}{h h':Heap}(B:Boxed bx h)(hk:∀ b∈aA bx,h'[b]?=h[b]?)(hc:aZ≠.al)(v:Value):After aZ bx h (.v v) bx h':=
 ⟨B.keep hk,λc hc=>⟨rfl,hc⟩,trivial,λh=>absurd h hc,λ_=>rfl⟩
theorem Ic {bx:bA}{h h':Heap}(B:Boxed bx h){k b:Nat}{vs vs':List Value}(hk:dP bx k=some (b,vs))(hb:∃ T,h'[b]?=some (.cells ⟨vs'⟩ T (0,0)))
 (ho:∀ b',b'≠b->h'[b']?=h[b']?) (v:Value):After .be bx h (.v v) (bg k b vs' bx) h':=
 ⟨B.write hk hb ho,λc hc=>HZ (.inr ⟨vs,hk⟩) c hc,trivial,λh=>(by cases h),λh=>(by cases h)⟩
theorem j5 {α:Type}{P:Program}{aZ:dM}{o:Oper}{bx:bA}{K:Core->bA->Heap->Prop}{a:Act}{w:World}{Q:Exit->Act->World->Prop}
 (s:Sem α) (val:α->Value) (B:Boxed bx w.heap) (hcls:aZ≠.al) (hs:∀ w',(∃ v,s.run P w=.ok v w')->True)
 (hrun:∀ v w',s.run P w=.ok v w'->(execOp a.eval o).run P w=.ok (.value (val v)) w'\/((execOp a.eval o).run P w=.ok .skip w'/\val v=undef))
 (H:aP P s (aA bx) w.heap λv h'=>K (.v (val v)) bx h'):qj P aZ o bx w.heap K a w Q:=by
 unfold aP at H;obtain ⟨v,w',h1,h2,h3,h4⟩:=H B.lt w rfl;rcases hrun v w' h1 with h5|⟨h5,h6⟩
 ·exact tJ (x:=.v (val v)) (bx':=bx) (by simpa [Core.val] using h5) (zX B h3 hcls _) h2 h4
 ·rw [h6] at h4;exact zV h5 (zX B h3 hcls _) h2 h4
theorem OY {P:Program}{C:aG}{o:Oper}{ρ:Operand->Option Core}{bx:bA}{K:Core->bA->Heap->Prop}{a:Act}{w:World}{Q:Exit->Act->World->Prop}
 (H:wW P C (eG P C o) o ρ bx w.heap K) (hρ:∀ y c,ρ y=some c->a.eval y=c.val bx) (B:Boxed bx w.heap):qj P (eG P C o) o bx w.heap K a w Q:=by
 obtain ⟨dst,op,ty,pos,after,guard⟩:=o;unfold wW at H;simp only at H;split at H
 ·
  rename_i e x;have hcls:eG P C ⟨dst,.box e x,ty,pos,after,guard⟩=.al:=rfl;rw [hcls];split at H
  case h_2=>exact H.elim
  rename_i v hx;have hrun:(execOp a.eval (⟨dst,.box e x,ty,pos,after,guard⟩:Oper)).run P w=.ok (.value (.pointer (some ⟨w.heap.size,0,none⟩))) { w with heap:=w.heap.push (.cells ⟨cellsOf v⟩ e) }:=by
   simp [execOp,Instr.box,newVar,newRow,hρ _ _ hx,Core.val,pF]
  split at H
  case h_2=>exact H.elim
  rename_i d;split at H
  ·split at H
   case h_2=>exact H.elim
   rename_i hk;unfold aR at H;have hb:blk (bg d w.heap.size (cellsOf v) bx) d=w.heap.size:=by simp [blk,oC]
   exact tJ (x:=.lp d 0) (bx':=bg d w.heap.size (cellsOf v) bx) (w':={ w with heap:=w.heap.push (.cells ⟨cellsOf v⟩ e) }) (by rw [hrun];simp [Core.val,hb]) (Ib B hk _ _) ⟨rfl,rfl,rfl⟩ (H _ _ rfl rfl)
  ·unfold aR at H;exact tJ (x:=.v _) (bx':=bx) hrun (zW B _ _) ⟨rfl,rfl,rfl⟩ (H _ _ rfl rfl)
 ·
  rename_i e;have hcls:eG P C ⟨dst,.alloc e,ty,pos,after,guard⟩=.al:=rfl;rw [hcls];split at H
  case h_2=>exact H.elim
  rename_i l d hl;obtain ⟨z,hz,hzc⟩:=CW hl w;have hrun:(execOp a.eval (⟨some d,.alloc e,ty,pos,after,guard⟩:Oper)).run P w=.ok (.value (.pointer (some ⟨w.heap.size,0,none⟩))) { w with heap:=w.heap.push (.cells ⟨l⟩ e) }:=by
   simp [execOp,Instr.alloc,newVar,newRow,hz,hzc]
  split at H
  ·split at H
   case h_2=>exact H.elim
   rename_i hk;unfold aR at H;have hb:blk (bg d w.heap.size l bx) d=w.heap.size:=by simp [blk,oC]
   exact tJ (x:=.lp d 0) (bx':=bg d w.heap.size l bx) (w':={ w with heap:=w.heap.push (.cells ⟨l⟩ e) }) (by rw [hrun];simp [Core.val,hb]) (Ib B hk _ _) ⟨rfl,rfl,rfl⟩ (H _ _ rfl rfl)
  ·unfold aR at H;exact tJ (x:=.v _) (bx':=bx) hrun (zW B _ _) ⟨rfl,rfl,rfl⟩ (H _ _ rfl rfl)
 ·
  rename_i t n parts;have hcls:eG P C ⟨dst,.buildSlice t n parts,ty,pos,after,guard⟩=.al:=rfl;rw [hcls];split at H
  case h_2=>exact H.elim
  rename_i e hu;split at H
  case h_2=>exact H.elim
  rename_i z s hz hs;split at H
  case h_2=>exact H.elim
  rename_i l h1 h2 h3;unfold aR at H;obtain ⟨zv,hzv,hzc⟩:=CW hz w;have h1':n*s<=16777216:=Nat.le_of_ble_eq_true h1;have h2':=Nat.eq_of_beq_eq_true h2;have hlen:(l6 n z).length=n*s:=H9 n s z h2';have oG:=zY (place':=λi=>some (i*s,s)) hρ (λi p hp=>hp) parts.toList _ (l6 n z) l hlen h3;have hrun:(execOp a.eval (⟨dst,.buildSlice t n parts,ty,pos,after,guard⟩:Oper)).run P w=.ok (.value (.slice (some ⟨w.heap.size,0,none⟩) n n)) { w with heap:=w.heap.push (.cells ⟨l⟩ e) }:=by
   have he:(parts.map λ(x:Nat×Operand)=>(x.1,a.eval x.2)).toList=parts.toList.map λp=>(p.1,a.eval p.2):=by simp
   rw [<-he] at oG;simp only [execOp,Sem.run_bind,Instr.buildSlice,dI P t w hu,Result.andThen_ok,uW hs w];rw [if_neg (by omega)];by_cases h0:n*s=0
   ·have hr:l6 n z=[]:=by rw [<-List.length_eq_zero_iff,hlen];exact h0
    rw [hr] at oG;simp only [h0,if_true,Sem.run_bind,Sem.run_pure,Result.andThen_ok,show Array.range 0=#[] from (by first|rfl|(apply Array.ext';simp)),Array.map_empty];have xh:Instr.fill (λi=>some (i*s,s)) #[] (parts.map λ(x:Nat×Operand)=>(x.1,a.eval x.2)).toList=some ⟨l⟩:=oG;split
    ·rename_i cells hc;rw [xh] at hc;simp at hc;subst hc;simp [newRow]
    ·rename_i hc;rw [xh] at hc;exact (hc _ rfl).elim
   ·have hs0:0<s:=by
     rcases Nat.eq_zero_or_pos s with h|h
     ·subst h;simp at h0
     ·exact h
    simp only [h0,if_false,Sem.run_bind,hzv,Result.andThen_ok,Sem.run_pure,hzc];rw [Ia n s z h2' hs0];split
    ·rename_i cells hc;rw [oG] at hc;simp at hc;subst hc;simp [newRow]
    ·rename_i hc;rw [oG] at hc;exact (hc _ rfl).elim
  exact tJ (x:=.v _) (bx':=bx) hrun (zW B _ _) ⟨rfl,rfl,rfl⟩ (H _ _ rfl rfl)
 ·
  rename_i t;have hcls:eG P C ⟨dst,.makeMap t none,ty,pos,after,guard⟩=.al:=rfl;rw [hcls];unfold aR at H;exact tJ (x:=.v (.map (some w.heap.size))) (bx':=bx) (w':={ w with heap:=w.heap.push (.map #[] 0) }) (by simp [execOp,Instr.makeMap,Core.val]) (zW B _ _) ⟨rfl,rfl,rfl⟩ (H _ _ rfl rfl)
 ·
  rename_i t ad x;split at H
  ·rename_i v hcls hx;rw [hcls];split at H
   ·rename_i k off l ha hl;split at H
    ·rename_i b vs s hk hs;split at H
     ·rename_i h1 h2 h3;rw [CX] at h2;unfold aN at H;obtain ⟨T,hT⟩:=B.jZ _ _ _ hk;have h1':=Nat.eq_of_beq_eq_true h1;obtain ⟨w',r1,r2,r3,r4,r5⟩:=CV (P:=P) (l:=l) hs h1 h3 (by rw [h1'];exact h2) hT (off:=off);refine zV (bx':=bg k b (bC off (cellsOf v) vs) bx) ?_ (Ic B hk ⟨T,r4⟩ r5 _) r2 (H _ r3 r5);simp only [execOp,Sem.run_bind,hρ _ _ ha,hρ _ _ hx,Core.val,tq hk];rw [r1];simp
     ·exact H.elim
    ·exact H.elim
   ·rename_i k off l ha hl;split at H
    ·rename_i b vs s hk hs;split at H
     ·rename_i h1 h3;unfold dH aN at H;obtain ⟨h2,H⟩:=H;have h2:off+s<=vs.length:=h2;obtain ⟨T,hT⟩:=B.jZ _ _ _ hk;have h1':=Nat.eq_of_beq_eq_true h1;obtain ⟨w',r1,r2,r3,r4,r5⟩:=CV (P:=P) (l:=l) hs h1 h3 (by rw [h1'];exact h2) hT (off:=off);refine zV (bx':=bg k b (bC off (cellsOf v) vs) bx) ?_ (Ic B hk ⟨T,r4⟩ r5 _) r2 (H _ r3 r5);simp only [execOp,Sem.run_bind,hρ _ _ ha,hρ _ _ hx,Core.val,tq hk];rw [r1];simp
     ·exact H.elim
    ·exact H.elim
   ·exact H.elim
  ·rename_i v hcls hx;rw [hcls];split at H
   ·rename_i b off l s ha hl hs;split at H
    ·rename_i h1 h3;unfold dO at H;obtain ⟨c,T,hT,hlen,hnb,H⟩:=H;have h1':=Nat.eq_of_beq_eq_true h1;obtain ⟨w',r1,r2,r3,r4,r5⟩:=CV (P:=P) (l:=l) hs h1 h3 hlen hT (off:=off);refine zV (bx':=bx) ?_ (zX B (λb' hb'=>r5 b' (λe=>hnb (e ▸ hb'))) (by simp) _) r2 (H _ r3 r4 r5);simp only [execOp,Sem.run_bind,hρ _ _ ha,hρ _ _ hx,Core.val];rw [r1];simp
    ·exact H.elim
   ·exact H.elim
  ·exact H.elim
 ·
  rename_i t m k x;split at H
  ·rename_i mv kv xv hm hk hx;refine j5 (Instr.mapUpdate t mv kv xv) (λ_=>undef) B (by simp [eG]) (λ_ _=>trivial) (λv w' hr=>.inr ⟨?_,rfl⟩) H;simp only [execOp,Sem.run_bind,hρ _ _ hm,hρ _ _ hk,hρ _ _ hx,Core.val,hr,Result.andThen_ok,Sem.run_pure]
  ·exact H.elim
 ·
  rename_i t m k x;split at H
  ·rename_i mv kv xv hm hk hx;refine j5 (Instr.mapUpdate t mv kv xv) (λ_=>undef) B (by simp [eG]) (λ_ _=>trivial) (λv w' hr=>.inr ⟨?_,rfl⟩) H;simp only [execOp,Sem.run_bind,hρ _ _ hm,hρ _ _ hk,hρ _ _ hx,Core.val,hr,Result.andThen_ok,Sem.run_pure]
  ·exact H.elim
 ·
  rename_i t l c;split at H
  ·rename_i lv cv hl hc;refine j5 (Instr.makeSlice t lv cv) id B (by simp [eG]) (λ_ _=>trivial) (λv w' hr=>.inl ?_) H;simp only [execOp,Sem.run_bind,hρ _ _ hl,hρ _ _ hc,Core.val,hr,Result.andThen_ok,Sem.run_pure,id]
  ·exact H.elim
 ·
  rename_i s t x;split at H
  ·rename_i xv hx;refine j5 (convert s t xv) id B ?_ (λ_ _=>trivial) (λv w' hr=>.inl ?_) H
   ·simp only [eG];split <;> simp
   ·simp only [execOp,Sem.run_bind,hρ _ _ hx,Core.val,hr,Result.andThen_ok,Sem.run_pure,id]
  ·exact H.elim
 ·
  rename_i t x;split at H
  ·rename_i xv hx;refine j5 (Instr.range t xv) id B (by simp [eG]) (λ_ _=>trivial) (λv w' hr=>.inl ?_) H;simp only [execOp,Sem.run_bind,hρ _ _ hx,Core.val,hr,Result.andThen_ok,Sem.run_pure,id]
  ·exact H.elim
 ·
  rename_i it s;split at H
  ·rename_i xv hx;refine j5 (Instr.next xv s ty) id B (by simp [eG]) (λ_ _=>trivial) (λv w' hr=>.inl ?_) H;simp only [execOp,Sem.run_bind,hρ _ _ hx,Core.val,hr,Result.andThen_ok,Sem.run_pure,id]
  ·exact H.elim
 ·
  rename_i it;split at H
  ·rename_i xv hx;refine j5 (Instr.entry xv) id B (by simp [eG]) (λ_ _=>trivial) (λv w' hr=>.inl ?_) H;simp only [execOp,Sem.run_bind,hρ _ _ hx,Core.val,hr,Result.andThen_ok,Sem.run_pure,id]
  ·exact H.elim
 ·
  rename_i t m k;split at H
  ·rename_i mv kv hm hk;refine j5 (Instr.mapEntry t mv kv) id B (by simp [eG]) (λ_ _=>trivial) (λv w' hr=>.inl ?_) H;simp only [execOp,Sem.run_bind,hρ _ _ hm,hρ _ _ hk,Core.val,hr,Result.andThen_ok,Sem.run_pure,id]
  ·exact H.elim
 ·
  rename_i t m s x;split at H
  ·rename_i mv sv xv hm hs hx;refine j5 (Instr.entryStore t mv sv xv) (λ_=>undef) B (by simp [eG]) (λ_ _=>trivial) (λv w' hr=>.inr ⟨?_,rfl⟩) H;simp only [execOp,Sem.run_bind,hρ _ _ hm,hρ _ _ hs,hρ _ _ hx,Core.val,hr,Result.andThen_ok,Sem.run_pure]
  ·exact H.elim
 ·
  rename_i op t x y yt;split at H
  ·rename_i av bv ha hb;refine j5 _ id B ?_ (λ_ _=>trivial) (λv w' hr=>.inl ?_) H
   ·simp only [eG];split <;> simp
   ·simp only [Sem.run_bind] at hr;simp only [execOp,Sem.run_bind,hρ _ _ ha,hρ _ _ hb,Core.val,hr,Result.andThen_ok,Sem.run_pure,id]
  ·exact H.elim
 ·
  rename_i b args ts;split at H
  case h_2=>exact H.elim
  rename_i as has;have h1:=uX hρ _ _ has;have h1':args.map a.eval=⟨as⟩:=by apply Array.ext';simp [h1]
  split at H
  ·refine j5 _ id B (by simp [eG]) (λ_ _=>trivial) (λv w' hr=>.inl ?_) H;simp only [execOp,resolve,h1',Sem.run_bind,Sem.run_pure,Result.andThen_ok,invoke,builtin,hr,id]
  ·refine j5 _ id B (by simp [eG]) (λ_ _=>trivial) (λv w' hr=>.inl ?_) H;simp only [execOp,resolve,h1',Sem.run_bind,Sem.run_pure,Result.andThen_ok,invoke,builtin,hr,id]
  ·refine j5 _ id B (by simp [eG]) (λ_ _=>trivial) (λv w' hr=>.inl ?_) H;simp only [execOp,resolve,h1',Sem.run_bind,Sem.run_pure,Result.andThen_ok,invoke,builtin,hr,id]
  ·refine j5 _ id B (by simp [eG]) (λ_ _=>trivial) (λv w' hr=>.inl ?_) H;simp only [execOp,resolve,h1',Sem.run_bind,Sem.run_pure,Result.andThen_ok,invoke,builtin,hr,id]
  ·refine j5 _ id B (by simp [eG]) (λ_ _=>trivial) (λv w' hr=>.inl ?_) H;simp only [execOp,resolve,h1',Sem.run_bind,Sem.run_pure,Result.andThen_ok,invoke,builtin,hr,id]
  ·refine j5 _ id B (by simp [eG]) (λ_ _=>trivial) (λv w' hr=>.inl ?_) H;simp only [execOp,resolve,h1',Sem.run_bind,Sem.run_pure,Result.andThen_ok,invoke,builtin,hr,id]
  ·exact H.elim
 ·
  rename_i f args ts;split at H
  case h_2=>exact H.elim
  rename_i f' first captured as hf has;have h1:=uX hρ _ _ has;have h1':args.map a.eval=⟨as⟩:=by apply Array.ext';simp [h1]
  split at H
  case h_2=>
   refine j5 _ id B (by simp [eG]) (λ_ _=>trivial) (λv w' hr=>.inl ?_) H;have hr':=O9 hr;simp only [execOp,resolve,h1',Sem.run_bind,hρ _ _ hf,Core.val,Deferred.ofValue,Sem.run_pure,Result.andThen_ok,invoke,id];simpa using hr'
  rename_i hbody;unfold au at H;have hc:=H B.lt w rfl;unfold qj Oper.wp;have hrun:(execOp a.eval (⟨dst,.call { callee:=.value f,args:=args,argTypes:=ts },ty,pos,after,guard⟩:Oper)).run P w=.ok (.enter f' ⟨first++as++captured⟩) w:=by
   simp only [execOp,resolve,h1',Sem.run_bind,hρ _ _ hf,Core.val,Deferred.ofValue,Sem.run_pure,Result.andThen_ok,invoke];rw [O0 hbody];simp
  rw [hrun];simp only [Oper.upon];refine Calls.mono hc λe w' he=>?_;obtain ⟨v,rfl,h2,h3,h4⟩:=he;exact ⟨.v v,bx,rfl,zX B h3 (by simp [eG]) _,h2,h4⟩
 ·exact H.elim
theorem Hq {ops:Array Oper}{a:Act}{j d:Nat}{v:Value}(h:kJ ops.toList j≠some d):yielded ops (a.put (some d) v).tmps j=yielded ops a.tmps j:=by
 rw [zN] at h;unfold yielded;cases hd:(ops[j]?).bind (·.dst) with
 | none=>rfl
 | some t=>
  have hne:d≠t:=λe=>h (by subst e;simpa using hd);simp [Act.put,Array.getElem?_setIfInBounds_ne hne]
theorem Hr {all:List Oper}{d:Nat}:∀ (eg:fD),uS all d eg=true->∀ t j w c,lY eg t=some (j,w,c)->t≠d/\kJ all j≠some d
 | [],_,t,j,w,c,h=>by cases h
 | (t',j',w',c')::r,hf,t,j,w,c,h=>by
  simp only [uS] at hf;split at hf
  ·cases hf
  ·rename_i hne;have hne':t'≠d:=λe=>by subst e;simp [Nat.beq_refl] at hne
   have hrest:(∀ d',kJ all j'=some d'->d'≠d)/\uS all d r=true:=by
    split at hf
    ·rename_i d' hd';split at hf
     ·cases hf
     ·rename_i hb;exact ⟨λd'' h''=>(by rw [hd'] at h'';cases h'';intro e;subst e;simp [Nat.beq_refl] at hb),hf⟩
    ·rename_i hd';exact ⟨λd'' h''=>(by rw [hd'] at h'';cases h''),hf⟩
   simp only [lY] at h;split at h
   ·rename_i hb;have:=Nat.eq_of_beq_eq_true hb;subst this;simp at h;obtain ⟨rfl,rfl,rfl⟩:=h;exact ⟨hne',λe=>hrest.1 d e rfl⟩
   ·exact Hr r hrest.2 t j w c h
theorem qg {ops:Array Oper}{dst:Option Nat}{g:Option (Nat×Bool)}{x:Core}{e:bY}{eg:fD}{bx:bA}{a:Act}{K:bY->fD->Prop}{v:Value}
 (H:qh ops.toList dst g x e eg K) (A:Agree ops e eg bx a) (hx:fE bx x) (hd:∀ d,dst=some d->d<a.tmps.size)
 (hv:match g with|none=>v=x.val bx|some (j,w)=>(yielded ops a.tmps j=some w->v=x.val bx)/\(yielded ops a.tmps j≠some w->v=undef)) :
 ∃ e' eg',K e' eg'/\Agree ops e' eg' bx (a.put dst v):=by
 unfold qh at H;cases dst with
 | none=>exact ⟨e,eg,H,A⟩
 | some d=>
  simp only at H;split at H
  case h_2=>exact H.elim
  rename_i hf;have hf':=Hr eg hf;have hdl:=hd d rfl;have same:∀ t,t≠d->(a.put (some d) v).tmps[t]?=a.tmps[t]?:=λt ht=>by simp [Act.put,Array.getElem?_setIfInBounds_ne (Ne.symm ht)]
  have here:(a.put (some d) v).tmps[d]?=some v:=by simp [Act.put,hdl]
  have Ht:∀ t j w c,lY eg t=some (j,w,c)->(yielded ops (a.put (some d) v).tmps j=some w->(a.put (some d) v).tmps[t]?=some (c.val bx)) /\
   (yielded ops (a.put (some d) v).tmps j≠some w->(a.put (some d) v).tmps[t]?=some undef)/\fE bx c:=λt j w c hl=>by
   obtain ⟨h1,h2⟩:=hf' _ _ _ _ hl;rw [Hq h2,same t h1];exact A.tu t j w c hl
  cases g with
  | none=>
   simp only at H hv;refine ⟨_,_,H,⟨A.defers,λt c hl hg=>?_,Ht⟩⟩;simp only [jo] at hl;split at hl
   ·rename_i hb;have:=Nat.eq_of_beq_eq_true hb;subst this;simp at hl;subst hl;exact ⟨by rw [here,hv],hx⟩
   ·rename_i hb;have hne:t≠d:=λe=>by subst e;simp [Nat.beq_refl] at hb
    rw [same t hne];exact A.env t c hl hg
  | some p=>
   obtain ⟨j,w⟩:=p;simp only at H hv;split at H
   case h_2=>exact H.elim
   rename_i d' hd';split at H
   ·exact H.elim
   ·rename_i hb;have hne':d'≠d:=λe=>by subst e;simp [Nat.beq_refl] at hb
    have hjd:kJ ops.toList j≠some d:=by rw [hd'];simpa using hne'
    refine ⟨_,_,H,⟨A.defers,λt c hl hg=>?_,λt j' w' c hl=>?_⟩⟩
    ·simp only [lY] at hg;split at hg
     ·cases hg
     ·rename_i hb;have hne:t≠d:=λe=>by subst e;simp [Nat.beq_refl] at hb
      rw [same t hne];exact A.env t c hl hg
    ·simp only [lY] at hl;split at hl
     ·rename_i hb;have:=Nat.eq_of_beq_eq_true hb;subst this;simp at hl;obtain ⟨rfl,rfl,rfl⟩:=hl;rw [Hq hjd,here];exact ⟨λh=>by rw [hv.1 h],λh=>by rw [hv.2 h],hx⟩
     ·exact Ht t j' w' c hl
theorem CQ {ops:Array Oper}{e:bY}{eg:fD}{bx:bA}{a:Act}(A:Agree ops e eg bx a){g:Option (Nat×Bool)}(x:Operand)(c:Core)(h:rd ops.toList g e eg x=some c):fE bx c:=by
 cases x with
 | tmp t=>
  simp only [rd] at h;split at h
  ·rename_i j w c' hl;split at h
   ·simp at h;subst h;exact (A.tu _ _ _ _ hl).2.2
   ·cases h
  ·rename_i hl;exact (A.env _ _ h hl).2
 | const v=>simp [rd] at h;subst h;trivial
 | global n=>simp [rd] at h;subst h;trivial
 | func f=>simp [rd] at h;subst h;trivial
theorem uT {bx:bA}{o:Option Value}{c:Core}(h:qi o=some c):fE bx c:=by
 obtain ⟨v,_,rfl⟩:=tC h;trivial
theorem OO {P:Program}{op:Op}{ρ:Operand->Option Core}{bx:bA}{c:Core}(h:wU P op ρ=some c)(hρ:∀ y c,ρ y=some c->fE bx c):fE bx c:=by
 unfold wU at h;split at h
 ·exact hρ _ _ h
 ·exact hρ _ _ h
 ·split at h
  ·exact uT h
  ·cases h
 ·split at h
  ·exact uT h
  ·cases h
 ·split at h
  ·exact uT h
  ·cases h
 ·split at h
  ·split at h
   ·rename_i ha;simp at h;subst h;have:=hρ _ _ ha;simpa [fE] using this
   ·rename_i ha;simp at h;subst h;have:=hρ _ _ ha;simpa [fE] using this
   ·simp at h;subst h;trivial
   ·cases h
  ·cases h
 ·split at h
  ·split at h
   ·exact uT h
   ·cases h
  ·cases h
 ·exact uT h
 ·split at h
  ·simp at h;subst h;trivial
  ·cases h
 ·split at h
  ·rename_i ha;simp at h;subst h;exact hρ _ _ ha
  ·rename_i ha;simp at h;subst h;exact hρ _ _ ha
  ·simp at h;subst h;trivial
  ·simp at h;subst h;trivial
  ·cases h
 ·split at h
  ·split at h
   ·simp at h;subst h;trivial
   ·cases h
  ·split at h
   ·simp at h;subst h;trivial
   ·cases h
  ·cases h
 ·split at h
  ·exact uT h
  ·cases h
 ·cases h
theorem CR {P:Program}{ops:Array Oper}{e:bY}{eg:fD}{bx:bA}{a:Act}(A:Agree ops e eg bx a){g:Option (Nat×Bool)}{o:Oper}{x:Core}
 (h:zO ops.toList P g e eg o.op=some x):fE bx x/\((∀ p,g=some p->yielded ops a.tmps p.1=some p.2)->∀ w,(execOp a.eval o).run P w=.ok (.value (x.val bx)) w):=by
 unfold zO at h;split at h
 ·rename_i c y z ho;refine ⟨?_,λhg w=>OP A hg ho h w⟩;unfold zP at h;split at h
  ·split at h
   ·simp at h;subst h;trivial
   ·cases h
  ·cases h
 ·exact ⟨OO h (λy c hy=>CQ A y c hy),λhg w=>OQ (λy c hy=>sW A hg y c hy) h w⟩
theorem OT {ops:Array Oper}{o:Oper}{a:Act}(h:o.guard=none):Region.wanted o (yielded ops a.tmps)=true:=by simp [Region.wanted,h]
theorem OU {ops:Array Oper}{o:Oper}{a:Act}{j:Nat}{w:Bool}(h:o.guard=some (j,w)):(Region.wanted o (yielded ops a.tmps)=true↔yielded ops a.tmps j=some w):=by
 simp [Region.wanted,h]
def uR (n:Nat)(w0:World)(K:bY->fD->bA->Heap->Prop)(ops:Array Oper):Exit->Act->World->Prop:=λx a w=>
 x=.normal/\∃ e eg bx,Agree ops e eg bx a/\Boxed bx w.heap/\a.tmps.size=n/\dD w0 w/\K e eg bx w.heap
theorem OV (a:Act)(d:Option Nat)(v:Value):(a.put d v).tmps.size=a.tmps.size:=by cases d <;> simp [Act.put]
theorem OW {ops:Array Oper}{e:bY}{eg:fD}{bx bx':bA}{a:Act}(A:Agree ops e eg bx a)(hv:∀ c,fE bx c->c.val bx'=c.val bx/\fE bx' c):Agree ops e eg bx' a:=
 ⟨A.defers,λt c hl hg=>by obtain ⟨h1,h2⟩:=A.env t c hl hg;obtain ⟨h3,h4⟩:=hv c h2;exact ⟨by rw [h3];exact h1,h4⟩,
  λt j w c hl=>by obtain ⟨h1,h2,h5⟩:=A.tu t j w c hl;obtain ⟨h3,h4⟩:=hv c h5;exact ⟨λhy=>by rw [h3];exact h1 hy,h2,h4⟩⟩
section
variable {P:Program} {C:aG} {ops:Array Oper} {n:Nat} {w0:World} {K:bY->fD->bA->Heap->Prop} {Q:Exit->Act->World->Prop} {F:(World->Prop)->Act->World->Prop}
theorem rD {k:Nat}{ks:List Nat}{o:Oper}{v:Value}{bx:bA}{a:Act}{w:World}(ho:ops[k]?=some o)(B:Boxed bx w.heap)
 (hy:YieldsIf P ops (λw'=>wV (eG P C o) bx w.heap w') o v a) (he:rE (eG P C o)=true->YieldsIf P ops (λ_=>True) o v a)
 (ht:gG P ops Q F (kI P C ops) ks (λw=>j4 bx w.heap) (a.put o.dst v) w) :
 gG P ops Q F (kI P C ops) (k::ks) (λw=>j4 bx w.heap) a w:=by
 have hc:kI P C ops k=eG P C o:=by simp [kI,ho]
 simp only [gG,hc];cases hcl:eG P C o with
 | p0=>exact ⟨o,v,ho,by rw [hcl] at hy;exact hy.imp (λ⟨h1,h2⟩=>⟨h1,λw _=>h2 w trivial⟩) id,ht⟩
 | pb=>exact ⟨o,v,ho,by rw [hcl] at hy;exact hy,ht⟩
 | rd=>exact ⟨o,v,ho,by rw [hcl] at hy;exact hy,ht⟩
 | al=>exact (he (by simp [hcl,rE])).wpOp ho trivial ⟨jM.refl w,_,B.jZ,λ_ h=>h,ht⟩
 | ef=>exact (he (by simp [hcl,rE])).wpOp ho trivial ⟨B.jZ,ht⟩
 | be=>exact (he (by simp [hcl,rE])).wpOp ho trivial ⟨_,B.jZ,ht⟩
theorem OX {k:Nat}{ks:List Nat}{o:Oper}{bx:bA}{a:Act}{w:World}(ho:ops[k]?=some o)(B:Boxed bx w.heap)(hw:Region.wanted o (yielded ops a.tmps)=true)(hc:rE (eG P C o)=true)
 {K':Core->bA->Heap->Prop} (h:qj P (eG P C o) o bx w.heap K' a w Q)
 (ht:∀ x bx' w',After (eG P C o) bx w.heap x bx' w'.heap->dD w w'->K' x bx' w'.heap->gG P ops Q F (kI P C ops) ks (λw=>j4 bx' w.heap) (a.put o.dst (x.val bx')) w') :
 gG P ops Q F (kI P C ops) (k::ks) (λw=>j4 bx w.heap) a w:=by
 have hcl':kI P C ops k=eG P C o:=by simp [kI,ho]
 unfold qj at h;have base:∀ (R:Act->World->Prop),(∀ x bx' w',After (eG P C o) bx w.heap x bx' w'.heap->gG P ops Q F (kI P C ops) ks (λw=>j4 bx' w.heap) (a.put o.dst (x.val bx')) w'->R (a.put o.dst (x.val bx')) w') ->
  wpOp P ops Q k R a w:=by
  intro R hR;unfold wpOp;simp only [ho,hw,if_true];refine .inl (Oper.wp_mono (λa' w' h'=>?_) h);obtain ⟨x,bx',rfl,hA,hs,hK⟩:=h';exact hR x bx' w' hA (ht x bx' w' hA hs hK)
 simp only [gG,hcl'];cases hcl:eG P C o with
 | p0=>rw [hcl] at hc;cases hc
 | pb=>rw [hcl] at hc;cases hc
 | rd=>rw [hcl] at hc;cases hc
 | al=>
  refine base _ λx bx' w' hA hT=>?_;obtain ⟨h1,h2⟩:=hA.al hcl;exact ⟨h1,_,hA.boxed.jZ,λx h=>h2 x.heap h,hT⟩
 | ef=>
  refine base _ λx bx' w' hA hT=>?_;have:=hA.ef hcl;subst this;exact ⟨hA.boxed.jZ,hT⟩
 | be=>
  refine base _ λx bx' w' hA hT=>?_;exact ⟨_,hA.boxed.jZ,hT⟩
theorem zJ (hF:∀ e eg bx a (w:World),K e eg bx w.heap->Agree ops e eg bx a->Boxed bx w.heap->a.tmps.size=n->dD w0 w->F (λw=>j4 bx w.heap) a w):∀ (ks:List Nat) (os:List Oper),ks.map (ops[·]?)=os.map some->(∀ o∈os,∀ d,o.dst=some d->d<n) ->
 ∀ (e:bY) (eg:fD) (bx:bA) (a:Act) (w:World),lZ P C ops.toList K os e eg bx w.heap->Agree ops e eg bx a->Boxed bx w.heap->a.tmps.size=n->dD w0 w ->
 gG P ops Q F (kI P C ops) ks (λw=>j4 bx w.heap) a w
 | [],[],_,_,e,eg,bx,a,w,H,A,B,hn,hs=>hF e eg bx a w H A B hn hs
 | [],_::_,h,_,_,_,_,_,_,_,_,_,_,_=>by cases h
 | _::_,[],h,_,_,_,_,_,_,_,_,_,_,_=>by cases h
 | k::ks,o::os,hm,hd,e,eg,bx,a,w,H,A,B,hn,hs=>by
  simp only [List.map_cons,List.cons.injEq] at hm;obtain ⟨ho,hm⟩:=hm;have hdo:∀ d,o.dst=some d->d<a.tmps.size:=λd h=>by rw [hn];exact hd o (by simp) d h
  have rest:∀ (e':bY) (eg':fD) (bx':bA) (v:Value) (w':World),lZ P C ops.toList K os e' eg' bx' w'.heap->Agree ops e' eg' bx' (a.put o.dst v)->Boxed bx' w'.heap->dD w w' ->
   gG P ops Q F (kI P C ops) ks (λw=>j4 bx' w.heap) (a.put o.dst v) w':=λe' eg' bx' v w' h1 h2 h3 h4=>
   zJ hF ks os hm (λo' ho'=>hd o' (by simp [ho'])) e' eg' bx' _ w' h1 h2 h3 (by rw [OV];exact hn) (hs.trans h4)
  have Hu:Region.wanted o (yielded ops a.tmps)=true->rE (eG P C o)=true->(∀ (g:Option (Nat×Bool)),(∀ p,g=some p->yielded ops a.tmps p.1=some p.2) ->
   (wW P C (eG P C o) o (rd ops.toList g e eg) bx w.heap λx bx h=>qh ops.toList o.dst none x e eg λe eg=>lZ P C ops.toList K os e eg bx h) ->
   gG P ops Q F (kI P C ops) (k::ks) (λw=>j4 bx w.heap) a w):=λhw hE g hg H=>by
   refine OX ho B hw hE (OY H (λy c hy=>sW A hg y c hy) B) λx bx' w' hA hso hK=>?_;obtain ⟨e',eg',h1,h2⟩:=qg hK (OW A hA.val) hA.core hdo (v:=x.val bx') rfl;exact rest e' eg' bx' _ w' h1 h2 hA.boxed hso
  simp only [lZ] at H;split at H
  ·rename_i hg;have hw:=OT (ops:=ops) (a:=a) hg;unfold zQ at H;split at H
   ·rename_i x hx;obtain ⟨h1,h2⟩:=CR A hx;have h2':=h2 (λp hp=>by cases hp);obtain ⟨e',eg',h3,h4⟩:=qg H A h1 hdo (v:=x.val bx) rfl;exact rD ho B (.inl ⟨hw,λw' _=>h2' w'⟩) (λ_=>.inl ⟨hw,λw' _=>h2' w'⟩) (rest e' eg' bx _ w h3 h4 B (dD.refl w))
   ·split at H
    ·rename_i hE;obtain ⟨x,hK,_,hco,hrun⟩:=Hw H;have zS:=hco (λy c hy=>CQ A y c hy);obtain ⟨e',eg',h3,h4⟩:=qg hK A zS hdo (v:=x.val bx) rfl;exact rD ho B (.inl ⟨hw,λw' hw'=>hrun a.eval w' (λy c hy=>sW A (λp hp=>by cases hp) y c hy) hw'⟩) (λh=>by rw [hE] at h;cases h)
      (rest e' eg' bx _ w h3 h4 B (dD.refl w))
    ·rename_i hE _;exact Hu hw hE none (λp hp=>by cases hp) H
    ·rename_i hnone;cases hnone
  ·rename_i j wt hg;have hwi:=OU (ops:=ops) (a:=a) hg;split at H
   case h_2=>exact H.elim
   rename_i c hc;have hcond:=Hy A 9 j wt c hc;split at H
   ·rename_i hE;unfold zQ at H;split at H
    ·rename_i x hx;obtain ⟨h1,h2⟩:=CR A hx;by_cases hy:yielded ops a.tmps j=some wt
     ·have h2':=h2 (λp hp=>by cases hp;exact hy);obtain ⟨e',eg',h3,h4⟩:=qg H A h1 hdo (v:=x.val bx) ⟨λ_=>rfl,λh=>absurd hy h⟩;exact rD ho B (.inl ⟨hwi.2 hy,λw' _=>h2' w'⟩) (λh=>by rw [hE] at h;cases h) (rest e' eg' bx _ w h3 h4 B (dD.refl w))
     ·obtain ⟨e',eg',h3,h4⟩:=qg H A h1 hdo (v:=undef) ⟨λh=>absurd h hy,λ_=>rfl⟩;have hwf:Region.wanted o (yielded ops a.tmps)=false:=by
       cases hw:Region.wanted o (yielded ops a.tmps) with
       | false=>rfl
       | true=>exact absurd (hwi.1 hw) hy
      exact rD ho B (.inr ⟨hwf,rfl⟩) (λh=>by rw [hE] at h;cases h) (rest e' eg' bx _ w h3 h4 B (dD.refl w))
    ·rename_i hnone;split at H
     ·obtain ⟨x,hK,_,hco,hrun⟩:=Hw H;have zS:=hco (λy c hy=>CQ A y c hy);by_cases hy:yielded ops a.tmps j=some wt
      ·obtain ⟨e',eg',h3,h4⟩:=qg hK A zS hdo (v:=x.val bx) ⟨λ_=>rfl,λh=>absurd hy h⟩;have hct:=hcond.1 hy;exact rD ho B (.inl ⟨hwi.2 hy,λw' hw'=>hrun a.eval w' (λy c hy'=>sW A (λp hp=>by cases hp;exact hy) y c hy') hw' hct⟩) (λh=>by rw [hE] at h;cases h)
        (rest e' eg' bx _ w h3 h4 B (dD.refl w))
      ·obtain ⟨e',eg',h3,h4⟩:=qg hK A zS hdo (v:=undef) ⟨λh=>absurd h hy,λ_=>rfl⟩;have hwf:Region.wanted o (yielded ops a.tmps)=false:=by
        cases hw:Region.wanted o (yielded ops a.tmps) with
        | false=>rfl
        | true=>exact absurd (hwi.1 hw) hy
       exact rD ho B (.inr ⟨hwf,rfl⟩) (λh=>by rw [hE] at h;cases h) (rest e' eg' bx _ w h3 h4 B (dD.refl w))
     ·rename_i hE' hn';cases hn'
     ·rename_i hE' hn';rw [hE] at hE';cases hE'
   ·rename_i hE;unfold ak at H;by_cases hy:yielded ops a.tmps j=some wt
    ·have H:=H.1 (hcond.1 hy);unfold lZ.Hz at H;split at H
     ·rename_i x hx;obtain ⟨h1,h2⟩:=CR A hx;have h2':=h2 (λp hp=>by cases hp;exact hy);obtain ⟨e',eg',h3,h4⟩:=qg H A h1 hdo (v:=x.val bx) rfl;exact rD ho B (.inl ⟨hwi.2 hy,λw' _=>h2' w'⟩) (λ_=>.inl ⟨hwi.2 hy,λw' _=>h2' w'⟩) (rest e' eg' bx _ w h3 h4 B (dD.refl w))
     ·exact Hu (hwi.2 hy) hE (some (j,wt)) (λp hp=>by cases hp;exact hy) H
    ·have hcf:c=false:=by cases c with
      | false=>rfl
      | true=>exact absurd (hcond.2 rfl) hy
     have H:=H.2 hcf;obtain ⟨e',eg',h3,h4⟩:=qg H A (x:=.v _) trivial hdo (v:=undef) ⟨λh=>absurd h hy,λ_=>rfl⟩;have hwf:Region.wanted o (yielded ops a.tmps)=false:=by
      cases hw:Region.wanted o (yielded ops a.tmps) with
      | false=>rfl
      | true=>exact absurd (hwi.1 hw) hy
     exact rD ho B (.inr ⟨hwf,rfl⟩) (λ_=>.inr ⟨hwf,rfl⟩) (rest e' eg' bx _ w h3 h4 B (dD.refl w))
theorem zL:∀ (t:Tr),(∀ o∈ops.toList,∀ d,o.dst=some d->d<n) ->
 ∀ (e:bY) (eg:fD) (bx:bA) (a:Act) (w:World),rF P C ops.toList K t e eg bx w.heap->Agree ops e eg bx a->Boxed bx w.heap->a.tmps.size=n->dD w0 w ->
 mJ P ops (uR n w0 K ops) (kI P C ops) t (λw=>j4 bx w.heap) a w
 | .nil,_,e,eg,bx,a,w,H,A,B,hn,hs=>⟨rfl,e,eg,bx,A,B,hn,hs,H⟩
 | .cons k t,hd,e,eg,bx,a,w,H,A,B,hn,hs=>by
  simp only [rF] at H;split at H
  case h_2=>exact H.elim
  rename_i o ho;have ho':ops[k]?=some o:=by
   have hn:∀ (all:List Oper) (k:Nat),jL.nM all k=all[k]?:=by
    intro all
    induction all with
    | nil=>intro k;simp [jL.nM]
    | cons o r ih=>intro k;cases k <;> simp [jL.nM,ih]
   rw [hn] at ho;simpa using ho
  simp only [mJ];exact zJ (K:=λe eg bx h=>rF P C ops.toList K t e eg bx h) (λe eg bx a w H A B hn hs=>zL t hd e eg bx a w H A B hn hs) [k] [o] (by simp [ho']) (λo' h'=>hd o' (by simp at h';subst h';exact Array.mem_toList_iff.2 (Array.mem_of_getElem? ho'))) e eg bx a w H A B hn hs
 | .both s t,hd,e,eg,bx,a,w,H,A,B,hn,hs=>by
  simp only [rF] at H;unfold iI at H;exact ⟨zL s hd e eg bx a w H.1 A B hn hs,zL t hd e eg bx a w H.2 A B hn hs⟩
end
structure ou (n:Nat)(e:bY)(bx:bA)(a:Act):Prop where
 size:a.tmps.size=n
 defers:a.defers=[]
 env:∀ t c,jo e t=some c->a.tmps[t]?=some (c.val bx)/\fE bx c
theorem ou.agree {n:Nat}{e:bY}{bx:bA}{a:Act}(A:ou n e bx a)(ops:Array Oper):Agree ops e [] bx a:=
 ⟨A.defers,λt c h _=>A.env t c h,λt j w c h=>by cases h⟩
theorem Cv:∀ (L:List Nat) (e:bY) (K:bY->Prop),wP L e K->∃ e',K e'/\∀ t c,jo e' t=some c->jo e t=some c
 | [],e,K,h=>⟨[],h,λt c hl=>by cases hl⟩
 | t::L,e,K,h=>by
  simp only [wP] at h;split at h
  ·rename_i c hc;obtain ⟨e',h1,h2⟩:=Cv L e _ h;refine ⟨_,h1,λt' c' hl=>?_⟩;simp only [jo] at hl;split at hl
   ·rename_i hb;have:=Nat.eq_of_beq_eq_true hb;subst this;simp at hl;subst hl;exact hc
   ·exact h2 t' c' hl
  ·exact Cv L e K h
theorem zH:∀ (L:List Nat) (e:bY) (eg:fD) (K:bY->Prop),lC L e eg K->∃ e',K e'/\∀ t c,jo e' t=some c->jo e t=some c/\lY eg t=none
 | [],e,eg,K,h=>⟨[],h,λt c hl=>by cases hl⟩
 | t::L,e,eg,K,h=>by
  simp only [lC] at h;split at h
  ·exact zH L e eg K h
  ·rename_i hg;split at h
   ·rename_i c hc;obtain ⟨e',h1,h2⟩:=zH L e eg _ h;refine ⟨_,h1,λt' c' hl=>?_⟩;simp only [jo] at hl;split at hl
    ·rename_i hb;have:=Nat.eq_of_beq_eq_true hb;subst this;simp at hl;subst hl;exact ⟨hc,hg⟩
    ·exact h2 t' c' hl
   ·exact zH L e eg K h
theorem Cw:∀ (L:List Nat) (bx:bA) (K:bA->Prop),iW L bx K->∃ bx',K bx'/\∀ k x,dP bx' k=some x->dP bx k=some x
 | [],bx,K,h=>⟨[],h,λt c hl=>by cases hl⟩
 | k::L,bx,K,h=>by
  simp only [iW] at h;split at h
  ·rename_i b vs hc;obtain ⟨bx',h1,h2⟩:=Cw L bx _ h;refine ⟨_,h1,λk' x hl=>?_⟩;simp only [dP] at hl;split at hl
   ·rename_i hb;have:=Nat.eq_of_beq_eq_true hb;subst this;simp at hl;subst hl;exact hc
   ·exact h2 k' x hl
  ·exact Cw L bx K h
theorem G8 {bx:bA}:∀ (e:bY),rA bx e=true->∀ t c,jo e t=some c->fE bx c
 | [],_,t,c,h=>by cases h
 | (t',c')::r,hc,t,c,h=>by
  have hr:rA bx r=true/\fE bx c':=by
   cases c' with
   | v x=>exact ⟨hc,trivial⟩
   | lp k off=>
    simp only [rA] at hc;split at hc
    ·rename_i hk;exact ⟨hc,by simp [fE,hk]⟩
    ·cases hc
   | li k off=>
    simp only [rA] at hc;split at hc
    ·rename_i hk;exact ⟨hc,by simp [fE,hk]⟩
    ·cases hc
  simp only [jo] at h;split at h
  ·simp at h;subst h;exact hr.2
  ·exact G8 r hr.1 t c h
theorem G9:∀ (bx:bA),zI bx=true->uQ bx
 | [],_=>trivial
 | (k,_,_)::r,h=>by
  simp only [zI] at h;split at h
  ·cases h
  ·rename_i hk;exact ⟨hk,G9 r h⟩
theorem OE {n:Nat}{L B:List Nat}{e:bY}{bx:bA}{a:Act}{h:Heap}{K:bY->bA->Prop}(H:qd L B e bx K)(A:ou n e bx a)(X:Boxed bx h) :
 ∃ e' bx',K e' bx'/\ou n e' bx' a/\Boxed bx' h:=by
 unfold qd at H;obtain ⟨e',H,he⟩:=Cv L e _ H;obtain ⟨bx',H,hb⟩:=Cw B bx _ H;split at H
 case h_2=>exact H.elim
 rename_i hc hp;refine ⟨e',bx',H,⟨A.size,A.defers,λt c hl=>?_⟩,⟨λk b vs hk=>X.jZ k b vs (hb _ _ hk),λk k' b b' vs vs' h1 h2 hne=>X.distinct k k' b b' vs vs' (hb _ _ h1) (hb _ _ h2) hne,G9 _ hp⟩⟩;have h1:=A.env t c (he t c hl);have h2:=G8 e' hc t c hl;refine ⟨?_,h2⟩;have hval:c.val bx'=c.val bx:=by
  cases c with
  | v x=>rfl
  | lp k off=>
   simp only [fE] at h2;obtain ⟨x,hx⟩:=Option.isSome_iff_exists.1 h2;simp [Core.val,blk,hx,hb _ _ hx]
  | li k off=>
   simp only [fE] at h2;obtain ⟨x,hx⟩:=Option.isSome_iff_exists.1 h2;simp [Core.val,blk,hx,hb _ _ hx]
 rw [hval];exact h1.1
def sU (n:Nat)(w0:World)(Q:Post):Exit->Act->World->Prop:=λx a w=>
 (match x with|.normal=>True|.exit _=>True|.ret=>True|_=>False)/\∃ e bx,ou n e bx a/\Boxed bx w.heap/\dD w0 w/\Q x e bx w.heap
theorem sU.from {n:Nat}{w0 w1:World}{Q:Post}(h:dD w0 w1){x:Exit}{a:Act}{w:World}(hq:sU n w1 Q x a w):sU n w0 Q x a w:=
 let ⟨h1,e,bx,h2,h3,h4,h5⟩:=hq
 ⟨h1,e,bx,h2,h3,h.trans h4,h5⟩
theorem He (ops:Array Oper):∀ (l:List Nat),(∀ k∈l,k<ops.size)->l.map (ops[·]?)=(jL ops.toList l).map some
 | [],_=>rfl
 | k::l,h=>by
  have hk:k<ops.size:=h k (by simp);have hn:∀ (all:List Oper) (k:Nat),jL.nM all k=all[k]?:=by
   intro all
   induction all with
   | nil=>intro k;simp [jL.nM]
   | cons o r ih=>intro k;cases k <;> simp [jL.nM,ih]
  simp only [jL,List.map_cons,hn];have:ops.toList[k]?=some ops[k]:=by simp [hk]
  rw [this];simp only [List.map_cons];rw [He ops l (λk hk=>h k (by simp [hk]))];simp [hk]
theorem Hf (ops:Array Oper):(List.range ops.size).map (ops[·]?)=ops.toList.map some:=by
 apply List.ext_getElem
 ·simp
 ·intro i h1 h2;simp at h1;simp [h1]
theorem sV {P:Program}{ops:Array Oper}{Q:Exit->Act->World->Prop}{aZ:Nat->dM}:∀ (l:List Nat) (B:World->Prop) (a:Act) (w:World),B w->gG P ops Q (λ_ a w=>Q .normal a w) aZ l B a w->wpOps P ops Q l a w
 | [],B,a,w,_,h=>h
 | k::l,B,a,w,hB,h=>by
  rw [wpOps_cons];simp only [gG] at h;split at h
  ·obtain ⟨o,v,ho,hy,ht⟩:=h;exact hy.wpOp ho trivial (sV l B _ w hB ht)
  ·obtain ⟨o,v,ho,hy,ht⟩:=h;exact hy.wpOp ho hB (sV l B _ w hB ht)
  ·obtain ⟨o,v,ho,hy,ht⟩:=h;exact hy.wpOp ho (jM.refl w) (sV l B _ w hB ht)
  ·exact wpOp_mono (λa' w' h'=>let ⟨_,B',h1,_,h3⟩:=h';sV l B' a' w' h1 h3) h
  ·exact wpOp_mono (λa' w' h'=>sV l B a' w' h'.1 h'.2) h
  ·exact wpOp_mono (λa' w' h'=>let ⟨B',h1,h3⟩:=h';sV l B' a' w' h1 h3) h
theorem Cx {n:Nat}{w0:World}{C:aG}{Q:Post}{ops:Array Oper}{x:Exit}{a:Act}{w:World}
 (h:uR n w0 (λe eg bx h=>lC C.keep e eg λe=>Q .normal e bx h) ops x a w):sU n w0 Q x a w:=by
 obtain ⟨rfl,e,eg,bx,A,B,hn,hs,hK⟩:=h;obtain ⟨e',h1,h2⟩:=zH C.keep e eg _ hK;exact ⟨trivial,e',bx,⟨hn,A.defers,λt c hl=>A.env t c (h2 t c hl).1 (h2 t c hl).2⟩,B,hs,h1⟩
theorem rC {P:Program}{C:aG}{n:Nat}(hm:P.follows .mixedOrders=true):∀ (c:Code) (Q:Post) (e:bY) (bx:bA) (a:Act) (w:World),aJ P C n c=true ->
 vc P C c Q e bx w.heap->ou n e bx a->Boxed bx w.heap->c.wp P (sU n w Q) a w
 | .skip,Q,e,bx,a,w,_,H,A,B=>wp_skip ⟨trivial,e,bx,A,B,dD.refl w,H⟩
 | .label _,Q,e,bx,a,w,_,H,A,B=>wp_label ⟨trivial,e,bx,A,B,dD.refl w,H⟩
 | .exit id,Q,e,bx,a,w,_,H,A,B=>wp_exit ⟨trivial,e,bx,A,B,dD.refl w,H⟩
 | .ret,Q,e,bx,a,w,_,H,A,B=>wp_ret ⟨trivial,e,bx,A,B,dD.refl w,H⟩
 | .seq x y,Q,e,bx,a,w,hok,H,A,B=>by
  simp only [aJ,Bool.and_eq_true] at hok;have main:vc P C x (λz e bx h=>match z with|.normal=>vc P C y Q e bx h|z=>Q z e bx h) e bx w.heap->(Code.seq x y).wp P (sU n w Q) a w:=λH=>by
   refine wp_seq (wp_mono (rC hm x _ e bx a w hok.1 H A B) λz a' w' hq=>?_);obtain ⟨h1,e',bx',A',B',hs,hK⟩:=hq;cases z with
   | normal=>exact wp_mono (rC hm y Q e' bx' a' w' hok.2 hK A' B') λz a'' w'' hq=>hq.from hs
   | exit id=>exact ⟨trivial,e',bx',A',B',hs,hK⟩
   | ret=>exact ⟨trivial,e',bx',A',B',hs,hK⟩
   | goto l=>exact h1.elim
   | panic ch=>exact h1.elim
   | outgrown=>exact h1.elim
  simp only [vc] at H;split at H
  ·unfold aU at H;exact main H
  ·exact main H
 | .cond c x y,Q,e,bx,a,w,hok,H,A,B=>by
  simp only [aJ,Bool.and_eq_true] at hok;simp only [vc] at H;split at H
  case h_2=>exact H.elim
  rename_i t hc;have hev:=sW (A.agree #[]) (g:=none) (λp hp=>by cases hp) c _ hc;unfold ak at H;refine wp_cond_split hev (λht=>?_) (λht=>?_)
  ·exact rC hm x Q e bx a w hok.1 (H.1 ht) A B
  ·exact rC hm y Q e bx a w hok.2 (H.2 ht) A B
 | .block id x,Q,e,bx,a,w,hok,H,A,B=>by
  simp only [aJ] at hok;simp only [vc] at H;refine wp_block (wp_mono (rC hm x _ e bx a w hok H A B) λz a' w' hq=>?_);obtain ⟨h1,e',bx',A',B',hs,hK⟩:=hq;cases z with
  | normal=>exact ⟨trivial,e',bx',A',B',hs,hK⟩
  | exit j=>
   simp only at hK;by_cases hj:j=id
   ·subst hj;simp only [Nat.beq_refl] at hK;exact show Exit.inBlock _ _ _ _ _ from by simp only [Exit.inBlock,if_true];exact ⟨trivial,e',bx',A',B',hs,hK⟩
   ·have hb:Nat.beq j id=false:=by cases hb:Nat.beq j id with|false=>rfl|true=>exact absurd (Nat.eq_of_beq_eq_true hb) hj
    rw [hb] at hK;exact show Exit.inBlock _ _ _ _ _ from by simp only [Exit.inBlock,hj,if_false];exact ⟨trivial,e',bx',A',B',hs,hK⟩
  | ret=>exact ⟨trivial,e',bx',A',B',hs,hK⟩
  | goto l=>exact h1.elim
  | panic ch=>exact h1.elim
  | outgrown=>exact h1.elim
 | .loop x,Q,e,bx,a,w,hok,H,A,B=>by
  simp only [aJ] at hok;simp only [vc] at H;unfold bP at H;obtain ⟨L,Bs,I,⟨d,h0⟩,round⟩:=H;have start:∀ (d:Nat) (e:bY) (bx:bA) (a':Act) (w':World),dD w w'->ou n e bx a'->Boxed bx w'.heap->(qd L Bs e bx λe bx=>I d e bx w'.heap) ->
   ∃ e bx,ou n e bx a'/\Boxed bx w'.heap/\dD w w'/\I d e bx w'.heap:=λd e bx a' w' hs A B h=>by
   obtain ⟨e',bx',h1,h2,h3⟩:=OE h A B;exact ⟨e',bx',h2,h3,hs,h1⟩
  refine wp_loop_ghost (λd a' w'=>∃ e bx,ou n e bx a'/\Boxed bx w'.heap/\dD w w'/\I d e bx w'.heap) d (start d e bx a w (dD.refl w) A B h0) λd a' w' hI=>?_;obtain ⟨e',bx',A',B',hs,hI⟩:=hI;refine wp_mono (rC hm x _ e' bx' a' w' hok (round d e' bx' w'.heap hI) A' B') λz a'' w'' hq=>?_;obtain ⟨h1,Cy,Cz,CB,B'',hs',hK⟩:=hq;cases z with
  | normal=>
   obtain ⟨d',hlt,hk⟩:=hK;exact ⟨d',hlt,start d' Cy Cz a'' w'' (hs.trans hs') CB B'' hk⟩
  | exit id=>exact ⟨trivial,Cy,Cz,CB,B'',hs.trans hs',hK⟩
  | ret=>exact ⟨trivial,Cy,Cz,CB,B'',hs.trans hs',hK⟩
  | goto l=>exact h1.elim
  | panic ch=>exact h1.elim
  | outgrown=>exact h1.elim
 | .scope x,Q,e,bx,a,w,hok,H,A,B=>by
  simp only [aJ] at hok;simp only [vc] at H;refine wp_scope_straight (wp_mono (rC hm x _ e bx a w hok H A B) λz a' w' hq=>?_);obtain ⟨h1,e',bx',A',B',hs,hK⟩:=hq;cases z with
  | normal=>exact ⟨trivial,e',bx',A',B',hs,hK⟩
  | exit id=>exact ⟨trivial,e',bx',A',B',hs,hK⟩
  | ret=>exact ⟨trivial,e',bx',A',B',hs,hK⟩
  | goto l=>exact h1.elim
  | panic ch=>exact h1.elim
  | outgrown=>exact h1.elim
 | .region id ops false,Q,e,bx,a,w,hok,H,A,B=>by
  simp only [aJ,Bool.and_eq_true] at hok;simp only [vc] at H;have hd:∀ o∈ops.toList,∀ d,o.dst=some d->d<n:=λo ho d hd=>by
   have:=Array.all_eq_true'.1 hok.1 o (by simpa using ho);rw [hd] at this;simpa using this
  have ht:=zJ (P:=P) (C:=C) (ops:=ops) (n:=n) (w0:=w) (Q:=uR n w (λe eg bx h=>lC C.keep e eg λe=>Q .normal e bx h) ops) (F:=λ_ a' w'=>uR n w (λe eg bx h=>lC C.keep e eg λe=>Q .normal e bx h) ops .normal a' w') (λe eg bx a w H A B hn hs=>⟨rfl,e,eg,bx,A,B,hn,hs,H⟩) (List.range ops.size) ops.toList (Hf ops) hd e [] bx a w H (A.agree ops) B A.size (dD.refl w);exact wp_mono (wp_region (sV _ _ a w B.jZ ht)) λz a' w' hq=>Cx hq
 | .region id ops true,Q,e,bx,a,w,hok,H,A,B=>by
  simp only [aJ,Bool.and_eq_true,Bool.not_true,Bool.false_or,decide_eq_true_eq] at hok;simp only [vc] at H;obtain ⟨hok1,hok⟩:=hok;cases htr:zK C.CJ id with
  | some t=>
  rw [htr] at hok H;simp only [Bool.and_eq_true,decide_eq_true_eq] at hok;obtain ⟨⟨hlen,hsel⟩,hdr⟩:=hok;have hd:∀ o∈ops.toList,∀ d,o.dst=some d->d<n:=λo ho d hd=>by
   have:=Array.all_eq_true'.1 hok1 o (by simpa using ho);rw [hd] at this;simpa using this
  have hB':Boxed bx ({ w with drawn:=w.drawn+1 }:World).heap:=B;have ht:=zL (P:=P) (C:=C) (ops:=ops) (n:=n) (w0:=w) t hd e [] bx a { w with drawn:=w.drawn+1 } H (A.agree ops) hB' A.size ⟨rfl,rfl,rfl⟩;exact wp_mono (OG hm hlen hsel hdr (λc a w i o v _ h=>by obtain ⟨h1,_⟩:=h;cases h1) B.jZ ht) λz a' w' hq=>Cx hq
  | none=>
  rw [htr] at hok H;simp only [Bool.and_eq_true,decide_eq_true_eq] at hok;obtain ⟨⟨⟨hlen,hall⟩,hsel⟩,hdr⟩:=hok;simp only at H;have hd:∀ o∈ops.toList,∀ d,o.dst=some d->d<n:=λo ho d hd=>by
   have:=Array.all_eq_true'.1 hok1 o (by simpa using ho);rw [hd] at this;simpa using this
  have hB':Boxed bx ({ w with drawn:=w.drawn+1 }:World).heap:=B;have fin:∀ (l:List Nat) (os:List Oper),l.map (ops[·]?)=os.map some->(∀ o∈os,o∈ops.toList)->l.length=ops.size->(∀ k∈l,k<ops.size)->sZ ops (kI P C ops) l (Array.replicate ops.size false)=true ->
   lZ P C ops.toList (λe eg bx h=>lC C.keep e eg λe=>Q .normal e bx h) os e [] bx w.heap->(Code.region id ops true).wp P (sU n w Q) a w:=λl os hmap hsub hlen hlt hdr H=>by
   have ht:=zJ (P:=P) (C:=C) (ops:=ops) (n:=n) (w0:=w) (Q:=uR n w (λe eg bx h=>lC C.keep e eg λe=>Q .normal e bx h) ops) (F:=λ_ a' w'=>uR n w (λe eg bx h=>lC C.keep e eg λe=>Q .normal e bx h) ops .normal a' w') (λe eg bx a w H A B hn hs=>⟨rfl,e,eg,bx,A,B,hn,hs,H⟩) l os hmap (λo ho=>hd o (hsub o ho)) e [] bx a { w with drawn:=w.drawn+1 } H (A.agree ops) hB' A.size ⟨rfl,rfl,rfl⟩;exact wp_mono (OH hm hlen hlt hsel hdr (λc a w i o v _ h=>by obtain ⟨h1,_⟩:=h;cases h1) B.jZ ht) λz a' w' hq=>Cx hq
  have hmem:∀ (l:List Nat),∀ o∈jL ops.toList l,o∈ops.toList:=by
   intro l;have hn:∀ (all:List Oper) (k:Nat),jL.nM all k=all[k]?:=by
    intro all
    induction all with
    | nil=>intro k;simp [jL.nM]
    | cons o r ih=>intro k;cases k <;> simp [jL.nM,ih]
   induction l with
   | nil=>intro o ho;cases ho
   | cons k l ih=>
    intro o ho;simp only [jL] at ho;split at ho
    ·rename_i o' ho';simp only [List.mem_cons] at ho;rcases ho with rfl|ho
     ·rw [hn] at ho';exact List.mem_of_getElem? ho'
     ·exact ih o ho
    ·exact ih o ho
  split at H
  ·rename_i CK;rw [CK] at hlen hall hdr;simp only [Option.getD_none] at hlen hall hdr;exact fin (List.range ops.size) ops.toList (Hf ops) (λo h=>h) (by simp) (λk hk=>by simpa using hk) hdr H
  ·rename_i l CK;rw [CK] at hlen hall hdr;simp only [Option.getD_some] at hlen hall hdr;have hlt:∀ k∈l,k<ops.size:=λk hk=>by simpa using List.all_eq_true.1 hall k hk
   exact fin l (jL ops.toList l) (He ops l hlt) (hmem l) hlen hlt hdr H
 | .rangeFunc _ _ _ _,Q,e,bx,a,w,_,H,A,B=>H.elim
 | .goto _,Q,e,bx,a,w,_,H,A,B=>H.elim
 | .refuse _,Q,e,bx,a,w,_,H,A,B=>H.elim
def pE (P:Program)(e:bY)(bx:bA)(h:Heap):List ResultVar->(List Value->Prop)->Prop
 | [],K=>K []
 | .tmp t::r,K=>(match jo e t with | some (.v x)=>pE P e bx h r λl=>K (x::l) | _=>False)
 | .cell t ty::r,K=>(match nN P ty,jo e t with
  | some .one,some (.lp k off)=>(match dP bx k with
   | some (_,vs)=>(match nth vs off with | some v=>pE P e bx h r λl=>K (v::l) | none=>False)
   | none=>False)
  | some (.agg n),some (.lp k off)=>(match dP bx k with
   | some (_,vs)=>(match ow n (oz off vs) with | some c=>pE P e bx h r λl=>K (.agg ⟨c⟩::l) | none=>False)
   | none=>False)
  | some .one,some (.v (.pointer (some ⟨b,off,none⟩)))=>ax none h b off λv=>pE P e bx h r λl=>K (v::l)
  | some (.agg n),some (.v (.pointer (some ⟨b,off,none⟩)))=>eY none h b off n λc=>pE P e bx h r λl=>K (.agg ⟨c⟩::l)
  | _,_=>False)
def CO (P:Program)(e:bY)(bx:bA)(h:Heap)(K:Value->Prop)(rs:List ResultVar):Prop:=
 pE P e bx h rs λl=>match l with|[x]=>K x|l=>K (.tuple ⟨l⟩)
def wQ:Nat->List Value->bY
 | _,[]=>[]
 | n,v::r=>(n,.v v)::wQ (n+1) r
def OL (P:Program)(C:aG)(rs:List ResultVar)(c:Code)(args:List Value)(h:Heap)(K:Value->Heap->Prop):Prop:=
 vc P C c (λx e bx h=>match x with|.normal=>CO P e bx h (λv=>K v h) rs|.ret=>CO P e bx h (λv=>K v h) rs|_=>False) (wQ 0 args) [] h
theorem Hg:∀ (l:List Value) (n t:Nat) (c:Core),jo (wQ n l) t=some c->∃ i v,t=n+i/\l[i]?=some v/\c=.v v
 | [],n,t,c,h=>by cases h
 | v::r,n,t,c,h=>by
  simp only [wQ,jo] at h;split at h
  ·rename_i hb;have:=Nat.eq_of_beq_eq_true hb;simp at h;exact ⟨0,v,by omega,by simp,h.symm⟩
  ·obtain ⟨i,v',h1,h2,h3⟩:=Hg r (n+1) t c h;exact ⟨i+1,v',by omega,by simpa using h2,h3⟩
theorem OM {P:Program}{t:TypeId}{b off:Nat}{v:Value}{w:World}(h:(Instr.loadAt t (.pointer (some ⟨b,off,none⟩))).run P w=.ok v w):(loadVar t ⟨b,off,none⟩).run P w=.ok v w:=by
 simpa [Instr.loadAt,Instr.sureAddr] using h
theorem CP {P:Program}{n:Nat}{e:bY}{bx:bA}{a:Act}{w:World}(A:ou n e bx a)(B:Boxed bx w.heap):∀ (rs:List ResultVar) (K:List Value->Prop),pE P e bx w.heap rs K ->
 ∃ l,(rs.mapM (fun|.tmp t=>pure (a.tmps.getD t undef)|.cell c t=>do loadVar t (<-asAddr (a.tmps.getD c undef)):ResultVar->Sem Value)).run P w=.ok l w/\K l
 | [],K,h=>⟨[],by simp,h⟩
 | .tmp t::r,K,h=>by
  simp only [pE] at h;split at h
  ·rename_i x hl;obtain ⟨l,h1,h2⟩:=CP A B r _ h;have hx:=(A.env t _ hl).1;refine ⟨x::l,?_,h2⟩;simp only [List.mapM_cons,Sem.run_bind,Sem.run_pure,Result.andThen_ok,h1];simp [hx,Core.val]
  ·exact h.elim
 | .cell t ty::r,K,h=>by
  simp only [pE] at h;have fin:∀ (b off:Nat) (v:Value),a.tmps[t]?=some (.pointer (some ⟨b,off,none⟩))->(Instr.loadAt ty (.pointer (some ⟨b,off,none⟩))).run P w=.ok v w->pE P e bx w.heap r (λl=>K (v::l)) ->
   ∃ l,((ResultVar.cell t ty::r).mapM (fun|.tmp t=>pure (a.tmps.getD t undef)|.cell c t=>do loadVar t (<-asAddr (a.tmps.getD c undef)):ResultVar->Sem Value)).run P w=.ok l w/\K l:=by
   intro b off v ht hv hr;obtain ⟨l,h1,h2⟩:=CP A B r _ hr;refine ⟨v::l,?_,h2⟩;simp only [List.mapM_cons,Sem.run_bind,Sem.run_pure,Result.andThen_ok];have:a.tmps.getD t undef=.pointer (some ⟨b,off,none⟩):=by simp [ht]
   rw [this];have hA:(asAddr (.pointer (some ⟨b,off,none⟩))).run P w=.ok ⟨b,off,none⟩ w:=by simp [asAddr]
   simp only [hA,Result.andThen_ok,OM hv,h1]
  have Hl:∀ k b vs,dP bx k=some (b,vs)->∀ off,Heap.cell? w.heap b off=vs[off]?:=λk b vs hb off=>by
   obtain ⟨T,hT⟩:=B.jZ k b vs hb;simp [Heap.cell?,hT]
  split at h
  ·rename_i k off hl hx;split at h
   ·rename_i b vs hb;split at h
    ·rename_i v hv;rw [mI] at hv;refine fin b off v ?_ (wR hl (by rw [Hl k b vs hb];exact hv)) h;have:=(A.env t _ hx).1;simpa [Core.val,tq hb] using this
    ·exact h.elim
   ·exact h.elim
  ·rename_i n' k off hl hx;split at h
   ·rename_i b vs hb;split at h
    ·rename_i c hv;obtain ⟨h1,h2⟩:=wS _ _ _ hv;rw [wT] at h1;refine fin b off _ ?_ (zM hl h2 (λj hj=>by rw [Hl k b vs hb,h1];simp [hj])) h;have:=(A.env t _ hx).1;simpa [Core.val,tq hb] using this
    ·exact h.elim
   ·exact h.elim
  ·rename_i b off hl hx;unfold ax at h;obtain ⟨v,hv,hK⟩:=h;exact fin b off v (by simpa [Core.val] using (A.env t _ hx).1) (wR hl hv) hK
  ·rename_i n' b off hl hx;unfold eY at h;obtain ⟨vs,hn,hv,hK⟩:=h;exact fin b off _ (by simpa [Core.val] using (A.env t _ hx).1) (zM hl hn hv) hK
  ·exact h.elim
theorem Ho {P:Program}{fn:Func}{n:Nat}{e:bY}{bx:bA}{a:Act}{w:World}{K:Value->Prop}(A:ou n e bx a)(B:Boxed bx w.heap)(h:CO P e bx w.heap K fn.results.toList) :
 ∃ v,(results fn a.tmps).run P w=.ok v w/\K v:=by
 obtain ⟨l,h1,h2⟩:=CP A B _ _ h;have h3:(results fn a.tmps).run P w=.ok (if h:(⟨l⟩:Array Value).size=1 then (⟨l⟩:Array Value)[0] else .tuple ⟨l⟩) w:=by
  unfold results;simp only [Sem.run_bind];rw [Array.mapM_eq_mapM_toList];simp only [Sem.run_map]
  erw [h1]
  rfl
 refine ⟨_,h3,?_⟩
 match l,h2 with
 | [],h2=>exact h2
 | [x],h2=>exact h2
 | x::y::r,h2=>simpa using h2
theorem aH {P:Program}(hm:P.follows .mixedOrders=true){f:Nat}{fn:Func}{c:Code}{C:aG}(hf:P.funcs[f]?=some fn)(hb:fn.body=some c)
 (hok:aJ P C fn.ntmps c=true) {args:List Value} (hlen:args.length<=fn.ntmps) {h:Heap} {K:Value->Heap->Prop} (H:OL P C fn.results.toList c args h K):aD P f args h K:=by
 intro w hw;subst hw;refine calls_of_wp hf hb (wp_mono (rC hm c _ (wQ 0 args) [] _ w hok H ⟨?_,rfl,λt cr hl=>?_⟩ ⟨λk b vs hk=>(by cases hk),λk k' b b' vs vs' hk=>(by cases hk),trivial⟩) λz a' w' hq=>?_)
 ·simp;omega
 ·obtain ⟨i,v,rfl,hi,rfl⟩:=Hg args 0 t cr hl;refine ⟨?_,trivial⟩;have hlt:i<args.length:=by
   rcases Nat.lt_or_ge i args.length with h|h
   ·exact h
   ·simp [List.getElem?_eq_none h] at hi
  simp [Array.getElem?_append,hlt,Core.val];simpa [hlt] using hi
 ·obtain ⟨h1,e',bx',A',B',hs,hK⟩:=hq;cases z with
  | normal=>
   obtain ⟨v,hv,hK⟩:=Ho (P:=P) (w:=w') A' B' hK;exact ⟨A'.defers,v,hv,v,rfl,hs,hK⟩
  | ret=>
   obtain ⟨v,hv,hK⟩:=Ho (P:=P) (w:=w') A' B' hK;exact ⟨A'.defers,v,hv,v,rfl,hs,hK⟩
  | exit id=>exact hK.elim
  | goto l=>exact h1.elim
  | panic ch=>exact h1.elim
  | outgrown=>exact h1.elim
structure Keeps (M:List Nat)(h h':Heap):Prop where
 size:h.size<=h'.size
 same:∀ b,b<h.size->b∉M->h'[b]?=h[b]?
theorem Keeps.refl (M:List Nat)(h:Heap):Keeps M h h:=⟨Nat.le_refl _,λ_ _ _=>rfl⟩
theorem Keeps.trans {M:List Nat}{a b c:Heap}(h:Keeps M a b)(h':Keeps M b c):Keeps M a c:=
 ⟨Nat.le_trans h.size h'.size,λi hi hm=>(h'.same i (Nat.lt_of_lt_of_le hi h.size) hm).trans (h.same i hi hm)⟩
theorem Keeps.mono {M M':List Nat}{a b:Heap}(h:Keeps M a b)(hm:∀ x∈M,x∈M'):Keeps M' a b:=
 ⟨h.size,λi hi hn=>h.same i hi λhx=>hn (hm i hx)⟩
theorem Keeps.gL {M M':List Nat}{a b c:Heap}(h:Keeps M a b)(h':Keeps M' b c)(hm:∀ x∈M',x∈M\/a.size<=x):Keeps M a c:=
 ⟨Nat.le_trans h.size h'.size,λi hi hn=>(h'.same i (Nat.lt_of_lt_of_le hi h.size) λhx=>by rcases hm i hx with h1|h1;exact hn h1;omega).trans (h.same i hi hn)⟩
theorem Keeps.cu {M:List Nat}{a b c:Heap}(h:Keeps M a b)(h':Keeps [] b c):Keeps M a c:=h.gL h' (by simp)
theorem wm {h:Heap}{b o:Nat}{v:Value}(hc:Heap.cell? h b o=some v):b<h.size:=by
 unfold Heap.cell? at hc;rcases Nat.lt_or_ge b h.size with h1|h1
 ·exact h1
 ·simp [Array.getElem?_eq_none h1] at hc
theorem eZ {h:Heap}{b:Nat}{o:Obj}(hc:h[b]?=some o):b<h.size:=by
 rcases Nat.lt_or_ge b h.size with h1|h1
 ·exact h1
 ·simp [Array.getElem?_eq_none h1] at hc
theorem Keeps.obj {M:List Nat}{h h':Heap}(k:Keeps M h h'){b:Nat}{o:Obj}(hc:h[b]?=some o)(hb:b∉M):h'[b]?=some o:=by
 rw [k.same b (eZ hc) hb];exact hc
theorem Keeps.cell {M:List Nat}{h h':Heap}(k:Keeps M h h'){b o:Nat}{v:Value}(hc:Heap.cell? h b o=some v)(hb:b∉M):Heap.cell? h' b o=some v:=by
 have:=wm hc;unfold Heap.cell? at hc ⊢;rw [k.same b this hb];exact hc
theorem rf (h:Heap)(o:Obj):Keeps [] h (h.push o):=⟨by simp,λb hb _=>by rw [iX,if_neg (by omega)]⟩
theorem ax.i {c:Option Bool}{h:Heap}{b off:Nat}{K:Value->Prop}{v:Value}(hv:Heap.cell? h b off=some v)(hK:K v):ax c h b off K:=by
 unfold ax;exact ⟨v,lu hv,hK⟩
theorem ax.u {p:Bool}{h:Heap}{b off:Nat}{K:Value->Prop}(v:Value)(hv:p=true->Heap.cell? h b off=some v)(hK:K v):ax (some p) h b off K:=by
 unfold ax;exact ⟨v,hv,hK⟩
theorem eY.i {c:Option Bool}{h:Heap}{b off n:Nat}{K:List Value->Prop}{vs:List Value}(hn:vs.length=n)(hv:∀ i,i<n->Heap.cell? h b (off+i)=vs[i]?)(hK:K vs):eY c h b off n K:=by
 unfold eY;exact ⟨vs,hn,lu hv,hK⟩
theorem eY.u {p:Bool}{h:Heap}{b off n:Nat}{K:List Value->Prop}(vs:List Value)(hn:vs.length=n)(hv:p=true->∀ i,i<n->Heap.cell? h b (off+i)=vs[i]?)(hK:K vs):eY (some p) h b off n K:=by
 unfold eY;exact ⟨vs,hn,hv,hK⟩
theorem fC.i {c:Option Bool}{i:Int}{n:Nat}{K:Nat->Prop}(j:Nat)(h1:i=(j:Int))(h2:j<n)(hK:K j):fC c i n K:=by
 unfold fC;exact ⟨j,lu ⟨h1,h2⟩,hK⟩
theorem fC.u {p:Bool}{i:Int}{n:Nat}{K:Nat->Prop}(j:Nat)(h:p=true->i=(j:Int)/\j<n)(hK:K j):fC (some p) i n K:=by
 unfold fC;exact ⟨j,h,hK⟩
theorem aQ.i {c:Option Bool}{i:Int}{n:Nat}{a:Option Addr}{s:Nat}{K:Nat->Nat->Prop}(j:Nat){b off:Nat}(h1:i=(j:Int))(h2:j<n)(h3:a=some ⟨b,off,none⟩)(hK:K b (off+j*s)):aQ c i n a s K:=by
 unfold aQ;exact ⟨j,b,off,lu ⟨h1,h2,h3⟩,hK⟩
theorem aQ.u {p:Bool}{i:Int}{n:Nat}{a:Option Addr}{s:Nat}{K:Nat->Nat->Prop}(j b off:Nat)(h:p=true->i=(j:Int)/\j<n/\a=some ⟨b,off,none⟩)(hK:K b (off+j*s)):aQ (some p) i n a s K:=by
 unfold aQ;exact ⟨j,b,off,h,hK⟩
theorem dm.i {c:Option Bool}{lo hi:Int}{cap:Nat}{K:Nat->Nat->Prop}(l r:Nat)(h1:lo=(l:Int))(h2:hi=(r:Int))(h3:l<=r)(h4:r<=cap)(hK:K l r):dm c lo hi cap K:=by
 unfold dm;exact ⟨l,r,lu ⟨h1,h2,h3,h4⟩,hK⟩
theorem dm.u {p:Bool}{lo hi:Int}{cap:Nat}{K:Nat->Nat->Prop}(l r:Nat)(h:p=true->lo=(l:Int)/\hi=(r:Int)/\l<=r/\r<=cap)(hK:K l r):dm (some p) lo hi cap K:=by
 unfold dm;exact ⟨l,r,h,hK⟩
theorem dH.i {c:Option Bool}{p K:Prop}(hp:p)(hK:K):dH c p K:=by unfold dH;exact ⟨lu hp,hK⟩
theorem dH.u {q:Bool}{p K:Prop}(hp:q=true->p)(hK:K):dH (some q) p K:=by unfold dH;exact ⟨hp,hK⟩
theorem oq.i {c:Option Bool}{vs:List Value}{i:Nat}{K:Value->Prop}{v:Value}(hv:vs[i]?=some v)(hK:K v):oq c vs i K:=by unfold oq;exact ⟨v,lu hv,hK⟩
theorem oq.u {q:Bool}{vs:List Value}{i:Nat}{K:Value->Prop}(v:Value)(hv:q=true->vs[i]?=some v)(hK:K v):oq (some q) vs i K:=by unfold oq;exact ⟨v,hv,hK⟩
theorem gP.i {c:Option Bool}{P:Program}{s:Sem Value}{K:Value->Prop}{v:Value}(hv:∀ w:World,s.run P w=.ok v w)(hK:K v):gP c P s K:=by unfold gP;exact ⟨v,lu hv,hK⟩
theorem gF.i {c:Option Bool}{h:Heap}{kd:TypeDesc}{r:Nat}{k:Value}{K:Option Value->Prop}{o:Option Value}
 (hv:∃ es cl,h[r]?=some (.map es cl)/\((Instr.findNow kd k es.toList 0).map λx=>x.map (·.2))=some o) (hK:K o):gF c h kd r k K:=by unfold gF;exact ⟨o,lu hv,hK⟩
theorem rz.i {c:Option Bool}{h:Heap}{r:Nat}{K:Nat->Prop}{n:Nat}(hv:∃ es cl,h[r]?=some (.map es cl)/\es.size=n)(hK:K n):rz c h r K:=by unfold rz;exact ⟨n,lu hv,hK⟩
theorem aR.i {h:Heap}{o:Obj}{K:Nat->Heap->Prop}(H:∀ b h',b=h.size->h'.size=h.size+1->h'[b]?=some o->Keeps [] h h'->K b h'):aR h o K:=by
 unfold aR;rintro b h' rfl rfl;exact H _ _ rfl (by simp) (by rw [iX,if_pos rfl]) (rf h o)
theorem aN.i {h:Heap}{b:Nat}{K:Heap->Prop}(H:∀ h',h'.size=h.size->Keeps [b] h h'->K h'):aN h b K:=by
 unfold aN;exact λh' h1 h2=>H h' h1 ⟨by omega,λb' _ hn=>h2 b' (by simpa using hn)⟩
theorem dO.i {h:Heap}{b off:Nat}{vs:List Value}{bs:List Nat}{K:Heap->Prop}{c:List Value}{T:TypeId}(hb:h[b]?=some (.cells ⟨c⟩ T (0,0)))(hl:off+vs.length<=c.length)(hn:b∉bs)
 (H:∀ h',h'.size=h.size->h'[b]?=some (.cells ⟨bC off vs c⟩ T (0,0))->Keeps [b] h h'->K h'):dO h b off vs bs K:=by
 unfold dO;exact ⟨c,T,hb,hl,hn,λh' h1 h2 h3=>H h' h1 h2 ⟨by omega,λb' _ hn=>h3 b' (by simpa using hn)⟩⟩
theorem ak.i {c:Bool}{A B:Prop}(h1:c=true->A)(h2:c=false->B):ak c A B:=by unfold ak;exact ⟨h1,h2⟩
theorem ak.t {c:Bool}{A B:Prop}(hc:c=true)(h:A):ak c A B:=by unfold ak;exact ⟨λ_=>h,λh'=>(by rw [hc] at h';cases h')⟩
theorem ak.f {c:Bool}{A B:Prop}(hc:c=false)(h:B):ak c A B:=by unfold ak;exact ⟨λh'=>(by rw [hc] at h';cases h'),λ_=>h⟩
theorem aU.pass {first:Post->bY->bA->Heap->Prop}{rest:bY->bA->Heap->Prop}{Q:Post}{e:bY}{bx:bA}{h:Heap}
 (H:first (λx e bx h=>match x with|.normal=>rest e bx h|x=>Q x e bx h) e bx h):aU first rest Q e bx h:=by unfold aU;exact H
theorem bP.i {body:Post->bY->bA->Heap->Prop}{Q:Post}{e:bY}{bx:bA}{h:Heap}(L B:List Nat)(I:Nat->bY->bA->Heap->Prop)(d:Nat)
 (h0:qd L B e bx λe bx=>I d e bx h)
 (h1:∀ d e bx h,I d e bx h->body (λx e bx h=>match x with
  | .normal=>∃ d',d'<d/\qd L B e bx λe bx=>I d' e bx h
  | x=>Q x e bx h) e bx h):bP body Q e bx h:=by
 unfold bP;exact ⟨L,B,I,⟨d,h0⟩,h1⟩
theorem au.i {P:Program}{f:Nat}{args:List Value}{bs:List Nat}{h:Heap}{K:Value->Heap->Prop}{R:Value->Heap->Prop}
 (hc:aD P f args h λv h'=>Keeps [] h h'/\R v h') (hK:∀ v h',Keeps [] h h'->R v h'->K v h'):au P f args bs h K:=by
 unfold au;intro hb w hw;refine (hc w hw).mono λe w' he=>?_;obtain ⟨v,h1,h2,h3,h4⟩:=he;exact ⟨v,h1,h2,λb hb'=>h3.same b (hb b hb') (by simp),hK v _ h3 h4⟩
theorem au.m {P:Program}{f:Nat}{args:List Value}{bs:List Nat}{h:Heap}{K:Value->Heap->Prop}{R:Value->Heap->Prop}{M:List Nat}
 (hc:aD P f args h λv h'=>Keeps M h h'/\R v h') (hM:∀ b∈bs,b∉M) (hK:∀ v h',Keeps M h h'->R v h'->K v h'):au P f args bs h K:=by
 unfold au;intro hb w hw;refine (hc w hw).mono λe w' he=>?_;obtain ⟨v,h1,h2,h3,h4⟩:=he;exact ⟨v,h1,h2,λb hb'=>h3.same b (hb b hb') (hM b hb'),hK v _ h3 h4⟩
theorem aD.mono {P:Program}{f:Nat}{args:List Value}{h:Heap}{R R':Value->Heap->Prop}(hc:aD P f args h R)(hR:∀ v h',R v h'->R' v h'):aD P f args h R':=by
 intro w hw;refine (hc w hw).mono λe w' he=>?_;obtain ⟨v,h1,h2,h3⟩:=he;exact ⟨v,h1,h2,hR v _ h3⟩
end Go.aK
namespace Go.aK
open Go Go.RowKit Go.Deep
class Rp (α:Type) where
 n:Nat
 iD:Heap->List Value->α->Prop
 len:∀ {h vs x},iD h vs x->vs.length=n
 keep:∀ {h h' vs x},Keeps [] h h'->iD h vs x->iD h' vs x
abbrev iD {α:Type}[Rp α](h:Heap)(vs:List Value)(x:α):Prop:=Rp.iD h vs x
def inI64 (x:Int):Prop := -9223372036854775808<=x/\x<=9223372036854775807
instance:Rp Int where
 n:=1
 iD _ vs x:=vs=[.int .i64 x]/\inI64 x
 len h:=by rw [h.1];rfl
 keep _ h:=h
instance:Rp Bool where
 n:=1
 iD _ vs x:=vs=[.bool x]
 len h:=by rw [h];rfl
 keep _ h:=h
def mK (s:ByteArray):Prop:=s.size<=140737488351232
instance:Rp ByteArray where
 n:=1
 iD _ vs x:=vs=[.string x]/\mK x
 len h:=by rw [h.1];rfl
 keep _ h:=h
def pO (h:Heap)(b off:Nat)(cs:List Value):Prop:=∀ j,j<cs.length->Heap.cell? h b (off+j)=cs[j]?
theorem pO.keep {h h':Heap}(k:Keeps [] h h'){b off:Nat}{cs:List Value}(hc:pO h b off cs):pO h' b off cs:=λj hj=>by
 have h1:=hc j hj;have h2:cs[j]?=some cs[j]:=by simp [hj]
 rw [h2] at h1 ⊢;exact k.cell h1 (by simp)
structure Sl {α:Type}[Rp α](h:Heap)(a:Option Addr)(len cap:Nat)(xs:List α):Prop where
 hlen:len=xs.length
 hcap:len<=cap
 hbig:xs.length<=281474976710656
 at_:∀ i (hi:i<xs.length),∃ b off,a=some ⟨b,off,none⟩/\∃ cs,iD h cs xs[i]/\pO h b (off+i*Rp.n α) cs
theorem Sl.keep {α:Type}[Rp α]{h h':Heap}{a:Option Addr}{len cap:Nat}{xs:List α}(k:Keeps [] h h')(s:Sl h a len cap xs):Sl h' a len cap xs:=
 ⟨s.hlen,s.hcap,s.hbig,λi hi=>let ⟨b,off,ha,cs,hr,hc⟩:=s.at_ i hi;⟨b,off,ha,cs,Rp.keep k hr,hc.keep k⟩⟩
instance {α:Type} [Rp α]:Rp (List α) where
 n:=1
 iD h vs x:=∃ a len cap,vs=[.slice a len cap]/\Sl h a len cap x
 len h:=by obtain ⟨_,_,_,h,_⟩:=h;rw [h];rfl
 keep k h:=by obtain ⟨a,l,c,h1,h2⟩:=h;exact ⟨a,l,c,h1,h2.keep k⟩
theorem MG {α:Type}[Rp α]{h:Heap}{a:Option Addr}{len cap:Nat}{xs:List α}:iD h [.slice a len cap] xs↔Sl h a len cap xs:=by
 constructor
 ·rintro ⟨a',l',c',h1,h2⟩;simp at h1;obtain ⟨rfl,rfl,rfl⟩:=h1;exact h2
 ·exact λh=>⟨a,len,cap,rfl,h⟩
theorem Sl.nil {α:Type}[Rp α]{h:Heap}{a:Option Addr}{cap:Nat}:Sl h a 0 cap ([]:List α):=
 ⟨rfl,Nat.zero_le _,by simp,λi hi=>absurd hi (by simp)⟩
theorem Sl.part {α:Type}[Rp α]{h:Heap}{a:Option Addr}{len cap:Nat}{xs:List α}(s:Sl h a len cap xs){l r:Nat}(h1:l<=r)(h2:r<=len) :
 Sl h (iZ a cap l (Rp.n α)) (r-l) (cap-l) ((xs.take r).drop l):=by
 have hl:=s.hlen;have hc:=s.hcap;have hb:=s.hbig;refine ⟨by simp;omega,by omega,by simp;omega,λi hi=>?_⟩;have hi':i<r-l:=by simp at hi;omega
 obtain ⟨b,off,ha,cs,hr,hcs⟩:=s.at_ (l+i) (by omega);refine ⟨b,off+l*Rp.n α,?_,cs,?_,?_⟩
 ·subst ha;simp only [iZ];rw [if_neg (by omega)];simp [addr_add]
 ·simpa using hr
 ·rw [show off+l*Rp.n α+i*Rp.n α=off+(l+i)*Rp.n α by rw [Nat.add_mul];omega];exact hcs
section
variable {H:Type} {enc:TypeId×Value->H} {P:Program} {W:World} {sp:Nat->Bool} {held:Bool}
def Opens (enc:TypeId×Value->H)(P:Program)(W:World)(sp:Nat->Bool)(held:Bool)(t:TypeId)(α:Type)[Rp α]:Prop:=
 ∀ fuel cs x,DataW.trod enc P W 0 sp held fuel t cs=some x->(∀ m∈x.1.weights P t,m<=reachBytes)->∃ y:α,iD W.heap cs y
theorem IJ {e:TypeId}:∀ (l:List (DataW H)) (d:DataW H),d∈l->∀ m∈d.weights P e,m∈DataW.weightsAll P e l
 | [],d,h,_,_=>by cases h
 | x::r,d,h,m,hm=>by
  simp only [DataW.weightsAll,List.mem_append];simp only [List.mem_cons] at h;rcases h with rfl|h
  ·exact .inl hm
  ·exact .inr (IJ r d h m hm)
theorem BP {w:World}{a:Addr}{n:Nat}{cs:List Value}(h:w.cells? 0 a n=some cs)(hn:0<n):∃ b off,a=⟨b,off,none⟩/\cs.length=n/\pO w.heap b off cs:=by
 unfold World.cells? at h;rw [if_pos (Nat.zero_le _)] at h;have key:∀ (l:List Nat) (cs:List Value),l.mapM (λi=>w.cell? (a.add i))=some cs->cs.length=l.length/\∀ j (hj:j<l.length),w.cell? (a.add l[j])=cs[j]?:=by
  intro l
  induction l with
  | nil=>intro cs h;simp at h;subst h;simp
  | cons i l ih=>
   intro cs h;simp only [List.mapM_cons,Option.bind_eq_bind] at h;cases hv:w.cell? (a.add i) with
   | none=>rw [hv] at h;simp at h
   | some v=>
    rw [hv] at h;simp only [Option.bind_some] at h;cases hr:l.mapM (λi=>w.cell? (a.add i)) with
    | none=>rw [hr] at h;simp at h
    | some r=>
     rw [hr] at h;simp at h;subst h;obtain ⟨h1,h2⟩:=ih r hr;refine ⟨by simp [h1],λj hj=>?_⟩;cases j with
     | zero=>simpa using hv
     | succ j=>simpa using h2 j (by simpa using hj)
 obtain ⟨h1,h2⟩:=key _ _ h;simp at h1;obtain ⟨b,off,spot⟩:=a;have h0:=h2 0 (by simpa using hn);have hsp:spot=none:=by
  cases spot with
  | none=>rfl
  | some s=>
   exfalso;have:cs[0]?=some cs[0]:=by simp [h1,hn]
   rw [this] at h0;simp only [List.getElem_range,Addr.add,if_true] at h0;unfold World.cell? at h0;split at h0 <;> simp at h0
 subst hsp;refine ⟨b,off,rfl,h1,λj hj=>?_⟩;have:=h2 j (by simp;omega);simp only [List.getElem_range,addr_add,tH] at this;exact this
theorem Np {t e:TypeId}{α:Type}[Rp α](ht:P.underlying t=some (.slice e))(hn:P.cellsOf e=Rp.n α)(hpos:0<Rp.n α)(hby:0<P.bytesOf e)(he:Opens enc P W sp held e α):Opens enc P W sp held t (List α):=by
 intro fuel cs x h hw;rcases open_slice ht h with ⟨rfl,_⟩|⟨a,len,cap,m,n,D,Pl,rfl,_,hl,hm,rfl,hx,hel⟩
 ·exact ⟨[],none,0,0,rfl,Sl.nil⟩
 ·have hlen:len*P.bytesOf e<=reachBytes:=by
   have h1:=hw ((((List.range len).map D).length+((List.range ((if sp a.block then cap else len)-len)).map λj=>D (len+j)).length)*P.bytesOf e) (by
    rw [hx];unfold DataW.weights;simp only [ht];exact List.mem_cons_self)
   simp only [List.length_map,List.length_range] at h1;refine Nat.le_trans (Nat.mul_le_mul_right _ ?_) h1;omega
  have hlen':len<=reachBytes:=Nat.le_trans (Nat.le_mul_of_pos_right _ hby) hlen;have hwt:∀ i,i<len->∀ m∈(D i).weights P e,m<=reachBytes:=λi hi m hm=>hw m (by
   rw [hx];unfold DataW.weights;simp only [ht];refine List.mem_cons_of_mem _ (List.mem_append_left _ (IJ _ (D i) ?_ m hm));exact List.mem_map.2 ⟨i,by simpa using hi,rfl⟩)
  have hex:∀ i,i<len->∃ y:α,∃ b off,a=⟨b,off,none⟩/\∃ cs,iD W.heap cs y/\pO W.heap b (off+i*Rp.n α) cs:=λi hi=>by
   obtain ⟨cs',h1,h2⟩:=hel i (by split <;> omega);obtain ⟨y,hy⟩:=he _ _ _ h2 (hwt i hi);rw [hn] at h1;obtain ⟨b,off,h3,h4,h5⟩:=BP h1 hpos;refine ⟨y,b,off-i*Rp.n α,?_,cs',hy,?_⟩
   ·obtain ⟨ab,ao,asp⟩:=a;unfold Addr.add at h3;split at h3
    ·rename_i h0;simp at h3;obtain ⟨rfl,rfl,rfl⟩:=h3;simp [h0]
    ·rename_i h0;simp at h3;obtain ⟨rfl,rfl⟩:=h3;have:asp=none:=by
      obtain ⟨cs0,h10,_⟩:=hel 0 (by split <;> omega);rw [hn] at h10;obtain ⟨b0,o0,h30,_,_⟩:=BP h10 hpos;simp [Addr.add] at h30;exact h30.2.2
     subst this;simp
   ·have:i*Rp.n α<=off:=by
     obtain ⟨ab,ao,asp⟩:=a;unfold Addr.add at h3;split at h3
     ·omega
     ·simp at h3;omega
    rw [show off-i*Rp.n α+i*Rp.n α=off by omega];exact h5
  have build:∀ k,k<=len->∃ ys:List α,ys.length=k/\∀ i (hi:i<ys.length),∃ b off,a=⟨b,off,none⟩/\∃ cs,iD W.heap cs ys[i]/\pO W.heap b (off+i*Rp.n α) cs:=by
   intro k
   induction k with
   | zero=>intro _;exact ⟨[],rfl,λi hi=>absurd hi (by simp)⟩
   | succ k ih=>
    intro hk;obtain ⟨ys,h1,h2⟩:=ih (by omega);obtain ⟨y,hy⟩:=hex k (by omega);refine ⟨ys++[y],by simp [h1],λi hi=>?_⟩;by_cases hik:i<ys.length
    ·simp only [List.getElem_append_left hik];exact h2 i hik
    ·have:i=k:=by simp at hi;omega
     subst this;have hg:(ys++[y])[i]=y:=by simp [List.getElem_append,hik]
     rw [hg];exact hy
  obtain ⟨ys,h1,h2⟩:=build len (Nat.le_refl _);refine ⟨ys,some a,len,cap,rfl,h1.symm,hl,by rw [h1];unfold reachBytes at hlen';omega,λi hi=>?_⟩;obtain ⟨b,off,rfl,cs,h3,h4⟩:=h2 i hi;exact ⟨b,off,rfl,cs,h3,h4⟩
set_option maxRecDepth 100000 in
theorem DI {t:TypeId}(ht:P.underlying t=some .string):Opens enc P W sp held t ByteArray:=by
 intro fuel cs x h hw;cases fuel with
 | zero=>simp [DataW.trod] at h
 | succ fuel=>
  match cs,h with
  | [],h=>simp [DataW.trod,ht] at h
  | _::_::_,h=>simp [DataW.trod,ht] at h
  | [c],h=>
   have hs:∃ s,c=.string s/\x=(.lit (.string s.data.toList),[]):=by
    cases c
    case string s=>
     unfold DataW.trod at h;simp only [ht] at h;split at h
     ·exact ⟨s,rfl,(Option.some.inj h).symm⟩
     ·cases h
    all_goals (simp [DataW.trod,ht] at h)
   obtain ⟨s,rfl,rfl⟩:=hs;refine ⟨s,rfl,?_⟩;have:=hw s.data.toList.length (by unfold DataW.weights;exact List.mem_cons_self);unfold mK;unfold reachBytes at this;have hsz:s.data.toList.length=s.size:=Array.length_toList;omega
theorem DJ {t:TypeId}(ht:P.underlying t=some (.int .i64)):Opens enc P W sp held t Int:=by
 intro fuel cs x h _;cases fuel with
 | zero=>simp [DataW.trod] at h
 | succ fuel=>
  match cs,h with
  | [],h=>simp [DataW.trod,ht] at h
  | _::_::_,h=>simp [DataW.trod,ht] at h
  | [c],h=>
   cases c <;> simp [DataW.trod,ht] at h;rename_i k n;obtain ⟨⟨rfl,hwf⟩,_⟩:=h;refine ⟨n,rfl,?_⟩;simp [Lit.wf,IntKind.min,IntKind.max,IntKind.bits,IntKind.signed] at hwf;unfold inI64;omega
theorem Pv {t:TypeId}{fs:Array Field}{fuel:Nat}{cs:List Value}{x:DataW H×List MemPlace}(ht:P.underlying t=some (.struct fs))(h:DataW.trod enc P W 0 sp held fuel t cs=some x)
 (hw:∀ m∈x.1.weights P t,m<=reachBytes) :
 cs.length=P.cellsOf t/\∃ fuel',∀ f∈fs.toList,∃ y,DataW.trod enc P W 0 sp held fuel' f.type ((cs.drop f.offset).take (P.cellsOf f.type))=some y/\∀ m∈y.1.weights P f.type,m<=reachBytes:=by
 cases fuel with
 | zero=>simp [DataW.trod] at h
 | succ fuel=>
  have h':(if cs.length=P.cellsOf t then (fs.toList.mapM λf=>DataW.trod enc P W 0 sp held fuel f.type ((cs.drop f.offset).take (P.cellsOf f.type))).map λxs=>(DataW.agg (xs.map (·.1)),xs.flatMap (·.2)) else none)=some x:=by
   rw [<-h]
   conv=>rhs;unfold DataW.trod
   simp only [ht]
  split at h'
  ·rename_i hl;refine ⟨hl,fuel,?_⟩;simp only [Option.map_eq_some_iff] at h';obtain ⟨xs,hxs,hx⟩:=h';have hw':∀ m∈DataW.weightsEach P (fs.toList.map (·.type)) (xs.map (·.1)),m<=reachBytes:=λm hm=>hw m (by
    rw [<-hx];unfold DataW.weights;simp only [ht];exact hm)
   have key:∀ (l:List Field) (xs:List (DataW H×List MemPlace)),l.mapM (λf=>DataW.trod enc P W 0 sp held fuel f.type ((cs.drop f.offset).take (P.cellsOf f.type)))=some xs ->
    (∀ m∈DataW.weightsEach P (l.map (·.type)) (xs.map (·.1)),m<=reachBytes) ->
    ∀ f∈l,∃ y,DataW.trod enc P W 0 sp held fuel f.type ((cs.drop f.offset).take (P.cellsOf f.type))=some y/\∀ m∈y.1.weights P f.type,m<=reachBytes:=by
    intro l
    induction l with
    | nil=>intro xs _ _ f hf;cases hf
    | cons g l ih=>
     intro xs hx hw f hf;simp only [List.mapM_cons,Option.bind_eq_bind] at hx;cases hv:DataW.trod enc P W 0 sp held fuel g.type ((cs.drop g.offset).take (P.cellsOf g.type)) with
     | none=>rw [hv] at hx;simp at hx
     | some v=>
      rw [hv] at hx;simp only [Option.bind_some] at hx;cases hr:l.mapM (λf=>DataW.trod enc P W 0 sp held fuel f.type ((cs.drop f.offset).take (P.cellsOf f.type))) with
      | none=>rw [hr] at hx;simp at hx
      | some r=>
       rw [hr] at hx;simp at hx;subst hx;simp only [List.map_cons,DataW.weightsEach,List.mem_append] at hw;simp only [List.mem_cons] at hf;rcases hf with rfl|hf
       ·exact ⟨v,hv,λm hm=>hw m (.inl hm)⟩
       ·exact ih r hr (λm hm=>hw m (.inr hm)) f hf
   exact key _ _ hxs hw'
  ·cases h'
end
theorem MJ {w w':World}(k:Keeps [] w.heap w'.heap)(s:dD w w'):Below w.heap.size w w':=
 ⟨s.1,s.2.2,s.2.1,k.size,λb hb=>k.same b hb (by simp)⟩
end Go.aK
namespace Go.aK
open Go
theorem bP.on {σ:Type}{body:Post->bY->bA->Heap->Prop}{Q:Post}{e:bY}{bx:bA}{h:Heap}(L B:List Nat)(env:σ->bY)(Ag:σ->bA)(inv:σ->Heap->Prop)(m:σ->Nat)(s0:σ)
 (h0:qd L B e bx λe' bx'=>∃ s,m s=m s0/\e'=env s/\bx'=Ag s/\inv s h)
 (h1:∀ s h,inv s h->body (λx e bx h=>match x with
  | .normal=>∃ d',d'<m s/\qd L B e bx λe bx=>∃ s',m s'=d'/\e=env s'/\bx=Ag s'/\inv s' h
  | x=>Q x e bx h) (env s) (Ag s) h):bP body Q e bx h:=by
 refine bP.i L B (λd e bx h=>∃ s,m s=d/\e=env s/\bx=Ag s/\inv s h) (m s0) h0 ?_;rintro d e bx h ⟨s,rfl,rfl,rfl,hs⟩;exact h1 s h hs
theorem dQ {x:Int}(h1 : -9223372036854775808<=x)(h2:x<=9223372036854775807):IntKind.i64.wrap x=x:=by
 rw [IntKind.wrap_i64];omega
theorem wrapN {x:Int}{n:Nat}(h:x=(n:Int))(h2:n<=9223372036854775807):IntKind.i64.wrap x=(n:Int):=by
 subst h;exact dQ (by omega) (by omega)
theorem xH (a b:ByteArray):(a.toList==b.toList)=decide (a=b):=by
 rw [ByteArray.toList_eq,ByteArray.toList_eq];have:(a.data.toList=b.data.toList)↔a=b:=⟨λh=>by cases a;cases b;congr;exact Array.toList_inj.1 h,λh=>by rw [h]⟩;by_cases h:a=b
 ·subst h;simp
 ·have h':¬ a.data.toList=b.data.toList:=λe=>h (this.1 e);rw [decide_eq_false h];exact beq_eq_false_iff_ne.2 h'
theorem Pt (a b:Int):(a==b)=decide (a=b):=rfl
theorem di (a b:Bool):(bif a then true else b)=(a||b):=by cases a <;> rfl
theorem dB (a b:Bool):(bif a then b else false)=(a&&b):=by cases a <;> rfl
def ay:Option Addr->List Nat
 | none=>[]
 | some a=>[a.block]
def Own (h:Heap)(e:TypeId)(sz:Nat)(a:Option Addr)(len cap:Nat)(l:List Value):Prop:=
 (a=none/\len=0/\cap=0/\l=[]) \/
 ∃ b c,a=some ⟨b,0,none⟩/\h[b]?=some (.cells ⟨c⟩ e (0,0))/\c.take l.length=l/\c.length=cap*sz/\l.length=len*sz/\len<=cap
theorem Own.keep {h h':Heap}{M:List Nat}{e:TypeId}{sz:Nat}{a:Option Addr}{len cap:Nat}{l:List Value}(o:Own h e sz a len cap l)(k:Keeps M h h')(hm:∀ b∈ay a,b∉M):Own h' e sz a len cap l:=by
 rcases o with o|⟨b,c,h1,h2,h3⟩
 ·exact .inl o
 ·exact .inr ⟨b,c,h1,k.obj h2 (hm b (by simp [h1,ay])),h3⟩
theorem Own.nil (h:Heap)(e:TypeId)(sz:Nat):Own h e sz none 0 0 []:=.inl ⟨rfl,rfl,rfl,rfl⟩
theorem Own.lt {h:Heap}{e:TypeId}{sz:Nat}{a:Option Addr}{len cap:Nat}{l:List Value}(o:Own h e sz a len cap l):∀ b∈ay a,b<h.size:=by
 intro b hb;rcases o with ⟨rfl,_⟩|⟨b',c,rfl,h2,_⟩
 ·cases hb
 ·simp [ay] at hb;subst hb;exact eZ h2
def iR {α:Type}[Rp α](h:Heap):List Value->List α->Prop
 | l,[]=>l=[]
 | l,x::xs=>∃ cs r,l=cs++r/\iD h cs x/\iR h r xs
theorem iR.snoc {α:Type}[Rp α]{h:Heap}:∀ {xs:List α} {l:List Value} {cs:List Value} {x:α},iR h l xs->iD h cs x->iR h (l++cs) (xs++[x])
 | [],l,cs,x,h1,h2=>by
  simp only [iR] at h1;subst h1;exact ⟨cs,[],by simp,h2,rfl⟩
 | y::ys,l,cs,x,h1,h2=>by
  obtain ⟨c,r,rfl,h3,h4⟩:=h1;exact ⟨c,r++cs,by simp,h3,iR.snoc h4 h2⟩
theorem iR.len {α:Type}[Rp α]{h:Heap}:∀ {xs:List α} {l:List Value},iR h l xs->l.length=xs.length*Rp.n α
 | [],l,h1=>by simp only [iR] at h1;subst h1;simp
 | y::ys,l,h1=>by
  obtain ⟨c,r,rfl,h3,h4⟩:=h1;rw [List.length_append,Rp.len h3,h4.len,List.length_cons,Nat.add_mul];omega
theorem iR.keep {α:Type}[Rp α]{h h':Heap}(k:Keeps [] h h'):∀ {xs:List α} {l:List Value},iR h l xs->iR h' l xs
 | [],l,h1=>h1
 | y::ys,l,h1=>by
  obtain ⟨c,r,rfl,h3,h4⟩:=h1;exact ⟨c,r,rfl,Rp.keep k h3,h4.keep k⟩
theorem iR.at_ {α:Type}[Rp α]{h:Heap}:∀ {xs:List α} {l:List Value},iR h l xs->∀ i (hi:i<xs.length),∃ cs,iD h cs xs[i]/\∀ j,j<cs.length->l[i*Rp.n α+j]?=cs[j]?
 | [],l,h1,i,hi=>absurd hi (by simp)
 | y::ys,l,h1,0,hi=>by
  obtain ⟨c,r,rfl,h3,h4⟩:=h1;exact ⟨c,h3,λj hj=>by rw [Nat.zero_mul,Nat.zero_add,List.getElem?_append_left hj]⟩
 | y::ys,l,h1,i+1,hi=>by
  obtain ⟨c,r,rfl,h3,h4⟩:=h1;obtain ⟨cs,h5,h6⟩:=h4.at_ i (by simpa using hi);refine ⟨cs,h5,λj hj=>?_⟩;have:=Rp.len h3;rw [Nat.add_mul,Nat.one_mul,List.getElem?_append_right (by omega),<-h6 j hj]
  congr 1;omega
theorem Own.sl {α:Type}[Rp α]{h:Heap}{e:TypeId}{sz:Nat}{a:Option Addr}{len cap:Nat}{l:List Value}{xs:List α}(o:Own h e sz a len cap l)(r:iR h l xs)(hs:sz=Rp.n α)(hp:0<sz)(hb:xs.length<=281474976710656):Sl h a len cap xs:=by
 subst hs;have hr:=r.len;rcases o with ⟨rfl,rfl,rfl,rfl⟩|⟨b,c,rfl,h2,h3,h4,h5,h6⟩
 ·have:xs=[]:=by
   have h0:xs.length*Rp.n α=0:=by simpa using hr.symm
   rcases Nat.mul_eq_zero.1 h0 with h|h
   ·exact List.eq_nil_of_length_eq_zero h
   ·omega
  subst this;exact Sl.nil
 ·have hl:len=xs.length:=Nat.eq_of_mul_eq_mul_right hp (h5.symm.trans hr);refine ⟨hl,h6,hb,λi hi=>?_⟩;obtain ⟨cs,h7,h8⟩:=r.at_ i hi;refine ⟨b,0,rfl,cs,h7,λj hj=>?_⟩;rw [<-h8 j hj,<-h3];have hcs:=Rp.len h7;have hlt:i*Rp.n α+j<l.length:=by
   rw [hr];have:=Nat.mul_le_mul_right (Rp.n α) (show i+1<=xs.length by omega);rw [Nat.add_mul] at this;omega
  have hlc:l.length<=c.length:=by rw [h4,h5];exact Nat.mul_le_mul_right _ h6
  simp only [Heap.cell?,h2,Nat.zero_add];rw [List.getElem?_take,if_pos hlt];simp
theorem IG:∀ (r need c:Nat),Builtin.growBy need r c<=max c (2*need+192)
 | 0,need,c=>by simp [Builtin.growBy];omega
 | r+1,need,c=>by
  simp only [Builtin.growBy];split
  ·omega
  ·have:=IG r need (c+(c+768)/4);omega
theorem Dx (need old:Nat)(h:old<need):Builtin.nextslicecap need old<=2*need+192:=by
 unfold Builtin.nextslicecap;split
 ·omega
 ·split
  ·omega
  ·have:=IG 4 need old;omega
theorem u7 {P:Program}{w:World}{b off n:Nat}{vs:List Value}(hn:vs.length=n)(hc:∀ k,k<n->Heap.cell? w.heap b (off+k)=vs[k]?) :
 (loadCells ⟨b,off,none⟩ n).run P w=.ok ⟨vs⟩ w:=by
 unfold loadCells;rw [CZ n 0 off vs #[] hn (by simpa using hc)];simp
theorem II (z:Array Value)(n:Nat):∃ l:List Value,Builtin.zeroCells z n=⟨l⟩/\l.length=n*z.size:=by
 refine ⟨(Builtin.zeroCells z n).toList,rfl,by simp [Builtin.zeroCells]⟩
theorem Dy (need old:Nat)(e:TypeId)(t:Nat)(hb:need<2 ^ 63):∃ c,(Question.appendCap need old e).cut t=c/\need<=c/\(Question.appendCap need old e).forced=false:=
 ⟨_,rfl,by simp only [Question.cut];omega,rfl⟩
theorem rM:∀ (off:Nat) (vs c:List Value),off+vs.length<=c.length->(bC off vs c).take (off+vs.length)=c.take off++vs
 | 0,[],c,_=>by simp [wZ]
 | 0,v::vs,[],h=>by simp at h
 | 0,v::vs,x::c,h=>by
  have:=rM 0 vs c (by simp at h ⊢;omega);simp only [bC];simp at this;simp [this]
 | off+1,vs,[],h=>by simp at h
 | off+1,vs,x::c,h=>by
  have:=rM off vs c (by simp at h;omega);simp only [bC];rw [show off+1+vs.length=(off+vs.length)+1 by omega,List.take_succ_cons,this,List.take_succ_cons];rfl
theorem jO {P:Program}{sT xT ty e:TypeId}{sz aL:Nat}{z:Value}{i:TypeInfo}(hu:P.underlying sT=some (.slice e))(hx:P.underlying xT=some (.slice e))(hi:P.info? e=some i)
 (hsz:i.size=sz) (hby:i.bytes=aL) (hz:i.zero=some z) (hzc:(cellsOf z).length=sz)
 {h:Heap} {a:Option Addr} {len cap:Nat} {l:List Value} (o:Own h e sz a len cap l) {xb xo n xc:Nat} {new:List Value} (hn:new.length=n*sz) (hnew:∀ j,j<new.length->Heap.cell? h xb (xo+j)=new[j]?)
 (hone:gM new=true) (hbig:(2*(len+n)+192)*aL<=2 ^ 48) (hby0:0<aL) {bs:List Nat} (hbs:∀ b∈ay a,b∉bs) {K:Value->Heap->Prop}
 (H:∀ a' cap' h',Own h' e sz a' (len+n) cap' (l++new)->Keeps (ay a) h h'->(∀ b∈ay a',b∈ay a\/h.size<=b)->K (.slice a' (len+n) cap') h') :
 aP P (Builtin.append_ #[sT,xT] ty ⟨[.slice a len cap,.slice (some ⟨xb,xo,none⟩) n xc]⟩) bs h K:=by
 unfold aP;intro hlt w hw;subst hw;have hsize:(sizeOf e).run P w=.ok sz w:=by simp [sizeOf,gQ P e w hi,hsz]
 have xG:(loadCells ⟨xb,xo,none⟩ (n*sz)).run P w=.ok ⟨new⟩ w:=u7 hn (λk hk=>hnew k (by omega));have Ww:len+n<2 ^ 48:=by
  have:2*(len+n)+192<=(2*(len+n)+192)*aL:=Nat.le_mul_of_pos_right _ hby0;omega
 by_cases hfit:len+n<=cap
 ·rcases o with ⟨rfl,rfl,rfl,rfl⟩|⟨b,c,rfl,h2,h3,h4,h5,h6⟩
  ·have hn0:n=0:=by omega
   subst hn0;have hnil:new=[]:=by simpa using hn
   subst hnil;refine ⟨_,w,?_,dD.refl w,λb _=>rfl,H none 0 w.heap (.inl ⟨rfl,rfl,rfl,rfl⟩) (Keeps.refl _ _) (by simp [ay])⟩;simp only [Nat.zero_mul] at xG;simp [Builtin.append_,Sem.run_bind,dI P sT w hu,dI P xT w hx,hsize,Builtin.lenOf,Builtin.firstCells,xG]
  ·have hroom:len*sz+new.length<=c.length:=by
    rw [hn,h4,<-Nat.add_mul];exact Nat.mul_le_mul_right _ hfit
   obtain ⟨w',r1,r2,r3,r4,r5⟩:=wY (P:=P) new 0 (len*sz) c w (uU hone) (by simpa using hroom) h2;refine ⟨_,w',?_,r2,λb' hb'=>r5 b' (λe=>hbs b (by simp [ay]) (e ▸ hb')),H (some ⟨b,0,none⟩) cap w'.heap (.inr ⟨b,_,rfl,r4,?_,?_,?_,hfit⟩) ⟨by omega,λb' _ hb'=>r5 b' (by simpa [ay] using hb')⟩ (λb' hb'=>.inl hb')⟩
   ·simp [Builtin.append_,dI P sT w hu,hsize,dI P xT w hx,Builtin.lenOf,hfit,Builtin.firstCells,xG,addr_add];rw [r1];rfl
   ·have:=rM (len*sz) new c (by omega);simp only [Nat.add_zero];rw [List.length_append,h5,this,<-h5,h3]
   ·simp only [Nat.add_zero,uY];exact h4
   ·simp [h5,hn,Nat.add_mul]
 ·have hold:(Builtin.firstCells sz len (.slice a len cap)).run P w=.ok ⟨l⟩ w:=by
   rcases o with ⟨rfl,rfl,rfl,rfl⟩|⟨b,c,rfl,h2,h3,h4,h5,h6⟩
   ·simp [Builtin.firstCells]
   ·simp only [Builtin.firstCells];refine u7 h5 (λk hk=>?_);have:l.length<=c.length:=by rw [h4,h5];exact Nat.mul_le_mul_right _ h6
    have hk':k<l.length:=by omega
    simp only [Heap.cell?,h2,Nat.zero_add];rw [<-h3];simp [hk',show k<c.length by omega]
  have hcap:cap<len+n:=by omega
  have Ah:=Dx (len+n) cap hcap;obtain ⟨nc,hnc,hle,ve⟩:=Dy (len+n) cap e (w.tape w.drawn (.appendCap (len+n) cap e)) (by omega);obtain ⟨zl,hzl,Dz⟩:=II z.cells (nc-(len+n));have hz':z.cells.size=sz:=by rw [pF];simpa using hzc
  let w1:World:=w.drew
  let w2:World:={ w1 with heap:=w.heap.push (.cells ⟨l++new++zl⟩ e) }
  have hl:l.length=len*sz:=by
   rcases o with ⟨rfl,rfl,rfl,rfl⟩|⟨b,c,rfl,h2,h3,h4,h5,h6⟩
   ·simp
   ·exact h5
  refine ⟨.slice (some ⟨w.heap.size,0,none⟩) (len+n) nc,w2,?_,⟨rfl,rfl,rfl⟩,λb hb=>?_,H _ nc w2.heap (.inr ⟨w.heap.size,l++new++zl,rfl,?_,?_,?_,?_,hle⟩) ?_ ?_⟩
  ·have hold1:(Builtin.firstCells sz len (.slice a len cap)).run P w1=.ok ⟨l⟩ w1:=by
    rcases o with ⟨rfl,rfl,rfl,rfl⟩|⟨b,c,rfl,h2,h3,h4,h5,h6⟩
    ·simp [Builtin.firstCells]
    ·simp only [Builtin.firstCells];refine u7 h5 (λk hk=>?_);have:l.length<=c.length:=by rw [h4,h5];exact Nat.mul_le_mul_right _ h6
     have hk':k<l.length:=by omega
     show Heap.cell? w.heap _ _=_;simp only [Heap.cell?,h2,Nat.zero_add];rw [<-h3];simp [hk',show k<c.length by omega]
   have hnew1:(loadCells ⟨xb,xo,none⟩ (n*sz)).run P w1=.ok ⟨new⟩ w1:=u7 (w:=w1) hn (λk hk=>hnew k (by omega));have hzv:(zeroValue e).run P w1=.ok z w1:=by simp [zeroValue,gQ P e w1 hi,hz]
   have hch:(choose (.appendCap (len+n) cap e)).run P w=.ok nc w1:=by rw [run_choose,ve];simp [hnc,w1]
   have hb1:¬ (Builtin.nextslicecap (len+n) cap*aL>2 ^ 48):=by
    have:=Nat.mul_le_mul_right aL Ah;omega
   have hti:(typeInfo e).run P w=.ok i w:=gQ P e w hi;have hti1:(typeInfo e).run P w1=.ok i w1:=gQ P e w1 hi;have hbz:¬ (aL=0):=by omega
   have hold2:(Builtin.firstCells sz len (.slice a len cap)).run P w.drew=.ok ⟨l⟩ w.drew:=hold1;have hnew2:(Builtin.firstCells sz n (.slice (some ⟨xb,xo,none⟩) n xc)).run P w.drew=.ok ⟨new⟩ w.drew:=hnew1;have hzv2:(zeroValue e).run P w.drew=.ok z w.drew:=hzv;have hti2:(typeInfo e).run P w.drew=.ok i w.drew:=hti1;have hb2:¬ (281474976710656<Builtin.nextslicecap (len+n) cap*aL):=hb1;simp [Builtin.append_,dI P sT w hu,hsize,dI P xT w hx,Builtin.lenOf,hfit,hti,hbz,hb2,hby,ve,hnc,hti2,hold2,hnew2,hzv2,hzl,newRow,w2];rfl
  ·show (w.heap.push _)[b]?=_;rw [iX,if_neg (by have:=hlt b hb;omega)]
  ·show (w.heap.push _)[w.heap.size]?=_;rw [iX,if_pos rfl]
  ·rw [List.take_append_of_le_length (by simp)];exact List.take_of_length_le (by simp)
  ·rw [List.length_append,List.length_append,Dz,hz',hl,hn,<-Nat.add_mul,<-Nat.add_mul]
   congr 1;omega
  ·rw [List.length_append,hl,hn,Nat.add_mul]
  ·exact (rf w.heap _).mono (by simp)
  ·intro b hb;simp [ay] at hb;right;omega
def dF (h:Heap)(r:Nat)(m:List (Int×Value)):Prop:=
 ∃ es cl,h[r]?=some (.map es cl)/\es.toList.map (λe=>(e.key,e.val))=m.map (λp=>(Value.int .i64 p.1,p.2))/\(m.map (·.1)).Nodup /\
  (es.toList.map (·.born)).Nodup/\∀ e∈es.toList,e.born<cl
theorem dF.keep {M:List Nat}{h h':Heap}{r:Nat}{m:List (Int×Value)}(o:dF h r m)(k:Keeps M h h')(hm:r∉M):dF h' r m:=by
 obtain ⟨es,cl,h1,h2⟩:=o;exact ⟨es,cl,k.obj h1 hm,h2⟩
theorem dF.new {h:Heap}{r:Nat}(hr:h[r]?=some (.map #[] 0)):dF h r []:=⟨#[],0,hr,by simp,by simp,by simp,by simp⟩
theorem dF.lt {h:Heap}{r:Nat}{m:List (Int×Value)}(o:dF h r m):r<h.size:=by
 obtain ⟨es,cl,h1,_⟩:=o;exact eZ h1
def gJ:List (Int×Value)->Int->Option Value
 | [],_=>none
 | (k,v)::r,n=>if n=k then some v else gJ r n
def jg:List (Int×Value)->Int->Value->List (Int×Value)
 | [],n,v=>[(n,v)]
 | (k,u)::r,n,v=>if n=k then (k,v)::r else (k,u)::jg r n v
theorem DC:∀ (m:List (Int×Value)) (n:Int) (v:Value),(jg m n v).map (·.1)=if n∈m.map (·.1) then m.map (·.1) else m.map (·.1)++[n]
 | [],n,v=>by simp [jg]
 | (k,u)::r,n,v=>by
  by_cases h:n=k
  ·subst h;simp [jg]
  ·simp only [jg,if_neg h,List.map_cons,DC r n v];by_cases h2:n∈r.map (·.1)
   ·rw [if_pos h2,if_pos (by simp [h2])]
   ·rw [if_neg h2,if_neg (by simp only [List.mem_cons,not_or];exact ⟨h,h2⟩)];simp
theorem vg:∀ (es:List MapEntry) (m:List (Int×Value)) (n:Int) (i:Nat),es.map (λe=>(e.key,e.val))=m.map (λp=>(Value.int .i64 p.1,p.2)) ->
 (∃ r,Instr.findNow (.int .i64) (.int .i64 n) es i=some r/\r.map (·.2)=gJ m n/\∀ p,r=some p->∃ j,p.1=i+j/\j<es.length/\(m[j]?).map (·.1)=some n)
 | [],[],n,i,_=>⟨none,rfl,rfl,λp h=>by cases h⟩
 | [],_::_,n,i,h=>by simp at h
 | _::_,[],n,i,h=>by simp at h
 | e::es,(k,v)::m,n,i,h=>by
  simp only [List.map_cons,List.cons.injEq,Prod.mk.injEq] at h;obtain ⟨⟨h1,h2⟩,h3⟩:=h;simp only [Instr.findNow,h1,Instr.sameNow,if_true];by_cases hk:n=k
  ·subst hk;simp only [beq_self_eq_true];exact ⟨_,rfl,by simp [gJ,h2],λp hp=>by cases hp;exact ⟨0,rfl,by simp,by simp⟩⟩
  ·have:(n==k)=false:=by simp [hk]
   simp only [this];obtain ⟨r,h4,h5,h6⟩:=vg es m n (i+1) h3;refine ⟨r,h4,by simp [gJ,hk,h5],λp hp=>?_⟩;obtain ⟨j,h7,h8,h9⟩:=h6 p hp;exact ⟨j+1,by omega,by simp;omega,by simpa using h9⟩
theorem gF.int {c:Option Bool}{h:Heap}{r:Nat}{n:Int}{K:Option Value->Prop}{m:List (Int×Value)}(o:dF h r m)(hK:K (gJ m n)):gF c h (.int .i64) r (.int .i64 n) K:=by
 obtain ⟨es,cl,h1,h2,_⟩:=o;obtain ⟨q,h3,h4,_⟩:=vg es.toList m n 0 h2;exact gF.i ⟨es,cl,h1,by rw [h3];simp [h4]⟩ hK
theorem gF.is {c:Option Bool}{h:Heap}{r:Nat}{n:Int}{K:Option Value->Prop}{m:List (Int×Value)}{o:Option Value}(hm:dF h r m)(ho:gJ m n=o)(hK:K o):gF c h (.int .i64) r (.int .i64 n) K:=by
 subst ho;exact gF.int hm hK
theorem gF.z {c:Option Bool}{h:Heap}{r:Nat}{n:Int}{K:Option Value->Prop}{m:List (Int×Value)}(z:Value){v:Value}(hm:dF h r m)(hz:K none=K (some z))(hv:(gJ m n).getD z=v)(hK:K (some v)):gF c h (.int .i64) r (.int .i64 n) K:=by
 refine gF.int hm ?_;subst hv;cases hl:gJ m n with
 | none=>rw [hz];simpa [hl] using hK
 | some v=>simpa [hl] using hK
theorem rz.int {c:Option Bool}{h:Heap}{r:Nat}{K:Nat->Prop}{m:List (Int×Value)}(o:dF h r m)(hK:K m.length):rz c h r K:=by
 obtain ⟨es,cl,h1,h2,_⟩:=o;refine rz.i ⟨es,cl,h1,?_⟩ hK;have:=congrArg List.length h2;simpa using this
theorem DF:∀ (es:List MapEntry) (m:List (Int×Value)) (n:Int) (v:Value) (j:Nat),es.map (λe=>(e.key,e.val))=m.map (λp=>(Value.int .i64 p.1,p.2))->(m.map (·.1)).Nodup ->
 (m[j]?).map (·.1)=some n->(es.modify j λe=>{ e with key:=.int .i64 n,val:=v }).map (λe=>(e.key,e.val))=(jg m n v).map (λp=>(Value.int .i64 p.1,p.2))
 | [],[],n,v,j,_,_,h=>by simp at h
 | [],_::_,n,v,j,h,_,_=>by simp at h
 | _::_,[],n,v,j,h,_,_=>by simp at h
 | e::es,(k,u)::m,n,v,0,h,hd,hj=>by
  simp only [List.map_cons,List.cons.injEq,Prod.mk.injEq] at h;simp at hj;subst hj;simp [jg,h.2]
 | e::es,(k,u)::m,n,v,j+1,h,hd,hj=>by
  simp only [List.map_cons,List.cons.injEq,Prod.mk.injEq] at h;simp only [List.map_cons,List.nodup_cons] at hd;have hne:n≠k:=by
   rintro rfl;refine hd.1 ?_;simp only [List.getElem?_cons_succ,Option.map_eq_some_iff] at hj;obtain ⟨p,hp,rfl⟩:=hj;exact List.mem_map.2 ⟨p,List.mem_of_getElem? hp,rfl⟩
  have:=DF es m n v j h.2 hd.2 (by simpa using hj);simp [jg,hne,h.1,this]
theorem Ai:∀ (m:List (Int×Value)) (n:Int) (v:Value),gJ m n=none->jg m n v=m++[(n,v)]
 | [],n,v,_=>rfl
 | (k,u)::m,n,v,h=>by
  simp only [gJ] at h;split at h
  ·cases h
  ·rename_i hne;simp [jg,hne,Ai m n v h]
theorem qx {P:Program}{w:World}{r:Nat}{es:Array MapEntry}{cl:Nat}(h:w.heap[r]?=some (.map es cl)):(getObj r).run P w=.ok (.map es cl) w:=by simp [getObj,Sem.run,h]
theorem rO {P:Program}{w:World}{r:Nat}{es:Array MapEntry}{cl:Nat}(h:w.heap[r]?=some (.map es cl))(o:Obj):(setObj r o).run P w=.ok () { w with heap:=w.heap.setIfInBounds r o }:=by simp [setObj,Sem.run,h]
theorem jN (h:Heap)(r:Nat)(o:Obj)(b:Nat)(hr:r<h.size):(h.setIfInBounds r o)[b]?=if b=r then some o else h[b]?:=by
 by_cases e:b=r
 ·subst e;simp [hr]
 ·simp [e,Array.getElem?_setIfInBounds_ne (Ne.symm e)]
theorem rJ (h:Heap)(r:Nat)(o:Obj)(hr:r<h.size):Keeps [r] h (h.setIfInBounds r o):=⟨by simp,λb _ hn=>by rw [jN h r o b hr,if_neg (by simpa using hn)]⟩
theorem aP.put {P:Program}{T kT eT:TypeId}(hu:P.underlying T=some (.map kT eT))(hk:P.underlying kT=some (.int .i64)){h:Heap}{r:Nat}{m:List (Int×Value)}(o:dF h r m){n:Int}{v:Value}{bs:List Nat}(hb:r∉bs)
 {K:Unit->Heap->Prop} (H:∀ h',h'.size=h.size->dF h' r (jg m n v)->Keeps [r] h h'->K () h'):aP P (Instr.mapUpdate T (.map (some r)) (.int .i64 n) v) bs h K:=by
 unfold aP;intro hlt w hw;subst hw;have hr:=o.lt;obtain ⟨es,cl,h1,h2,h3,h4,h5⟩:=o;obtain ⟨q,h6,h7,h8⟩:=vg es.toList m n 0 h2;have fin:∀ (ob:Obj),(∀ h':Heap,h'[r]?=some ob->dF h' r (jg m n v))->(Instr.mapUpdate T (.map (some r)) (.int .i64 n) v).run P w=.ok () { w with heap:=w.heap.setIfInBounds r ob } ->
  ∃ v' w',(Instr.mapUpdate T (.map (some r)) (.int .i64 n) v).run P w=.ok v' w'/\dD w w'/\(∀ b∈bs,w'.heap[b]?=w.heap[b]?)/\K v' w'.heap:=λob hm hrun=>by
  refine ⟨(),_,hrun,⟨rfl,rfl,rfl⟩,λb hb'=>?_,H _ (by simp) (hm _ (by rw [jN _ _ _ _ hr,if_pos rfl])) (rJ _ _ _ hr)⟩;show (w.heap.setIfInBounds r ob)[b]?=_;rw [jN _ _ _ _ hr,if_neg (by intro e;subst e;exact hb hb')]
 cases q with
 | none=>
  have hl:gJ m n=none:=by simpa using h7.symm
  refine fin (.map (es.push { key:=.int .i64 n,val:=v,born:=cl }) (cl+1)) (λh' hh=>⟨_,_,hh,?_,?_,?_,?_⟩) ?_
  ·simp only [Array.toList_push,List.map_append,List.map_cons,List.map_nil,h2,Ai m n v hl]
  ·rw [Ai m n v hl];simp only [List.map_append,List.map_cons,List.map_nil];refine List.nodup_append.2 ⟨h3,by simp,?_⟩;intro a ha b hb hab;simp at hb;subst hb;subst hab;clear h7 h8 h6 fin
   induction m generalizing es with
   | nil=>cases ha
   | cons p m ih=>
    obtain ⟨k,u⟩:=p;simp only [gJ] at hl;split at hl
    ·cases hl
    ·rename_i hne;simp only [List.map_cons,List.mem_cons] at ha;rcases ha with ha|ha
     ·exact hne ha
     ·have hm2:m.map (·.1)=m.map (·.1):=rfl;exact absurd ha (by
       clear ih;intro ha;have:∀ (m:List (Int×Value)) (a:Int),gJ m a=none->a∉m.map (·.1):=by
        intro m
        induction m with
        | nil=>intro a _ h;cases h
        | cons p m ih=>
         intro a hl h;obtain ⟨k,u⟩:=p;simp only [gJ] at hl;split at hl
         ·cases hl
         ·rename_i hne;simp only [List.map_cons,List.mem_cons] at h;rcases h with h|h
          ·exact hne h
          ·exact ih a hl h
       exact this m a hl ha)
  ·simp only [Array.toList_push,List.map_append,List.map_cons,List.map_nil];refine List.nodup_append.2 ⟨h4,by simp,?_⟩;intro a ha b hb hab;simp at hb;subst hb;subst hab;obtain ⟨e,he,hee⟩:=List.mem_map.1 ha;have:=h5 e he;omega
  ·intro e he;simp only [Array.toList_push,List.mem_append,List.mem_singleton] at he;rcases he with he|rfl
   ·have:=h5 e he;omega
   ·simp
  ·simp only [Instr.mapUpdate,Sem.run_bind,dI P T w hu,Result.andThen_ok,qx h1];rw [tK hk (.inl ⟨_,rfl⟩)];simp only [Result.andThen_ok,tL hk h6 w,rO h1]
 | some p=>
  obtain ⟨j,hj1,hj2,hj3⟩:=h8 p rfl;have hj:p.1=j:=by omega
  have hjl:j<es.size:=by simpa using hj2
  have hkey:(es[j]'hjl).key=.int .i64 n:=by
   have:=congrArg (λl=>l[j]?) h2;simp only [List.getElem?_map] at this;cases hm:m[j]? with
   | none=>rw [hm] at hj3;simp at hj3
   | some q=>
    rw [hm] at this hj3;simp at hj3;simp [hjl] at this;rw [this.1,hj3]
  refine fin (.map (es.modify j λe=>{ e with key:=.int .i64 n,val:=v }) cl) (λh' hh=>⟨_,_,hh,?_,?_,?_,?_⟩) ?_
  ·rw [Array.toList_modify];exact DF es.toList m n v j h2 h3 hj3
  ·rw [DC];have:n∈m.map (·.1):=by
    simp only [Option.map_eq_some_iff] at hj3;obtain ⟨q,hq,rfl⟩:=hj3;exact List.mem_map.2 ⟨q,List.mem_of_getElem? hq,rfl⟩
   rw [if_pos this];exact h3
  ·have:(es.modify j λe=>{ e with key:=.int .i64 n,val:=v }).toList.map (·.born)=es.toList.map (·.born):=by
    rw [Array.toList_modify];apply List.ext_getElem?;intro i;simp only [List.getElem?_map,List.getElem?_modify];cases es.toList[i]? with
    | none=>simp
    | some e=>by_cases hij:j=i <;> simp [hij]
   rw [this];exact h4
  ·intro e he;rw [Array.toList_modify] at he;obtain ⟨i,hi⟩:=List.getElem?_of_mem he;rw [List.getElem?_modify] at hi;cases hee:es.toList[i]? with
   | none=>rw [hee] at hi;simp at hi
   | some e0=>
    rw [hee] at hi;simp at hi;have:=h5 e0 (List.mem_of_getElem? hee);rw [<-hi];split <;> simpa using this
  ·simp only [Instr.mapUpdate,Sem.run_bind,dI P T w hu,Result.andThen_ok,qx h1];rw [tK hk (.inl ⟨_,rfl⟩)];simp only [Result.andThen_ok,tL hk h6 w];rw [hj];have hold:((es[j]?).map (·.key)).getD (Value.int .i64 n)=.int .i64 n:=by simp [hjl,hkey]
   simp only [hold,Instr.keyThatStays,Instr.sameBits,beq_self_eq_true,Bool.and_self,if_true,Sem.run_bind,Sem.run_pure,Result.andThen_ok,rO h1]
def mM (h:Heap)(it r:Nat)(R:List (Int×Value))(last:Option (Int×Value)):Prop:=
 ∃ es cl since seen c0,h[r]?=some (.map es cl)/\h[it]?=some (.mapIter (some r) since seen c0)/\(since<=c0/\since<=cl)/\(∀ e∈es.toList,e.born<since)/\(es.toList.map (·.born)).Nodup /\
  (leftOf es seen).toList.map (λe=>(e.key,e.val))=R.map (λp=>(Value.int .i64 p.1,p.2)) /\
  ∀ p,last=some p->∃ (e:MapEntry) (seen':Array Nat),seen=seen'.push e.born/\e∈es.toList/\e.key=.int .i64 p.1/\e.val=p.2/\c0=cl
theorem mM.keep {M:List Nat}{h h':Heap}{it r:Nat}{R:List (Int×Value)}{last:Option (Int×Value)}(o:mM h it r R last)(k:Keeps M h h')(h1:it∉M)(h2:r∉M):mM h' it r R last:=by
 obtain ⟨es,cl,since,seen,c0,a,b,c⟩:=o;exact ⟨es,cl,since,seen,c0,k.obj a h2,k.obj b h1,c⟩
theorem mM.lt {h:Heap}{it r:Nat}{R:List (Int×Value)}{last:Option (Int×Value)}(o:mM h it r R last):it<h.size/\r<h.size:=by
 obtain ⟨es,cl,since,seen,c0,a,b,c⟩:=o;exact ⟨eZ b,eZ a⟩
theorem aP.range {P:Program}{T kT eT:TypeId}(hu:P.underlying T=some (.map kT eT)){h:Heap}{r:Nat}{m:List (Int×Value)}(o:dF h r m){bs:List Nat}{K:Value->Heap->Prop}
 (H:∀ it h',it=h.size->h'.size=h.size+1->Keeps [] h h'->mM h' it r m none->K (.pointer (some ⟨it,0,none⟩)) h'):aP P (Instr.range T (.map (some r))) bs h K:=by
 unfold aP;intro hlt w hw;subst hw;have hr:=o.lt;obtain ⟨es,cl,h1,h2,h3,h4,h5⟩:=o;refine ⟨.pointer (some ⟨w.heap.size,0,none⟩),{ w with heap:=w.heap.push (.mapIter (some r) cl #[] cl) },?_,⟨rfl,rfl,rfl⟩,λb hb=>?_,H _ _ rfl (by simp) (rf _ _) ⟨es,cl,cl,#[],cl,?_,?_,⟨Nat.le_refl _,Nat.le_refl _⟩,h5,h4,?_,λp hp=>by cases hp⟩⟩
 ·simp only [Instr.range,Sem.run_bind,dI P T w hu,Result.andThen_ok,qx h1,Sem.run_pure];rfl
 ·show (w.heap.push _)[b]?=_;rw [iX,if_neg (by have:=hlt b hb;omega)]
 ·show (w.heap.push _)[r]?=_;rw [iX,if_neg (by omega)];exact h1
 ·show (w.heap.push _)[w.heap.size]?=_;rw [iX,if_pos rfl]
 ·rw [<-h2];unfold leftOf;rw [Array.toList_filter,List.filter_eq_self.2 (λx _=>by simp)]
theorem aP.next {P:Program}{ty:TypeId}{h:Heap}{it r:Nat}{R:List (Int×Value)}{last:Option (Int×Value)}(o:mM h it r R last){bs:List Nat}(hb:it∉bs)(hne:it≠r){K:Value->Heap->Prop}
 (H0:R=[]->K (.tuple #[.bool false]) h)
 (H1:∀ R1 p R2 h',R=R1++p::R2->h'.size=h.size->Keeps [it] h h'->mM h' it r (R1++R2) (some p)->K (.tuple #[.bool true,.int .i64 p.1,p.2]) h') :
 aP P (Instr.next (.pointer (some ⟨it,0,none⟩)) false ty) bs h K:=by
 unfold aP;intro hlt w hw;subst hw;have hit:=o.lt.1;obtain ⟨es,cl,since,seen,c0,a,b,c,d,e,f,g⟩:=o;rcases run_next_at (P:=P) w ty it r since c0 seen es cl b a d c.1 with ⟨h1,h2⟩|⟨x,hx,w1,hw1,h2⟩
 ·refine ⟨_,w,h2,dD.refl w,λ_ _=>rfl,H0 ?_⟩;have:(leftOf es seen).toList=[]:=by
   have:(leftOf es seen).toList.length=0:=by simpa using h1
   exact List.eq_nil_of_length_eq_zero this
  rw [this] at f;simpa using f.symm
 ·obtain ⟨L1,L2,hL⟩:=List.append_of_mem hx;rw [hL] at f;simp only [List.map_append,List.map_cons] at f;obtain ⟨R1,R',hR,f1,f2⟩:=List.map_eq_append_iff.1 f.symm;obtain ⟨p,R2,hR',f3,f4⟩:=List.map_eq_cons_iff.1 f2;subst hR';simp only [Prod.mk.injEq] at f3;have Ps:w1.heap=w.heap:=by rcases hw1 with rfl|rfl <;> rfl
  have hso:dD w (Go.ChangeMaps.setBlock w1 it (.mapIter (some r) since (seen.push x.born) cl)):=by rcases hw1 with rfl|rfl <;> exact ⟨rfl,rfl,rfl⟩
  have hheap:(Go.ChangeMaps.setBlock w1 it (.mapIter (some r) since (seen.push x.born) cl)).heap=w.heap.setIfInBounds it (.mapIter (some r) since (seen.push x.born) cl):=by
   show w1.heap.setIfInBounds _ _=_;rw [Ps]
  have hxe:x∈es.toList:=by
   unfold leftOf at hx;simp at hx ⊢;exact hx.1
  refine ⟨_,_,h2,hso,λb' hb'=>?_,?_⟩
  ·rw [hheap,jN _ _ _ _ hit,if_neg (by intro e;subst e;exact hb hb')]
  ·rw [<-f3.1,<-f3.2];refine H1 R1 p R2 _ hR ?_ ?_ ?_
   ·rw [hheap];simp
   ·rw [hheap];exact rJ _ _ _ hit
   ·rw [hheap];refine ⟨es,cl,since,seen.push x.born,cl,?_,?_,⟨c.2,c.2⟩,d,e,?_,?_⟩
    ·rw [jN _ _ _ _ hit,if_neg (Ne.symm hne)];exact a
    ·rw [jN _ _ _ _ hit,if_pos rfl]
    ·have e1:(leftOf es (seen.push x.born)).toList=(leftOf es seen).toList.filter λy=>y.born != x.born:=by
      unfold leftOf;simp only [Array.toList_filter,List.filter_filter,Array.contains_push]
      congr 1
      funext y
      rw [Bool.not_or,Bool.and_comm];rfl
     have hnd:((leftOf es seen).toList.map (·.born)).Nodup:=by
      unfold leftOf;rw [Array.toList_filter];exact (List.Sublist.map _ (List.filter_sublist)).nodup e
     rw [e1,hL];rw [hL] at hnd;simp only [List.map_append,List.map_cons,List.nodup_append,List.nodup_cons] at hnd;have k1:L1.filter (λy=>y.born != x.born)=L1:=List.filter_eq_self.2 λy hy=>by
      have:=hnd.2.2 y.born (List.mem_map.2 ⟨y,hy,rfl⟩) x.born (by simp);simpa using this
     have k2:L2.filter (λy=>y.born != x.born)=L2:=List.filter_eq_self.2 λy hy=>by
      have:=hnd.2.1.1;simp only [bne_iff_ne,ne_eq];intro e;exact this (List.mem_map.2 ⟨y,hy,e⟩)
     rw [List.filter_append,List.filter_cons,k1,k2];simp only [bne_self_eq_false,Bool.false_eq_true,if_false,List.map_append,f1,f4]
    ·intro p' hp';cases hp';exact ⟨x,seen,rfl,hxe,f3.1.symm,f3.2.symm,rfl⟩
theorem aP.entry {P:Program}{h:Heap}{it r:Nat}{R:List (Int×Value)}{p:Int×Value}(o:mM h it r R (some p)){bs:List Nat}{K:Value->Heap->Prop}
 (H:K (.tuple #[.int .i64 p.1,p.2]) h):aP P (Instr.entry (.pointer (some ⟨it,0,none⟩))) bs h K:=by
 unfold aP;intro hlt w hw;subst hw;obtain ⟨es,cl,since,seen,c0,a,b,c,d,e,f,g⟩:=o;obtain ⟨x,seen',rfl,hx,h1,h2,rfl⟩:=g p rfl;have:=run_entry_at (P:=P) w it r since seen' es c0 x b a hx e;rw [h1,h2] at this;exact ⟨_,w,this,dD.refl w,λ_ _=>rfl,H⟩
theorem pO.je {M:List Nat}{h h':Heap}(k:Keeps M h h'){b off:Nat}{cs:List Value}(hb:b∉M)(hc:pO h b off cs):pO h' b off cs:=λj hj=>by
 have h1:=hc j hj;have h2:cs[j]?=some cs[j]:=by simp [hj]
 rw [h2] at h1 ⊢;exact k.cell h1 hb
class Flat (α:Type) [Rp α]:Prop where
 flat:∀ {h h':Heap} {vs:List Value} {x:α},iD h vs x->iD h' vs x
instance:Flat Int:=⟨λh=>h⟩
instance:Flat Bool:=⟨λh=>h⟩
instance:Flat ByteArray:=⟨λh=>h⟩
theorem iR.flat {α:Type}[Rp α][Flat α]{h h':Heap}:∀ {xs:List α} {l:List Value},iR h l xs->iR h' l xs
 | [],l,h1=>h1
 | y::ys,l,h1=>by
  obtain ⟨c,r,rfl,h3,h4⟩:=h1;exact ⟨c,r,rfl,Flat.flat h3,h4.flat⟩
end Go.aK
namespace Go.aK
open Go Go.RowKit Go.Deep
section
variable {H:Type} {enc:TypeId×Value->H} {P:Program} {W:World} {sp:Nat->Bool} {held:Bool}
theorem ME {t:TypeId}{α:Type}[Rp α](ho:Opens enc P W sp held t α){v:Value}{d:DataW H}{p:List MemPlace}(h:DataW.Trod enc P W 0 sp held t v d p)(hw:∀ m∈d.weights P t,m<=reachBytes) :
 ∃ y:α,iD W.heap v.cells.toList y:=by
 obtain ⟨fuel,hf⟩:=h;exact ho fuel _ _ hf hw
theorem MC {ts:List TypeId}{ds:List (DataW H)}(h:(DataW.weightsEach P ts ds).all (·<=reachBytes)=true):∀ (j:Nat) t d,ts[j]?=some t->ds[j]?=some d->∀ m∈d.weights P t,m<=reachBytes:=by
 have key:∀ (ts:List TypeId) (ds:List (DataW H)),(∀ m∈DataW.weightsEach P ts ds,m<=reachBytes)->∀ (j:Nat) t d,ts[j]?=some t->ds[j]?=some d->∀ m∈d.weights P t,m<=reachBytes:=by
  intro ts
  induction ts with
  | nil=>intro ds _ j t d h;simp at h
  | cons t ts ih=>
   intro ds hw j t' d' h1 h2 m hm;cases ds with
   | nil=>simp at h2
   | cons d ds=>
    simp only [DataW.weightsEach,List.mem_append] at hw;cases j with
    | zero=>
     simp at h1 h2;subst h1 h2;exact hw m (.inl hm)
    | succ j=>exact ih ds (λm hm=>hw m (.inr hm)) j t' d' (by simpa using h1) (by simpa using h2) m hm
 exact key ts ds (λm hm=>by simpa using (List.all_eq_true.1 h) m hm)
end
end Go.aK
