/-
  Joined texts: EngT, EngV, EngW, EngR, EngM, EngL, EngN.
-/
import Derived.Test.YtoociceebodfeaaGreatDoorJLawCRenamea
import Derived.Scope
import Derived.Deep.LoopGhost
import Derived.KernelRfl
import Derived.Deep.Slices
import Derived.Carry
import Derived.ProofKit
import Derived.Laws.Strings
import Derived.Maps.RangeRun
set_option linter.all false
namespace Go.aN
open Go
theorem pE:∀ (bx:bA) (k b:Nat) (vs:List Value) (k':Nat),dS (aZ k b vs bx) k'=if k'=k then some (b,vs) else dS bx k'
 | [],k,b,vs,k'=>by
  simp only [aZ,dS];by_cases h:k'=k
  ·subst h;simp [Nat.beq_refl]
  ·have:Nat.beq k k'=false:=by cases hb:Nat.beq k k' with|false=>rfl|true=>exact absurd (Nat.eq_of_beq_eq_true hb).symm h
   simp [this,h]
 | (k1,b1,vs1)::r,k,b,vs,k'=>by
  simp only [aZ];cases hb:Nat.beq k1 k with
  | true=>
   have:=Nat.eq_of_beq_eq_true hb;subst this;simp only [dS];by_cases h:k'=k1
   ·subst h;simp [Nat.beq_refl]
   ·have:Nat.beq k1 k'=false:=by cases hb:Nat.beq k1 k' with|false=>rfl|true=>exact absurd (Nat.eq_of_beq_eq_true hb).symm h
    simp [this,h]
  | false=>
   have hne:k1≠k:=by intro h;subst h;simp [Nat.beq_refl] at hb
   simp only [dS];rw [pE r k b vs k'];cases hb':Nat.beq k1 k' with
   | true=>
    have:=Nat.eq_of_beq_eq_true hb';subst this;simp [hne]
   | false=>rfl
theorem yM:∀ (bx:bA) (k b:Nat) (vs:List Value),dS bx k=some (b,vs)->b∈au bx
 | [],_,_,_,h=>by cases h
 | (k1,b1,vs1)::r,k,b,vs,h=>by
  simp only [dS] at h;split at h
  ·simp at h;simp [au,h.1]
  ·simp [au,yM r k b vs h]
def wh:bA->Prop
 | []=>True
 | (k,_,_)::r=>dS r k=none/\wh r
theorem KX:∀ (bx:bA),wh bx->∀ b∈au bx,∃ k vs,dS bx k=some (b,vs)
 | [],_,b,h=>by cases h
 | (k1,b1,vs1)::r,hp,b,h=>by
  simp only [au,List.mem_cons] at h;rcases h with rfl|h
  ·exact ⟨k1,vs1,by simp [dS,Nat.beq_refl]⟩
  ·obtain ⟨k,vs,hk⟩:=KX r hp.2 b h;refine ⟨k,vs,?_⟩;simp only [dS];cases hb:Nat.beq k1 k with
   | true=>
    have:=Nat.eq_of_beq_eq_true hb;subst this;rw [hp.1] at hk;cases hk
   | false=>exact hk
theorem EU:∀ (bx:bA) (k b:Nat) (vs:List Value),wh bx->wh (aZ k b vs bx)
 | [],k,b,vs,_=>⟨rfl,trivial⟩
 | (k1,b1,vs1)::r,k,b,vs,h=>by
  simp only [aZ];cases hb:Nat.beq k1 k with
  | true=>
   have:=Nat.eq_of_beq_eq_true hb;subst this;exact h
  | false=>
   have hne:k1≠k:=by intro h;subst h;simp [Nat.beq_refl] at hb
   exact ⟨by rw [pE];simp [hne,h.1],EU r k b vs h.2⟩
structure Boxed (bx:bA)(h:Heap):Prop where
 kM:kN bx h
 distinct:Distinct bx
 proper:wh bx
theorem Boxed.lt {bx:bA}{h:Heap}(B:Boxed bx h):∀ b∈au bx,b<h.size:=λb hb=>by
 obtain ⟨k,vs,hk⟩:=KX bx B.proper b hb;obtain ⟨T,hT⟩:=B.kM _ _ _ hk;rcases Nat.lt_or_ge b h.size with h1|h1
 ·exact h1
 ·simp [Array.getElem?_eq_none h1] at hT
theorem Boxed.keep {bx:bA}{h h':Heap}(B:Boxed bx h)(hk:∀ b∈au bx,h'[b]?=h[b]?):Boxed bx h':=
 ⟨λk b vs hl=>by rw [hk b (yM bx k b vs hl)];exact B.kM k b vs hl,B.distinct,B.proper⟩
theorem jk (h:Heap)(o:Obj)(b:Nat):(h.push o)[b]?=if b=h.size then some o else h[b]?:=by
 rw [Array.getElem?_push]
theorem KY (h:Heap)(o:Obj):pF h (h.push o):=⟨by simp,λb hb=>by rw [jk,if_neg (by omega)]⟩
theorem Boxed.new {bx:bA}{h:Heap}(B:Boxed bx h){k:Nat}(hk:dS bx k=none)(vs:List Value)(T:TypeId):Boxed (aZ k h.size vs bx) (h.push (.cells ⟨vs⟩ T)):=by
 refine ⟨λk' b vs' hl=>?_,λk1 k2 b1 b2 v1 v2 h1 h2 hne=>?_,EU _ _ _ _ B.proper⟩
 ·rw [pE] at hl;split at hl
  ·simp at hl;obtain ⟨rfl,rfl⟩:=hl;exact ⟨T,by rw [jk,if_pos rfl]⟩
  ·have hlt:=B.lt b (yM _ _ _ _ hl);rw [jk,if_neg (by omega)];exact B.kM _ _ _ hl
 ·rw [pE] at h1 h2;split at h1 <;> split at h2
  ·rename_i e1 e2;exact absurd (e1.trans e2.symm) hne
  ·simp at h1;have hlt:=B.lt b2 (yM _ _ _ _ h2);omega
  ·simp at h2;have hlt:=B.lt b1 (yM _ _ _ _ h1);omega
  ·exact B.distinct _ _ _ _ _ _ h1 h2 hne
theorem Boxed.TH {bx:bA}{k b:Nat}(hk:dS bx k=none)(vs:List Value){h:Heap}(hb:kN (aZ k b vs bx) h):kN bx h:=λk' b' vs' hl=>by
 refine hb k' b' vs' ?_;rw [pE];split
 ·rename_i e;subst e;rw [hk] at hl;cases hl
 ·exact hl
theorem Boxed.write {bx:bA}{h h':Heap}(B:Boxed bx h){k b:Nat}{vs vs':List Value}(hk:dS bx k=some (b,vs))(hb:∃ T,h'[b]?=some (.cells ⟨vs'⟩ T (0,0)))
 (ho:∀ b',b'≠b->h'[b']?=h[b']?):Boxed (aZ k b vs' bx) h':=by
 refine ⟨λk' b1 vs1 hl=>?_,λk1 k2 b1 b2 v1 v2 h1 h2 hne=>?_,EU _ _ _ _ B.proper⟩
 ·rw [pE] at hl;split at hl
  ·simp at hl;obtain ⟨rfl,rfl⟩:=hl;exact hb
  ·rename_i hne;have:=B.distinct _ _ _ _ _ _ hl hk hne;rw [ho b1 this];exact B.kM _ _ _ hl
 ·rw [pE] at h1 h2;split at h1 <;> split at h2
  ·rename_i e1 e2;exact absurd (e1.trans e2.symm) hne
  ·rename_i e1 e2;simp at h1;rw [<-h1.1];exact λhh=>B.distinct _ _ _ _ _ _ h2 hk e2 hh.symm
  ·rename_i e1 e2;simp at h2;rw [<-h2.1];exact B.distinct _ _ _ _ _ _ h1 hk e1
  ·exact B.distinct _ _ _ _ _ _ h1 h2 hne
theorem KZ {bx:bA}{k b:Nat}{vs:List Value}(hk:dS bx k=none\/∃ vs',dS bx k=some (b,vs'))(c:Core)(hc:fK bx c) :
 c.val (aZ k b vs bx)=c.val bx/\fK (aZ k b vs bx) c:=by
 have key:∀ k',(dS bx k').isSome=true->blk (aZ k b vs bx) k'=blk bx k'/\(dS (aZ k b vs bx) k').isSome=true:=by
  intro k' h;unfold blk;rw [pE];by_cases e:k'=k
  ·subst e;rcases hk with hk|⟨vs',hk⟩
   ·rw [hk] at h;cases h
   ·simp [hk]
  ·rw [if_neg e];exact ⟨rfl,h⟩
 cases c with
 | v x=>exact ⟨rfl,trivial⟩
 | lp k' off=>have:=key k' hc;exact ⟨by simp [Core.val,this.1],this.2⟩
 | li k' off=>have:=key k' hc;exact ⟨by simp [Core.val,this.1],this.2⟩
structure After (bg:dQ)(bx:bA)(h:Heap)(x:Core)(bx':bA)(h':Heap):Prop where
 boxed:Boxed bx' h'
 val:∀ c,fK bx c->c.val bx'=c.val bx/\fK bx' c
 core:fK bx' x
 al:bg=.al->pF h h'/\∀ x:Heap,kN bx' x->kN bx x
 ef:bg=.ef->bx'=bx
theorem vQ:∀ {l:List Value},gV l=true->∀ v∈l,v.oneCell'=true
 | [],_,v,h=>by cases h
 | x::r,h,v,hv=>by
  simp only [gV] at h;split at h
  ·rename_i hx;simp only [List.mem_cons] at hv;rcases hv with rfl|hv
   ·cases v <;> simp [uE] at hx <;> rfl
   ·exact vQ h v hv
  ·cases h
def setObj1 (off:Nat)(v:Value):Obj->Obj
 | .cells c elem fr=>.cells (c.setIfInBounds off v) elem fr
 | o=>o
theorem wz (w:World)(b off:Nat)(v:Value):(w.setCell ⟨b,off,none⟩ v).heap=w.heap.modify b (setObj1 off v):=by
 unfold World.setCell;simp only
 congr 1
theorem x9 {P:Program}{b:Nat}{T:TypeId}:∀ (vs:List Value) (i off:Nat) (c:List Value) (w:World),(∀ v∈vs,v.oneCell'=true)->off+i+vs.length<=c.length ->
 w.heap[b]?=some (.cells ⟨c⟩ T (0,0))->∃ w',(storeCells ⟨b,off,none⟩ vs i).run P w=.ok () w'/\dG w w'/\w'.heap.size=w.heap.size /\
  w'.heap[b]?=some (.cells ⟨bF (off+i) vs c⟩ T (0,0))/\∀ b',b'≠b->w'.heap[b']?=w.heap[b']?
 | [],i,off,c,w,_,_,hb=>⟨w,by simp [storeCells],dG.refl w,rfl,by rw [yN];exact hb,λ_ _=>rfl⟩
 | v::vs,i,off,c,w,hv,hl,hb=>by
  simp only [List.length_cons] at hl;have hcell:w.cell? ⟨b,off+i,none⟩=some (c[off+i]'(by omega)):=by
   rw [uM];simp [Heap.cell?,hb,show off+i<c.length by omega]
  have hfr:w.frozen? ⟨b,off+i,none⟩=false:=by simp [World.frozen?,hb]
  have hrun:=run_store P w ⟨b,off+i,none⟩ v .plain (hv v (by simp));rw [hcell] at hrun;simp only [hfr,Bool.false_eq_true,if_false] at hrun;have hb2:(w.setCell ⟨b,off+i,none⟩ v).heap[b]?=some (.cells ⟨c.set (off+i) v⟩ T (0,0)):=by
   rw [wz,Array.getElem?_modify];simp [hb,setObj1,Array.setIfInBounds,show off+i<c.length by omega]
  obtain ⟨w',h1,h2,h3,h4,h5⟩:=x9 vs (i+1) off (c.set (off+i) v) (w.setCell ⟨b,off+i,none⟩ v) (λu hu=>hv u (by simp [hu])) (by simp;omega) hb2;refine ⟨w',?_,⟨h2.1,h2.2⟩,?_,?_,λb' hne=>?_⟩
  ·simp only [storeCells,Sem.run_bind,addr_add];rw [hrun];simp only [Result.andThen_ok];exact h1
  ·rw [h3,wz];simp
  ·rw [h4,show off+(i+1)=off+i+1 by omega,BG v vs (off+i) c (by omega)]
  ·rw [h5 b' hne,wz,Array.getElem?_modify,if_neg (Ne.symm hne)]
theorem EW {P:Program}{t:TypeId}{l:K3}{s:Nat}(hs:pG P t=some s){b off:Nat}{v:Value}{c:List Value}{T:TypeId}{w:World}
 (h1:Nat.beq (cellsOf v).length s=true) (h2:gV (cellsOf v)=true) (h3:off+(cellsOf v).length<=c.length) (hb:w.heap[b]?=some (.cells ⟨c⟩ T (0,0))) :
 ∃ w',(Instr.storeAt t (.pointer (some ⟨b,off,none⟩)) v).run P w=.ok () w'/\dG w w'/\w'.heap.size=w.heap.size /\
  w'.heap[b]?=some (.cells ⟨bF off (cellsOf v) c⟩ T (0,0))/\∀ b',b'≠b->w'.heap[b']?=w.heap[b']?:=by
 obtain ⟨w',h4,h5⟩:=x9 (P:=P) (cellsOf v) 0 off c w (vQ h2) (by simpa using h3) hb;refine ⟨w',?_,by simpa using h5⟩;have:=Nat.eq_of_beq_eq_true h1;simp only [Instr.storeAt,Instr.sureAddr,Sem.run_bind,Sem.run_pure,Result.andThen_ok,storeVar,wB hs w,qg];rw [if_neg (by simp;omega)];simpa using h4
theorem Ec {P:Program}{t:TypeId}{l:List Value}(h:xZ P t=some l)(w:World):∃ z,(zeroValue t).run P w=.ok z w/\z.cells=⟨l⟩:=by
 unfold xZ at h;split at h
 ·rename_i i hi;split at h
  ·rename_i z hz;simp at h;subst h;exact ⟨z,by simp [zeroValue,gZ P t w hi,hz],qg z⟩
  ·cases h
 ·cases h
theorem TI {P:Program}{f:Nat}(h:BH P f=true)(args:Array Value)(w:World):(callFunc f args).run P w=.ok (.enter f args) w:=by
 unfold BH at h;split at h
 ·rename_i fn hf;simp only [Bool.and_eq_true,Bool.not_eq_true'] at h;simp only [callFunc,Sem.run_bind,run_program,Result.andThen_ok,hf];have h1:fn.body.isNone=false:=by cases hb:fn.body <;> simp_all
  simp [h.2,h1]
 ·cases h
theorem TJ {P:Program}{f:Nat}{args:Array Value}{w w':World}{v:Value}(h:(yO f args).run P w=.ok v w'):(callFunc f args).run P w=.ok (.value v) w':=by
 unfold yO at h;simp only [Sem.run_bind] at h;generalize (callFunc f args).run P w=r at h;cases r with
 | ok n w1=>
  simp only [Result.andThen_ok] at h;cases n <;> simp [stuck] at h ⊢
  all_goals first|exact h|(obtain ⟨rfl,rfl⟩:=h;exact ⟨rfl,rfl⟩)
 | _=>simp [Result.andThen] at h
theorem JB (n s:Nat)(z:List Value)(h:z.length=s):(mM n z).length=n*s:=by
 induction n with
 | zero=>simp [mM]
 | succ n ih=>simp only [mM,List.length_append,ih,h,Nat.succ_mul];omega
theorem JA:∀ (n s:Nat) (z:List Value),z.length=s->0<s->(Array.range (n*s)).map (λi=>(⟨z⟩:Array Value)[i%(⟨z⟩:Array Value).size]!)=⟨mM n z⟩:=by
 intro n s z hz hs;apply Array.ext';simp only [Array.toList_map,Array.toList_range];have hsz:(⟨z⟩:Array Value).size=s:=by simpa using hz
 rw [hsz]
 induction n with
 | zero=>simp [mM]
 | succ n ih=>
  rw [Nat.succ_mul,Nat.add_comm (n*s) s,List.range_add,List.map_append,List.map_map];have h1:(List.range s).map (λi=>(⟨z⟩:Array Value)[i%s]!)=z:=by
   apply List.ext_getElem
   ·simp [hz]
   ·intro i h1 h2;simp at h1;simp [Nat.mod_eq_of_lt h1,show i<z.length by omega]
  have h2:(List.range (n*s)).map ((λi=>(⟨z⟩:Array Value)[i%s]!) ∘ (s+·))=(List.range (n*s)).map (λi=>(⟨z⟩:Array Value)[i%s]!):=by
   apply List.map_congr_left;intro i _;simp [Nat.add_mod_left]
  rw [h1,h2,ih];rfl
def ru (P:Program)(bg:dQ)(o:Oper)(bx:bA)(h:Heap)(K:Core->bA->Heap->Prop)(a:Act)(w:World)(Q:Exit->Act->World->Prop):Prop:=
 o.wp P a w (λa' w'=>∃ x bx',a'=a.put o.dst (x.val bx')/\After bg bx h x bx' w'.heap/\dG w w'/\K x bx' w'.heap) Q
theorem uN {P:Program}{bg:dQ}{o:Oper}{bx:bA}{h:Heap}{K:Core->bA->Heap->Prop}{a:Act}{w w':World}{Q:Exit->Act->World->Prop}
 {x:Core} {bx':bA} (hr:(execOp a.eval o).run P w=.ok (.value (x.val bx')) w') (hA:After bg bx h x bx' w'.heap) (hs:dG w w') (hK:K x bx' w'.heap):ru P bg o bx h K a w Q:=by
 unfold ru Oper.wp;rw [hr];exact ⟨x,bx',rfl,hA,hs,hK⟩
theorem BI {P:Program}{bg:dQ}{o:Oper}{bx:bA}{h:Heap}{K:Core->bA->Heap->Prop}{a:Act}{w w':World}{Q:Exit->Act->World->Prop}
 {bx':bA} (hr:(execOp a.eval o).run P w=.ok .skip w') (hA:After bg bx h (.v undef) bx' w'.heap) (hs:dG w w') (hK:K (.v undef) bx' w'.heap):ru P bg o bx h K a w Q:=by
 unfold ru Oper.wp;rw [hr];exact ⟨.v undef,bx',rfl,hA,hs,hK⟩
theorem BJ {bg:dQ}{bx:bA}{h:Heap}(B:Boxed bx h)(o:Obj)(v:Value):After bg bx h (.v v) bx (h.push o):=
 ⟨B.keep λb hb=>by rw [jk,if_neg (by have:=B.lt b hb;omega)],λc hc=>⟨rfl,hc⟩,trivial,λ_=>⟨KY h o,λ_ h=>h⟩,λ_=>rfl⟩
theorem K5 {bx:bA}{h:Heap}(B:Boxed bx h){k:Nat}(hk:dS bx k=none)(vs:List Value)(T:TypeId) :
 After .al bx h (.lp k 0) (aZ k h.size vs bx) (h.push (.cells ⟨vs⟩ T)):=
 ⟨B.new hk vs T,λc hc=>KZ (.inl hk) c hc,by simp [fK,pE],λ_=>⟨KY h _,λ_ hb=>Boxed.TH hk vs hb⟩,λh=>by cases h⟩
theorem BK {bg:dQ}{bx:bA}{h h':Heap}(B:Boxed bx h)(hk:∀ b∈au bx,h'[b]?=h[b]?)(hc:bg≠.al)(v:Value):After bg bx h (.v v) bx h':=
 ⟨B.keep hk,λc hc=>⟨rfl,hc⟩,trivial,λh=>absurd h hc,λ_=>rfl⟩
theorem K7 {bx:bA}{h h':Heap}(B:Boxed bx h){k b:Nat}{vs vs':List Value}(hk:dS bx k=some (b,vs))(hb:∃ T,h'[b]?=some (.cells ⟨vs'⟩ T (0,0)))
 (ho:∀ b',b'≠b->h'[b']?=h[b']?) (v:Value):After .be bx h (.v v) (aZ k b vs' bx) h':=
 ⟨B.write hk hb ho,λc hc=>KZ (.inr ⟨vs,hk⟩) c hc,trivial,λh=>(by cases h),λh=>(by cases h)⟩
theorem kP {α:Type}{P:Program}{bg:dQ}{o:Oper}{bx:bA}{K:Core->bA->Heap->Prop}{a:Act}{w:World}{Q:Exit->Act->World->Prop}
 (s:Sem α) (val:α->Value) (B:Boxed bx w.heap) (hcls:bg≠.al) (hs:∀ w',(∃ v,s.run P w=.ok v w')->True)
 (hrun:∀ v w',s.run P w=.ok v w'->(execOp a.eval o).run P w=.ok (.value (val v)) w'\/((execOp a.eval o).run P w=.ok .skip w'/\val v=undef))
 (H:aW P s (au bx) w.heap λv h'=>K (.v (val v)) bx h'):ru P bg o bx w.heap K a w Q:=by
 unfold aW at H;obtain ⟨v,w',h1,h2,h3,h4⟩:=H B.lt w rfl;rcases hrun v w' h1 with h5|⟨h5,h6⟩
 ·exact uN (x:=.v (val v)) (bx':=bx) (by simpa [Core.val] using h5) (BK B h3 hcls _) h2 h4
 ·rw [h6] at h4;exact BI h5 (BK B h3 hcls _) h2 h4
theorem TG {P:Program}{C:aI}{o:Oper}{ρ:Operand->Option Core}{bx:bA}{K:Core->bA->Heap->Prop}{a:Act}{w:World}{Q:Exit->Act->World->Prop}
 (H:yL P C (eP P C o) o ρ bx w.heap K) (hρ:∀ y c,ρ y=some c->a.eval y=c.val bx) (B:Boxed bx w.heap):ru P (eP P C o) o bx w.heap K a w Q:=by
 obtain ⟨dst,op,ty,pos,after,guard⟩:=o;unfold yL at H;simp only at H;split at H
 ·
  rename_i e x;have hcls:eP P C ⟨dst,.box e x,ty,pos,after,guard⟩=.al:=rfl;rw [hcls];split at H
  case h_2=>exact H.elim
  rename_i v hx;have hrun:(execOp a.eval (⟨dst,.box e x,ty,pos,after,guard⟩:Oper)).run P w=.ok (.value (.pointer (some ⟨w.heap.size,0,none⟩))) { w with heap:=w.heap.push (.cells ⟨cellsOf v⟩ e) }:=by
   simp [execOp,Instr.box,newVar,newRow,hρ _ _ hx,Core.val,qg]
  split at H
  case h_2=>exact H.elim
  rename_i d;split at H
  ·split at H
   case h_2=>exact H.elim
   rename_i hk;unfold aL at H;have hb:blk (aZ d w.heap.size (cellsOf v) bx) d=w.heap.size:=by simp [blk,pE]
   exact uN (x:=.lp d 0) (bx':=aZ d w.heap.size (cellsOf v) bx) (w':={ w with heap:=w.heap.push (.cells ⟨cellsOf v⟩ e) }) (by rw [hrun];simp [Core.val,hb]) (K5 B hk _ _) ⟨rfl,rfl,rfl⟩ (H _ _ rfl rfl)
  ·unfold aL at H;exact uN (x:=.v _) (bx':=bx) hrun (BJ B _ _) ⟨rfl,rfl,rfl⟩ (H _ _ rfl rfl)
 ·
  rename_i e;have hcls:eP P C ⟨dst,.alloc e,ty,pos,after,guard⟩=.al:=rfl;rw [hcls];split at H
  case h_2=>exact H.elim
  rename_i l d hl;obtain ⟨z,hz,hzc⟩:=Ec hl w;have hrun:(execOp a.eval (⟨some d,.alloc e,ty,pos,after,guard⟩:Oper)).run P w=.ok (.value (.pointer (some ⟨w.heap.size,0,none⟩))) { w with heap:=w.heap.push (.cells ⟨l⟩ e) }:=by
   simp [execOp,Instr.alloc,newVar,newRow,hz,hzc]
  split at H
  ·split at H
   case h_2=>exact H.elim
   rename_i hk;unfold aL at H;have hb:blk (aZ d w.heap.size l bx) d=w.heap.size:=by simp [blk,pE]
   exact uN (x:=.lp d 0) (bx':=aZ d w.heap.size l bx) (w':={ w with heap:=w.heap.push (.cells ⟨l⟩ e) }) (by rw [hrun];simp [Core.val,hb]) (K5 B hk _ _) ⟨rfl,rfl,rfl⟩ (H _ _ rfl rfl)
  ·unfold aL at H;exact uN (x:=.v _) (bx':=bx) hrun (BJ B _ _) ⟨rfl,rfl,rfl⟩ (H _ _ rfl rfl)
 ·
  rename_i t n parts;have hcls:eP P C ⟨dst,.buildSlice t n parts,ty,pos,after,guard⟩=.al:=rfl;rw [hcls];split at H
  case h_2=>exact H.elim
  rename_i e hu;split at H
  case h_2=>exact H.elim
  rename_i z s hz hs;split at H
  case h_2=>exact H.elim
  rename_i l h1 h2 h3;unfold aL at H;obtain ⟨zv,hzv,hzc⟩:=Ec hz w;have h1':n*s<=16777216:=Nat.le_of_ble_eq_true h1;have h2':=Nat.eq_of_beq_eq_true h2;have hlen:(mM n z).length=n*s:=JB n s z h2';have pI:=BM (place':=λi=>some (i*s,s)) hρ (λi p hp=>hp) parts.toList _ (mM n z) l hlen h3;have hrun:(execOp a.eval (⟨dst,.buildSlice t n parts,ty,pos,after,guard⟩:Oper)).run P w=.ok (.value (.slice (some ⟨w.heap.size,0,none⟩) n n)) { w with heap:=w.heap.push (.cells ⟨l⟩ e) }:=by
   have he:(parts.map λ(x:Nat×Operand)=>(x.1,a.eval x.2)).toList=parts.toList.map λp=>(p.1,a.eval p.2):=by simp
   rw [<-he] at pI;simp only [execOp,Sem.run_bind,Instr.buildSlice,dK P t w hu,Result.andThen_ok,wB hs w];rw [if_neg (by omega)];by_cases h0:n*s=0
   ·have hr:mM n z=[]:=by rw [<-List.length_eq_zero_iff,hlen];exact h0
    rw [hr] at pI;simp only [h0,if_true,Sem.run_bind,Sem.run_pure,Result.andThen_ok,show Array.range 0=#[] from (by first|rfl|(apply Array.ext';simp)),Array.map_empty];have yP:Instr.fill (λi=>some (i*s,s)) #[] (parts.map λ(x:Nat×Operand)=>(x.1,a.eval x.2)).toList=some ⟨l⟩:=pI;split
    ·rename_i cells hc;rw [yP] at hc;simp at hc;subst hc;simp [newRow]
    ·rename_i hc;rw [yP] at hc;exact (hc _ rfl).elim
   ·have hs0:0<s:=by
     rcases Nat.eq_zero_or_pos s with h|h
     ·subst h;simp at h0
     ·exact h
    simp only [h0,if_false,Sem.run_bind,hzv,Result.andThen_ok,Sem.run_pure,hzc];rw [JA n s z h2' hs0];split
    ·rename_i cells hc;rw [pI] at hc;simp at hc;subst hc;simp [newRow]
    ·rename_i hc;rw [pI] at hc;exact (hc _ rfl).elim
  exact uN (x:=.v _) (bx':=bx) hrun (BJ B _ _) ⟨rfl,rfl,rfl⟩ (H _ _ rfl rfl)
 ·
  rename_i t;have hcls:eP P C ⟨dst,.makeMap t none,ty,pos,after,guard⟩=.al:=rfl;rw [hcls];unfold aL at H;exact uN (x:=.v (.map (some w.heap.size))) (bx':=bx) (w':={ w with heap:=w.heap.push (.map #[] 0) }) (by simp [execOp,Instr.makeMap,Core.val]) (BJ B _ _) ⟨rfl,rfl,rfl⟩ (H _ _ rfl rfl)
 ·
  rename_i t ad x;split at H
  ·rename_i v hcls hx;rw [hcls];split at H
   ·rename_i k off l ha hl;split at H
    ·rename_i b vs s hk hs;split at H
     ·rename_i h1 h2 h3;rw [EX] at h2;unfold aK at H;obtain ⟨T,hT⟩:=B.kM _ _ _ hk;have h1':=Nat.eq_of_beq_eq_true h1;obtain ⟨w',r1,r2,r3,r4,r5⟩:=EW (P:=P) (l:=l) hs h1 h3 (by rw [h1'];exact h2) hT (off:=off);refine BI (bx':=aZ k b (bF off (cellsOf v) vs) bx) ?_ (K7 B hk ⟨T,r4⟩ r5 _) r2 (H _ r3 r5);simp only [execOp,Sem.run_bind,hρ _ _ ha,hρ _ _ hx,Core.val,uJ hk];rw [r1];simp
     ·exact H.elim
    ·exact H.elim
   ·rename_i k off l ha hl;split at H
    ·rename_i b vs s hk hs;split at H
     ·rename_i h1 h3;unfold dL aK at H;obtain ⟨h2,H⟩:=H;have h2:off+s<=vs.length:=h2;obtain ⟨T,hT⟩:=B.kM _ _ _ hk;have h1':=Nat.eq_of_beq_eq_true h1;obtain ⟨w',r1,r2,r3,r4,r5⟩:=EW (P:=P) (l:=l) hs h1 h3 (by rw [h1'];exact h2) hT (off:=off);refine BI (bx':=aZ k b (bF off (cellsOf v) vs) bx) ?_ (K7 B hk ⟨T,r4⟩ r5 _) r2 (H _ r3 r5);simp only [execOp,Sem.run_bind,hρ _ _ ha,hρ _ _ hx,Core.val,uJ hk];rw [r1];simp
     ·exact H.elim
    ·exact H.elim
   ·exact H.elim
  ·rename_i v hcls hx;rw [hcls];split at H
   ·rename_i b off l s ha hl hs;split at H
    ·rename_i h1 h3;unfold dN at H;obtain ⟨c,T,hT,hlen,hnb,H⟩:=H;have h1':=Nat.eq_of_beq_eq_true h1;obtain ⟨w',r1,r2,r3,r4,r5⟩:=EW (P:=P) (l:=l) hs h1 h3 hlen hT (off:=off);refine BI (bx':=bx) ?_ (BK B (λb' hb'=>r5 b' (λe=>hnb (e ▸ hb'))) (by simp) _) r2 (H _ r3 r4 r5);simp only [execOp,Sem.run_bind,hρ _ _ ha,hρ _ _ hx,Core.val];rw [r1];simp
    ·exact H.elim
   ·exact H.elim
  ·exact H.elim
 ·
  rename_i t m k x;split at H
  ·rename_i mv kv xv hm hk hx;refine kP (Instr.mapUpdate t mv kv xv) (λ_=>undef) B (by simp [eP]) (λ_ _=>trivial) (λv w' hr=>.inr ⟨?_,rfl⟩) H;simp only [execOp,Sem.run_bind,hρ _ _ hm,hρ _ _ hk,hρ _ _ hx,Core.val,hr,Result.andThen_ok,Sem.run_pure]
  ·exact H.elim
 ·
  rename_i t m k x;split at H
  ·rename_i mv kv xv hm hk hx;refine kP (Instr.mapUpdate t mv kv xv) (λ_=>undef) B (by simp [eP]) (λ_ _=>trivial) (λv w' hr=>.inr ⟨?_,rfl⟩) H;simp only [execOp,Sem.run_bind,hρ _ _ hm,hρ _ _ hk,hρ _ _ hx,Core.val,hr,Result.andThen_ok,Sem.run_pure]
  ·exact H.elim
 ·
  rename_i t l c;split at H
  ·rename_i lv cv hl hc;refine kP (Instr.makeSlice t lv cv) id B (by simp [eP]) (λ_ _=>trivial) (λv w' hr=>.inl ?_) H;simp only [execOp,Sem.run_bind,hρ _ _ hl,hρ _ _ hc,Core.val,hr,Result.andThen_ok,Sem.run_pure,id]
  ·exact H.elim
 ·
  rename_i s t x;split at H
  ·rename_i xv hx;refine kP (convert s t xv) id B ?_ (λ_ _=>trivial) (λv w' hr=>.inl ?_) H
   ·simp only [eP];split <;> simp
   ·simp only [execOp,Sem.run_bind,hρ _ _ hx,Core.val,hr,Result.andThen_ok,Sem.run_pure,id]
  ·exact H.elim
 ·
  rename_i t x;split at H
  ·rename_i xv hx;refine kP (Instr.range t xv) id B (by simp [eP]) (λ_ _=>trivial) (λv w' hr=>.inl ?_) H;simp only [execOp,Sem.run_bind,hρ _ _ hx,Core.val,hr,Result.andThen_ok,Sem.run_pure,id]
  ·exact H.elim
 ·
  rename_i it s;split at H
  ·rename_i xv hx;refine kP (Instr.next xv s ty) id B (by simp [eP]) (λ_ _=>trivial) (λv w' hr=>.inl ?_) H;simp only [execOp,Sem.run_bind,hρ _ _ hx,Core.val,hr,Result.andThen_ok,Sem.run_pure,id]
  ·exact H.elim
 ·
  rename_i it;split at H
  ·rename_i xv hx;refine kP (Instr.entry xv) id B (by simp [eP]) (λ_ _=>trivial) (λv w' hr=>.inl ?_) H;simp only [execOp,Sem.run_bind,hρ _ _ hx,Core.val,hr,Result.andThen_ok,Sem.run_pure,id]
  ·exact H.elim
 ·
  rename_i t m k;split at H
  ·rename_i mv kv hm hk;refine kP (Instr.mapEntry t mv kv) id B (by simp [eP]) (λ_ _=>trivial) (λv w' hr=>.inl ?_) H;simp only [execOp,Sem.run_bind,hρ _ _ hm,hρ _ _ hk,Core.val,hr,Result.andThen_ok,Sem.run_pure,id]
  ·exact H.elim
 ·
  rename_i t m s x;split at H
  ·rename_i mv sv xv hm hs hx;refine kP (Instr.entryStore t mv sv xv) (λ_=>undef) B (by simp [eP]) (λ_ _=>trivial) (λv w' hr=>.inr ⟨?_,rfl⟩) H;simp only [execOp,Sem.run_bind,hρ _ _ hm,hρ _ _ hs,hρ _ _ hx,Core.val,hr,Result.andThen_ok,Sem.run_pure]
  ·exact H.elim
 ·
  rename_i op t x y yt;split at H
  ·rename_i av bv ha hb;refine kP _ id B ?_ (λ_ _=>trivial) (λv w' hr=>.inl ?_) H
   ·simp only [eP];split <;> simp
   ·simp only [Sem.run_bind] at hr;simp only [execOp,Sem.run_bind,hρ _ _ ha,hρ _ _ hb,Core.val,hr,Result.andThen_ok,Sem.run_pure,id]
  ·exact H.elim
 ·
  rename_i b args ts;split at H
  case h_2=>exact H.elim
  rename_i as has;have h1:=wD hρ _ _ has;have h1':args.map a.eval=⟨as⟩:=by apply Array.ext';simp [h1]
  split at H
  ·refine kP _ id B (by simp [eP]) (λ_ _=>trivial) (λv w' hr=>.inl ?_) H;simp only [execOp,resolve,h1',Sem.run_bind,Sem.run_pure,Result.andThen_ok,invoke,builtin,hr,id]
  ·refine kP _ id B (by simp [eP]) (λ_ _=>trivial) (λv w' hr=>.inl ?_) H;simp only [execOp,resolve,h1',Sem.run_bind,Sem.run_pure,Result.andThen_ok,invoke,builtin,hr,id]
  ·refine kP _ id B (by simp [eP]) (λ_ _=>trivial) (λv w' hr=>.inl ?_) H;simp only [execOp,resolve,h1',Sem.run_bind,Sem.run_pure,Result.andThen_ok,invoke,builtin,hr,id]
  ·refine kP _ id B (by simp [eP]) (λ_ _=>trivial) (λv w' hr=>.inl ?_) H;simp only [execOp,resolve,h1',Sem.run_bind,Sem.run_pure,Result.andThen_ok,invoke,builtin,hr,id]
  ·refine kP _ id B (by simp [eP]) (λ_ _=>trivial) (λv w' hr=>.inl ?_) H;simp only [execOp,resolve,h1',Sem.run_bind,Sem.run_pure,Result.andThen_ok,invoke,builtin,hr,id]
  ·refine kP _ id B (by simp [eP]) (λ_ _=>trivial) (λv w' hr=>.inl ?_) H;simp only [execOp,resolve,h1',Sem.run_bind,Sem.run_pure,Result.andThen_ok,invoke,builtin,hr,id]
  ·exact H.elim
 ·
  rename_i f args ts;split at H
  case h_2=>exact H.elim
  rename_i f' first captured as hf has;have h1:=wD hρ _ _ has;have h1':args.map a.eval=⟨as⟩:=by apply Array.ext';simp [h1]
  split at H
  case h_2=>
   refine kP _ id B (by simp [eP]) (λ_ _=>trivial) (λv w' hr=>.inl ?_) H;have hr':=TJ hr;simp only [execOp,resolve,h1',Sem.run_bind,hρ _ _ hf,Core.val,Deferred.ofValue,Sem.run_pure,Result.andThen_ok,invoke,id];simpa using hr'
  rename_i hbody;unfold ak at H;have hc:=H B.lt w rfl;unfold ru Oper.wp;have hrun:(execOp a.eval (⟨dst,.call { callee:=.value f,args:=args,argTypes:=ts },ty,pos,after,guard⟩:Oper)).run P w=.ok (.enter f' ⟨first++as++captured⟩) w:=by
   simp only [execOp,resolve,h1',Sem.run_bind,hρ _ _ hf,Core.val,Deferred.ofValue,Sem.run_pure,Result.andThen_ok,invoke];rw [TI hbody];simp
  rw [hrun];simp only [Oper.upon];refine Calls.mono hc λe w' he=>?_;obtain ⟨v,rfl,h2,h3,h4⟩:=he;exact ⟨.v v,bx,rfl,BK B h3 (by simp [eP]) _,h2,h4⟩
 ·exact H.elim
theorem KP {ops:Array Oper}{a:Act}{j d:Nat}{v:Value}(h:lH ops.toList j≠some d):yielded ops (a.put (some d) v).tmps j=yielded ops a.tmps j:=by
 rw [Bz] at h;unfold yielded;cases hd:(ops[j]?).bind (·.dst) with
 | none=>rfl
 | some t=>
  have hne:d≠t:=λe=>h (by subst e;simpa using hd);simp [Act.put,Array.getElem?_setIfInBounds_ne hne]
theorem KQ {all:List Oper}{d:Nat}:∀ (eg:fG),wo all d eg=true->∀ t j w c,mQ eg t=some (j,w,c)->t≠d/\lH all j≠some d
 | [],_,t,j,w,c,h=>by cases h
 | (t',j',w',c')::r,hf,t,j,w,c,h=>by
  simp only [wo] at hf;split at hf
  ·cases hf
  ·rename_i hne;have hne':t'≠d:=λe=>by subst e;simp [Nat.beq_refl] at hne
   have hrest:(∀ d',lH all j'=some d'->d'≠d)/\wo all d r=true:=by
    split at hf
    ·rename_i d' hd';split at hf
     ·cases hf
     ·rename_i hb;exact ⟨λd'' h''=>(by rw [hd'] at h'';cases h'';intro e;subst e;simp [Nat.beq_refl] at hb),hf⟩
    ·rename_i hd';exact ⟨λd'' h''=>(by rw [hd'] at h'';cases h''),hf⟩
   simp only [mQ] at h;split at h
   ·rename_i hb;have:=Nat.eq_of_beq_eq_true hb;subst this;simp at h;obtain ⟨rfl,rfl,rfl⟩:=h;exact ⟨hne',λe=>hrest.1 d e rfl⟩
   ·exact KQ r hrest.2 t j w c h
theorem qZ {ops:Array Oper}{dst:Option Nat}{g:Option (Nat×Bool)}{x:Core}{e:cu}{eg:fG}{bx:bA}{a:Act}{K:cu->fG->Prop}{v:Value}
 (H:rf ops.toList dst g x e eg K) (A:Agree ops e eg bx a) (hx:fK bx x) (hd:∀ d,dst=some d->d<a.tmps.size)
 (hv:match g with|none=>v=x.val bx|some (j,w)=>(yielded ops a.tmps j=some w->v=x.val bx)/\(yielded ops a.tmps j≠some w->v=undef)) :
 ∃ e' eg',K e' eg'/\Agree ops e' eg' bx (a.put dst v):=by
 unfold rf at H;cases dst with
 | none=>exact ⟨e,eg,H,A⟩
 | some d=>
  simp only at H;split at H
  case h_2=>exact H.elim
  rename_i hf;have hf':=KQ eg hf;have hdl:=hd d rfl;have same:∀ t,t≠d->(a.put (some d) v).tmps[t]?=a.tmps[t]?:=λt ht=>by simp [Act.put,Array.getElem?_setIfInBounds_ne (Ne.symm ht)]
  have here:(a.put (some d) v).tmps[d]?=some v:=by simp [Act.put,hdl]
  have KR:∀ t j w c,mQ eg t=some (j,w,c)->(yielded ops (a.put (some d) v).tmps j=some w->(a.put (some d) v).tmps[t]?=some (c.val bx)) /\
   (yielded ops (a.put (some d) v).tmps j≠some w->(a.put (some d) v).tmps[t]?=some undef)/\fK bx c:=λt j w c hl=>by
   obtain ⟨h1,h2⟩:=hf' _ _ _ _ hl;rw [KP h2,same t h1];exact A.uK t j w c hl
  cases g with
  | none=>
   simp only at H hv;refine ⟨_,_,H,⟨A.defers,λt c hl hg=>?_,KR⟩⟩;simp only [jF] at hl;split at hl
   ·rename_i hb;have:=Nat.eq_of_beq_eq_true hb;subst this;simp at hl;subst hl;exact ⟨by rw [here,hv],hx⟩
   ·rename_i hb;have hne:t≠d:=λe=>by subst e;simp [Nat.beq_refl] at hb
    rw [same t hne];exact A.env t c hl hg
  | some p=>
   obtain ⟨j,w⟩:=p;simp only at H hv;split at H
   case h_2=>exact H.elim
   rename_i d' hd';split at H
   ·exact H.elim
   ·rename_i hb;have hne':d'≠d:=λe=>by subst e;simp [Nat.beq_refl] at hb
    have hjd:lH ops.toList j≠some d:=by rw [hd'];simpa using hne'
    refine ⟨_,_,H,⟨A.defers,λt c hl hg=>?_,λt j' w' c hl=>?_⟩⟩
    ·simp only [mQ] at hg;split at hg
     ·cases hg
     ·rename_i hb;have hne:t≠d:=λe=>by subst e;simp [Nat.beq_refl] at hb
      rw [same t hne];exact A.env t c hl hg
    ·simp only [mQ] at hl;split at hl
     ·rename_i hb;have:=Nat.eq_of_beq_eq_true hb;subst this;simp at hl;obtain ⟨rfl,rfl,rfl⟩:=hl;rw [KP hjd,here];exact ⟨λh=>by rw [hv.1 h],λh=>by rw [hv.2 h],hx⟩
     ·exact KR t j' w' c hl
theorem ES {ops:Array Oper}{e:cu}{eg:fG}{bx:bA}{a:Act}(A:Agree ops e eg bx a){g:Option (Nat×Bool)}(x:Operand)(c:Core)(h:rd ops.toList g e eg x=some c):fK bx c:=by
 cases x with
 | tmp t=>
  simp only [rd] at h;split at h
  ·rename_i j w c' hl;split at h
   ·simp at h;subst h;exact (A.uK _ _ _ _ hl).2.2
   ·cases h
  ·rename_i hl;exact (A.env _ _ h hl).2
 | const v=>simp [rd] at h;subst h;trivial
 | global n=>simp [rd] at h;subst h;trivial
 | func f=>simp [rd] at h;subst h;trivial
theorem wu {bx:bA}{o:Option Value}{c:Core}(h:rq o=some c):fK bx c:=by
 obtain ⟨v,_,rfl⟩:=uL h;trivial
theorem Tv {P:Program}{op:Op}{ρ:Operand->Option Core}{bx:bA}{c:Core}(h:yJ P op ρ=some c)(hρ:∀ y c,ρ y=some c->fK bx c):fK bx c:=by
 unfold yJ at h;split at h
 ·exact hρ _ _ h
 ·exact hρ _ _ h
 ·split at h
  ·exact wu h
  ·cases h
 ·split at h
  ·exact wu h
  ·cases h
 ·split at h
  ·exact wu h
  ·cases h
 ·split at h
  ·split at h
   ·rename_i ha;simp at h;subst h;have:=hρ _ _ ha;simpa [fK] using this
   ·rename_i ha;simp at h;subst h;have:=hρ _ _ ha;simpa [fK] using this
   ·simp at h;subst h;trivial
   ·cases h
  ·cases h
 ·split at h
  ·split at h
   ·exact wu h
   ·cases h
  ·cases h
 ·exact wu h
 ·split at h
  ·simp at h;subst h;trivial
  ·cases h
 ·split at h
  ·rename_i ha;simp at h;subst h;exact hρ _ _ ha
  ·rename_i ha;simp at h;subst h;exact hρ _ _ ha
  ·simp at h;subst h;trivial
  ·simp at h;subst h;trivial
  ·cases h
 ·split at h
  ·split at h
   ·simp at h;subst h;trivial
   ·cases h
  ·split at h
   ·simp at h;subst h;trivial
   ·cases h
  ·cases h
 ·split at h
  ·exact wu h
  ·cases h
 ·cases h
theorem ET {P:Program}{ops:Array Oper}{e:cu}{eg:fG}{bx:bA}{a:Act}(A:Agree ops e eg bx a){g:Option (Nat×Bool)}{o:Oper}{x:Core}
 (h:BA ops.toList P g e eg o.op=some x):fK bx x/\((∀ p,g=some p->yielded ops a.tmps p.1=some p.2)->∀ w,(execOp a.eval o).run P w=.ok (.value (x.val bx)) w):=by
 unfold BA at h;split at h
 ·rename_i c y z ho;refine ⟨?_,λhg w=>Tw A hg ho h w⟩;unfold BB at h;split at h
  ·split at h
   ·simp at h;subst h;trivial
   ·cases h
  ·cases h
 ·exact ⟨Tv h (λy c hy=>ES A y c hy),λhg w=>Tx (λy c hy=>uH A hg y c hy) h w⟩
theorem Ty {ops:Array Oper}{o:Oper}{a:Act}(h:o.guard=none):Region.wanted o (yielded ops a.tmps)=true:=by simp [Region.wanted,h]
theorem Tz {ops:Array Oper}{o:Oper}{a:Act}{j:Nat}{w:Bool}(h:o.guard=some (j,w)):(Region.wanted o (yielded ops a.tmps)=true↔yielded ops a.tmps j=some w):=by
 simp [Region.wanted,h]
def wm (n:Nat)(w0:World)(K:cu->fG->bA->Heap->Prop)(ops:Array Oper):Exit->Act->World->Prop:=λx a w=>
 x=.normal/\∃ e eg bx,Agree ops e eg bx a/\Boxed bx w.heap/\a.tmps.size=n/\dG w0 w/\K e eg bx w.heap
theorem TA (a:Act)(d:Option Nat)(v:Value):(a.put d v).tmps.size=a.tmps.size:=by cases d <;> simp [Act.put]
theorem TD {ops:Array Oper}{e:cu}{eg:fG}{bx bx':bA}{a:Act}(A:Agree ops e eg bx a)(hv:∀ c,fK bx c->c.val bx'=c.val bx/\fK bx' c):Agree ops e eg bx' a:=
 ⟨A.defers,λt c hl hg=>by obtain ⟨h1,h2⟩:=A.env t c hl hg;obtain ⟨h3,h4⟩:=hv c h2;exact ⟨by rw [h3];exact h1,h4⟩,
  λt j w c hl=>by obtain ⟨h1,h2,h5⟩:=A.uK t j w c hl;obtain ⟨h3,h4⟩:=hv c h5;exact ⟨λhy=>by rw [h3];exact h1 hy,h2,h4⟩⟩
section
variable {P:Program} {C:aI} {ops:Array Oper} {n:Nat} {w0:World} {K:cu->fG->bA->Heap->Prop} {Q:Exit->Act->World->Prop} {F:(World->Prop)->Act->World->Prop}
theorem sI {k:Nat}{ks:List Nat}{o:Oper}{v:Value}{bx:bA}{a:Act}{w:World}(ho:ops[k]?=some o)(B:Boxed bx w.heap)
 (hy:YieldsIf P ops (λw'=>yK (eP P C o) bx w.heap w') o v a) (he:sJ (eP P C o)=true->YieldsIf P ops (λ_=>True) o v a)
 (ht:gM P ops Q F (lG P C ops) ks (λw=>kN bx w.heap) (a.put o.dst v) w) :
 gM P ops Q F (lG P C ops) (k::ks) (λw=>kN bx w.heap) a w:=by
 have hc:lG P C ops k=eP P C o:=by simp [lG,ho]
 simp only [gM,hc];cases hcl:eP P C o with
 | p0=>exact ⟨o,v,ho,by rw [hcl] at hy;exact hy.imp (λ⟨h1,h2⟩=>⟨h1,λw _=>h2 w trivial⟩) id,ht⟩
 | pb=>exact ⟨o,v,ho,by rw [hcl] at hy;exact hy,ht⟩
 | rd=>exact ⟨o,v,ho,by rw [hcl] at hy;exact hy,ht⟩
 | al=>exact (he (by simp [hcl,sJ])).wpOp ho trivial ⟨kD.refl w,_,B.kM,λ_ h=>h,ht⟩
 | ef=>exact (he (by simp [hcl,sJ])).wpOp ho trivial ⟨B.kM,ht⟩
 | be=>exact (he (by simp [hcl,sJ])).wpOp ho trivial ⟨_,B.kM,ht⟩
theorem TF {k:Nat}{ks:List Nat}{o:Oper}{bx:bA}{a:Act}{w:World}(ho:ops[k]?=some o)(B:Boxed bx w.heap)(hw:Region.wanted o (yielded ops a.tmps)=true)(hc:sJ (eP P C o)=true)
 {K':Core->bA->Heap->Prop} (h:ru P (eP P C o) o bx w.heap K' a w Q)
 (ht:∀ x bx' w',After (eP P C o) bx w.heap x bx' w'.heap->dG w w'->K' x bx' w'.heap->gM P ops Q F (lG P C ops) ks (λw=>kN bx' w.heap) (a.put o.dst (x.val bx')) w') :
 gM P ops Q F (lG P C ops) (k::ks) (λw=>kN bx w.heap) a w:=by
 have hcl':lG P C ops k=eP P C o:=by simp [lG,ho]
 unfold ru at h;have base:∀ (R:Act->World->Prop),(∀ x bx' w',After (eP P C o) bx w.heap x bx' w'.heap->gM P ops Q F (lG P C ops) ks (λw=>kN bx' w.heap) (a.put o.dst (x.val bx')) w'->R (a.put o.dst (x.val bx')) w') ->
  wpOp P ops Q k R a w:=by
  intro R hR;unfold wpOp;simp only [ho,hw,if_true];refine .inl (Oper.wp_mono (λa' w' h'=>?_) h);obtain ⟨x,bx',rfl,hA,hs,hK⟩:=h';exact hR x bx' w' hA (ht x bx' w' hA hs hK)
 simp only [gM,hcl'];cases hcl:eP P C o with
 | p0=>rw [hcl] at hc;cases hc
 | pb=>rw [hcl] at hc;cases hc
 | rd=>rw [hcl] at hc;cases hc
 | al=>
  refine base _ λx bx' w' hA hT=>?_;obtain ⟨h1,h2⟩:=hA.al hcl;exact ⟨h1,_,hA.boxed.kM,λx h=>h2 x.heap h,hT⟩
 | ef=>
  refine base _ λx bx' w' hA hT=>?_;have:=hA.ef hcl;subst this;exact ⟨hA.boxed.kM,hT⟩
 | be=>
  refine base _ λx bx' w' hA hT=>?_;exact ⟨_,hA.boxed.kM,hT⟩
theorem Bt (hF:∀ e eg bx a (w:World),K e eg bx w.heap->Agree ops e eg bx a->Boxed bx w.heap->a.tmps.size=n->dG w0 w->F (λw=>kN bx w.heap) a w):∀ (ks:List Nat) (os:List Oper),ks.map (ops[·]?)=os.map some->(∀ o∈os,∀ d,o.dst=some d->d<n) ->
 ∀ (e:cu) (eg:fG) (bx:bA) (a:Act) (w:World),mU P C ops.toList K os e eg bx w.heap->Agree ops e eg bx a->Boxed bx w.heap->a.tmps.size=n->dG w0 w ->
 gM P ops Q F (lG P C ops) ks (λw=>kN bx w.heap) a w
 | [],[],_,_,e,eg,bx,a,w,H,A,B,hn,hs=>hF e eg bx a w H A B hn hs
 | [],_::_,h,_,_,_,_,_,_,_,_,_,_,_=>by cases h
 | _::_,[],h,_,_,_,_,_,_,_,_,_,_,_=>by cases h
 | k::ks,o::os,hm,hd,e,eg,bx,a,w,H,A,B,hn,hs=>by
  simp only [List.map_cons,List.cons.injEq] at hm;obtain ⟨ho,hm⟩:=hm;have hdo:∀ d,o.dst=some d->d<a.tmps.size:=λd h=>by rw [hn];exact hd o (by simp) d h
  have rest:∀ (e':cu) (eg':fG) (bx':bA) (v:Value) (w':World),mU P C ops.toList K os e' eg' bx' w'.heap->Agree ops e' eg' bx' (a.put o.dst v)->Boxed bx' w'.heap->dG w w' ->
   gM P ops Q F (lG P C ops) ks (λw=>kN bx' w.heap) (a.put o.dst v) w':=λe' eg' bx' v w' h1 h2 h3 h4=>
   Bt hF ks os hm (λo' ho'=>hd o' (by simp [ho'])) e' eg' bx' _ w' h1 h2 h3 (by rw [TA];exact hn) (hs.trans h4)
  have KT:Region.wanted o (yielded ops a.tmps)=true->sJ (eP P C o)=true->(∀ (g:Option (Nat×Bool)),(∀ p,g=some p->yielded ops a.tmps p.1=some p.2) ->
   (yL P C (eP P C o) o (rd ops.toList g e eg) bx w.heap λx bx h=>rf ops.toList o.dst none x e eg λe eg=>mU P C ops.toList K os e eg bx h) ->
   gM P ops Q F (lG P C ops) (k::ks) (λw=>kN bx w.heap) a w):=λhw hE g hg H=>by
   refine TF ho B hw hE (TG H (λy c hy=>uH A hg y c hy) B) λx bx' w' hA hso hK=>?_;obtain ⟨e',eg',h1,h2⟩:=qZ hK (TD A hA.val) hA.core hdo (v:=x.val bx') rfl;exact rest e' eg' bx' _ w' h1 h2 hA.boxed hso
  simp only [mU] at H;split at H
  ·rename_i hg;have hw:=Ty (ops:=ops) (a:=a) hg;unfold BD at H;split at H
   ·rename_i x hx;obtain ⟨h1,h2⟩:=ET A hx;have h2':=h2 (λp hp=>by cases hp);obtain ⟨e',eg',h3,h4⟩:=qZ H A h1 hdo (v:=x.val bx) rfl;exact sI ho B (.inl ⟨hw,λw' _=>h2' w'⟩) (λ_=>.inl ⟨hw,λw' _=>h2' w'⟩) (rest e' eg' bx _ w h3 h4 B (dG.refl w))
   ·split at H
    ·rename_i hE;obtain ⟨x,hK,_,hco,hrun⟩:=KU H;have BF:=hco (λy c hy=>ES A y c hy);obtain ⟨e',eg',h3,h4⟩:=qZ hK A BF hdo (v:=x.val bx) rfl;exact sI ho B (.inl ⟨hw,λw' hw'=>hrun a.eval w' (λy c hy=>uH A (λp hp=>by cases hp) y c hy) hw'⟩) (λh=>by rw [hE] at h;cases h)
      (rest e' eg' bx _ w h3 h4 B (dG.refl w))
    ·rename_i hE _;exact KT hw hE none (λp hp=>by cases hp) H
    ·rename_i hnone;cases hnone
  ·rename_i j wt hg;have hwi:=Tz (ops:=ops) (a:=a) hg;split at H
   case h_2=>exact H.elim
   rename_i c hc;have hcond:=KV A 9 j wt c hc;split at H
   ·rename_i hE;unfold BD at H;split at H
    ·rename_i x hx;obtain ⟨h1,h2⟩:=ET A hx;by_cases hy:yielded ops a.tmps j=some wt
     ·have h2':=h2 (λp hp=>by cases hp;exact hy);obtain ⟨e',eg',h3,h4⟩:=qZ H A h1 hdo (v:=x.val bx) ⟨λ_=>rfl,λh=>absurd hy h⟩;exact sI ho B (.inl ⟨hwi.2 hy,λw' _=>h2' w'⟩) (λh=>by rw [hE] at h;cases h) (rest e' eg' bx _ w h3 h4 B (dG.refl w))
     ·obtain ⟨e',eg',h3,h4⟩:=qZ H A h1 hdo (v:=undef) ⟨λh=>absurd h hy,λ_=>rfl⟩;have hwf:Region.wanted o (yielded ops a.tmps)=false:=by
       cases hw:Region.wanted o (yielded ops a.tmps) with
       | false=>rfl
       | true=>exact absurd (hwi.1 hw) hy
      exact sI ho B (.inr ⟨hwf,rfl⟩) (λh=>by rw [hE] at h;cases h) (rest e' eg' bx _ w h3 h4 B (dG.refl w))
    ·rename_i hnone;split at H
     ·obtain ⟨x,hK,_,hco,hrun⟩:=KU H;have BF:=hco (λy c hy=>ES A y c hy);by_cases hy:yielded ops a.tmps j=some wt
      ·obtain ⟨e',eg',h3,h4⟩:=qZ hK A BF hdo (v:=x.val bx) ⟨λ_=>rfl,λh=>absurd hy h⟩;have hct:=hcond.1 hy;exact sI ho B (.inl ⟨hwi.2 hy,λw' hw'=>hrun a.eval w' (λy c hy'=>uH A (λp hp=>by cases hp;exact hy) y c hy') hw' hct⟩) (λh=>by rw [hE] at h;cases h)
        (rest e' eg' bx _ w h3 h4 B (dG.refl w))
      ·obtain ⟨e',eg',h3,h4⟩:=qZ hK A BF hdo (v:=undef) ⟨λh=>absurd h hy,λ_=>rfl⟩;have hwf:Region.wanted o (yielded ops a.tmps)=false:=by
        cases hw:Region.wanted o (yielded ops a.tmps) with
        | false=>rfl
        | true=>exact absurd (hwi.1 hw) hy
       exact sI ho B (.inr ⟨hwf,rfl⟩) (λh=>by rw [hE] at h;cases h) (rest e' eg' bx _ w h3 h4 B (dG.refl w))
     ·rename_i hE' hn';cases hn'
     ·rename_i hE' hn';rw [hE] at hE';cases hE'
   ·rename_i hE;unfold aj at H;by_cases hy:yielded ops a.tmps j=some wt
    ·have H:=H.1 (hcond.1 hy);unfold mU.KW at H;split at H
     ·rename_i x hx;obtain ⟨h1,h2⟩:=ET A hx;have h2':=h2 (λp hp=>by cases hp;exact hy);obtain ⟨e',eg',h3,h4⟩:=qZ H A h1 hdo (v:=x.val bx) rfl;exact sI ho B (.inl ⟨hwi.2 hy,λw' _=>h2' w'⟩) (λ_=>.inl ⟨hwi.2 hy,λw' _=>h2' w'⟩) (rest e' eg' bx _ w h3 h4 B (dG.refl w))
     ·exact KT (hwi.2 hy) hE (some (j,wt)) (λp hp=>by cases hp;exact hy) H
    ·have hcf:c=false:=by cases c with
      | false=>rfl
      | true=>exact absurd (hcond.2 rfl) hy
     have H:=H.2 hcf;obtain ⟨e',eg',h3,h4⟩:=qZ H A (x:=.v _) trivial hdo (v:=undef) ⟨λh=>absurd h hy,λ_=>rfl⟩;have hwf:Region.wanted o (yielded ops a.tmps)=false:=by
      cases hw:Region.wanted o (yielded ops a.tmps) with
      | false=>rfl
      | true=>exact absurd (hwi.1 hw) hy
     exact sI ho B (.inr ⟨hwf,rfl⟩) (λ_=>.inr ⟨hwf,rfl⟩) (rest e' eg' bx _ w h3 h4 B (dG.refl w))
theorem Bv:∀ (t:Tr),(∀ o∈ops.toList,∀ d,o.dst=some d->d<n) ->
 ∀ (e:cu) (eg:fG) (bx:bA) (a:Act) (w:World),sK P C ops.toList K t e eg bx w.heap->Agree ops e eg bx a->Boxed bx w.heap->a.tmps.size=n->dG w0 w ->
 nS P ops (wm n w0 K ops) (lG P C ops) t (λw=>kN bx w.heap) a w
 | .nil,_,e,eg,bx,a,w,H,A,B,hn,hs=>⟨rfl,e,eg,bx,A,B,hn,hs,H⟩
 | .cons k t,hd,e,eg,bx,a,w,H,A,B,hn,hs=>by
  simp only [sK] at H;split at H
  case h_2=>exact H.elim
  rename_i o ho;have ho':ops[k]?=some o:=by
   have hn:∀ (all:List Oper) (k:Nat),kC.oD all k=all[k]?:=by
    intro all
    induction all with
    | nil=>intro k;simp [kC.oD]
    | cons o r ih=>intro k;cases k <;> simp [kC.oD,ih]
   rw [hn] at ho;simpa using ho
  simp only [nS];exact Bt (K:=λe eg bx h=>sK P C ops.toList K t e eg bx h) (λe eg bx a w H A B hn hs=>Bv t hd e eg bx a w H A B hn hs) [k] [o] (by simp [ho']) (λo' h'=>hd o' (by simp at h';subst h';exact Array.mem_toList_iff.2 (Array.mem_of_getElem? ho'))) e eg bx a w H A B hn hs
 | .both s t,hd,e,eg,bx,a,w,H,A,B,hn,hs=>by
  simp only [sK] at H;unfold gI at H;exact ⟨Bv s hd e eg bx a w H.1 A B hn hs,Bv t hd e eg bx a w H.2 A B hn hs⟩
end
structure pq (n:Nat)(e:cu)(bx:bA)(a:Act):Prop where
 size:a.tmps.size=n
 defers:a.defers=[]
 env:∀ t c,jF e t=some c->a.tmps[t]?=some (c.val bx)/\fK bx c
theorem pq.agree {n:Nat}{e:cu}{bx:bA}{a:Act}(A:pq n e bx a)(ops:Array Oper):Agree ops e [] bx a:=
 ⟨A.defers,λt c h _=>A.env t c h,λt j w c h=>by cases h⟩
theorem EI:∀ (L:List Nat) (e:cu) (K:cu->Prop),yE L e K->∃ e',K e'/\∀ t c,jF e' t=some c->jF e t=some c
 | [],e,K,h=>⟨[],h,λt c hl=>by cases hl⟩
 | t::L,e,K,h=>by
  simp only [yE] at h;split at h
  ·rename_i c hc;obtain ⟨e',h1,h2⟩:=EI L e _ h;refine ⟨_,h1,λt' c' hl=>?_⟩;simp only [jF] at hl;split at hl
   ·rename_i hb;have:=Nat.eq_of_beq_eq_true hb;subst this;simp at hl;subst hl;exact hc
   ·exact h2 t' c' hl
  ·exact EI L e K h
theorem Bq:∀ (L:List Nat) (e:cu) (eg:fG) (K:cu->Prop),lZ L e eg K->∃ e',K e'/\∀ t c,jF e' t=some c->jF e t=some c/\mQ eg t=none
 | [],e,eg,K,h=>⟨[],h,λt c hl=>by cases hl⟩
 | t::L,e,eg,K,h=>by
  simp only [lZ] at h;split at h
  ·exact Bq L e eg K h
  ·rename_i hg;split at h
   ·rename_i c hc;obtain ⟨e',h1,h2⟩:=Bq L e eg _ h;refine ⟨_,h1,λt' c' hl=>?_⟩;simp only [jF] at hl;split at hl
    ·rename_i hb;have:=Nat.eq_of_beq_eq_true hb;subst this;simp at hl;subst hl;exact ⟨hc,hg⟩
    ·exact h2 t' c' hl
   ·exact Bq L e eg K h
theorem EJ:∀ (L:List Nat) (bx:bA) (K:bA->Prop),jm L bx K->∃ bx',K bx'/\∀ k x,dS bx' k=some x->dS bx k=some x
 | [],bx,K,h=>⟨[],h,λt c hl=>by cases hl⟩
 | k::L,bx,K,h=>by
  simp only [jm] at h;split at h
  ·rename_i b vs hc;obtain ⟨bx',h1,h2⟩:=EJ L bx _ h;refine ⟨_,h1,λk' x hl=>?_⟩;simp only [dS] at hl;split at hl
   ·rename_i hb;have:=Nat.eq_of_beq_eq_true hb;subst this;simp at hl;subst hl;exact hc
   ·exact h2 k' x hl
  ·exact EJ L bx K h
theorem KH {bx:bA}:∀ (e:cu),sG bx e=true->∀ t c,jF e t=some c->fK bx c
 | [],_,t,c,h=>by cases h
 | (t',c')::r,hc,t,c,h=>by
  have hr:sG bx r=true/\fK bx c':=by
   cases c' with
   | v x=>exact ⟨hc,trivial⟩
   | lp k off=>
    simp only [sG] at hc;split at hc
    ·rename_i hk;exact ⟨hc,by simp [fK,hk]⟩
    ·cases hc
   | li k off=>
    simp only [sG] at hc;split at hc
    ·rename_i hk;exact ⟨hc,by simp [fK,hk]⟩
    ·cases hc
  simp only [jF] at h;split at h
  ·simp at h;subst h;exact hr.2
  ·exact KH r hr.1 t c h
theorem KI:∀ (bx:bA),Br bx=true->wh bx
 | [],_=>trivial
 | (k,_,_)::r,h=>by
  simp only [Br] at h;split at h
  ·cases h
  ·rename_i hk;exact ⟨hk,KI r h⟩
theorem Tm {n:Nat}{L B:List Nat}{e:cu}{bx:bA}{a:Act}{h:Heap}{K:cu->bA->Prop}(H:qY L B e bx K)(A:pq n e bx a)(X:Boxed bx h) :
 ∃ e' bx',K e' bx'/\pq n e' bx' a/\Boxed bx' h:=by
 unfold qY at H;obtain ⟨e',H,he⟩:=EI L e _ H;obtain ⟨bx',H,hb⟩:=EJ B bx _ H;split at H
 case h_2=>exact H.elim
 rename_i hc hp;refine ⟨e',bx',H,⟨A.size,A.defers,λt c hl=>?_⟩,⟨λk b vs hk=>X.kM k b vs (hb _ _ hk),λk k' b b' vs vs' h1 h2 hne=>X.distinct k k' b b' vs vs' (hb _ _ h1) (hb _ _ h2) hne,KI _ hp⟩⟩;have h1:=A.env t c (he t c hl);have h2:=KH e' hc t c hl;refine ⟨?_,h2⟩;have hval:c.val bx'=c.val bx:=by
  cases c with
  | v x=>rfl
  | lp k off=>
   simp only [fK] at h2;obtain ⟨x,hx⟩:=Option.isSome_iff_exists.1 h2;simp [Core.val,blk,hx,hb _ _ hx]
  | li k off=>
   simp only [fK] at h2;obtain ⟨x,hx⟩:=Option.isSome_iff_exists.1 h2;simp [Core.val,blk,hx,hb _ _ hx]
 rw [hval];exact h1.1
def uF (n:Nat)(w0:World)(Q:Post):Exit->Act->World->Prop:=λx a w=>
 (match x with|.normal=>True|.exit _=>True|.ret=>True|_=>False)/\∃ e bx,pq n e bx a/\Boxed bx w.heap/\dG w0 w/\Q x e bx w.heap
theorem uF.from {n:Nat}{w0 w1:World}{Q:Post}(h:dG w0 w1){x:Exit}{a:Act}{w:World}(hq:uF n w1 Q x a w):uF n w0 Q x a w:=
 let ⟨h1,e,bx,h2,h3,h4,h5⟩:=hq
 ⟨h1,e,bx,h2,h3,h.trans h4,h5⟩
theorem KJ (ops:Array Oper):∀ (l:List Nat),(∀ k∈l,k<ops.size)->l.map (ops[·]?)=(kC ops.toList l).map some
 | [],_=>rfl
 | k::l,h=>by
  have hk:k<ops.size:=h k (by simp);have hn:∀ (all:List Oper) (k:Nat),kC.oD all k=all[k]?:=by
   intro all
   induction all with
   | nil=>intro k;simp [kC.oD]
   | cons o r ih=>intro k;cases k <;> simp [kC.oD,ih]
  simp only [kC,List.map_cons,hn];have:ops.toList[k]?=some ops[k]:=by simp [hk]
  rw [this];simp only [List.map_cons];rw [KJ ops l (λk hk=>h k (by simp [hk]))];simp [hk]
theorem KL (ops:Array Oper):(List.range ops.size).map (ops[·]?)=ops.toList.map some:=by
 apply List.ext_getElem
 ·simp
 ·intro i h1 h2;simp at h1;simp [h1]
theorem uG {P:Program}{ops:Array Oper}{Q:Exit->Act->World->Prop}{bg:Nat->dQ}:∀ (l:List Nat) (B:World->Prop) (a:Act) (w:World),B w->gM P ops Q (λ_ a w=>Q .normal a w) bg l B a w->wpOps P ops Q l a w
 | [],B,a,w,_,h=>h
 | k::l,B,a,w,hB,h=>by
  rw [wpOps_cons];simp only [gM] at h;split at h
  ·obtain ⟨o,v,ho,hy,ht⟩:=h;exact hy.wpOp ho trivial (uG l B _ w hB ht)
  ·obtain ⟨o,v,ho,hy,ht⟩:=h;exact hy.wpOp ho hB (uG l B _ w hB ht)
  ·obtain ⟨o,v,ho,hy,ht⟩:=h;exact hy.wpOp ho (kD.refl w) (uG l B _ w hB ht)
  ·exact wpOp_mono (λa' w' h'=>let ⟨_,B',h1,_,h3⟩:=h';uG l B' a' w' h1 h3) h
  ·exact wpOp_mono (λa' w' h'=>uG l B a' w' h'.1 h'.2) h
  ·exact wpOp_mono (λa' w' h'=>let ⟨B',h1,h3⟩:=h';uG l B' a' w' h1 h3) h
theorem EK {n:Nat}{w0:World}{C:aI}{Q:Post}{ops:Array Oper}{x:Exit}{a:Act}{w:World}
 (h:wm n w0 (λe eg bx h=>lZ C.keep e eg λe=>Q .normal e bx h) ops x a w):uF n w0 Q x a w:=by
 obtain ⟨rfl,e,eg,bx,A,B,hn,hs,hK⟩:=h;obtain ⟨e',h1,h2⟩:=Bq C.keep e eg _ hK;exact ⟨trivial,e',bx,⟨hn,A.defers,λt c hl=>A.env t c (h2 t c hl).1 (h2 t c hl).2⟩,B,hs,h1⟩
theorem sH {P:Program}{C:aI}{n:Nat}(hm:P.follows .mixedOrders=true):∀ (c:Code) (Q:Post) (e:cu) (bx:bA) (a:Act) (w:World),aJ P C n c=true ->
 vc P C c Q e bx w.heap->pq n e bx a->Boxed bx w.heap->c.wp P (uF n w Q) a w
 | .skip,Q,e,bx,a,w,_,H,A,B=>wp_skip ⟨trivial,e,bx,A,B,dG.refl w,H⟩
 | .label _,Q,e,bx,a,w,_,H,A,B=>wp_label ⟨trivial,e,bx,A,B,dG.refl w,H⟩
 | .exit id,Q,e,bx,a,w,_,H,A,B=>wp_exit ⟨trivial,e,bx,A,B,dG.refl w,H⟩
 | .ret,Q,e,bx,a,w,_,H,A,B=>wp_ret ⟨trivial,e,bx,A,B,dG.refl w,H⟩
 | .seq x y,Q,e,bx,a,w,hok,H,A,B=>by
  simp only [aJ,Bool.and_eq_true] at hok;have main:vc P C x (λz e bx h=>match z with|.normal=>vc P C y Q e bx h|z=>Q z e bx h) e bx w.heap->(Code.seq x y).wp P (uF n w Q) a w:=λH=>by
   refine wp_seq (wp_mono (sH hm x _ e bx a w hok.1 H A B) λz a' w' hq=>?_);obtain ⟨h1,e',bx',A',B',hs,hK⟩:=hq;cases z with
   | normal=>exact wp_mono (sH hm y Q e' bx' a' w' hok.2 hK A' B') λz a'' w'' hq=>hq.from hs
   | exit id=>exact ⟨trivial,e',bx',A',B',hs,hK⟩
   | ret=>exact ⟨trivial,e',bx',A',B',hs,hK⟩
   | goto l=>exact h1.elim
   | panic ch=>exact h1.elim
   | outgrown=>exact h1.elim
  simp only [vc] at H;split at H
  ·unfold aV at H;exact main H
  ·exact main H
 | .cond c x y,Q,e,bx,a,w,hok,H,A,B=>by
  simp only [aJ,Bool.and_eq_true] at hok;simp only [vc] at H;split at H
  case h_2=>exact H.elim
  rename_i t hc;have hev:=uH (A.agree #[]) (g:=none) (λp hp=>by cases hp) c _ hc;unfold aj at H;refine wp_cond_split hev (λht=>?_) (λht=>?_)
  ·exact sH hm x Q e bx a w hok.1 (H.1 ht) A B
  ·exact sH hm y Q e bx a w hok.2 (H.2 ht) A B
 | .block id x,Q,e,bx,a,w,hok,H,A,B=>by
  simp only [aJ] at hok;simp only [vc] at H;refine wp_block (wp_mono (sH hm x _ e bx a w hok H A B) λz a' w' hq=>?_);obtain ⟨h1,e',bx',A',B',hs,hK⟩:=hq;cases z with
  | normal=>exact ⟨trivial,e',bx',A',B',hs,hK⟩
  | exit j=>
   simp only at hK;by_cases hj:j=id
   ·subst hj;simp only [Nat.beq_refl] at hK;exact show Exit.inBlock _ _ _ _ _ from by simp only [Exit.inBlock,if_true];exact ⟨trivial,e',bx',A',B',hs,hK⟩
   ·have hb:Nat.beq j id=false:=by cases hb:Nat.beq j id with|false=>rfl|true=>exact absurd (Nat.eq_of_beq_eq_true hb) hj
    rw [hb] at hK;exact show Exit.inBlock _ _ _ _ _ from by simp only [Exit.inBlock,hj,if_false];exact ⟨trivial,e',bx',A',B',hs,hK⟩
  | ret=>exact ⟨trivial,e',bx',A',B',hs,hK⟩
  | goto l=>exact h1.elim
  | panic ch=>exact h1.elim
  | outgrown=>exact h1.elim
 | .loop x,Q,e,bx,a,w,hok,H,A,B=>by
  simp only [aJ] at hok;simp only [vc] at H;unfold bP at H;obtain ⟨L,Bs,I,⟨d,h0⟩,round⟩:=H;have start:∀ (d:Nat) (e:cu) (bx:bA) (a':Act) (w':World),dG w w'->pq n e bx a'->Boxed bx w'.heap->(qY L Bs e bx λe bx=>I d e bx w'.heap) ->
   ∃ e bx,pq n e bx a'/\Boxed bx w'.heap/\dG w w'/\I d e bx w'.heap:=λd e bx a' w' hs A B h=>by
   obtain ⟨e',bx',h1,h2,h3⟩:=Tm h A B;exact ⟨e',bx',h2,h3,hs,h1⟩
  refine wp_loop_ghost (λd a' w'=>∃ e bx,pq n e bx a'/\Boxed bx w'.heap/\dG w w'/\I d e bx w'.heap) d (start d e bx a w (dG.refl w) A B h0) λd a' w' hI=>?_;obtain ⟨e',bx',A',B',hs,hI⟩:=hI;refine wp_mono (sH hm x _ e' bx' a' w' hok (round d e' bx' w'.heap hI) A' B') λz a'' w'' hq=>?_;obtain ⟨h1,EL,EM,EN,B'',hs',hK⟩:=hq;cases z with
  | normal=>
   obtain ⟨d',hlt,hk⟩:=hK;exact ⟨d',hlt,start d' EL EM a'' w'' (hs.trans hs') EN B'' hk⟩
  | exit id=>exact ⟨trivial,EL,EM,EN,B'',hs.trans hs',hK⟩
  | ret=>exact ⟨trivial,EL,EM,EN,B'',hs.trans hs',hK⟩
  | goto l=>exact h1.elim
  | panic ch=>exact h1.elim
  | outgrown=>exact h1.elim
 | .scope x,Q,e,bx,a,w,hok,H,A,B=>by
  simp only [aJ] at hok;simp only [vc] at H;refine wp_scope_straight (wp_mono (sH hm x _ e bx a w hok H A B) λz a' w' hq=>?_);obtain ⟨h1,e',bx',A',B',hs,hK⟩:=hq;cases z with
  | normal=>exact ⟨trivial,e',bx',A',B',hs,hK⟩
  | exit id=>exact ⟨trivial,e',bx',A',B',hs,hK⟩
  | ret=>exact ⟨trivial,e',bx',A',B',hs,hK⟩
  | goto l=>exact h1.elim
  | panic ch=>exact h1.elim
  | outgrown=>exact h1.elim
 | .region id ops false,Q,e,bx,a,w,hok,H,A,B=>by
  simp only [aJ,Bool.and_eq_true] at hok;simp only [vc] at H;have hd:∀ o∈ops.toList,∀ d,o.dst=some d->d<n:=λo ho d hd=>by
   have:=Array.all_eq_true'.1 hok.1 o (by simpa using ho);rw [hd] at this;simpa using this
  have ht:=Bt (P:=P) (C:=C) (ops:=ops) (n:=n) (w0:=w) (Q:=wm n w (λe eg bx h=>lZ C.keep e eg λe=>Q .normal e bx h) ops) (F:=λ_ a' w'=>wm n w (λe eg bx h=>lZ C.keep e eg λe=>Q .normal e bx h) ops .normal a' w') (λe eg bx a w H A B hn hs=>⟨rfl,e,eg,bx,A,B,hn,hs,H⟩) (List.range ops.size) ops.toList (KL ops) hd e [] bx a w H (A.agree ops) B A.size (dG.refl w);exact wp_mono (wp_region (uG _ _ a w B.kM ht)) λz a' w' hq=>EK hq
 | .region id ops true,Q,e,bx,a,w,hok,H,A,B=>by
  simp only [aJ,Bool.and_eq_true,Bool.not_true,Bool.false_or,decide_eq_true_eq] at hok;simp only [vc] at H;obtain ⟨hok1,hok⟩:=hok;cases htr:Bu C.EO id with
  | some t=>
  rw [htr] at hok H;simp only [Bool.and_eq_true,decide_eq_true_eq] at hok;obtain ⟨⟨hlen,hsel⟩,hdr⟩:=hok;have hd:∀ o∈ops.toList,∀ d,o.dst=some d->d<n:=λo ho d hd=>by
   have:=Array.all_eq_true'.1 hok1 o (by simpa using ho);rw [hd] at this;simpa using this
  have hB':Boxed bx ({ w with drawn:=w.drawn+1 }:World).heap:=B;have ht:=Bv (P:=P) (C:=C) (ops:=ops) (n:=n) (w0:=w) t hd e [] bx a { w with drawn:=w.drawn+1 } H (A.agree ops) hB' A.size ⟨rfl,rfl,rfl⟩;exact wp_mono (Tn hm hlen hsel hdr (λc a w i o v _ h=>by obtain ⟨h1,_⟩:=h;cases h1) B.kM ht) λz a' w' hq=>EK hq
  | none=>
  rw [htr] at hok H;simp only [Bool.and_eq_true,decide_eq_true_eq] at hok;obtain ⟨⟨⟨hlen,hall⟩,hsel⟩,hdr⟩:=hok;simp only at H;have hd:∀ o∈ops.toList,∀ d,o.dst=some d->d<n:=λo ho d hd=>by
   have:=Array.all_eq_true'.1 hok1 o (by simpa using ho);rw [hd] at this;simpa using this
  have hB':Boxed bx ({ w with drawn:=w.drawn+1 }:World).heap:=B;have fin:∀ (l:List Nat) (os:List Oper),l.map (ops[·]?)=os.map some->(∀ o∈os,o∈ops.toList)->l.length=ops.size->(∀ k∈l,k<ops.size)->uI ops (lG P C ops) l (Array.replicate ops.size false)=true ->
   mU P C ops.toList (λe eg bx h=>lZ C.keep e eg λe=>Q .normal e bx h) os e [] bx w.heap->(Code.region id ops true).wp P (uF n w Q) a w:=λl os hmap hsub hlen hlt hdr H=>by
   have ht:=Bt (P:=P) (C:=C) (ops:=ops) (n:=n) (w0:=w) (Q:=wm n w (λe eg bx h=>lZ C.keep e eg λe=>Q .normal e bx h) ops) (F:=λ_ a' w'=>wm n w (λe eg bx h=>lZ C.keep e eg λe=>Q .normal e bx h) ops .normal a' w') (λe eg bx a w H A B hn hs=>⟨rfl,e,eg,bx,A,B,hn,hs,H⟩) l os hmap (λo ho=>hd o (hsub o ho)) e [] bx a { w with drawn:=w.drawn+1 } H (A.agree ops) hB' A.size ⟨rfl,rfl,rfl⟩;exact wp_mono (Tp hm hlen hlt hsel hdr (λc a w i o v _ h=>by obtain ⟨h1,_⟩:=h;cases h1) B.kM ht) λz a' w' hq=>EK hq
  have hmem:∀ (l:List Nat),∀ o∈kC ops.toList l,o∈ops.toList:=by
   intro l;have hn:∀ (all:List Oper) (k:Nat),kC.oD all k=all[k]?:=by
    intro all
    induction all with
    | nil=>intro k;simp [kC.oD]
    | cons o r ih=>intro k;cases k <;> simp [kC.oD,ih]
   induction l with
   | nil=>intro o ho;cases ho
   | cons k l ih=>
    intro o ho;simp only [kC] at ho;split at ho
    ·rename_i o' ho';simp only [List.mem_cons] at ho;rcases ho with rfl|ho
     ·rw [hn] at ho';exact List.mem_of_getElem? ho'
     ·exact ih o ho
    ·exact ih o ho
  split at H
  ·rename_i EP;rw [EP] at hlen hall hdr;simp only [Option.getD_none] at hlen hall hdr;exact fin (List.range ops.size) ops.toList (KL ops) (λo h=>h) (by simp) (λk hk=>by simpa using hk) hdr H
  ·rename_i l EP;rw [EP] at hlen hall hdr;simp only [Option.getD_some] at hlen hall hdr;have hlt:∀ k∈l,k<ops.size:=λk hk=>by simpa using List.all_eq_true.1 hall k hk
   exact fin l (kC ops.toList l) (KJ ops l hlt) (hmem l) hlen hlt hdr H
 | .rangeFunc _ _ _ _,Q,e,bx,a,w,_,H,A,B=>H.elim
 | .goto _,Q,e,bx,a,w,_,H,A,B=>H.elim
 | .refuse _,Q,e,bx,a,w,_,H,A,B=>H.elim
def qd (P:Program)(e:cu)(bx:bA)(h:Heap):List ResultVar->(List Value->Prop)->Prop
 | [],K=>K []
 | .tmp t::r,K=>(match jF e t with | some (.v x)=>qd P e bx h r λl=>K (x::l) | _=>False)
 | .cell t ty::r,K=>(match oF P ty,jF e t with
  | some .one,some (.lp k off)=>(match dS bx k with
   | some (_,vs)=>(match nth vs off with | some v=>qd P e bx h r λl=>K (v::l) | none=>False)
   | none=>False)
  | some (.agg n),some (.lp k off)=>(match dS bx k with
   | some (_,vs)=>(match pu n (pz off vs) with | some c=>qd P e bx h r λl=>K (.agg ⟨c⟩::l) | none=>False)
   | none=>False)
  | some .one,some (.v (.pointer (some ⟨b,off,none⟩)))=>ax none h b off λv=>qd P e bx h r λl=>K (v::l)
  | some (.agg n),some (.v (.pointer (some ⟨b,off,none⟩)))=>fq none h b off n λc=>qd P e bx h r λl=>K (.agg ⟨c⟩::l)
  | _,_=>False)
def EQ (P:Program)(e:cu)(bx:bA)(h:Heap)(K:Value->Prop)(rs:List ResultVar):Prop:=
 qd P e bx h rs λl=>match l with|[x]=>K x|l=>K (.tuple ⟨l⟩)
def yF:Nat->List Value->cu
 | _,[]=>[]
 | n,v::r=>(n,.v v)::yF (n+1) r
def Tq (P:Program)(C:aI)(rs:List ResultVar)(c:Code)(args:List Value)(h:Heap)(K:Value->Heap->Prop):Prop:=
 vc P C c (λx e bx h=>match x with|.normal=>EQ P e bx h (λv=>K v h) rs|.ret=>EQ P e bx h (λv=>K v h) rs|_=>False) (yF 0 args) [] h
theorem KM:∀ (l:List Value) (n t:Nat) (c:Core),jF (yF n l) t=some c->∃ i v,t=n+i/\l[i]?=some v/\c=.v v
 | [],n,t,c,h=>by cases h
 | v::r,n,t,c,h=>by
  simp only [yF,jF] at h;split at h
  ·rename_i hb;have:=Nat.eq_of_beq_eq_true hb;simp at h;exact ⟨0,v,by omega,by simp,h.symm⟩
  ·obtain ⟨i,v',h1,h2,h3⟩:=KM r (n+1) t c h;exact ⟨i+1,v',by omega,by simpa using h2,h3⟩
theorem Tt {P:Program}{t:TypeId}{b off:Nat}{v:Value}{w:World}(h:(Instr.loadAt t (.pointer (some ⟨b,off,none⟩))).run P w=.ok v w):(loadVar t ⟨b,off,none⟩).run P w=.ok v w:=by
 simpa [Instr.loadAt,Instr.sureAddr] using h
theorem ER {P:Program}{n:Nat}{e:cu}{bx:bA}{a:Act}{w:World}(A:pq n e bx a)(B:Boxed bx w.heap):∀ (rs:List ResultVar) (K:List Value->Prop),qd P e bx w.heap rs K ->
 ∃ l,(rs.mapM (fun|.tmp t=>pure (a.tmps.getD t undef)|.cell c t=>do loadVar t (<-asAddr (a.tmps.getD c undef)):ResultVar->Sem Value)).run P w=.ok l w/\K l
 | [],K,h=>⟨[],by simp,h⟩
 | .tmp t::r,K,h=>by
  simp only [qd] at h;split at h
  ·rename_i x hl;obtain ⟨l,h1,h2⟩:=ER A B r _ h;have hx:=(A.env t _ hl).1;refine ⟨x::l,?_,h2⟩;simp only [List.mapM_cons,Sem.run_bind,Sem.run_pure,Result.andThen_ok,h1];simp [hx,Core.val]
  ·exact h.elim
 | .cell t ty::r,K,h=>by
  simp only [qd] at h;have fin:∀ (b off:Nat) (v:Value),a.tmps[t]?=some (.pointer (some ⟨b,off,none⟩))->(Instr.loadAt ty (.pointer (some ⟨b,off,none⟩))).run P w=.ok v w->qd P e bx w.heap r (λl=>K (v::l)) ->
   ∃ l,((ResultVar.cell t ty::r).mapM (fun|.tmp t=>pure (a.tmps.getD t undef)|.cell c t=>do loadVar t (<-asAddr (a.tmps.getD c undef)):ResultVar->Sem Value)).run P w=.ok l w/\K l:=by
   intro b off v ht hv hr;obtain ⟨l,h1,h2⟩:=ER A B r _ hr;refine ⟨v::l,?_,h2⟩;simp only [List.mapM_cons,Sem.run_bind,Sem.run_pure,Result.andThen_ok];have:a.tmps.getD t undef=.pointer (some ⟨b,off,none⟩):=by simp [ht]
   rw [this];have hA:(asAddr (.pointer (some ⟨b,off,none⟩))).run P w=.ok ⟨b,off,none⟩ w:=by simp [asAddr]
   simp only [hA,Result.andThen_ok,Tt hv,h1]
  have KN:∀ k b vs,dS bx k=some (b,vs)->∀ off,Heap.cell? w.heap b off=vs[off]?:=λk b vs hb off=>by
   obtain ⟨T,hT⟩:=B.kM k b vs hb;simp [Heap.cell?,hT]
  split at h
  ·rename_i k off hl hx;split at h
   ·rename_i b vs hb;split at h
    ·rename_i v hv;rw [nN] at hv;refine fin b off v ?_ (yG hl (by rw [KN k b vs hb];exact hv)) h;have:=(A.env t _ hx).1;simpa [Core.val,uJ hb] using this
    ·exact h.elim
   ·exact h.elim
  ·rename_i n' k off hl hx;split at h
   ·rename_i b vs hb;split at h
    ·rename_i c hv;obtain ⟨h1,h2⟩:=yH _ _ _ hv;rw [yI] at h1;refine fin b off _ ?_ (Bw hl h2 (λj hj=>by rw [KN k b vs hb,h1];simp [hj])) h;have:=(A.env t _ hx).1;simpa [Core.val,uJ hb] using this
    ·exact h.elim
   ·exact h.elim
  ·rename_i b off hl hx;unfold ax at h;obtain ⟨v,hv,hK⟩:=h;exact fin b off v (by simpa [Core.val] using (A.env t _ hx).1) (yG hl hv) hK
  ·rename_i n' b off hl hx;unfold fq at h;obtain ⟨vs,hn,hv,hK⟩:=h;exact fin b off _ (by simpa [Core.val] using (A.env t _ hx).1) (Bw hl hn hv) hK
  ·exact h.elim
theorem KO {P:Program}{fn:Func}{n:Nat}{e:cu}{bx:bA}{a:Act}{w:World}{K:Value->Prop}(A:pq n e bx a)(B:Boxed bx w.heap)(h:EQ P e bx w.heap K fn.results.toList) :
 ∃ v,(results fn a.tmps).run P w=.ok v w/\K v:=by
 obtain ⟨l,h1,h2⟩:=ER A B _ _ h;have h3:(results fn a.tmps).run P w=.ok (if h:(⟨l⟩:Array Value).size=1 then (⟨l⟩:Array Value)[0] else .tuple ⟨l⟩) w:=by
  unfold results;simp only [Sem.run_bind];rw [Array.mapM_eq_mapM_toList];simp only [Sem.run_map]
  erw [h1]
  rfl
 refine ⟨_,h3,?_⟩
 match l,h2 with
 | [],h2=>exact h2
 | [x],h2=>exact h2
 | x::y::r,h2=>simpa using h2
theorem aG {P:Program}(hm:P.follows .mixedOrders=true){f:Nat}{fn:Func}{c:Code}{C:aI}(hf:P.funcs[f]?=some fn)(hb:fn.body=some c)
 (hok:aJ P C fn.ntmps c=true) {args:List Value} (hlen:args.length<=fn.ntmps) {h:Heap} {K:Value->Heap->Prop} (H:Tq P C fn.results.toList c args h K):aC P f args h K:=by
 intro w hw;subst hw;refine calls_of_wp hf hb (wp_mono (sH hm c _ (yF 0 args) [] _ w hok H ⟨?_,rfl,λt cr hl=>?_⟩ ⟨λk b vs hk=>(by cases hk),λk k' b b' vs vs' hk=>(by cases hk),trivial⟩) λz a' w' hq=>?_)
 ·simp;omega
 ·obtain ⟨i,v,rfl,hi,rfl⟩:=KM args 0 t cr hl;refine ⟨?_,trivial⟩;have hlt:i<args.length:=by
   rcases Nat.lt_or_ge i args.length with h|h
   ·exact h
   ·simp [List.getElem?_eq_none h] at hi
  simp [Array.getElem?_append,hlt,Core.val];simpa [hlt] using hi
 ·obtain ⟨h1,e',bx',A',B',hs,hK⟩:=hq;cases z with
  | normal=>
   obtain ⟨v,hv,hK⟩:=KO (P:=P) (w:=w') A' B' hK;exact ⟨A'.defers,v,hv,v,rfl,hs,hK⟩
  | ret=>
   obtain ⟨v,hv,hK⟩:=KO (P:=P) (w:=w') A' B' hK;exact ⟨A'.defers,v,hv,v,rfl,hs,hK⟩
  | exit id=>exact hK.elim
  | goto l=>exact h1.elim
  | panic ch=>exact h1.elim
  | outgrown=>exact h1.elim
structure Keeps (M:List Nat)(h h':Heap):Prop where
 size:h.size<=h'.size
 same:∀ b,b<h.size->b∉M->h'[b]?=h[b]?
theorem Keeps.refl (M:List Nat)(h:Heap):Keeps M h h:=⟨Nat.le_refl _,λ_ _ _=>rfl⟩
theorem Keeps.trans {M:List Nat}{a b c:Heap}(h:Keeps M a b)(h':Keeps M b c):Keeps M a c:=
 ⟨Nat.le_trans h.size h'.size,λi hi hm=>(h'.same i (Nat.lt_of_lt_of_le hi h.size) hm).trans (h.same i hi hm)⟩
theorem Keeps.mono {M M':List Nat}{a b:Heap}(h:Keeps M a b)(hm:∀ x∈M,x∈M'):Keeps M' a b:=
 ⟨h.size,λi hi hn=>h.same i hi λhx=>hn (hm i hx)⟩
theorem Keeps.gQ {M M':List Nat}{a b c:Heap}(h:Keeps M a b)(h':Keeps M' b c)(hm:∀ x∈M',x∈M\/a.size<=x):Keeps M a c:=
 ⟨Nat.le_trans h.size h'.size,λi hi hn=>(h'.same i (Nat.lt_of_lt_of_le hi h.size) λhx=>by rcases hm i hx with h1|h1;exact hn h1;omega).trans (h.same i hi hn)⟩
theorem Keeps.bS {M:List Nat}{a b c:Heap}(h:Keeps M a b)(h':Keeps [] b c):Keeps M a c:=h.gQ h' (by simp)
theorem vU {h:Heap}{b o:Nat}{v:Value}(hc:Heap.cell? h b o=some v):b<h.size:=by
 unfold Heap.cell? at hc;rcases Nat.lt_or_ge b h.size with h1|h1
 ·exact h1
 ·simp [Array.getElem?_eq_none h1] at hc
theorem eU {h:Heap}{b:Nat}{o:Obj}(hc:h[b]?=some o):b<h.size:=by
 rcases Nat.lt_or_ge b h.size with h1|h1
 ·exact h1
 ·simp [Array.getElem?_eq_none h1] at hc
theorem Keeps.obj {M:List Nat}{h h':Heap}(k:Keeps M h h'){b:Nat}{o:Obj}(hc:h[b]?=some o)(hb:b∉M):h'[b]?=some o:=by
 rw [k.same b (eU hc) hb];exact hc
theorem Keeps.cell {M:List Nat}{h h':Heap}(k:Keeps M h h'){b o:Nat}{v:Value}(hc:Heap.cell? h b o=some v)(hb:b∉M):Heap.cell? h' b o=some v:=by
 have:=vU hc;unfold Heap.cell? at hc ⊢;rw [k.same b this hb];exact hc
theorem sD (h:Heap)(o:Obj):Keeps [] h (h.push o):=⟨by simp,λb hb _=>by rw [jk,if_neg (by omega)]⟩
theorem ax.i {c:Option Bool}{h:Heap}{b off:Nat}{K:Value->Prop}{v:Value}(hv:Heap.cell? h b off=some v)(hK:K v):ax c h b off K:=by
 unfold ax;exact ⟨v,lY hv,hK⟩
theorem ax.u {p:Bool}{h:Heap}{b off:Nat}{K:Value->Prop}(v:Value)(hv:p=true->Heap.cell? h b off=some v)(hK:K v):ax (some p) h b off K:=by
 unfold ax;exact ⟨v,hv,hK⟩
theorem fq.i {c:Option Bool}{h:Heap}{b off n:Nat}{K:List Value->Prop}{vs:List Value}(hn:vs.length=n)(hv:∀ i,i<n->Heap.cell? h b (off+i)=vs[i]?)(hK:K vs):fq c h b off n K:=by
 unfold fq;exact ⟨vs,hn,lY hv,hK⟩
theorem fq.u {p:Bool}{h:Heap}{b off n:Nat}{K:List Value->Prop}(vs:List Value)(hn:vs.length=n)(hv:p=true->∀ i,i<n->Heap.cell? h b (off+i)=vs[i]?)(hK:K vs):fq (some p) h b off n K:=by
 unfold fq;exact ⟨vs,hn,hv,hK⟩
theorem dO.i {c:Option Bool}{i:Int}{n:Nat}{K:Nat->Prop}(j:Nat)(h1:i=(j:Int))(h2:j<n)(hK:K j):dO c i n K:=by
 unfold dO;exact ⟨j,lY ⟨h1,h2⟩,hK⟩
theorem dO.u {p:Bool}{i:Int}{n:Nat}{K:Nat->Prop}(j:Nat)(h:p=true->i=(j:Int)/\j<n)(hK:K j):dO (some p) i n K:=by
 unfold dO;exact ⟨j,h,hK⟩
theorem aX.i {c:Option Bool}{i:Int}{n:Nat}{a:Option Addr}{s:Nat}{K:Nat->Nat->Prop}(j:Nat){b off:Nat}(h1:i=(j:Int))(h2:j<n)(h3:a=some ⟨b,off,none⟩)(hK:K b (off+j*s)):aX c i n a s K:=by
 unfold aX;exact ⟨j,b,off,lY ⟨h1,h2,h3⟩,hK⟩
theorem aX.u {p:Bool}{i:Int}{n:Nat}{a:Option Addr}{s:Nat}{K:Nat->Nat->Prop}(j b off:Nat)(h:p=true->i=(j:Int)/\j<n/\a=some ⟨b,off,none⟩)(hK:K b (off+j*s)):aX (some p) i n a s K:=by
 unfold aX;exact ⟨j,b,off,h,hK⟩
theorem dw.i {c:Option Bool}{lo hi:Int}{cap:Nat}{K:Nat->Nat->Prop}(l r:Nat)(h1:lo=(l:Int))(h2:hi=(r:Int))(h3:l<=r)(h4:r<=cap)(hK:K l r):dw c lo hi cap K:=by
 unfold dw;exact ⟨l,r,lY ⟨h1,h2,h3,h4⟩,hK⟩
theorem dw.u {p:Bool}{lo hi:Int}{cap:Nat}{K:Nat->Nat->Prop}(l r:Nat)(h:p=true->lo=(l:Int)/\hi=(r:Int)/\l<=r/\r<=cap)(hK:K l r):dw (some p) lo hi cap K:=by
 unfold dw;exact ⟨l,r,h,hK⟩
theorem dL.i {c:Option Bool}{p K:Prop}(hp:p)(hK:K):dL c p K:=by unfold dL;exact ⟨lY hp,hK⟩
theorem dL.u {q:Bool}{p K:Prop}(hp:q=true->p)(hK:K):dL (some q) p K:=by unfold dL;exact ⟨hp,hK⟩
theorem iO.i {c:Option Bool}{vs:List Value}{i:Nat}{K:Value->Prop}{v:Value}(hv:vs[i]?=some v)(hK:K v):iO c vs i K:=by unfold iO;exact ⟨v,lY hv,hK⟩
theorem iO.u {q:Bool}{vs:List Value}{i:Nat}{K:Value->Prop}(v:Value)(hv:q=true->vs[i]?=some v)(hK:K v):iO (some q) vs i K:=by unfold iO;exact ⟨v,hv,hK⟩
theorem gJ.i {c:Option Bool}{P:Program}{s:Sem Value}{K:Value->Prop}{v:Value}(hv:∀ w:World,s.run P w=.ok v w)(hK:K v):gJ c P s K:=by unfold gJ;exact ⟨v,lY hv,hK⟩
theorem gL.i {c:Option Bool}{h:Heap}{kd:TypeDesc}{r:Nat}{k:Value}{K:Option Value->Prop}{o:Option Value}
 (hv:∃ es cl,h[r]?=some (.map es cl)/\((Instr.findNow kd k es.toList 0).map λx=>x.map (·.2))=some o) (hK:K o):gL c h kd r k K:=by unfold gL;exact ⟨o,lY hv,hK⟩
theorem sF.i {c:Option Bool}{h:Heap}{r:Nat}{K:Nat->Prop}{n:Nat}(hv:∃ es cl,h[r]?=some (.map es cl)/\es.size=n)(hK:K n):sF c h r K:=by unfold sF;exact ⟨n,lY hv,hK⟩
theorem aL.i {h:Heap}{o:Obj}{K:Nat->Heap->Prop}(H:∀ b h',b=h.size->h'.size=h.size+1->h'[b]?=some o->Keeps [] h h'->K b h'):aL h o K:=by
 unfold aL;rintro b h' rfl rfl;exact H _ _ rfl (by simp) (by rw [jk,if_pos rfl]) (sD h o)
theorem aK.i {h:Heap}{b:Nat}{K:Heap->Prop}(H:∀ h',h'.size=h.size->Keeps [b] h h'->K h'):aK h b K:=by
 unfold aK;exact λh' h1 h2=>H h' h1 ⟨by omega,λb' _ hn=>h2 b' (by simpa using hn)⟩
theorem dN.i {h:Heap}{b off:Nat}{vs:List Value}{bs:List Nat}{K:Heap->Prop}{c:List Value}{T:TypeId}(hb:h[b]?=some (.cells ⟨c⟩ T (0,0)))(hl:off+vs.length<=c.length)(hn:b∉bs)
 (H:∀ h',h'.size=h.size->h'[b]?=some (.cells ⟨bF off vs c⟩ T (0,0))->Keeps [b] h h'->K h'):dN h b off vs bs K:=by
 unfold dN;exact ⟨c,T,hb,hl,hn,λh' h1 h2 h3=>H h' h1 h2 ⟨by omega,λb' _ hn=>h3 b' (by simpa using hn)⟩⟩
theorem aj.i {c:Bool}{A B:Prop}(h1:c=true->A)(h2:c=false->B):aj c A B:=by unfold aj;exact ⟨h1,h2⟩
theorem aj.t {c:Bool}{A B:Prop}(hc:c=true)(h:A):aj c A B:=by unfold aj;exact ⟨λ_=>h,λh'=>(by rw [hc] at h';cases h')⟩
theorem aj.f {c:Bool}{A B:Prop}(hc:c=false)(h:B):aj c A B:=by unfold aj;exact ⟨λh'=>(by rw [hc] at h';cases h'),λ_=>h⟩
theorem aV.pass {first:Post->cu->bA->Heap->Prop}{rest:cu->bA->Heap->Prop}{Q:Post}{e:cu}{bx:bA}{h:Heap}
 (H:first (λx e bx h=>match x with|.normal=>rest e bx h|x=>Q x e bx h) e bx h):aV first rest Q e bx h:=by unfold aV;exact H
theorem bP.i {body:Post->cu->bA->Heap->Prop}{Q:Post}{e:cu}{bx:bA}{h:Heap}(L B:List Nat)(I:Nat->cu->bA->Heap->Prop)(d:Nat)
 (h0:qY L B e bx λe bx=>I d e bx h)
 (h1:∀ d e bx h,I d e bx h->body (λx e bx h=>match x with
  | .normal=>∃ d',d'<d/\qY L B e bx λe bx=>I d' e bx h
  | x=>Q x e bx h) e bx h):bP body Q e bx h:=by
 unfold bP;exact ⟨L,B,I,⟨d,h0⟩,h1⟩
theorem ak.i {P:Program}{f:Nat}{args:List Value}{bs:List Nat}{h:Heap}{K:Value->Heap->Prop}{R:Value->Heap->Prop}
 (hc:aC P f args h λv h'=>Keeps [] h h'/\R v h') (hK:∀ v h',Keeps [] h h'->R v h'->K v h'):ak P f args bs h K:=by
 unfold ak;intro hb w hw;refine (hc w hw).mono λe w' he=>?_;obtain ⟨v,h1,h2,h3,h4⟩:=he;exact ⟨v,h1,h2,λb hb'=>h3.same b (hb b hb') (by simp),hK v _ h3 h4⟩
theorem ak.m {P:Program}{f:Nat}{args:List Value}{bs:List Nat}{h:Heap}{K:Value->Heap->Prop}{R:Value->Heap->Prop}{M:List Nat}
 (hc:aC P f args h λv h'=>Keeps M h h'/\R v h') (hM:∀ b∈bs,b∉M) (hK:∀ v h',Keeps M h h'->R v h'->K v h'):ak P f args bs h K:=by
 unfold ak;intro hb w hw;refine (hc w hw).mono λe w' he=>?_;obtain ⟨v,h1,h2,h3,h4⟩:=he;exact ⟨v,h1,h2,λb hb'=>h3.same b (hb b hb') (hM b hb'),hK v _ h3 h4⟩
theorem aC.mono {P:Program}{f:Nat}{args:List Value}{h:Heap}{R R':Value->Heap->Prop}(hc:aC P f args h R)(hR:∀ v h',R v h'->R' v h'):aC P f args h R':=by
 intro w hw;refine (hc w hw).mono λe w' he=>?_;obtain ⟨v,h1,h2,h3⟩:=he;exact ⟨v,h1,h2,hR v _ h3⟩
end Go.aN
namespace Go.aN
open Go Go.RowKit Go.Deep
class Rp (α:Type) where
 n:Nat
 iA:Heap->List Value->α->Prop
 len:∀ {h vs x},iA h vs x->vs.length=n
 keep:∀ {h h' vs x},Keeps [] h h'->iA h vs x->iA h' vs x
abbrev iA {α:Type}[Rp α](h:Heap)(vs:List Value)(x:α):Prop:=Rp.iA h vs x
def inI64 (x:Int):Prop := -9223372036854775808<=x/\x<=9223372036854775807
instance:Rp Int where
 n:=1
 iA _ vs x:=vs=[.int .i64 x]/\inI64 x
 len h:=by rw [h.1];rfl
 keep _ h:=h
instance:Rp Bool where
 n:=1
 iA _ vs x:=vs=[.bool x]
 len h:=by rw [h];rfl
 keep _ h:=h
def lK (s:ByteArray):Prop:=s.size<=140737488351232
instance:Rp ByteArray where
 n:=1
 iA _ vs x:=vs=[.string x]/\lK x
 len h:=by rw [h.1];rfl
 keep _ h:=h
def qo (h:Heap)(b off:Nat)(cs:List Value):Prop:=∀ j,j<cs.length->Heap.cell? h b (off+j)=cs[j]?
theorem qo.keep {h h':Heap}(k:Keeps [] h h'){b off:Nat}{cs:List Value}(hc:qo h b off cs):qo h' b off cs:=λj hj=>by
 have h1:=hc j hj;have h2:cs[j]?=some cs[j]:=by simp [hj]
 rw [h2] at h1 ⊢;exact k.cell h1 (by simp)
structure Sl {α:Type}[Rp α](h:Heap)(a:Option Addr)(len cap:Nat)(xs:List α):Prop where
 hlen:len=xs.length
 hcap:len<=cap
 hbig:xs.length<=281474976710656
 at_:∀ i (hi:i<xs.length),∃ b off,a=some ⟨b,off,none⟩/\∃ cs,iA h cs xs[i]/\qo h b (off+i*Rp.n α) cs
theorem Sl.keep {α:Type}[Rp α]{h h':Heap}{a:Option Addr}{len cap:Nat}{xs:List α}(k:Keeps [] h h')(s:Sl h a len cap xs):Sl h' a len cap xs:=
 ⟨s.hlen,s.hcap,s.hbig,λi hi=>let ⟨b,off,ha,cs,hr,hc⟩:=s.at_ i hi;⟨b,off,ha,cs,Rp.keep k hr,hc.keep k⟩⟩
instance {α:Type} [Rp α]:Rp (List α) where
 n:=1
 iA h vs x:=∃ a len cap,vs=[.slice a len cap]/\Sl h a len cap x
 len h:=by obtain ⟨_,_,_,h,_⟩:=h;rw [h];rfl
 keep k h:=by obtain ⟨a,l,c,h1,h2⟩:=h;exact ⟨a,l,c,h1,h2.keep k⟩
theorem Ow {α:Type}[Rp α]{h:Heap}{a:Option Addr}{len cap:Nat}{xs:List α}:iA h [.slice a len cap] xs↔Sl h a len cap xs:=by
 constructor
 ·rintro ⟨a',l',c',h1,h2⟩;simp at h1;obtain ⟨rfl,rfl,rfl⟩:=h1;exact h2
 ·exact λh=>⟨a,len,cap,rfl,h⟩
theorem Sl.nil {α:Type}[Rp α]{h:Heap}{a:Option Addr}{cap:Nat}:Sl h a 0 cap ([]:List α):=
 ⟨rfl,Nat.zero_le _,by simp,λi hi=>absurd hi (by simp)⟩
theorem Sl.part {α:Type}[Rp α]{h:Heap}{a:Option Addr}{len cap:Nat}{xs:List α}(s:Sl h a len cap xs){l r:Nat}(h1:l<=r)(h2:r<=len) :
 Sl h (jh a cap l (Rp.n α)) (r-l) (cap-l) ((xs.take r).drop l):=by
 have hl:=s.hlen;have hc:=s.hcap;have hb:=s.hbig;refine ⟨by simp;omega,by omega,by simp;omega,λi hi=>?_⟩;have hi':i<r-l:=by simp at hi;omega
 obtain ⟨b,off,ha,cs,hr,hcs⟩:=s.at_ (l+i) (by omega);refine ⟨b,off+l*Rp.n α,?_,cs,?_,?_⟩
 ·subst ha;simp only [jh];rw [if_neg (by omega)];simp [addr_add]
 ·simpa using hr
 ·rw [show off+l*Rp.n α+i*Rp.n α=off+(l+i)*Rp.n α by rw [Nat.add_mul];omega];exact hcs
section
variable {H:Type} {enc:TypeId×Value->H} {P:Program} {W:World} {sp:Nat->Bool} {held:Bool}
def Opens (enc:TypeId×Value->H)(P:Program)(W:World)(sp:Nat->Bool)(held:Bool)(t:TypeId)(α:Type)[Rp α]:Prop:=
 ∀ fuel cs x,DataW.trod enc P W 0 sp held fuel t cs=some x->(∀ m∈x.1.weights P t,m<=reachBytes)->∃ y:α,iA W.heap cs y
theorem LD {e:TypeId}:∀ (l:List (DataW H)) (d:DataW H),d∈l->∀ m∈d.weights P e,m∈DataW.weightsAll P e l
 | [],d,h,_,_=>by cases h
 | x::r,d,h,m,hm=>by
  simp only [DataW.weightsAll,List.mem_append];simp only [List.mem_cons] at h;rcases h with rfl|h
  ·exact .inl hm
  ·exact .inr (LD r d h m hm)
theorem FM {w:World}{a:Addr}{n:Nat}{cs:List Value}(h:w.cells? 0 a n=some cs)(hn:0<n):∃ b off,a=⟨b,off,none⟩/\cs.length=n/\qo w.heap b off cs:=by
 unfold World.cells? at h;rw [if_pos (Nat.zero_le _)] at h;have key:∀ (l:List Nat) (cs:List Value),l.mapM (λi=>w.cell? (a.add i))=some cs->cs.length=l.length/\∀ j (hj:j<l.length),w.cell? (a.add l[j])=cs[j]?:=by
  intro l
  induction l with
  | nil=>intro cs h;simp at h;subst h;simp
  | cons i l ih=>
   intro cs h;simp only [List.mapM_cons,Option.bind_eq_bind] at h;cases hv:w.cell? (a.add i) with
   | none=>rw [hv] at h;simp at h
   | some v=>
    rw [hv] at h;simp only [Option.bind_some] at h;cases hr:l.mapM (λi=>w.cell? (a.add i)) with
    | none=>rw [hr] at h;simp at h
    | some r=>
     rw [hr] at h;simp at h;subst h;obtain ⟨h1,h2⟩:=ih r hr;refine ⟨by simp [h1],λj hj=>?_⟩;cases j with
     | zero=>simpa using hv
     | succ j=>simpa using h2 j (by simpa using hj)
 obtain ⟨h1,h2⟩:=key _ _ h;simp at h1;obtain ⟨b,off,spot⟩:=a;have h0:=h2 0 (by simpa using hn);have hsp:spot=none:=by
  cases spot with
  | none=>rfl
  | some s=>
   exfalso;have:cs[0]?=some cs[0]:=by simp [h1,hn]
   rw [this] at h0;simp only [List.getElem_range,Addr.add,if_true] at h0;unfold World.cell? at h0;split at h0 <;> simp at h0
 subst hsp;refine ⟨b,off,rfl,h1,λj hj=>?_⟩;have:=h2 j (by simp;omega);simp only [List.getElem_range,addr_add,uM] at this;exact this
theorem Uc {t e:TypeId}{α:Type}[Rp α](ht:P.underlying t=some (.slice e))(hn:P.cellsOf e=Rp.n α)(hpos:0<Rp.n α)(hby:0<P.bytesOf e)(he:Opens enc P W sp held e α):Opens enc P W sp held t (List α):=by
 intro fuel cs x h hw;rcases open_slice ht h with ⟨rfl,_⟩|⟨a,len,cap,m,n,D,Pl,rfl,_,hl,hm,rfl,hx,hel⟩
 ·exact ⟨[],none,0,0,rfl,Sl.nil⟩
 ·have hlen:len*P.bytesOf e<=reachBytes:=by
   have h1:=hw ((((List.range len).map D).length+((List.range ((if sp a.block then cap else len)-len)).map λj=>D (len+j)).length)*P.bytesOf e) (by
    rw [hx];unfold DataW.weights;simp only [ht];exact List.mem_cons_self)
   simp only [List.length_map,List.length_range] at h1;refine Nat.le_trans (Nat.mul_le_mul_right _ ?_) h1;omega
  have hlen':len<=reachBytes:=Nat.le_trans (Nat.le_mul_of_pos_right _ hby) hlen;have hwt:∀ i,i<len->∀ m∈(D i).weights P e,m<=reachBytes:=λi hi m hm=>hw m (by
   rw [hx];unfold DataW.weights;simp only [ht];refine List.mem_cons_of_mem _ (List.mem_append_left _ (LD _ (D i) ?_ m hm));exact List.mem_map.2 ⟨i,by simpa using hi,rfl⟩)
  have hex:∀ i,i<len->∃ y:α,∃ b off,a=⟨b,off,none⟩/\∃ cs,iA W.heap cs y/\qo W.heap b (off+i*Rp.n α) cs:=λi hi=>by
   obtain ⟨cs',h1,h2⟩:=hel i (by split <;> omega);obtain ⟨y,hy⟩:=he _ _ _ h2 (hwt i hi);rw [hn] at h1;obtain ⟨b,off,h3,h4,h5⟩:=FM h1 hpos;refine ⟨y,b,off-i*Rp.n α,?_,cs',hy,?_⟩
   ·obtain ⟨ab,ao,asp⟩:=a;unfold Addr.add at h3;split at h3
    ·rename_i h0;simp at h3;obtain ⟨rfl,rfl,rfl⟩:=h3;simp [h0]
    ·rename_i h0;simp at h3;obtain ⟨rfl,rfl⟩:=h3;have:asp=none:=by
      obtain ⟨cs0,h10,_⟩:=hel 0 (by split <;> omega);rw [hn] at h10;obtain ⟨b0,o0,h30,_,_⟩:=FM h10 hpos;simp [Addr.add] at h30;exact h30.2.2
     subst this;simp
   ·have:i*Rp.n α<=off:=by
     obtain ⟨ab,ao,asp⟩:=a;unfold Addr.add at h3;split at h3
     ·omega
     ·simp at h3;omega
    rw [show off-i*Rp.n α+i*Rp.n α=off by omega];exact h5
  have build:∀ k,k<=len->∃ ys:List α,ys.length=k/\∀ i (hi:i<ys.length),∃ b off,a=⟨b,off,none⟩/\∃ cs,iA W.heap cs ys[i]/\qo W.heap b (off+i*Rp.n α) cs:=by
   intro k
   induction k with
   | zero=>intro _;exact ⟨[],rfl,λi hi=>absurd hi (by simp)⟩
   | succ k ih=>
    intro hk;obtain ⟨ys,h1,h2⟩:=ih (by omega);obtain ⟨y,hy⟩:=hex k (by omega);refine ⟨ys++[y],by simp [h1],λi hi=>?_⟩;by_cases hik:i<ys.length
    ·simp only [List.getElem_append_left hik];exact h2 i hik
    ·have:i=k:=by simp at hi;omega
     subst this;have hg:(ys++[y])[i]=y:=by simp [List.getElem_append,hik]
     rw [hg];exact hy
  obtain ⟨ys,h1,h2⟩:=build len (Nat.le_refl _);refine ⟨ys,some a,len,cap,rfl,h1.symm,hl,by rw [h1];unfold reachBytes at hlen';omega,λi hi=>?_⟩;obtain ⟨b,off,rfl,cs,h3,h4⟩:=h2 i hi;exact ⟨b,off,rfl,cs,h3,h4⟩
set_option maxRecDepth 100000 in
theorem wY {t:TypeId}(ht:P.underlying t=some .string):Opens enc P W sp held t ByteArray:=by
 intro fuel cs x h hw;cases fuel with
 | zero=>simp [DataW.trod] at h
 | succ fuel=>
  match cs,h with
  | [],h=>simp [DataW.trod,ht] at h
  | _::_::_,h=>simp [DataW.trod,ht] at h
  | [c],h=>
   have hs:∃ s,c=.string s/\x=(.lit (.string s.data.toList),[]):=by
    cases c
    case string s=>
     unfold DataW.trod at h;simp only [ht] at h;split at h
     ·exact ⟨s,rfl,(Option.some.inj h).symm⟩
     ·cases h
    all_goals (simp [DataW.trod,ht] at h)
   obtain ⟨s,rfl,rfl⟩:=hs;refine ⟨s,rfl,?_⟩;have:=hw s.data.toList.length (by unfold DataW.weights;exact List.mem_cons_self);unfold lK;unfold reachBytes at this;have hsz:s.data.toList.length=s.size:=Array.length_toList;omega
theorem FN {t:TypeId}(ht:P.underlying t=some (.int .i64)):Opens enc P W sp held t Int:=by
 intro fuel cs x h _;cases fuel with
 | zero=>simp [DataW.trod] at h
 | succ fuel=>
  match cs,h with
  | [],h=>simp [DataW.trod,ht] at h
  | _::_::_,h=>simp [DataW.trod,ht] at h
  | [c],h=>
   cases c <;> simp [DataW.trod,ht] at h;rename_i k n;obtain ⟨⟨rfl,hwf⟩,_⟩:=h;refine ⟨n,rfl,?_⟩;simp [Lit.wf,IntKind.min,IntKind.max,IntKind.bits,IntKind.signed] at hwf;unfold inI64;omega
theorem Ud {t:TypeId}{fs:Array Field}{fuel:Nat}{cs:List Value}{x:DataW H×List MemPlace}(ht:P.underlying t=some (.struct fs))(h:DataW.trod enc P W 0 sp held fuel t cs=some x)
 (hw:∀ m∈x.1.weights P t,m<=reachBytes) :
 cs.length=P.cellsOf t/\∃ fuel',∀ f∈fs.toList,∃ y,DataW.trod enc P W 0 sp held fuel' f.type ((cs.drop f.offset).take (P.cellsOf f.type))=some y/\∀ m∈y.1.weights P f.type,m<=reachBytes:=by
 cases fuel with
 | zero=>simp [DataW.trod] at h
 | succ fuel=>
  have h':(if cs.length=P.cellsOf t then (fs.toList.mapM λf=>DataW.trod enc P W 0 sp held fuel f.type ((cs.drop f.offset).take (P.cellsOf f.type))).map λxs=>(DataW.agg (xs.map (·.1)),xs.flatMap (·.2)) else none)=some x:=by
   rw [<-h]
   conv=>rhs;unfold DataW.trod
   simp only [ht]
  split at h'
  ·rename_i hl;refine ⟨hl,fuel,?_⟩;simp only [Option.map_eq_some_iff] at h';obtain ⟨xs,hxs,hx⟩:=h';have hw':∀ m∈DataW.weightsEach P (fs.toList.map (·.type)) (xs.map (·.1)),m<=reachBytes:=λm hm=>hw m (by
    rw [<-hx];unfold DataW.weights;simp only [ht];exact hm)
   have key:∀ (l:List Field) (xs:List (DataW H×List MemPlace)),l.mapM (λf=>DataW.trod enc P W 0 sp held fuel f.type ((cs.drop f.offset).take (P.cellsOf f.type)))=some xs ->
    (∀ m∈DataW.weightsEach P (l.map (·.type)) (xs.map (·.1)),m<=reachBytes) ->
    ∀ f∈l,∃ y,DataW.trod enc P W 0 sp held fuel f.type ((cs.drop f.offset).take (P.cellsOf f.type))=some y/\∀ m∈y.1.weights P f.type,m<=reachBytes:=by
    intro l
    induction l with
    | nil=>intro xs _ _ f hf;cases hf
    | cons g l ih=>
     intro xs hx hw f hf;simp only [List.mapM_cons,Option.bind_eq_bind] at hx;cases hv:DataW.trod enc P W 0 sp held fuel g.type ((cs.drop g.offset).take (P.cellsOf g.type)) with
     | none=>rw [hv] at hx;simp at hx
     | some v=>
      rw [hv] at hx;simp only [Option.bind_some] at hx;cases hr:l.mapM (λf=>DataW.trod enc P W 0 sp held fuel f.type ((cs.drop f.offset).take (P.cellsOf f.type))) with
      | none=>rw [hr] at hx;simp at hx
      | some r=>
       rw [hr] at hx;simp at hx;subst hx;simp only [List.map_cons,DataW.weightsEach,List.mem_append] at hw;simp only [List.mem_cons] at hf;rcases hf with rfl|hf
       ·exact ⟨v,hv,λm hm=>hw m (.inl hm)⟩
       ·exact ih r hr (λm hm=>hw m (.inr hm)) f hf
   exact key _ _ hxs hw'
  ·cases h'
end
theorem OD {w w':World}(k:Keeps [] w.heap w'.heap)(s:dG w w'):Below w.heap.size w w':=
 ⟨s.1,s.2.2,s.2.1,k.size,λb hb=>k.same b hb (by simp)⟩
end Go.aN
namespace Go.aN
open Go
theorem bP.on {σ:Type}{body:Post->cu->bA->Heap->Prop}{Q:Post}{e:cu}{bx:bA}{h:Heap}(L B:List Nat)(env:σ->cu)(BX:σ->bA)(inv:σ->Heap->Prop)(m:σ->Nat)(s0:σ)
 (h0:qY L B e bx λe' bx'=>∃ s,m s=m s0/\e'=env s/\bx'=BX s/\inv s h)
 (h1:∀ s h,inv s h->body (λx e bx h=>match x with
  | .normal=>∃ d',d'<m s/\qY L B e bx λe bx=>∃ s',m s'=d'/\e=env s'/\bx=BX s'/\inv s' h
  | x=>Q x e bx h) (env s) (BX s) h):bP body Q e bx h:=by
 refine bP.i L B (λd e bx h=>∃ s,m s=d/\e=env s/\bx=BX s/\inv s h) (m s0) h0 ?_;rintro d e bx h ⟨s,rfl,rfl,rfl,hs⟩;exact h1 s h hs
theorem dR {x:Int}(h1 : -9223372036854775808<=x)(h2:x<=9223372036854775807):IntKind.i64.wrap x=x:=by
 rw [IntKind.wrap_i64];omega
theorem wrapN {x:Int}{n:Nat}(h:x=(n:Int))(h2:n<=9223372036854775807):IntKind.i64.wrap x=(n:Int):=by
 subst h;exact dR (by omega) (by omega)
theorem yg (a b:ByteArray):(a.toList==b.toList)=decide (a=b):=by
 rw [ByteArray.toList_eq,ByteArray.toList_eq];have:(a.data.toList=b.data.toList)↔a=b:=⟨λh=>by cases a;cases b;congr;exact Array.toList_inj.1 h,λh=>by rw [h]⟩;by_cases h:a=b
 ·subst h;simp
 ·have h':¬ a.data.toList=b.data.toList:=λe=>h (this.1 e);rw [decide_eq_false h];exact beq_eq_false_iff_ne.2 h'
theorem Ub (a b:Int):(a==b)=decide (a=b):=rfl
theorem dm (a b:Bool):(bif a then true else b)=(a||b):=by cases a <;> rfl
theorem dJ (a b:Bool):(bif a then b else false)=(a&&b):=by cases a <;> rfl
def ay:Option Addr->List Nat
 | none=>[]
 | some a=>[a.block]
def Own (h:Heap)(e:TypeId)(sz:Nat)(a:Option Addr)(len cap:Nat)(l:List Value):Prop:=
 (a=none/\len=0/\cap=0/\l=[]) \/
 ∃ b c,a=some ⟨b,0,none⟩/\h[b]?=some (.cells ⟨c⟩ e (0,0))/\c.take l.length=l/\c.length=cap*sz/\l.length=len*sz/\len<=cap
theorem Own.keep {h h':Heap}{M:List Nat}{e:TypeId}{sz:Nat}{a:Option Addr}{len cap:Nat}{l:List Value}(o:Own h e sz a len cap l)(k:Keeps M h h')(hm:∀ b∈ay a,b∉M):Own h' e sz a len cap l:=by
 rcases o with o|⟨b,c,h1,h2,h3⟩
 ·exact .inl o
 ·exact .inr ⟨b,c,h1,k.obj h2 (hm b (by simp [h1,ay])),h3⟩
theorem Own.nil (h:Heap)(e:TypeId)(sz:Nat):Own h e sz none 0 0 []:=.inl ⟨rfl,rfl,rfl,rfl⟩
theorem Own.lt {h:Heap}{e:TypeId}{sz:Nat}{a:Option Addr}{len cap:Nat}{l:List Value}(o:Own h e sz a len cap l):∀ b∈ay a,b<h.size:=by
 intro b hb;rcases o with ⟨rfl,_⟩|⟨b',c,rfl,h2,_⟩
 ·cases hb
 ·simp [ay] at hb;subst hb;exact eU h2
def iR {α:Type}[Rp α](h:Heap):List Value->List α->Prop
 | l,[]=>l=[]
 | l,x::xs=>∃ cs r,l=cs++r/\iA h cs x/\iR h r xs
theorem iR.snoc {α:Type}[Rp α]{h:Heap}:∀ {xs:List α} {l:List Value} {cs:List Value} {x:α},iR h l xs->iA h cs x->iR h (l++cs) (xs++[x])
 | [],l,cs,x,h1,h2=>by
  simp only [iR] at h1;subst h1;exact ⟨cs,[],by simp,h2,rfl⟩
 | y::ys,l,cs,x,h1,h2=>by
  obtain ⟨c,r,rfl,h3,h4⟩:=h1;exact ⟨c,r++cs,by simp,h3,iR.snoc h4 h2⟩
theorem iR.len {α:Type}[Rp α]{h:Heap}:∀ {xs:List α} {l:List Value},iR h l xs->l.length=xs.length*Rp.n α
 | [],l,h1=>by simp only [iR] at h1;subst h1;simp
 | y::ys,l,h1=>by
  obtain ⟨c,r,rfl,h3,h4⟩:=h1;rw [List.length_append,Rp.len h3,h4.len,List.length_cons,Nat.add_mul];omega
theorem iR.keep {α:Type}[Rp α]{h h':Heap}(k:Keeps [] h h'):∀ {xs:List α} {l:List Value},iR h l xs->iR h' l xs
 | [],l,h1=>h1
 | y::ys,l,h1=>by
  obtain ⟨c,r,rfl,h3,h4⟩:=h1;exact ⟨c,r,rfl,Rp.keep k h3,h4.keep k⟩
theorem iR.at_ {α:Type}[Rp α]{h:Heap}:∀ {xs:List α} {l:List Value},iR h l xs->∀ i (hi:i<xs.length),∃ cs,iA h cs xs[i]/\∀ j,j<cs.length->l[i*Rp.n α+j]?=cs[j]?
 | [],l,h1,i,hi=>absurd hi (by simp)
 | y::ys,l,h1,0,hi=>by
  obtain ⟨c,r,rfl,h3,h4⟩:=h1;exact ⟨c,h3,λj hj=>by rw [Nat.zero_mul,Nat.zero_add,List.getElem?_append_left hj]⟩
 | y::ys,l,h1,i+1,hi=>by
  obtain ⟨c,r,rfl,h3,h4⟩:=h1;obtain ⟨cs,h5,h6⟩:=h4.at_ i (by simpa using hi);refine ⟨cs,h5,λj hj=>?_⟩;have:=Rp.len h3;rw [Nat.add_mul,Nat.one_mul,List.getElem?_append_right (by omega),<-h6 j hj]
  congr 1;omega
theorem Own.sl {α:Type}[Rp α]{h:Heap}{e:TypeId}{sz:Nat}{a:Option Addr}{len cap:Nat}{l:List Value}{xs:List α}(o:Own h e sz a len cap l)(r:iR h l xs)(hs:sz=Rp.n α)(hp:0<sz)(hb:xs.length<=281474976710656):Sl h a len cap xs:=by
 subst hs;have hr:=r.len;rcases o with ⟨rfl,rfl,rfl,rfl⟩|⟨b,c,rfl,h2,h3,h4,h5,h6⟩
 ·have:xs=[]:=by
   have h0:xs.length*Rp.n α=0:=by simpa using hr.symm
   rcases Nat.mul_eq_zero.1 h0 with h|h
   ·exact List.eq_nil_of_length_eq_zero h
   ·omega
  subst this;exact Sl.nil
 ·have hl:len=xs.length:=Nat.eq_of_mul_eq_mul_right hp (h5.symm.trans hr);refine ⟨hl,h6,hb,λi hi=>?_⟩;obtain ⟨cs,h7,h8⟩:=r.at_ i hi;refine ⟨b,0,rfl,cs,h7,λj hj=>?_⟩;rw [<-h8 j hj,<-h3];have hcs:=Rp.len h7;have hlt:i*Rp.n α+j<l.length:=by
   rw [hr];have:=Nat.mul_le_mul_right (Rp.n α) (show i+1<=xs.length by omega);rw [Nat.add_mul] at this;omega
  have hlc:l.length<=c.length:=by rw [h4,h5];exact Nat.mul_le_mul_right _ h6
  simp only [Heap.cell?,h2,Nat.zero_add];rw [List.getElem?_take,if_pos hlt];simp
theorem LB:∀ (r need c:Nat),Builtin.growBy need r c<=max c (2*need+192)
 | 0,need,c=>by simp [Builtin.growBy];omega
 | r+1,need,c=>by
  simp only [Builtin.growBy];split
  ·omega
  ·have:=LB r need (c+(c+768)/4);omega
theorem FE (need old:Nat)(h:old<need):Builtin.nextslicecap need old<=2*need+192:=by
 unfold Builtin.nextslicecap;split
 ·omega
 ·split
  ·omega
  ·have:=LB 4 need old;omega
theorem wG {P:Program}{w:World}{b off n:Nat}{vs:List Value}(hn:vs.length=n)(hc:∀ k,k<n->Heap.cell? w.heap b (off+k)=vs[k]?) :
 (loadCells ⟨b,off,none⟩ n).run P w=.ok ⟨vs⟩ w:=by
 unfold loadCells;rw [EZ n 0 off vs #[] hn (by simpa using hc)];simp
theorem LC (z:Array Value)(n:Nat):∃ l:List Value,Builtin.zeroCells z n=⟨l⟩/\l.length=n*z.size:=by
 refine ⟨(Builtin.zeroCells z n).toList,rfl,by simp [Builtin.zeroCells]⟩
theorem FH (need old:Nat)(e:TypeId)(t:Nat)(hb:need<2 ^ 63):∃ c,(Question.appendCap need old e).cut t=c/\need<=c/\(Question.appendCap need old e).forced=false:=
 ⟨_,rfl,by simp only [Question.cut];omega,rfl⟩
theorem sO:∀ (off:Nat) (vs c:List Value),off+vs.length<=c.length->(bF off vs c).take (off+vs.length)=c.take off++vs
 | 0,[],c,_=>by simp [yN]
 | 0,v::vs,[],h=>by simp at h
 | 0,v::vs,x::c,h=>by
  have:=sO 0 vs c (by simp at h ⊢;omega);simp only [bF];simp at this;simp [this]
 | off+1,vs,[],h=>by simp at h
 | off+1,vs,x::c,h=>by
  have:=sO off vs c (by simp at h;omega);simp only [bF];rw [show off+1+vs.length=(off+vs.length)+1 by omega,List.take_succ_cons,this,List.take_succ_cons];rfl
theorem jO {P:Program}{sT xT ty e:TypeId}{sz aQ:Nat}{z:Value}{i:TypeInfo}(hu:P.underlying sT=some (.slice e))(hx:P.underlying xT=some (.slice e))(hi:P.info? e=some i)
 (hsz:i.size=sz) (hby:i.bytes=aQ) (hz:i.zero=some z) (hzc:(cellsOf z).length=sz)
 {h:Heap} {a:Option Addr} {len cap:Nat} {l:List Value} (o:Own h e sz a len cap l) {xb xo n xc:Nat} {new:List Value} (hn:new.length=n*sz) (hnew:∀ j,j<new.length->Heap.cell? h xb (xo+j)=new[j]?)
 (hone:gV new=true) (hbig:(2*(len+n)+192)*aQ<=2 ^ 48) (hby0:0<aQ) {bs:List Nat} (hbs:∀ b∈ay a,b∉bs) {K:Value->Heap->Prop}
 (H:∀ a' cap' h',Own h' e sz a' (len+n) cap' (l++new)->Keeps (ay a) h h'->(∀ b∈ay a',b∈ay a\/h.size<=b)->K (.slice a' (len+n) cap') h') :
 aW P (Builtin.append_ #[sT,xT] ty ⟨[.slice a len cap,.slice (some ⟨xb,xo,none⟩) n xc]⟩) bs h K:=by
 unfold aW;intro hlt w hw;subst hw;have hsize:(sizeOf e).run P w=.ok sz w:=by simp [sizeOf,gZ P e w hi,hsz]
 have yZ:(loadCells ⟨xb,xo,none⟩ (n*sz)).run P w=.ok ⟨new⟩ w:=wG hn (λk hk=>hnew k (by omega));have YZ:len+n<2 ^ 48:=by
  have:2*(len+n)+192<=(2*(len+n)+192)*aQ:=Nat.le_mul_of_pos_right _ hby0;omega
 by_cases hfit:len+n<=cap
 ·rcases o with ⟨rfl,rfl,rfl,rfl⟩|⟨b,c,rfl,h2,h3,h4,h5,h6⟩
  ·have hn0:n=0:=by omega
   subst hn0;have hnil:new=[]:=by simpa using hn
   subst hnil;refine ⟨_,w,?_,dG.refl w,λb _=>rfl,H none 0 w.heap (.inl ⟨rfl,rfl,rfl,rfl⟩) (Keeps.refl _ _) (by simp [ay])⟩;simp only [Nat.zero_mul] at yZ;simp [Builtin.append_,Sem.run_bind,dK P sT w hu,dK P xT w hx,hsize,Builtin.lenOf,Builtin.firstCells,yZ]
  ·have hroom:len*sz+new.length<=c.length:=by
    rw [hn,h4,<-Nat.add_mul];exact Nat.mul_le_mul_right _ hfit
   obtain ⟨w',r1,r2,r3,r4,r5⟩:=x9 (P:=P) new 0 (len*sz) c w (vQ hone) (by simpa using hroom) h2;refine ⟨_,w',?_,r2,λb' hb'=>r5 b' (λe=>hbs b (by simp [ay]) (e ▸ hb')),H (some ⟨b,0,none⟩) cap w'.heap (.inr ⟨b,_,rfl,r4,?_,?_,?_,hfit⟩) ⟨by omega,λb' _ hb'=>r5 b' (by simpa [ay] using hb')⟩ (λb' hb'=>.inl hb')⟩
   ·simp [Builtin.append_,dK P sT w hu,hsize,dK P xT w hx,Builtin.lenOf,hfit,Builtin.firstCells,yZ,addr_add];rw [r1];rfl
   ·have:=sO (len*sz) new c (by omega);simp only [Nat.add_zero];rw [List.length_append,h5,this,<-h5,h3]
   ·simp only [Nat.add_zero,vR];exact h4
   ·simp [h5,hn,Nat.add_mul]
 ·have hold:(Builtin.firstCells sz len (.slice a len cap)).run P w=.ok ⟨l⟩ w:=by
   rcases o with ⟨rfl,rfl,rfl,rfl⟩|⟨b,c,rfl,h2,h3,h4,h5,h6⟩
   ·simp [Builtin.firstCells]
   ·simp only [Builtin.firstCells];refine wG h5 (λk hk=>?_);have:l.length<=c.length:=by rw [h4,h5];exact Nat.mul_le_mul_right _ h6
    have hk':k<l.length:=by omega
    simp only [Heap.cell?,h2,Nat.zero_add];rw [<-h3];simp [hk',show k<c.length by omega]
  have hcap:cap<len+n:=by omega
  have BZ:=FE (len+n) cap hcap;obtain ⟨nc,hnc,hle,wH⟩:=FH (len+n) cap e (w.tape w.drawn (.appendCap (len+n) cap e)) (by omega);obtain ⟨zl,hzl,FI⟩:=LC z.cells (nc-(len+n));have hz':z.cells.size=sz:=by rw [qg];simpa using hzc
  let w1:World:=w.drew
  let w2:World:={ w1 with heap:=w.heap.push (.cells ⟨l++new++zl⟩ e) }
  have hl:l.length=len*sz:=by
   rcases o with ⟨rfl,rfl,rfl,rfl⟩|⟨b,c,rfl,h2,h3,h4,h5,h6⟩
   ·simp
   ·exact h5
  refine ⟨.slice (some ⟨w.heap.size,0,none⟩) (len+n) nc,w2,?_,⟨rfl,rfl,rfl⟩,λb hb=>?_,H _ nc w2.heap (.inr ⟨w.heap.size,l++new++zl,rfl,?_,?_,?_,?_,hle⟩) ?_ ?_⟩
  ·have hold1:(Builtin.firstCells sz len (.slice a len cap)).run P w1=.ok ⟨l⟩ w1:=by
    rcases o with ⟨rfl,rfl,rfl,rfl⟩|⟨b,c,rfl,h2,h3,h4,h5,h6⟩
    ·simp [Builtin.firstCells]
    ·simp only [Builtin.firstCells];refine wG h5 (λk hk=>?_);have:l.length<=c.length:=by rw [h4,h5];exact Nat.mul_le_mul_right _ h6
     have hk':k<l.length:=by omega
     show Heap.cell? w.heap _ _=_;simp only [Heap.cell?,h2,Nat.zero_add];rw [<-h3];simp [hk',show k<c.length by omega]
   have hnew1:(loadCells ⟨xb,xo,none⟩ (n*sz)).run P w1=.ok ⟨new⟩ w1:=wG (w:=w1) hn (λk hk=>hnew k (by omega));have hzv:(zeroValue e).run P w1=.ok z w1:=by simp [zeroValue,gZ P e w1 hi,hz]
   have hch:(choose (.appendCap (len+n) cap e)).run P w=.ok nc w1:=by rw [run_choose,wH];simp [hnc,w1]
   have hb1:¬ (Builtin.nextslicecap (len+n) cap*aQ>2 ^ 48):=by
    have:=Nat.mul_le_mul_right aQ BZ;omega
   have hti:(typeInfo e).run P w=.ok i w:=gZ P e w hi;have hti1:(typeInfo e).run P w1=.ok i w1:=gZ P e w1 hi;have hbz:¬ (aQ=0):=by omega
   have hold2:(Builtin.firstCells sz len (.slice a len cap)).run P w.drew=.ok ⟨l⟩ w.drew:=hold1;have hnew2:(Builtin.firstCells sz n (.slice (some ⟨xb,xo,none⟩) n xc)).run P w.drew=.ok ⟨new⟩ w.drew:=hnew1;have hzv2:(zeroValue e).run P w.drew=.ok z w.drew:=hzv;have hti2:(typeInfo e).run P w.drew=.ok i w.drew:=hti1;have hb2:¬ (281474976710656<Builtin.nextslicecap (len+n) cap*aQ):=hb1;simp [Builtin.append_,dK P sT w hu,hsize,dK P xT w hx,Builtin.lenOf,hfit,hti,hbz,hb2,hby,wH,hnc,hti2,hold2,hnew2,hzv2,hzl,newRow,w2];rfl
  ·show (w.heap.push _)[b]?=_;rw [jk,if_neg (by have:=hlt b hb;omega)]
  ·show (w.heap.push _)[w.heap.size]?=_;rw [jk,if_pos rfl]
  ·rw [List.take_append_of_le_length (by simp)];exact List.take_of_length_le (by simp)
  ·rw [List.length_append,List.length_append,FI,hz',hl,hn,<-Nat.add_mul,<-Nat.add_mul]
   congr 1;omega
  ·rw [List.length_append,hl,hn,Nat.add_mul]
  ·exact (sD w.heap _).mono (by simp)
  ·intro b hb;simp [ay] at hb;right;omega
def dF (h:Heap)(r:Nat)(m:List (Int×Value)):Prop:=
 ∃ es cl,h[r]?=some (.map es cl)/\es.toList.map (λe=>(e.key,e.val))=m.map (λp=>(Value.int .i64 p.1,p.2))/\(m.map (·.1)).Nodup /\
  (es.toList.map (·.born)).Nodup/\∀ e∈es.toList,e.born<cl
theorem dF.keep {M:List Nat}{h h':Heap}{r:Nat}{m:List (Int×Value)}(o:dF h r m)(k:Keeps M h h')(hm:r∉M):dF h' r m:=by
 obtain ⟨es,cl,h1,h2⟩:=o;exact ⟨es,cl,k.obj h1 hm,h2⟩
theorem dF.new {h:Heap}{r:Nat}(hr:h[r]?=some (.map #[] 0)):dF h r []:=⟨#[],0,hr,by simp,by simp,by simp,by simp⟩
theorem dF.lt {h:Heap}{r:Nat}{m:List (Int×Value)}(o:dF h r m):r<h.size:=by
 obtain ⟨es,cl,h1,_⟩:=o;exact eU h1
def gT:List (Int×Value)->Int->Option Value
 | [],_=>none
 | (k,v)::r,n=>if n=k then some v else gT r n
def jy:List (Int×Value)->Int->Value->List (Int×Value)
 | [],n,v=>[(n,v)]
 | (k,u)::r,n,v=>if n=k then (k,v)::r else (k,u)::jy r n v
theorem FJ:∀ (m:List (Int×Value)) (n:Int) (v:Value),(jy m n v).map (·.1)=if n∈m.map (·.1) then m.map (·.1) else m.map (·.1)++[n]
 | [],n,v=>by simp [jy]
 | (k,u)::r,n,v=>by
  by_cases h:n=k
  ·subst h;simp [jy]
  ·simp only [jy,if_neg h,List.map_cons,FJ r n v];by_cases h2:n∈r.map (·.1)
   ·rw [if_pos h2,if_pos (by simp [h2])]
   ·rw [if_neg h2,if_neg (by simp only [List.mem_cons,not_or];exact ⟨h,h2⟩)];simp
theorem vP:∀ (es:List MapEntry) (m:List (Int×Value)) (n:Int) (i:Nat),es.map (λe=>(e.key,e.val))=m.map (λp=>(Value.int .i64 p.1,p.2)) ->
 (∃ r,Instr.findNow (.int .i64) (.int .i64 n) es i=some r/\r.map (·.2)=gT m n/\∀ p,r=some p->∃ j,p.1=i+j/\j<es.length/\(m[j]?).map (·.1)=some n)
 | [],[],n,i,_=>⟨none,rfl,rfl,λp h=>by cases h⟩
 | [],_::_,n,i,h=>by simp at h
 | _::_,[],n,i,h=>by simp at h
 | e::es,(k,v)::m,n,i,h=>by
  simp only [List.map_cons,List.cons.injEq,Prod.mk.injEq] at h;obtain ⟨⟨h1,h2⟩,h3⟩:=h;simp only [Instr.findNow,h1,Instr.sameNow,if_true];by_cases hk:n=k
  ·subst hk;simp only [beq_self_eq_true];exact ⟨_,rfl,by simp [gT,h2],λp hp=>by cases hp;exact ⟨0,rfl,by simp,by simp⟩⟩
  ·have:(n==k)=false:=by simp [hk]
   simp only [this];obtain ⟨r,h4,h5,h6⟩:=vP es m n (i+1) h3;refine ⟨r,h4,by simp [gT,hk,h5],λp hp=>?_⟩;obtain ⟨j,h7,h8,h9⟩:=h6 p hp;exact ⟨j+1,by omega,by simp;omega,by simpa using h9⟩
theorem gL.int {c:Option Bool}{h:Heap}{r:Nat}{n:Int}{K:Option Value->Prop}{m:List (Int×Value)}(o:dF h r m)(hK:K (gT m n)):gL c h (.int .i64) r (.int .i64 n) K:=by
 obtain ⟨es,cl,h1,h2,_⟩:=o;obtain ⟨q,h3,h4,_⟩:=vP es.toList m n 0 h2;exact gL.i ⟨es,cl,h1,by rw [h3];simp [h4]⟩ hK
theorem gL.is {c:Option Bool}{h:Heap}{r:Nat}{n:Int}{K:Option Value->Prop}{m:List (Int×Value)}{o:Option Value}(hm:dF h r m)(ho:gT m n=o)(hK:K o):gL c h (.int .i64) r (.int .i64 n) K:=by
 subst ho;exact gL.int hm hK
theorem gL.z {c:Option Bool}{h:Heap}{r:Nat}{n:Int}{K:Option Value->Prop}{m:List (Int×Value)}(z:Value){v:Value}(hm:dF h r m)(hz:K none=K (some z))(hv:(gT m n).getD z=v)(hK:K (some v)):gL c h (.int .i64) r (.int .i64 n) K:=by
 refine gL.int hm ?_;subst hv;cases hl:gT m n with
 | none=>rw [hz];simpa [hl] using hK
 | some v=>simpa [hl] using hK
theorem sF.int {c:Option Bool}{h:Heap}{r:Nat}{K:Nat->Prop}{m:List (Int×Value)}(o:dF h r m)(hK:K m.length):sF c h r K:=by
 obtain ⟨es,cl,h1,h2,_⟩:=o;refine sF.i ⟨es,cl,h1,?_⟩ hK;have:=congrArg List.length h2;simpa using this
theorem FL:∀ (es:List MapEntry) (m:List (Int×Value)) (n:Int) (v:Value) (j:Nat),es.map (λe=>(e.key,e.val))=m.map (λp=>(Value.int .i64 p.1,p.2))->(m.map (·.1)).Nodup ->
 (m[j]?).map (·.1)=some n->(es.modify j λe=>{ e with key:=.int .i64 n,val:=v }).map (λe=>(e.key,e.val))=(jy m n v).map (λp=>(Value.int .i64 p.1,p.2))
 | [],[],n,v,j,_,_,h=>by simp at h
 | [],_::_,n,v,j,h,_,_=>by simp at h
 | _::_,[],n,v,j,h,_,_=>by simp at h
 | e::es,(k,u)::m,n,v,0,h,hd,hj=>by
  simp only [List.map_cons,List.cons.injEq,Prod.mk.injEq] at h;simp at hj;subst hj;simp [jy,h.2]
 | e::es,(k,u)::m,n,v,j+1,h,hd,hj=>by
  simp only [List.map_cons,List.cons.injEq,Prod.mk.injEq] at h;simp only [List.map_cons,List.nodup_cons] at hd;have hne:n≠k:=by
   rintro rfl;refine hd.1 ?_;simp only [List.getElem?_cons_succ,Option.map_eq_some_iff] at hj;obtain ⟨p,hp,rfl⟩:=hj;exact List.mem_map.2 ⟨p,List.mem_of_getElem? hp,rfl⟩
  have:=FL es m n v j h.2 hd.2 (by simpa using hj);simp [jy,hne,h.1,this]
theorem Ca:∀ (m:List (Int×Value)) (n:Int) (v:Value),gT m n=none->jy m n v=m++[(n,v)]
 | [],n,v,_=>rfl
 | (k,u)::m,n,v,h=>by
  simp only [gT] at h;split at h
  ·cases h
  ·rename_i hne;simp [jy,hne,Ca m n v h]
theorem qN {P:Program}{w:World}{r:Nat}{es:Array MapEntry}{cl:Nat}(h:w.heap[r]?=some (.map es cl)):(getObj r).run P w=.ok (.map es cl) w:=by simp [getObj,Sem.run,h]
theorem r9 {P:Program}{w:World}{r:Nat}{es:Array MapEntry}{cl:Nat}(h:w.heap[r]?=some (.map es cl))(o:Obj):(setObj r o).run P w=.ok () { w with heap:=w.heap.setIfInBounds r o }:=by simp [setObj,Sem.run,h]
theorem ku (h:Heap)(r:Nat)(o:Obj)(b:Nat)(hr:r<h.size):(h.setIfInBounds r o)[b]?=if b=r then some o else h[b]?:=by
 by_cases e:b=r
 ·subst e;simp [hr]
 ·simp [e,Array.getElem?_setIfInBounds_ne (Ne.symm e)]
theorem sj (h:Heap)(r:Nat)(o:Obj)(hr:r<h.size):Keeps [r] h (h.setIfInBounds r o):=⟨by simp,λb _ hn=>by rw [ku h r o b hr,if_neg (by simpa using hn)]⟩
theorem aW.put {P:Program}{T kT eT:TypeId}(hu:P.underlying T=some (.map kT eT))(hk:P.underlying kT=some (.int .i64)){h:Heap}{r:Nat}{m:List (Int×Value)}(o:dF h r m){n:Int}{v:Value}{bs:List Nat}(hb:r∉bs)
 {K:Unit->Heap->Prop} (H:∀ h',h'.size=h.size->dF h' r (jy m n v)->Keeps [r] h h'->K () h'):aW P (Instr.mapUpdate T (.map (some r)) (.int .i64 n) v) bs h K:=by
 unfold aW;intro hlt w hw;subst hw;have hr:=o.lt;obtain ⟨es,cl,h1,h2,h3,h4,h5⟩:=o;obtain ⟨q,h6,h7,h8⟩:=vP es.toList m n 0 h2;have fin:∀ (ob:Obj),(∀ h':Heap,h'[r]?=some ob->dF h' r (jy m n v))->(Instr.mapUpdate T (.map (some r)) (.int .i64 n) v).run P w=.ok () { w with heap:=w.heap.setIfInBounds r ob } ->
  ∃ v' w',(Instr.mapUpdate T (.map (some r)) (.int .i64 n) v).run P w=.ok v' w'/\dG w w'/\(∀ b∈bs,w'.heap[b]?=w.heap[b]?)/\K v' w'.heap:=λob hm hrun=>by
  refine ⟨(),_,hrun,⟨rfl,rfl,rfl⟩,λb hb'=>?_,H _ (by simp) (hm _ (by rw [ku _ _ _ _ hr,if_pos rfl])) (sj _ _ _ hr)⟩;show (w.heap.setIfInBounds r ob)[b]?=_;rw [ku _ _ _ _ hr,if_neg (by intro e;subst e;exact hb hb')]
 cases q with
 | none=>
  have hl:gT m n=none:=by simpa using h7.symm
  refine fin (.map (es.push { key:=.int .i64 n,val:=v,born:=cl }) (cl+1)) (λh' hh=>⟨_,_,hh,?_,?_,?_,?_⟩) ?_
  ·simp only [Array.toList_push,List.map_append,List.map_cons,List.map_nil,h2,Ca m n v hl]
  ·rw [Ca m n v hl];simp only [List.map_append,List.map_cons,List.map_nil];refine List.nodup_append.2 ⟨h3,by simp,?_⟩;intro a ha b hb hab;simp at hb;subst hb;subst hab;clear h7 h8 h6 fin
   induction m generalizing es with
   | nil=>cases ha
   | cons p m ih=>
    obtain ⟨k,u⟩:=p;simp only [gT] at hl;split at hl
    ·cases hl
    ·rename_i hne;simp only [List.map_cons,List.mem_cons] at ha;rcases ha with ha|ha
     ·exact hne ha
     ·have hm2:m.map (·.1)=m.map (·.1):=rfl;exact absurd ha (by
       clear ih;intro ha;have:∀ (m:List (Int×Value)) (a:Int),gT m a=none->a∉m.map (·.1):=by
        intro m
        induction m with
        | nil=>intro a _ h;cases h
        | cons p m ih=>
         intro a hl h;obtain ⟨k,u⟩:=p;simp only [gT] at hl;split at hl
         ·cases hl
         ·rename_i hne;simp only [List.map_cons,List.mem_cons] at h;rcases h with h|h
          ·exact hne h
          ·exact ih a hl h
       exact this m a hl ha)
  ·simp only [Array.toList_push,List.map_append,List.map_cons,List.map_nil];refine List.nodup_append.2 ⟨h4,by simp,?_⟩;intro a ha b hb hab;simp at hb;subst hb;subst hab;obtain ⟨e,he,hee⟩:=List.mem_map.1 ha;have:=h5 e he;omega
  ·intro e he;simp only [Array.toList_push,List.mem_append,List.mem_singleton] at he;rcases he with he|rfl
   ·have:=h5 e he;omega
   ·simp
  ·simp only [Instr.mapUpdate,Sem.run_bind,dK P T w hu,Result.andThen_ok,qN h1];rw [uj hk (.inl ⟨_,rfl⟩)];simp only [Result.andThen_ok,uh hk h6 w,r9 h1]
 | some p=>
  obtain ⟨j,hj1,hj2,hj3⟩:=h8 p rfl;have hj:p.1=j:=by omega
  have hjl:j<es.size:=by simpa using hj2
  have hkey:(es[j]'hjl).key=.int .i64 n:=by
   have:=congrArg (λl=>l[j]?) h2;simp only [List.getElem?_map] at this;cases hm:m[j]? with
   | none=>rw [hm] at hj3;simp at hj3
   | some q=>
    rw [hm] at this hj3;simp at hj3;simp [hjl] at this;rw [this.1,hj3]
  refine fin (.map (es.modify j λe=>{ e with key:=.int .i64 n,val:=v }) cl) (λh' hh=>⟨_,_,hh,?_,?_,?_,?_⟩) ?_
  ·rw [Array.toList_modify];exact FL es.toList m n v j h2 h3 hj3
  ·rw [FJ];have:n∈m.map (·.1):=by
    simp only [Option.map_eq_some_iff] at hj3;obtain ⟨q,hq,rfl⟩:=hj3;exact List.mem_map.2 ⟨q,List.mem_of_getElem? hq,rfl⟩
   rw [if_pos this];exact h3
  ·have:(es.modify j λe=>{ e with key:=.int .i64 n,val:=v }).toList.map (·.born)=es.toList.map (·.born):=by
    rw [Array.toList_modify];apply List.ext_getElem?;intro i;simp only [List.getElem?_map,List.getElem?_modify];cases es.toList[i]? with
    | none=>simp
    | some e=>by_cases hij:j=i <;> simp [hij]
   rw [this];exact h4
  ·intro e he;rw [Array.toList_modify] at he;obtain ⟨i,hi⟩:=List.getElem?_of_mem he;rw [List.getElem?_modify] at hi;cases hee:es.toList[i]? with
   | none=>rw [hee] at hi;simp at hi
   | some e0=>
    rw [hee] at hi;simp at hi;have:=h5 e0 (List.mem_of_getElem? hee);rw [<-hi];split <;> simpa using this
  ·simp only [Instr.mapUpdate,Sem.run_bind,dK P T w hu,Result.andThen_ok,qN h1];rw [uj hk (.inl ⟨_,rfl⟩)];simp only [Result.andThen_ok,uh hk h6 w];rw [hj];have hold:((es[j]?).map (·.key)).getD (Value.int .i64 n)=.int .i64 n:=by simp [hjl,hkey]
   simp only [hold,Instr.keyThatStays,Instr.sameBits,beq_self_eq_true,Bool.and_self,if_true,Sem.run_bind,Sem.run_pure,Result.andThen_ok,r9 h1]
def oG (h:Heap)(it r:Nat)(R:List (Int×Value))(last:Option (Int×Value)):Prop:=
 ∃ es cl since seen c0,h[r]?=some (.map es cl)/\h[it]?=some (.mapIter (some r) since seen c0)/\(since<=c0/\since<=cl)/\(∀ e∈es.toList,e.born<since)/\(es.toList.map (·.born)).Nodup /\
  (leftOf es seen).toList.map (λe=>(e.key,e.val))=R.map (λp=>(Value.int .i64 p.1,p.2)) /\
  ∀ p,last=some p->∃ (e:MapEntry) (seen':Array Nat),seen=seen'.push e.born/\e∈es.toList/\e.key=.int .i64 p.1/\e.val=p.2/\c0=cl
theorem oG.keep {M:List Nat}{h h':Heap}{it r:Nat}{R:List (Int×Value)}{last:Option (Int×Value)}(o:oG h it r R last)(k:Keeps M h h')(h1:it∉M)(h2:r∉M):oG h' it r R last:=by
 obtain ⟨es,cl,since,seen,c0,a,b,c⟩:=o;exact ⟨es,cl,since,seen,c0,k.obj a h2,k.obj b h1,c⟩
theorem oG.lt {h:Heap}{it r:Nat}{R:List (Int×Value)}{last:Option (Int×Value)}(o:oG h it r R last):it<h.size/\r<h.size:=by
 obtain ⟨es,cl,since,seen,c0,a,b,c⟩:=o;exact ⟨eU b,eU a⟩
theorem aW.range {P:Program}{T kT eT:TypeId}(hu:P.underlying T=some (.map kT eT)){h:Heap}{r:Nat}{m:List (Int×Value)}(o:dF h r m){bs:List Nat}{K:Value->Heap->Prop}
 (H:∀ it h',it=h.size->h'.size=h.size+1->Keeps [] h h'->oG h' it r m none->K (.pointer (some ⟨it,0,none⟩)) h'):aW P (Instr.range T (.map (some r))) bs h K:=by
 unfold aW;intro hlt w hw;subst hw;have hr:=o.lt;obtain ⟨es,cl,h1,h2,h3,h4,h5⟩:=o;refine ⟨.pointer (some ⟨w.heap.size,0,none⟩),{ w with heap:=w.heap.push (.mapIter (some r) cl #[] cl) },?_,⟨rfl,rfl,rfl⟩,λb hb=>?_,H _ _ rfl (by simp) (sD _ _) ⟨es,cl,cl,#[],cl,?_,?_,⟨Nat.le_refl _,Nat.le_refl _⟩,h5,h4,?_,λp hp=>by cases hp⟩⟩
 ·simp only [Instr.range,Sem.run_bind,dK P T w hu,Result.andThen_ok,qN h1,Sem.run_pure];rfl
 ·show (w.heap.push _)[b]?=_;rw [jk,if_neg (by have:=hlt b hb;omega)]
 ·show (w.heap.push _)[r]?=_;rw [jk,if_neg (by omega)];exact h1
 ·show (w.heap.push _)[w.heap.size]?=_;rw [jk,if_pos rfl]
 ·rw [<-h2];unfold leftOf;rw [Array.toList_filter,List.filter_eq_self.2 (λx _=>by simp)]
theorem aW.next {P:Program}{ty:TypeId}{h:Heap}{it r:Nat}{R:List (Int×Value)}{last:Option (Int×Value)}(o:oG h it r R last){bs:List Nat}(hb:it∉bs)(hne:it≠r){K:Value->Heap->Prop}
 (H0:R=[]->K (.tuple #[.bool false]) h)
 (H1:∀ R1 p R2 h',R=R1++p::R2->h'.size=h.size->Keeps [it] h h'->oG h' it r (R1++R2) (some p)->K (.tuple #[.bool true,.int .i64 p.1,p.2]) h') :
 aW P (Instr.next (.pointer (some ⟨it,0,none⟩)) false ty) bs h K:=by
 unfold aW;intro hlt w hw;subst hw;have hit:=o.lt.1;obtain ⟨es,cl,since,seen,c0,a,b,c,d,e,f,g⟩:=o;rcases run_next_at (P:=P) w ty it r since c0 seen es cl b a d c.1 with ⟨h1,h2⟩|⟨x,hx,w1,hw1,h2⟩
 ·refine ⟨_,w,h2,dG.refl w,λ_ _=>rfl,H0 ?_⟩;have:(leftOf es seen).toList=[]:=by
   have:(leftOf es seen).toList.length=0:=by simpa using h1
   exact List.eq_nil_of_length_eq_zero this
  rw [this] at f;simpa using f.symm
 ·obtain ⟨L1,L2,hL⟩:=List.append_of_mem hx;rw [hL] at f;simp only [List.map_append,List.map_cons] at f;obtain ⟨R1,R',hR,f1,f2⟩:=List.map_eq_append_iff.1 f.symm;obtain ⟨p,R2,hR',f3,f4⟩:=List.map_eq_cons_iff.1 f2;subst hR';simp only [Prod.mk.injEq] at f3;have Ua:w1.heap=w.heap:=by rcases hw1 with rfl|rfl <;> rfl
  have hso:dG w (Go.ChangeMaps.setBlock w1 it (.mapIter (some r) since (seen.push x.born) cl)):=by rcases hw1 with rfl|rfl <;> exact ⟨rfl,rfl,rfl⟩
  have hheap:(Go.ChangeMaps.setBlock w1 it (.mapIter (some r) since (seen.push x.born) cl)).heap=w.heap.setIfInBounds it (.mapIter (some r) since (seen.push x.born) cl):=by
   show w1.heap.setIfInBounds _ _=_;rw [Ua]
  have hxe:x∈es.toList:=by
   unfold leftOf at hx;simp at hx ⊢;exact hx.1
  refine ⟨_,_,h2,hso,λb' hb'=>?_,?_⟩
  ·rw [hheap,ku _ _ _ _ hit,if_neg (by intro e;subst e;exact hb hb')]
  ·rw [<-f3.1,<-f3.2];refine H1 R1 p R2 _ hR ?_ ?_ ?_
   ·rw [hheap];simp
   ·rw [hheap];exact sj _ _ _ hit
   ·rw [hheap];refine ⟨es,cl,since,seen.push x.born,cl,?_,?_,⟨c.2,c.2⟩,d,e,?_,?_⟩
    ·rw [ku _ _ _ _ hit,if_neg (Ne.symm hne)];exact a
    ·rw [ku _ _ _ _ hit,if_pos rfl]
    ·have e1:(leftOf es (seen.push x.born)).toList=(leftOf es seen).toList.filter λy=>y.born != x.born:=by
      unfold leftOf;simp only [Array.toList_filter,List.filter_filter,Array.contains_push]
      congr 1
      funext y
      rw [Bool.not_or,Bool.and_comm];rfl
     have hnd:((leftOf es seen).toList.map (·.born)).Nodup:=by
      unfold leftOf;rw [Array.toList_filter];exact (List.Sublist.map _ (List.filter_sublist)).nodup e
     rw [e1,hL];rw [hL] at hnd;simp only [List.map_append,List.map_cons,List.nodup_append,List.nodup_cons] at hnd;have k1:L1.filter (λy=>y.born != x.born)=L1:=List.filter_eq_self.2 λy hy=>by
      have:=hnd.2.2 y.born (List.mem_map.2 ⟨y,hy,rfl⟩) x.born (by simp);simpa using this
     have k2:L2.filter (λy=>y.born != x.born)=L2:=List.filter_eq_self.2 λy hy=>by
      have:=hnd.2.1.1;simp only [bne_iff_ne,ne_eq];intro e;exact this (List.mem_map.2 ⟨y,hy,e⟩)
     rw [List.filter_append,List.filter_cons,k1,k2];simp only [bne_self_eq_false,Bool.false_eq_true,if_false,List.map_append,f1,f4]
    ·intro p' hp';cases hp';exact ⟨x,seen,rfl,hxe,f3.1.symm,f3.2.symm,rfl⟩
theorem aW.entry {P:Program}{h:Heap}{it r:Nat}{R:List (Int×Value)}{p:Int×Value}(o:oG h it r R (some p)){bs:List Nat}{K:Value->Heap->Prop}
 (H:K (.tuple #[.int .i64 p.1,p.2]) h):aW P (Instr.entry (.pointer (some ⟨it,0,none⟩))) bs h K:=by
 unfold aW;intro hlt w hw;subst hw;obtain ⟨es,cl,since,seen,c0,a,b,c,d,e,f,g⟩:=o;obtain ⟨x,seen',rfl,hx,h1,h2,rfl⟩:=g p rfl;have:=run_entry_at (P:=P) w it r since seen' es c0 x b a hx e;rw [h1,h2] at this;exact ⟨_,w,this,dG.refl w,λ_ _=>rfl,H⟩
theorem qo.je {M:List Nat}{h h':Heap}(k:Keeps M h h'){b off:Nat}{cs:List Value}(hb:b∉M)(hc:qo h b off cs):qo h' b off cs:=λj hj=>by
 have h1:=hc j hj;have h2:cs[j]?=some cs[j]:=by simp [hj]
 rw [h2] at h1 ⊢;exact k.cell h1 hb
class Flat (α:Type) [Rp α]:Prop where
 flat:∀ {h h':Heap} {vs:List Value} {x:α},iA h vs x->iA h' vs x
instance:Flat Int:=⟨λh=>h⟩
instance:Flat Bool:=⟨λh=>h⟩
instance:Flat ByteArray:=⟨λh=>h⟩
theorem iR.flat {α:Type}[Rp α][Flat α]{h h':Heap}:∀ {xs:List α} {l:List Value},iR h l xs->iR h' l xs
 | [],l,h1=>h1
 | y::ys,l,h1=>by
  obtain ⟨c,r,rfl,h3,h4⟩:=h1;exact ⟨c,r,rfl,Flat.flat h3,h4.flat⟩
end Go.aN
