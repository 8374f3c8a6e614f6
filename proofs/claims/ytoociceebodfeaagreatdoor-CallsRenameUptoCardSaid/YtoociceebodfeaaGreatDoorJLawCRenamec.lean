/-
  Joined texts: EngP, EngQ, Cfg, BodyA, BodyB, BodyC, BodyD, BodyE.
-/
import Derived.Test.YtoociceebodfeaaGreatDoorJLawCRenameb
import Derived.Laws.MakeOwn
import Derived.Laws.Strings
import Derived.Test.YtoociceebodfeaaGreatDoorProg
set_option linter.all false
namespace Go.aN
open Go Go.RowKit Go.Deep
section
variable {H:Type} {enc:TypeId×Value->H} {P:Program} {W:World} {sp:Nat->Bool} {held:Bool}
theorem Ou {t:TypeId}{α:Type}[Rp α](ho:Opens enc P W sp held t α){v:Value}{d:DataW H}{p:List MemPlace}(h:DataW.Trod enc P W 0 sp held t v d p)(hw:∀ m∈d.weights P t,m<=reachBytes) :
 ∃ y:α,iA W.heap v.cells.toList y:=by
 obtain ⟨fuel,hf⟩:=h;exact ho fuel _ _ hf hw
theorem OA {v:Value}{cs:List Value}(h:v.cells.toList=cs)(hl:cs.length≠1):v=.agg ⟨cs⟩:=by
 subst h;cases v
 case agg a=>simp [Value.cells]
 all_goals simp [Value.cells] at hl
theorem Ot {ts:List TypeId}{ds:List (DataW H)}(h:(DataW.weightsEach P ts ds).all (·<=reachBytes)=true):∀ (j:Nat) t d,ts[j]?=some t->ds[j]?=some d->∀ m∈d.weights P t,m<=reachBytes:=by
 have key:∀ (ts:List TypeId) (ds:List (DataW H)),(∀ m∈DataW.weightsEach P ts ds,m<=reachBytes)->∀ (j:Nat) t d,ts[j]?=some t->ds[j]?=some d->∀ m∈d.weights P t,m<=reachBytes:=by
  intro ts
  induction ts with
  | nil=>intro ds _ j t d h;simp at h
  | cons t ts ih=>
   intro ds hw j t' d' h1 h2 m hm;cases ds with
   | nil=>simp at h2
   | cons d ds=>
    simp only [DataW.weightsEach,List.mem_append] at hw;cases j with
    | zero=>
     simp at h1 h2;subst h1 h2;exact hw m (.inl hm)
    | succ j=>exact ih ds (λm hm=>hw m (.inr hm)) j t' d' (by simpa using h1) (by simpa using h2) m hm
 exact key ts ds (λm hm=>by simpa using (List.all_eq_true.1 h) m hm)
theorem OP {t e:TypeId}{n:Nat}{fuel:Nat}{cs:List Value}{x:DataW H×List MemPlace}(ht:P.underlying t=some (.array n e))(h:DataW.trod enc P W 0 sp held fuel t cs=some x)
 (hw:∀ m∈x.1.weights P t,m<=reachBytes) :
 cs.length=P.cellsOf t/\∃ fuel',∀ i,i<n->∃ y,DataW.trod enc P W 0 sp held fuel' e ((cs.drop (i*P.cellsOf e)).take (P.cellsOf e))=some y/\∀ m∈y.1.weights P e,m<=reachBytes:=by
 cases fuel with
 | zero=>simp [DataW.trod] at h
 | succ fuel=>
  have h':(if cs.length=P.cellsOf t then ((List.range n).mapM λi=>DataW.trod enc P W 0 sp held fuel e ((cs.drop (i*P.cellsOf e)).take (P.cellsOf e))).map λxs=>(DataW.agg (xs.map (·.1)),xs.flatMap (·.2)) else none)=some x:=by
   rw [<-h]
   conv=>rhs;unfold DataW.trod
   simp only [ht]
  split at h'
  ·rename_i hl;refine ⟨hl,fuel,?_⟩;simp only [Option.map_eq_some_iff] at h';obtain ⟨xs,hxs,hx⟩:=h';have hw':∀ m∈DataW.weightsAll P e (xs.map (·.1)),m<=reachBytes:=λm hm=>hw m (by
    rw [<-hx];unfold DataW.weights;simp only [ht];exact hm)
   have key:∀ (l:List Nat) (xs:List (DataW H×List MemPlace)),l.mapM (λi=>DataW.trod enc P W 0 sp held fuel e ((cs.drop (i*P.cellsOf e)).take (P.cellsOf e)))=some xs ->
    (∀ m∈DataW.weightsAll P e (xs.map (·.1)),m<=reachBytes) ->
    ∀ i∈l,∃ y,DataW.trod enc P W 0 sp held fuel e ((cs.drop (i*P.cellsOf e)).take (P.cellsOf e))=some y/\∀ m∈y.1.weights P e,m<=reachBytes:=by
    intro l
    induction l with
    | nil=>intro xs _ _ f hf;cases hf
    | cons g l ih=>
     intro xs hx hw f hf;simp only [List.mapM_cons,Option.bind_eq_bind] at hx;cases hv:DataW.trod enc P W 0 sp held fuel e ((cs.drop (g*P.cellsOf e)).take (P.cellsOf e)) with
     | none=>rw [hv] at hx;simp at hx
     | some v=>
      rw [hv] at hx;simp only [Option.bind_some] at hx;cases hr:l.mapM (λi=>DataW.trod enc P W 0 sp held fuel e ((cs.drop (i*P.cellsOf e)).take (P.cellsOf e))) with
      | none=>rw [hr] at hx;simp at hx
      | some r=>
       rw [hr] at hx;simp at hx;subst hx;simp only [List.map_cons,DataW.weightsAll,List.mem_append] at hw;simp only [List.mem_cons] at hf;rcases hf with rfl|hf
       ·exact ⟨v,hv,λm hm=>hw m (.inl hm)⟩
       ·exact ih r hr (λm hm=>hw m (.inr hm)) f hf
   exact λi hi=>key _ _ hxs hw' i (by simpa using hi)
  ·cases h'
end
end Go.aN
namespace Go.aN
open Go
theorem ax.o {c:Option Bool}{h:Heap}{b off:Nat}{K:Value->Prop}{L:List Value}{T:TypeId}{fz:Nat×Nat}{v:Value}(o:h[b]?=some (.cells ⟨L⟩ T fz))(hv:nth L off=some v)(hK:K v):ax c h b off K:=
 ax.i (by simp only [Heap.cell?,o];rw [nN] at hv;simpa using hv) hK
theorem fq.o {c:Option Bool}{h:Heap}{b off n:Nat}{K:List Value->Prop}{L vs:List Value}{T:TypeId}{fz:Nat×Nat}(o:h[b]?=some (.cells ⟨L⟩ T fz))(hv:pu n (pz off L)=some vs)(hK:K vs):fq c h b off n K:=by
 obtain ⟨h1,h2⟩:=yH _ _ _ hv;rw [yI] at h1;exact fq.i h2 (λj hj=>by simp only [Heap.cell?,o];rw [h1];simp [hj]) hK
theorem Keeps.cZ {M:List Nat}{a b c:Heap}(h:Keeps [] a b)(h':Keeps M b c)(hm:∀ x∈M,a.size<=x):Keeps [] a c:=
 h.gQ h' λx hx=>.inr (hm x hx)
theorem Keeps.new1 {a b c:Heap}{x:Nat}(h:Keeps [] a b)(h':Keeps [x] b c)(hx:a.size<=x):Keeps [] a c:=
 h.cZ h' (by intro y hy;simp at hy;subst hy;exact hx)
theorem Keeps.m1 {M:List Nat}{a b c:Heap}{x:Nat}(h:Keeps M a b)(h':Keeps [x] b c)(hx:a.size<=x):Keeps M a c:=
 h.gQ h' (by intro y hy;simp at hy;subst hy;exact .inr hx)
def wv (w:UInt64):Value:=.int .u64 (w.toNat:Int)
instance:Rp UInt64 where
 n:=1
 iA _ vs x:=vs=[wv x]
 len h:=by rw [h];rfl
 keep _ h:=h
instance:Flat UInt64:=⟨λh=>h⟩
theorem RZ {a b:UInt64}:wv a=wv b↔a=b:=by
 constructor
 ·intro h;have h2:(a.toNat:Int)=(b.toNat:Int):=by simpa [wv] using h
  exact UInt64.toNat_inj.1 (by omega)
 ·rintro rfl;rfl
theorem Sl.je {α:Type}[Rp α][Flat α]{M:List Nat}{h h':Heap}{a:Option Addr}{len cap:Nat}{xs:List α}(s:Sl h a len cap xs)(k:Keeps M h h')(hm:∀ b∈ay a,b∉M):Sl h' a len cap xs:=
 ⟨s.hlen,s.hcap,s.hbig,λi hi=>by
  obtain ⟨b,off,ha,cs,hr,hc⟩:=s.at_ i hi;exact ⟨b,off,ha,cs,Flat.flat hr,hc.je k (hm b (by simp [ha,ay]))⟩⟩
class One (α:Type) [Rp α] where
 val:α->Value
 ok:α->Prop
 LA:∀ {h vs x},iA h vs x↔vs=[val x]/\ok x
 one:Rp.n α=1
instance:One UInt64:=⟨wv,λ_=>True,by intro h vs x;exact ⟨λh=>⟨h,trivial⟩,λh=>h.1⟩,rfl⟩
instance:One Int:=⟨λx=>.int .i64 x,inI64,by intro h vs x;exact Iff.rfl,rfl⟩
instance:One Bool:=⟨λx=>.bool x,λ_=>True,by intro h vs x;exact ⟨λh=>⟨h,trivial⟩,λh=>h.1⟩,rfl⟩
instance:One ByteArray:=⟨λx=>.string x,lK,by intro h vs x;exact Iff.rfl,rfl⟩
theorem Sl.at1 {α:Type}[Rp α][One α]{h:Heap}{a:Option Addr}{len cap:Nat}{xs:List α}(s:Sl h a len cap xs)(i:Nat)(hi:i<xs.length):∃ b off,a=some ⟨b,off,none⟩/\One.ok xs[i]/\Heap.cell? h b (off+i*1)=some (One.val xs[i]):=by
 obtain ⟨b,off,ha,cs,hr,hc⟩:=s.at_ i hi;obtain ⟨rfl,hok⟩:=One.LA.1 hr;refine ⟨b,off,ha,hok,?_⟩;have:=hc 0 (by simp);rw [One.one] at this;simpa using this
theorem Sl.of1 {α:Type}[Rp α][One α]{h:Heap}{b:Nat}{T:TypeId}{fz:Nat×Nat}{xs:List α}{cap:Nat}{L:List Value}(o:h[b]?=some (.cells ⟨L⟩ T fz))(hL:∀ i (hi:i<xs.length),L[i]?=some (One.val xs[i]))(hok:∀ x∈xs,One.ok x)(hc:xs.length<=cap)(hb:xs.length<=281474976710656):Sl h (some ⟨b,0,none⟩) xs.length cap xs:=
 ⟨rfl,hc,hb,λi hi=>⟨b,0,rfl,[One.val xs[i]],One.LA.2 ⟨rfl,hok _ (List.getElem_mem hi)⟩,λj hj=>by
  have:j=0:=by simpa using hj
  subst this;simp only [Heap.cell?,o,One.one,Nat.mul_one,Nat.zero_add,Nat.add_zero];simpa using hL i hi⟩⟩
theorem Sl.mJ {α:Type}[Rp α][One α]{h:Heap}{b:Nat}{T:TypeId}{fz:Nat×Nat}{xs:List α}{n:Nat}(o:h[b]?=some (.cells ⟨xs.map One.val⟩ T fz))(hok:∀ x∈xs,One.ok x)(hn:n=xs.length)(hb:xs.length<=281474976710656):Sl h (some ⟨b,0,none⟩) n n xs:=by
 subst hn;exact Sl.of1 o (λi hi=>by simp [hi]) hok (Nat.le_refl _) hb
theorem Sl.cells1 {α:Type}[Rp α][One α]{h:Heap}{b off:Nat}{len cap:Nat}{xs:List α}(s:Sl h (some ⟨b,off,none⟩) len cap xs):∀ j,j<(xs.map One.val).length->Heap.cell? h b (off+j)=(xs.map (One.val (α:=α)))[j]?:=by
 intro j hj;have hj':j<xs.length:=by simpa using hj
 obtain ⟨b',off',ha,_,hc⟩:=s.at1 j hj';simp only [Option.some.injEq,Addr.mk.injEq,and_true] at ha;obtain ⟨rfl,rfl⟩:=ha;rw [Nat.mul_one] at hc;rw [hc];simp [hj']
theorem aW.make {P:Program}{t e:TypeId}{i:TypeInfo}{z:Value}(ht:P.underlying t=some (.slice e))(hi:P.info? e=some i)(hz:i.zero=some z)(h1:i.size=1)(hz1:cellsOf z=[z])
 {n:Nat} (hb:i.bytes*n<=281474976710656) (hn:n<=281474976710656) {bs:List Nat} {h:Heap} {K:Value->Heap->Prop}
 (H:∀ b h',b=h.size->h'.size=h.size+1->h'[b]?=some (.cells ⟨List.replicate n z⟩ e (0,0))->Keeps [] h h'->K (.slice (some ⟨b,0,none⟩) n n) h') :
 aW P (Instr.makeSlice t (.int .i64 (n:Int)) (.int .i64 (n:Int))) bs h K:=by
 unfold aW;intro hlt w hw;subst hw;have hm:=run_make w t e i z ht hi hz .i64 .i64 (n:Int) (n:Int) (by omega) (by omega) (by
  have:(i.bytes:Int)*(n:Int)=((i.bytes*n:Nat):Int):=by simp
  rw [this];omega) (by omega)
 refine ⟨_,_,hm,⟨rfl,rfl,rfl⟩,λb hb=>?_,?_⟩
 ·show (w.heap.push _)[b]?=_;rw [jk,if_neg (by have:=hlt b hb;omega)]
 ·have hcells:madeCells z.cells (n*i.size)=⟨List.replicate n z⟩:=by
   rw [h1,Nat.mul_one,qg,hz1];apply Array.ext';simp only [madeCells];apply List.ext_getElem
   ·simp
   ·intro k k1 k2;simp [Nat.mod_one]
  have:=H w.heap.size (w.heap.push (.cells ⟨List.replicate n z⟩ e)) rfl (by simp) (by rw [jk,if_pos rfl]) (sD _ _);show K (.slice (some ⟨w.heap.size,0,none⟩) (n:Int).toNat (n:Int).toNat) (w.heap.push (.cells (madeCells z.cells ((n:Int).toNat*i.size)) e));rw [Int.toNat_natCast,hcells];exact this
theorem aW.copy {P:Program}{dT sT ty e:TypeId}{i:TypeInfo}{sz:Nat}(hu:P.underlying dT=some (.slice e))(hi:P.info? e=some i)(hsz:i.size=sz)
 {h:Heap} {b off dl dc xb xo n xc:Nat} {c new:List Value} {T:TypeId} (o:h[b]?=some (.cells ⟨c⟩ T (0,0))) (hn:new.length=min n dl*sz) (hnew:∀ j,j<new.length->Heap.cell? h xb (xo+j)=new[j]?)
 (hone:gV new=true) (hroom:off+new.length<=c.length) {bs:List Nat} (hb:b∉bs) {K:Value->Heap->Prop}
 (H:∀ h',h'.size=h.size->h'[b]?=some (.cells ⟨bF off new c⟩ T (0,0))->Keeps [b] h h'->K (.int .i64 ((min n dl:Nat):Int)) h') :
 aW P (Builtin.copy_ #[dT,sT] ty ⟨[.slice (some ⟨b,off,none⟩) dl dc,.slice (some ⟨xb,xo,none⟩) n xc]⟩) bs h K:=by
 unfold aW;intro hlt w hw;subst hw;have hsize:(sizeOf e).run P w=.ok sz w:=by simp [sizeOf,gZ P e w hi,hsz]
 have yZ:(loadCells ⟨xb,xo,none⟩ (min n dl*sz)).run P w=.ok ⟨new⟩ w:=wG hn (λk hk=>hnew k (by omega));obtain ⟨w',r1,r2,r3,r4,r5⟩:=x9 (P:=P) new 0 off c w (vQ hone) (by omega) o;refine ⟨_,w',?_,r2,λb' hb'=>r5 b' (λe=>hb (e ▸ hb')),H w'.heap r3 (by simpa using r4) ⟨by omega,λb' _ hb'=>r5 b' (by simpa using hb')⟩⟩;have hm:Nat.min n dl=min n dl:=rfl;simp [Builtin.copy_,dK P dT w hu,hsize,Builtin.lenOf,Builtin.firstCells,hm,yZ,r1,goInt]
theorem aW.copy0 {P:Program}{dT sT ty e:TypeId}{i:TypeInfo}(hu:P.underlying dT=some (.slice e))(hi:P.info? e=some i)
 {h:Heap} {a x:Option Addr} {dl dc n xc:Nat} (hz:min n dl=0) {bs:List Nat} {K:Value->Heap->Prop} (H:K (.int .i64 0) h) :
 aW P (Builtin.copy_ #[dT,sT] ty ⟨[.slice a dl dc,.slice x n xc]⟩) bs h K:=by
 unfold aW;intro hlt w hw;subst hw;refine ⟨_,w,?_,dG.refl w,λ_ _=>rfl,H⟩;have hm:Nat.min n dl=0:=hz;have hsize:(sizeOf e).run P w=.ok i.size w:=by simp [sizeOf,gZ P e w hi]
 cases a <;> cases x <;> simp [Builtin.copy_,dK P dT w hu,hsize,Builtin.lenOf,Builtin.firstCells,hm,goInt,loadCells,loadCellsFrom,storeCells]
def jQ (s:ByteArray):List Value:=s.data.toList.map λb=>.int .u8 (b.toNat:Int)
end Go.aN
namespace Go.Proofs.YtoociceebodfeaaGreatDoor
open Go Go.aN
theorem aH:Tryz.prog.follows .mixedOrders=true:=by kernel_rfl
def C5:aI:=⟨[0,1,3,4,5,6,7,8,9,12,13,14,15,17,18,19,20,21,24,27,33,50,99,136],[3,7,11,14,16,19],[3,7,11,14,16,19,56,66,76,85,87,111,121,141,143,151,161],[],[(12,.cons 0 (.cons 1 (.cons 2 (.cons 3 (.cons 4 (.cons 5 (.both (.cons 6 (.cons 7 (.cons 8 (.cons 9 (.cons 10 (.cons 11 (.cons 12 (.nil)))))))) (.cons 10 (.cons 6 (.cons 7 (.cons 8 (.cons 9 (.cons 11 (.cons 12 (.nil))))))))))))))),(14,.cons 0 (.cons 1 (.cons 2 (.cons 3 (.cons 4 (.cons 5 (.both (.cons 6 (.cons 7 (.cons 8 (.cons 9 (.cons 10 (.cons 11 (.cons 12 (.nil)))))))) (.cons 10 (.cons 6 (.cons 7 (.cons 8 (.cons 9 (.cons 11 (.cons 12 (.nil))))))))))))))),(18,.cons 0 (.cons 1 (.cons 2 (.cons 3 (.cons 4 (.cons 5 (.both (.cons 6 (.cons 7 (.cons 8 (.cons 9 (.cons 10 (.cons 11 (.cons 12 (.nil)))))))) (.cons 10 (.cons 6 (.cons 7 (.cons 8 (.cons 9 (.cons 11 (.cons 12 (.nil))))))))))))))),(19,.cons 0 (.cons 1 (.cons 2 (.cons 3 (.cons 4 (.cons 5 (.both (.cons 6 (.cons 7 (.cons 8 (.cons 9 (.cons 10 (.cons 11 (.cons 12 (.nil)))))))) (.cons 10 (.cons 6 (.cons 7 (.cons 8 (.cons 9 (.cons 11 (.cons 12 (.nil))))))))))))))),(23,.cons 0 (.cons 1 (.cons 2 (.cons 3 (.cons 4 (.cons 5 (.both (.cons 6 (.cons 7 (.cons 8 (.cons 9 (.cons 10 (.cons 11 (.cons 12 (.nil)))))))) (.cons 10 (.cons 6 (.cons 7 (.cons 8 (.cons 9 (.cons 11 (.cons 12 (.nil)))))))))))))))]⟩
theorem ok5:aJ Tryz.prog C5 Tryz.f5.ntmps ((Tryz.f5.body).getD .skip)=true:=by kernel_rfl
def C10:aI:=⟨[0,1,2,3,4,5,40],[4],[4,68,73],[],[]⟩
theorem ok10:aJ Tryz.prog C10 Tryz.f10.ntmps ((Tryz.f10.body).getD .skip)=true:=by kernel_rfl
def C11:aI:=⟨[0,1,2,6,17],[],[],[],[]⟩
theorem ok11:aJ Tryz.prog C11 Tryz.f11.ntmps ((Tryz.f11.body).getD .skip)=true:=by kernel_rfl
def C13:aI:=⟨[0,2],[],[],[],[]⟩
theorem ok13:aJ Tryz.prog C13 Tryz.f13.ntmps ((Tryz.f13.body).getD .skip)=true:=by kernel_rfl
def C14:aI:=⟨[0,2,3,4,18],[],[],[],[(5,.cons 0 (.cons 1 (.cons 2 (.cons 4 (.cons 5 (.cons 6 (.cons 7 (.cons 8 (.cons 9 (.cons 10 (.cons 11 (.cons 12 (.both (.cons 3 (.cons 13 (.cons 14 (.cons 15 (.cons 16 (.nil)))))) (.cons 13 (.cons 3 (.cons 14 (.cons 15 (.cons 16 (.nil)))))))))))))))))))]⟩
theorem ok14:aJ Tryz.prog C14 Tryz.f14.ntmps ((Tryz.f14.body).getD .skip)=true:=by kernel_rfl
def C15:aI:=⟨[0,1,3,4,5,6,7,8,9,10,11,12,13,14,16,17,24,31,40,49,56,63,72,83,92,108,120,132,146],[3,4,7,13],[3,4,7,13,15,20,27,34,36,43,45,52,59,66,68,75,77,79,86,88,96,98,100,112,124,136,149,158],[],[]⟩
theorem ok15:aJ Tryz.prog C15 Tryz.f15.ntmps ((Tryz.f15.body).getD .skip)=true:=by kernel_rfl
def C16:aI:=⟨[0,1,3,4,5,6,7,8,9,10,11,12,13,14,16,17,24,31,40,49,56,63,72,83,92,108,120,132,146],[3,4,7,13],[3,4,7,13,15,20,27,34,36,43,45,52,59,66,68,75,77,79,86,88,96,98,100,112,124,136,149,158],[],[]⟩
theorem ok16:aJ Tryz.prog C16 Tryz.f16.ntmps ((Tryz.f16.body).getD .skip)=true:=by kernel_rfl
def C17:aI:=⟨[0,1,2,3,4],[2,3],[2,3,5,7,11,13,18,20,25,27,32,34],[],[]⟩
theorem ok17:aJ Tryz.prog C17 Tryz.f17.ntmps ((Tryz.f17.body).getD .skip)=true:=by kernel_rfl
def C18:aI:=⟨[0,1,3,4,5,6,7,29,41,44],[3,6,7],[3,6,7,22,26,42],[],[(2,.cons 0 (.cons 1 (.cons 2 (.cons 3 (.cons 4 (.cons 6 (.cons 7 (.both (.cons 5 (.both (.cons 8 (.both (.cons 9 (.cons 10 (.cons 11 (.cons 12 (.nil))))) (.cons 10 (.cons 9 (.cons 11 (.cons 12 (.nil))))))) (.both (.cons 9 (.both (.cons 8 (.cons 10 (.cons 11 (.cons 12 (.nil))))) (.cons 10 (.cons 8 (.cons 11 (.cons 12 (.nil))))))) (.cons 10 (.both (.cons 8 (.cons 9 (.cons 11 (.cons 12 (.nil))))) (.cons 9 (.cons 8 (.cons 11 (.cons 12 (.nil)))))))))) (.both (.cons 9 (.both (.cons 5 (.both (.cons 8 (.cons 10 (.cons 11 (.cons 12 (.nil))))) (.cons 10 (.cons 8 (.cons 11 (.cons 12 (.nil))))))) (.cons 10 (.cons 5 (.cons 8 (.cons 11 (.cons 12 (.nil)))))))) (.cons 10 (.both (.cons 5 (.both (.cons 8 (.cons 9 (.cons 11 (.cons 12 (.nil))))) (.cons 9 (.cons 8 (.cons 11 (.cons 12 (.nil))))))) (.cons 9 (.cons 5 (.cons 8 (.cons 11 (.cons 12 (.nil)))))))))))))))))]⟩
theorem ok18:aJ Tryz.prog C18 Tryz.f18.ntmps ((Tryz.f18.body).getD .skip)=true:=by kernel_rfl
def C19:aI:=⟨[0,1,4,5,7,8,17],[4,7],[4,7,20,22,24],[],[]⟩
theorem ok19:aJ Tryz.prog C19 Tryz.f19.ntmps ((Tryz.f19.body).getD .skip)=true:=by kernel_rfl
def C20:aI:=⟨[0,1,4,5,7,8,9,10,12,21,29,30,31,32],[7,12],[7,12,36],[],[]⟩
theorem ok20:aJ Tryz.prog C20 Tryz.f20.ntmps ((Tryz.f20.body).getD .skip)=true:=by kernel_rfl
def C21:aI:=⟨[0,1,2,6,8,10,11,12,13,14,15,17,20,21,22,23,32,41,45,55,59,74,78,80,88],[11,13],[11,13,46,60,62,67,69,81,92],[],[]⟩
theorem ok21:aJ Tryz.prog C21 Tryz.f21.ntmps ((Tryz.f21.body).getD .skip)=true:=by kernel_rfl
def C22:aI:=⟨[0,1,2,6,8,10,17],[],[],[],[]⟩
theorem ok22:aJ Tryz.prog C22 Tryz.f22.ntmps ((Tryz.f22.body).getD .skip)=true:=by kernel_rfl
def C23:aI:=⟨[0,1,4,5,7,8,16,20],[7],[7,21],[],[]⟩
theorem ok23:aJ Tryz.prog C23 Tryz.f23.ntmps ((Tryz.f23.body).getD .skip)=true:=by kernel_rfl
def C24:aI:=⟨[0,1,2,3,8,9,11,12,21],[11],[11],[],[]⟩
theorem ok24:aJ Tryz.prog C24 Tryz.f24.ntmps ((Tryz.f24.body).getD .skip)=true:=by kernel_rfl
def C25:aI:=⟨[0,2,3,4,5,7,12,14,25],[],[],[],[]⟩
theorem ok25:aJ Tryz.prog C25 Tryz.f25.ntmps ((Tryz.f25.body).getD .skip)=true:=by kernel_rfl
def C26:aI:=⟨[0,1,4,5,6,7,18],[4],[4],[],[]⟩
theorem ok26:aJ Tryz.prog C26 Tryz.f26.ntmps ((Tryz.f26.body).getD .skip)=true:=by kernel_rfl
def C27:aI:=⟨[0,3],[],[],[],[]⟩
theorem ok27:aJ Tryz.prog C27 Tryz.f27.ntmps ((Tryz.f27.body).getD .skip)=true:=by kernel_rfl
def C28:aI:=⟨[0,2,4],[],[],[],[]⟩
theorem ok28:aJ Tryz.prog C28 Tryz.f28.ntmps ((Tryz.f28.body).getD .skip)=true:=by kernel_rfl
def C32:aI:=⟨[0,1,2,6,7,8,9,16],[],[],[],[]⟩
theorem ok32:aJ Tryz.prog C32 Tryz.f32.ntmps ((Tryz.f32.body).getD .skip)=true:=by kernel_rfl
def C33:aI:=⟨[0,2,3,4,5,6,10],[],[],[],[]⟩
theorem ok33:aJ Tryz.prog C33 Tryz.f33.ntmps ((Tryz.f33.body).getD .skip)=true:=by kernel_rfl
def C34:aI:=⟨[0,1,2,6,16],[],[],[],[]⟩
theorem ok34:aJ Tryz.prog C34 Tryz.f34.ntmps ((Tryz.f34.body).getD .skip)=true:=by kernel_rfl
def C35:aI:=⟨[0,1,2,3,8,9,10,11,20],[10],[10],[],[]⟩
theorem ok35:aJ Tryz.prog C35 Tryz.f35.ntmps ((Tryz.f35.body).getD .skip)=true:=by kernel_rfl
def C36:aI:=⟨[0,1,4],[],[],[],[]⟩
theorem ok36:aJ Tryz.prog C36 Tryz.f36.ntmps ((Tryz.f36.body).getD .skip)=true:=by kernel_rfl
def C37:aI:=⟨[0,2],[],[],[],[]⟩
theorem ok37:aJ Tryz.prog C37 Tryz.f37.ntmps ((Tryz.f37.body).getD .skip)=true:=by kernel_rfl
def C38:aI:=⟨[0,2,3,4,5,6,12,13,14,15,16,24,30,35],[],[],[],[]⟩
theorem ok38:aJ Tryz.prog C38 Tryz.f38.ntmps ((Tryz.f38.body).getD .skip)=true:=by kernel_rfl
def C39:aI:=⟨[0,2,6],[],[],[],[]⟩
theorem ok39:aJ Tryz.prog C39 Tryz.f39.ntmps ((Tryz.f39.body).getD .skip)=true:=by kernel_rfl
def C40:aI:=⟨[0],[],[],[],[]⟩
theorem ok40:aJ Tryz.prog C40 Tryz.f40.ntmps ((Tryz.f40.body).getD .skip)=true:=by kernel_rfl
def C41:aI:=⟨[0,2,4],[],[],[],[]⟩
theorem ok41:aJ Tryz.prog C41 Tryz.f41.ntmps ((Tryz.f41.body).getD .skip)=true:=by kernel_rfl
def C42:aI:=⟨[0,1,2,6,7,8,9,10,11,19,23,33,37,50],[8,10],[8,10,24,38,41,44],[],[]⟩
theorem ok42:aJ Tryz.prog C42 Tryz.f42.ntmps ((Tryz.f42.body).getD .skip)=true:=by kernel_rfl
def C43:aI:=⟨[0,1,4],[],[],[],[]⟩
theorem ok43:aJ Tryz.prog C43 Tryz.f43.ntmps ((Tryz.f43.body).getD .skip)=true:=by kernel_rfl
def C44:aI:=⟨[0,1,2,6,7,8,9,18],[8],[8],[],[]⟩
theorem ok44:aJ Tryz.prog C44 Tryz.f44.ntmps ((Tryz.f44.body).getD .skip)=true:=by kernel_rfl
def C45:aI:=⟨[0,1,2,6,12],[],[],[],[]⟩
theorem ok45:aJ Tryz.prog C45 Tryz.f45.ntmps ((Tryz.f45.body).getD .skip)=true:=by kernel_rfl
def C46:aI:=⟨[0,1,2,6,7,8,9,10,11,12,20,30,40,43,52],[],[],[],[]⟩
theorem ok46:aJ Tryz.prog C46 Tryz.f46.ntmps ((Tryz.f46.body).getD .skip)=true:=by kernel_rfl
def C47:aI:=⟨[0,1,2,6,8,15],[],[],[],[]⟩
theorem ok47:aJ Tryz.prog C47 Tryz.f47.ntmps ((Tryz.f47.body).getD .skip)=true:=by kernel_rfl
def C48:aI:=⟨[0,1,2,6,7,8,9,10,20,23,36,48,61,85],[],[],[],[]⟩
theorem ok48:aJ Tryz.prog C48 Tryz.f48.ntmps ((Tryz.f48.body).getD .skip)=true:=by kernel_rfl
def C49:aI:=⟨[0,1,2,6,8,10,11,12,13,14,15,16,17,18,34,44,47,57,61,76,78],[],[],[],[]⟩
theorem ok49:aJ Tryz.prog C49 Tryz.f49.ntmps ((Tryz.f49.body).getD .skip)=true:=by kernel_rfl
def C50:aI:=⟨[0,1,2,3,8,9,10,11,12,20,37],[],[],[],[]⟩
theorem ok50:aJ Tryz.prog C50 Tryz.f50.ntmps ((Tryz.f50.body).getD .skip)=true:=by kernel_rfl
def C51:aI:=⟨[0,1,2,6,7,8,9,10,18,34],[],[],[],[]⟩
theorem ok51:aJ Tryz.prog C51 Tryz.f51.ntmps ((Tryz.f51.body).getD .skip)=true:=by kernel_rfl
def C52:aI:=⟨[0,1,2,3,8,9,10,11,19],[],[],[],[]⟩
theorem ok52:aJ Tryz.prog C52 Tryz.f52.ntmps ((Tryz.f52.body).getD .skip)=true:=by kernel_rfl
def C53:aI:=⟨[0,1,4,5,6,7,8,16],[4,8],[4,8,26,28,30,33],[],[]⟩
theorem ok53:aJ Tryz.prog C53 Tryz.f53.ntmps ((Tryz.f53.body).getD .skip)=true:=by kernel_rfl
def C54:aI:=⟨[0,1,4,5,6,7,15,25],[],[],[],[]⟩
theorem ok54:aJ Tryz.prog C54 Tryz.f54.ntmps ((Tryz.f54.body).getD .skip)=true:=by kernel_rfl
def C55:aI:=⟨[0,1,4,5,6,7,8,9,28,30,42],[],[],[],[]⟩
theorem ok55:aJ Tryz.prog C55 Tryz.f55.ntmps ((Tryz.f55.body).getD .skip)=true:=by kernel_rfl
def C56:aI:=⟨[0,1,4,5,10,14,25],[],[],[],[]⟩
theorem ok56:aJ Tryz.prog C56 Tryz.f56.ntmps ((Tryz.f56.body).getD .skip)=true:=by kernel_rfl
def C57:aI:=⟨[0,2,3,12],[],[],[],[]⟩
theorem ok57:aJ Tryz.prog C57 Tryz.f57.ntmps ((Tryz.f57.body).getD .skip)=true:=by kernel_rfl
def C58:aI:=⟨[0,1,2,6,7,8,9,10,12,20],[7],[7],[],[]⟩
theorem ok58:aJ Tryz.prog C58 Tryz.f58.ntmps ((Tryz.f58.body).getD .skip)=true:=by kernel_rfl
def C59:aI:=⟨[0,1,3,4,5,7,8],[3],[3],[],[]⟩
theorem ok59:aJ Tryz.prog C59 Tryz.f59.ntmps ((Tryz.f59.body).getD .skip)=true:=by kernel_rfl
def C60:aI:=⟨[0,2,3,4,5,6,18,20,24],[],[],[],[]⟩
theorem ok60:aJ Tryz.prog C60 Tryz.f60.ntmps ((Tryz.f60.body).getD .skip)=true:=by kernel_rfl
def C61:aI:=⟨[0,1,4,5,6,7,8,9,10,11,14,23,34,46],[4,10],[4,10],[],[]⟩
theorem ok61:aJ Tryz.prog C61 Tryz.f61.ntmps ((Tryz.f61.body).getD .skip)=true:=by kernel_rfl
def C62:aI:=⟨[0,1,2,6,7,8,9,10,12,13,14,17,30,39,41,42,43,44,59],[8,12],[8,12,27,50],[],[]⟩
theorem ok62:aJ Tryz.prog C62 Tryz.f62.ntmps ((Tryz.f62.body).getD .skip)=true:=by kernel_rfl
def C63:aI:=⟨[0,1,3,4,5,7],[3,5],[3,5,10,12,14,21],[],[]⟩
theorem ok63:aJ Tryz.prog C63 Tryz.f63.ntmps ((Tryz.f63.body).getD .skip)=true:=by kernel_rfl
def C64:aI:=⟨[0,1,2,4,6,7,8,9,18],[4,7,9],[4,7,9,12,22,25,32],[],[]⟩
theorem ok64:aJ Tryz.prog C64 Tryz.f64.ntmps ((Tryz.f64.body).getD .skip)=true:=by kernel_rfl
def C65:aI:=⟨[0,1,2,3,8,9,10,11,12,13,14,22,31,34,42,58],[9,12],[9,12],[],[]⟩
theorem ok65:aJ Tryz.prog C65 Tryz.f65.ntmps ((Tryz.f65.body).getD .skip)=true:=by kernel_rfl
def C66:aI:=⟨[0,1,2,3,5,8,9,10,11,12,13,14,15,16,17,18,32,46,54,55,56,57,63,67,79],[5],[5,43,48],[],[]⟩
theorem ok66:aJ Tryz.prog C66 Tryz.f66.ntmps ((Tryz.f66.body).getD .skip)=true:=by kernel_rfl
def C67:aI:=⟨[0,1,4,5,6,7,8,9,23],[5,8],[5,8,20],[],[]⟩
theorem ok67:aJ Tryz.prog C67 Tryz.f67.ntmps ((Tryz.f67.body).getD .skip)=true:=by kernel_rfl
def C68:aI:=⟨[0,1,4,5,6,10,20],[],[],[],[]⟩
theorem ok68:aJ Tryz.prog C68 Tryz.f68.ntmps ((Tryz.f68.body).getD .skip)=true:=by kernel_rfl
def C71:aI:=⟨[0,2,3],[],[],[],[]⟩
theorem ok71:aJ Tryz.prog C71 Tryz.f71.ntmps ((Tryz.f71.body).getD .skip)=true:=by kernel_rfl
def C72:aI:=⟨[0,2,3,4,6,7,9,10,11,12,15,17,18,19,20,62,63,87],[2,6,9],[2,6,9,25,29,31,72,73],[],[]⟩
theorem ok72:aJ Tryz.prog C72 Tryz.f72.ntmps ((Tryz.f72.body).getD .skip)=true:=by kernel_rfl
def C73:aI:=⟨[0,1,2,6,7,8,12,13,14],[],[],[],[]⟩
theorem ok73:aJ Tryz.prog C73 Tryz.f73.ntmps ((Tryz.f73.body).getD .skip)=true:=by kernel_rfl
def C74:aI:=⟨[0,2],[],[],[],[]⟩
theorem ok74:aJ Tryz.prog C74 Tryz.f74.ntmps ((Tryz.f74.body).getD .skip)=true:=by kernel_rfl
def C75:aI:=⟨[0,2,3,4,5,6,7,8,16,28,49],[],[],[],[]⟩
theorem ok75:aJ Tryz.prog C75 Tryz.f75.ntmps ((Tryz.f75.body).getD .skip)=true:=by kernel_rfl
def C76:aI:=⟨[0,1,2,6,7,8,9,10,11,12,13,14,15,18,32,47,77,82,96],[],[],[],[]⟩
theorem ok76:aJ Tryz.prog C76 Tryz.f76.ntmps ((Tryz.f76.body).getD .skip)=true:=by kernel_rfl
def C77:aI:=⟨[0,1,4,5,6],[],[],[],[]⟩
theorem ok77:aJ Tryz.prog C77 Tryz.f77.ntmps ((Tryz.f77.body).getD .skip)=true:=by kernel_rfl
def C78:aI:=⟨[0,1,2,3,4,7,10,11,12,14,15,16,17,18,19,20,21,22,23,24,38,40,50,54,68,80,88,99,112,152],[7,10],[7,10,155,159],[],[]⟩
theorem ok78:aJ Tryz.prog C78 Tryz.f78.ntmps ((Tryz.f78.body).getD .skip)=true:=by kernel_rfl
def C79:aI:=⟨[0,1,2,3,6,8,10,16],[6],[6,17,20],[],[]⟩
theorem ok79:aJ Tryz.prog C79 Tryz.f79.ntmps ((Tryz.f79.body).getD .skip)=true:=by kernel_rfl
def C80:aI:=⟨[0,1,2,6,7,8,9,10,11,18,22,39,44,50,54],[7,9],[7,9,23,28,36,52,55,58,60,65],[],[]⟩
theorem ok80:aJ Tryz.prog C80 Tryz.f80.ntmps ((Tryz.f80.body).getD .skip)=true:=by kernel_rfl
def C81:aI:=⟨[0,1,2,5],[1],[1,3],[],[]⟩
theorem ok81:aJ Tryz.prog C81 Tryz.f81.ntmps ((Tryz.f81.body).getD .skip)=true:=by kernel_rfl
def C82:aI:=⟨[0,2],[],[],[],[]⟩
theorem ok82:aJ Tryz.prog C82 Tryz.f82.ntmps ((Tryz.f82.body).getD .skip)=true:=by kernel_rfl
def C83:aI:=⟨[0,1,2,4,6],[2],[2],[],[]⟩
theorem ok83:aJ Tryz.prog C83 Tryz.f83.ntmps ((Tryz.f83.body).getD .skip)=true:=by kernel_rfl
def C84:aI:=⟨[0,2,4],[],[],[],[]⟩
theorem ok84:aJ Tryz.prog C84 Tryz.f84.ntmps ((Tryz.f84.body).getD .skip)=true:=by kernel_rfl
def C85:aI:=⟨[0,1,2,6,7,14],[],[],[],[]⟩
theorem ok85:aJ Tryz.prog C85 Tryz.f85.ntmps ((Tryz.f85.body).getD .skip)=true:=by kernel_rfl
def C86:aI:=⟨[0,1,4,5,6,7,8,9,16,26,38],[],[],[],[]⟩
theorem ok86:aJ Tryz.prog C86 Tryz.f86.ntmps ((Tryz.f86.body).getD .skip)=true:=by kernel_rfl
def C87:aI:=⟨[0,2,3,4,5,9,15,17,35],[],[],[],[]⟩
theorem ok87:aJ Tryz.prog C87 Tryz.f87.ntmps ((Tryz.f87.body).getD .skip)=true:=by kernel_rfl
def C88:aI:=⟨[0],[],[],[],[]⟩
theorem ok88:aJ Tryz.prog C88 Tryz.f88.ntmps ((Tryz.f88.body).getD .skip)=true:=by kernel_rfl
def C89:aI:=⟨[0,1,4,5,6,7,20],[4,6],[4,6,17],[],[]⟩
theorem ok89:aJ Tryz.prog C89 Tryz.f89.ntmps ((Tryz.f89.body).getD .skip)=true:=by kernel_rfl
def C90:aI:=⟨[0,1,2,3,7],[1],[1,4,8],[],[]⟩
theorem ok90:aJ Tryz.prog C90 Tryz.f90.ntmps ((Tryz.f90.body).getD .skip)=true:=by kernel_rfl
def C91:aI:=⟨[0,1,2,3,6,8,9,10,11,12,13,14,15,16,20,28,39,43,44,45,66,69,90,103],[6,8],[6,8,57,108],[],[]⟩
theorem ok91:aJ Tryz.prog C91 Tryz.f91.ntmps ((Tryz.f91.body).getD .skip)=true:=by kernel_rfl
def C92:aI:=⟨[0,1,2,3,8,9,10,11,12,22,25],[],[],[],[]⟩
theorem ok92:aJ Tryz.prog C92 Tryz.f92.ntmps ((Tryz.f92.body).getD .skip)=true:=by kernel_rfl
def C93:aI:=⟨[0,1,4,5,6,7,8,9,10,11,12,13,14,15,22,26,44,54,68],[],[],[],[]⟩
theorem ok93:aJ Tryz.prog C93 Tryz.f93.ntmps ((Tryz.f93.body).getD .skip)=true:=by kernel_rfl
def C94:aI:=⟨[0,1,2,3,8,10],[],[],[],[]⟩
theorem ok94:aJ Tryz.prog C94 Tryz.f94.ntmps ((Tryz.f94.body).getD .skip)=true:=by kernel_rfl
def C95:aI:=⟨[0,1,2,6],[],[],[],[]⟩
theorem ok95:aJ Tryz.prog C95 Tryz.f95.ntmps ((Tryz.f95.body).getD .skip)=true:=by kernel_rfl
def C96:aI:=⟨[0,1,2,6,7,8,11,23,48],[],[],[],[]⟩
theorem ok96:aJ Tryz.prog C96 Tryz.f96.ntmps ((Tryz.f96.body).getD .skip)=true:=by kernel_rfl
def C97:aI:=⟨[0,1,4,5,6,7,26],[],[],[],[]⟩
theorem ok97:aJ Tryz.prog C97 Tryz.f97.ntmps ((Tryz.f97.body).getD .skip)=true:=by kernel_rfl
def C98:aI:=⟨[0,1,2,6,7,14,16,22,29],[],[],[],[]⟩
theorem ok98:aJ Tryz.prog C98 Tryz.f98.ntmps ((Tryz.f98.body).getD .skip)=true:=by kernel_rfl
def C99:aI:=⟨[0,1,4,5,7,9,13],[],[],[],[]⟩
theorem ok99:aJ Tryz.prog C99 Tryz.f99.ntmps ((Tryz.f99.body).getD .skip)=true:=by kernel_rfl
def C100:aI:=⟨[0,1,2,6,7,17,21],[],[],[],[]⟩
theorem ok100:aJ Tryz.prog C100 Tryz.f100.ntmps ((Tryz.f100.body).getD .skip)=true:=by kernel_rfl
def C101:aI:=⟨[0,1,2,6,7,8,9,10,11,12,13,14,15,16,17,18,26,29,30,31,32,44,49,60,77,81,90],[7,11],[7,11,64],[],[]⟩
theorem ok101:aJ Tryz.prog C101 Tryz.f101.ntmps ((Tryz.f101.body).getD .skip)=true:=by kernel_rfl
def C102:aI:=⟨[0,1,3,4,5,6,7,8,9,10,11,12,13,14,15,16,17,18,19,22,33,39,40,41,42,47,61,68,69,74,84,107],[3,16],[3,16,23,104],[],[]⟩
theorem ok102:aJ Tryz.prog C102 Tryz.f102.ntmps ((Tryz.f102.body).getD .skip)=true:=by kernel_rfl
def C103:aI:=⟨[0,1,4,5],[],[],[],[]⟩
theorem ok103:aJ Tryz.prog C103 Tryz.f103.ntmps ((Tryz.f103.body).getD .skip)=true:=by kernel_rfl
def C104:aI:=⟨[0,1,4],[],[],[],[]⟩
theorem ok104:aJ Tryz.prog C104 Tryz.f104.ntmps ((Tryz.f104.body).getD .skip)=true:=by kernel_rfl
def C105:aI:=⟨[0,1,4],[],[],[],[]⟩
theorem ok105:aJ Tryz.prog C105 Tryz.f105.ntmps ((Tryz.f105.body).getD .skip)=true:=by kernel_rfl
def C106:aI:=⟨[0,2],[],[],[],[]⟩
theorem ok106:aJ Tryz.prog C106 Tryz.f106.ntmps ((Tryz.f106.body).getD .skip)=true:=by kernel_rfl
def C107:aI:=⟨[0,2,3,4,5,6,7,8,15,19],[],[],[],[]⟩
theorem ok107:aJ Tryz.prog C107 Tryz.f107.ntmps ((Tryz.f107.body).getD .skip)=true:=by kernel_rfl
def C108:aI:=⟨[0,1,2,4,6,7,8,10,11,12,13,22],[4],[4],[],[]⟩
theorem ok108:aJ Tryz.prog C108 Tryz.f108.ntmps ((Tryz.f108.body).getD .skip)=true:=by kernel_rfl
def C109:aI:=⟨[0,1,2,3,6,7,8,9,10,11,12,13,14,15,16,17,18,20,25,36,46,63],[6,8],[6,8,66,69],[],[]⟩
theorem ok109:aJ Tryz.prog C109 Tryz.f109.ntmps ((Tryz.f109.body).getD .skip)=true:=by kernel_rfl
def C110:aI:=⟨[0,1,2,3,4,7,10,11,12,13,14,15,16,18,19,20,21,34,44,58,66,78,93],[7,10],[7,10,96,99],[],[]⟩
theorem ok110:aJ Tryz.prog C110 Tryz.f110.ntmps ((Tryz.f110.body).getD .skip)=true:=by kernel_rfl
def C111:aI:=⟨[0,1,4,5,7,8,9,11,13,25,27,48],[6,13],[6,13],[],[]⟩
theorem ok111:aJ Tryz.prog C111 Tryz.f111.ntmps ((Tryz.f111.body).getD .skip)=true:=by kernel_rfl
def C112:aI:=⟨[0,1,3,4,5,6,7,8,9,10,12,21,31,32,33,34,35,40,52],[],[],[],[]⟩
theorem ok112:aJ Tryz.prog C112 Tryz.f112.ntmps ((Tryz.f112.body).getD .skip)=true:=by kernel_rfl
def C113:aI:=⟨[0,1,4,5,6,7,10,19],[],[],[],[]⟩
theorem ok113:aJ Tryz.prog C113 Tryz.f113.ntmps ((Tryz.f113.body).getD .skip)=true:=by kernel_rfl
def C114:aI:=⟨[0,1,4,5],[],[],[],[]⟩
theorem ok114:aJ Tryz.prog C114 Tryz.f114.ntmps ((Tryz.f114.body).getD .skip)=true:=by kernel_rfl
def C115:aI:=⟨[0,2],[],[],[],[(1,.cons 0 (.cons 1 (.cons 2 (.cons 3 (.cons 5 (.cons 6 (.cons 7 (.both (.cons 4 (.cons 8 (.cons 9 (.cons 10 (.cons 11 (.nil)))))) (.cons 8 (.both (.cons 4 (.cons 9 (.cons 10 (.cons 11 (.nil))))) (.cons 9 (.cons 4 (.cons 10 (.cons 11 (.nil)))))))))))))))]⟩
theorem ok115:aJ Tryz.prog C115 Tryz.f115.ntmps ((Tryz.f115.body).getD .skip)=true:=by kernel_rfl
def C116:aI:=⟨[0,1,4],[],[],[],[]⟩
theorem ok116:aJ Tryz.prog C116 Tryz.f116.ntmps ((Tryz.f116.body).getD .skip)=true:=by kernel_rfl
def C119:aI:=⟨[0,1,4,5,6,16],[6],[6,13,17,20],[],[]⟩
theorem ok119:aJ Tryz.prog C119 Tryz.f119.ntmps ((Tryz.f119.body).getD .skip)=true:=by kernel_rfl
def C120:aI:=⟨[0,1,2,7,8],[],[],[],[]⟩
theorem ok120:aJ Tryz.prog C120 Tryz.f120.ntmps ((Tryz.f120.body).getD .skip)=true:=by kernel_rfl
def C121:aI:=⟨[0,1,2,6,7,8,13],[],[],[],[]⟩
theorem ok121:aJ Tryz.prog C121 Tryz.f121.ntmps ((Tryz.f121.body).getD .skip)=true:=by kernel_rfl
def C122:aI:=⟨[0,1,2,3,4,5,6,7,8,9,12,19,20,21,22,46],[1,7],[1,7,15,32,36,38,48],[],[]⟩
theorem ok122:aJ Tryz.prog C122 Tryz.f122.ntmps ((Tryz.f122.body).getD .skip)=true:=by kernel_rfl
def C123:aI:=⟨[0,1,4,5,10,12,13,14,24],[],[],[],[]⟩
theorem ok123:aJ Tryz.prog C123 Tryz.f123.ntmps ((Tryz.f123.body).getD .skip)=true:=by kernel_rfl
def C124:aI:=⟨[0,1,4,5,6,8,18],[],[],[],[]⟩
theorem ok124:aJ Tryz.prog C124 Tryz.f124.ntmps ((Tryz.f124.body).getD .skip)=true:=by kernel_rfl
def C127:aI:=⟨[0,2,3,4,5,8,12,20,30],[],[],[],[]⟩
theorem ok127:aJ Tryz.prog C127 Tryz.f127.ntmps ((Tryz.f127.body).getD .skip)=true:=by kernel_rfl
def C128:aI:=⟨[0,1,4,5,6,19],[],[],[],[]⟩
theorem ok128:aJ Tryz.prog C128 Tryz.f128.ntmps ((Tryz.f128.body).getD .skip)=true:=by kernel_rfl
def C129:aI:=⟨[0,2,3],[],[],[],[]⟩
theorem ok129:aJ Tryz.prog C129 Tryz.f129.ntmps ((Tryz.f129.body).getD .skip)=true:=by kernel_rfl
def C130:aI:=⟨[0,1,4],[],[],[],[]⟩
theorem ok130:aJ Tryz.prog C130 Tryz.f130.ntmps ((Tryz.f130.body).getD .skip)=true:=by kernel_rfl
def C131:aI:=⟨[0,1,4,6,13],[],[],[],[]⟩
theorem ok131:aJ Tryz.prog C131 Tryz.f131.ntmps ((Tryz.f131.body).getD .skip)=true:=by kernel_rfl
def C132:aI:=⟨[0,2],[],[],[],[]⟩
theorem ok132:aJ Tryz.prog C132 Tryz.f132.ntmps ((Tryz.f132.body).getD .skip)=true:=by kernel_rfl
def C133:aI:=⟨[0,2],[],[],[],[]⟩
theorem ok133:aJ Tryz.prog C133 Tryz.f133.ntmps ((Tryz.f133.body).getD .skip)=true:=by kernel_rfl
def C134:aI:=⟨[0,1,4,5,7,8,9,11,22,23,24,29,42],[],[],[],[]⟩
theorem ok134:aJ Tryz.prog C134 Tryz.f134.ntmps ((Tryz.f134.body).getD .skip)=true:=by kernel_rfl
def C135:aI:=⟨[0,1,2,6,7,8,15],[],[],[],[]⟩
theorem ok135:aJ Tryz.prog C135 Tryz.f135.ntmps ((Tryz.f135.body).getD .skip)=true:=by kernel_rfl
def C136:aI:=⟨[0,1,2,3,6,8,9,10,11,13,27,29,39,42,48,56,65,69,70,71,72],[8],[8],[],[(24,.cons 1 (.cons 2 (.cons 3 (.cons 4 (.both (.cons 0 (.cons 5 (.cons 6 (.cons 7 (.nil))))) (.cons 5 (.cons 0 (.cons 6 (.cons 7 (.nil))))))))))]⟩
theorem ok136:aJ Tryz.prog C136 Tryz.f136.ntmps ((Tryz.f136.body).getD .skip)=true:=by kernel_rfl
def C137:aI:=⟨[0,1,4],[],[],[],[]⟩
theorem ok137:aJ Tryz.prog C137 Tryz.f137.ntmps ((Tryz.f137.body).getD .skip)=true:=by kernel_rfl
def C138:aI:=⟨[0,1,2,5,6,7,8,9,10,30],[5],[5],[],[]⟩
theorem ok138:aJ Tryz.prog C138 Tryz.f138.ntmps ((Tryz.f138.body).getD .skip)=true:=by kernel_rfl
def C139:aI:=⟨[0,1,2,5,6,7,8,9,10,13,28],[5,8],[5,8,11],[],[]⟩
theorem ok139:aJ Tryz.prog C139 Tryz.f139.ntmps ((Tryz.f139.body).getD .skip)=true:=by kernel_rfl
def C140:aI:=⟨[0,1],[],[],[],[]⟩
theorem ok140:aJ Tryz.prog C140 Tryz.f140.ntmps ((Tryz.f140.body).getD .skip)=true:=by kernel_rfl
def C141:aI:=⟨[0,1,4,5,6,7,9],[4,6],[4,6,16,17],[],[]⟩
theorem ok141:aJ Tryz.prog C141 Tryz.f141.ntmps ((Tryz.f141.body).getD .skip)=true:=by kernel_rfl
def C142:aI:=⟨[0,1,4,6,14,20,34],[],[],[],[]⟩
theorem ok142:aJ Tryz.prog C142 Tryz.f142.ntmps ((Tryz.f142.body).getD .skip)=true:=by kernel_rfl
def C143:aI:=⟨[0,2],[2],[2],[],[]⟩
theorem ok143:aJ Tryz.prog C143 Tryz.f143.ntmps ((Tryz.f143.body).getD .skip)=true:=by kernel_rfl
def C144:aI:=⟨[0,1,2],[1],[1,3,5,7],[],[]⟩
theorem ok144:aJ Tryz.prog C144 Tryz.f144.ntmps ((Tryz.f144.body).getD .skip)=true:=by kernel_rfl
def C145:aI:=⟨[0,1,4,5,6,13,17],[],[],[],[]⟩
theorem ok145:aJ Tryz.prog C145 Tryz.f145.ntmps ((Tryz.f145.body).getD .skip)=true:=by kernel_rfl
def C146:aI:=⟨[0,1,2,6,7,8,9,15,18,25],[],[],[],[(8,.cons 0 (.cons 1 (.cons 2 (.cons 4 (.cons 5 (.cons 6 (.cons 9 (.cons 10 (.cons 11 (.both (.cons 3 (.cons 7 (.cons 8 (.cons 12 (.cons 13 (.cons 14 (.nil))))))) (.cons 7 (.cons 3 (.cons 8 (.cons 12 (.cons 13 (.cons 14 (.nil)))))))))))))))))]⟩
theorem ok146:aJ Tryz.prog C146 Tryz.f146.ntmps ((Tryz.f146.body).getD .skip)=true:=by kernel_rfl
def C147:aI:=⟨[0,1,4,5,6,7,8,16],[],[],[],[(4,.cons 0 (.cons 1 (.cons 2 (.cons 4 (.cons 5 (.cons 6 (.cons 7 (.cons 9 (.cons 10 (.cons 11 (.cons 12 (.both (.cons 3 (.both (.cons 8 (.cons 13 (.cons 14 (.cons 15 (.cons 16 (.nil)))))) (.cons 13 (.cons 8 (.cons 14 (.cons 15 (.cons 16 (.nil)))))))) (.cons 13 (.cons 3 (.cons 8 (.cons 14 (.cons 15 (.cons 16 (.nil)))))))))))))))))))]⟩
theorem ok147:aJ Tryz.prog C147 Tryz.f147.ntmps ((Tryz.f147.body).getD .skip)=true:=by kernel_rfl
def C148:aI:=⟨[0,2],[],[],[],[]⟩
theorem ok148:aJ Tryz.prog C148 Tryz.f148.ntmps ((Tryz.f148.body).getD .skip)=true:=by kernel_rfl
def C149:aI:=⟨[0,1,4,5,6,7,20],[4,6],[4,6,17],[],[]⟩
theorem ok149:aJ Tryz.prog C149 Tryz.f149.ntmps ((Tryz.f149.body).getD .skip)=true:=by kernel_rfl
def C150:aI:=⟨[0,1,3,4,5,6,7,8,16,23],[3],[3],[],[]⟩
theorem ok150:aJ Tryz.prog C150 Tryz.f150.ntmps ((Tryz.f150.body).getD .skip)=true:=by kernel_rfl
def C151:aI:=⟨[0,1,4],[],[],[],[]⟩
theorem ok151:aJ Tryz.prog C151 Tryz.f151.ntmps ((Tryz.f151.body).getD .skip)=true:=by kernel_rfl
def C152:aI:=⟨[0,1,4,5,6,7,18],[],[],[],[]⟩
theorem ok152:aJ Tryz.prog C152 Tryz.f152.ntmps ((Tryz.f152.body).getD .skip)=true:=by kernel_rfl
def C153:aI:=⟨[0,2],[],[],[],[]⟩
theorem ok153:aJ Tryz.prog C153 Tryz.f153.ntmps ((Tryz.f153.body).getD .skip)=true:=by kernel_rfl
def C154:aI:=⟨[0,1,4],[],[],[],[]⟩
theorem ok154:aJ Tryz.prog C154 Tryz.f154.ntmps ((Tryz.f154.body).getD .skip)=true:=by kernel_rfl
def C155:aI:=⟨[0,1,4,5,6,7,8,9,11],[4],[4],[],[(4,.cons 0 (.cons 1 (.cons 2 (.cons 3 (.cons 4 (.cons 5 (.cons 6 (.cons 7 (.cons 8 (.cons 9 (.cons 10 (.cons 11 (.cons 12 (.cons 13 (.cons 14 (.cons 15 (.both (.cons 16 (.cons 17 (.cons 18 (.cons 19 (.cons 20 (.nil)))))) (.cons 19 (.cons 16 (.cons 17 (.cons 18 (.cons 20 (.nil)))))))))))))))))))))))]⟩
theorem ok155:aJ Tryz.prog C155 Tryz.f155.ntmps ((Tryz.f155.body).getD .skip)=true:=by kernel_rfl
def C159:aI:=⟨[0,1,4,5,6,7,10,15,28,35,49],[],[],[],[]⟩
theorem ok159:aJ Tryz.prog C159 Tryz.f159.ntmps ((Tryz.f159.body).getD .skip)=true:=by kernel_rfl
def C160:aI:=⟨[0,2,4],[],[],[],[]⟩
theorem ok160:aJ Tryz.prog C160 Tryz.f160.ntmps ((Tryz.f160.body).getD .skip)=true:=by kernel_rfl
def C161:aI:=⟨[0,1,2,3,4],[2,3],[2,3,5,7],[],[]⟩
theorem ok161:aJ Tryz.prog C161 Tryz.f161.ntmps ((Tryz.f161.body).getD .skip)=true:=by kernel_rfl
def C162:aI:=⟨[0,1,4,5,9],[],[],[],[]⟩
theorem ok162:aJ Tryz.prog C162 Tryz.f162.ntmps ((Tryz.f162.body).getD .skip)=true:=by kernel_rfl
def C163:aI:=⟨[0,1,2,3,8,9,10,11,13,15,20,36,41],[],[],[],[]⟩
theorem ok163:aJ Tryz.prog C163 Tryz.f163.ntmps ((Tryz.f163.body).getD .skip)=true:=by kernel_rfl
def C164:aI:=⟨[0,1,4,5,7,8,9,16],[],[],[],[]⟩
theorem ok164:aJ Tryz.prog C164 Tryz.f164.ntmps ((Tryz.f164.body).getD .skip)=true:=by kernel_rfl
def C165:aI:=⟨[0,2,3,5,6,7,13],[],[],[],[]⟩
theorem ok165:aJ Tryz.prog C165 Tryz.f165.ntmps ((Tryz.f165.body).getD .skip)=true:=by kernel_rfl
def C166:aI:=⟨[0,2,3,4,14],[],[],[],[]⟩
theorem ok166:aJ Tryz.prog C166 Tryz.f166.ntmps ((Tryz.f166.body).getD .skip)=true:=by kernel_rfl
def C167:aI:=⟨[0,1,3,4,5,6,11],[],[],[],[]⟩
theorem ok167:aJ Tryz.prog C167 Tryz.f167.ntmps ((Tryz.f167.body).getD .skip)=true:=by kernel_rfl
def C168:aI:=⟨[0,1,4,6,13],[],[],[],[]⟩
theorem ok168:aJ Tryz.prog C168 Tryz.f168.ntmps ((Tryz.f168.body).getD .skip)=true:=by kernel_rfl
def C169:aI:=⟨[0,1,2,6,7,8,9,10,11,12,16,29,30,31,37],[],[],[],[]⟩
theorem ok169:aJ Tryz.prog C169 Tryz.f169.ntmps ((Tryz.f169.body).getD .skip)=true:=by kernel_rfl
def C170:aI:=⟨[0,1,3,4,5],[4],[4,15],[],[]⟩
theorem ok170:aJ Tryz.prog C170 Tryz.f170.ntmps ((Tryz.f170.body).getD .skip)=true:=by kernel_rfl
def C171:aI:=⟨[0,1,4,6],[],[],[],[]⟩
theorem ok171:aJ Tryz.prog C171 Tryz.f171.ntmps ((Tryz.f171.body).getD .skip)=true:=by kernel_rfl
def C172:aI:=⟨[0,1,2,3,4,10],[],[],[],[]⟩
theorem ok172:aJ Tryz.prog C172 Tryz.f172.ntmps ((Tryz.f172.body).getD .skip)=true:=by kernel_rfl
def C173:aI:=⟨[0,1,4,5,6,7,8,9,16,25,26,27,28],[],[],[],[]⟩
theorem ok173:aJ Tryz.prog C173 Tryz.f173.ntmps ((Tryz.f173.body).getD .skip)=true:=by kernel_rfl
def C174:aI:=⟨[0,1,2,3,8,9,10,11,12,13,14,22],[],[],[],[]⟩
theorem ok174:aJ Tryz.prog C174 Tryz.f174.ntmps ((Tryz.f174.body).getD .skip)=true:=by kernel_rfl
def C175:aI:=⟨[0,2,3,5,6,8,9,10,11,12,20,25,26,27,28],[],[],[],[]⟩
theorem ok175:aJ Tryz.prog C175 Tryz.f175.ntmps ((Tryz.f175.body).getD .skip)=true:=by kernel_rfl
def C176:aI:=⟨[0,1,4],[],[],[],[]⟩
theorem ok176:aJ Tryz.prog C176 Tryz.f176.ntmps ((Tryz.f176.body).getD .skip)=true:=by kernel_rfl
def C177:aI:=⟨[0,2,3,5,6,8,9,10,11,12,20,25,26,27,28],[],[],[],[]⟩
theorem ok177:aJ Tryz.prog C177 Tryz.f177.ntmps ((Tryz.f177.body).getD .skip)=true:=by kernel_rfl
def C178:aI:=⟨[0,1,4,5,6,7,8,10,26,37],[],[],[],[]⟩
theorem ok178:aJ Tryz.prog C178 Tryz.f178.ntmps ((Tryz.f178.body).getD .skip)=true:=by kernel_rfl
def C179:aI:=⟨[0,1,4],[],[],[],[]⟩
theorem ok179:aJ Tryz.prog C179 Tryz.f179.ntmps ((Tryz.f179.body).getD .skip)=true:=by kernel_rfl
def C180:aI:=⟨[0,1,4,5,6,7,8,9,10,11,12,14,18,34,40,42,43,49,58,67,76,85,96,104,113],[],[],[],[]⟩
theorem ok180:aJ Tryz.prog C180 Tryz.f180.ntmps ((Tryz.f180.body).getD .skip)=true:=by kernel_rfl
def C181:aI:=⟨[0,1,4,5,6,7,16,20,21,22],[],[],[],[]⟩
theorem ok181:aJ Tryz.prog C181 Tryz.f181.ntmps ((Tryz.f181.body).getD .skip)=true:=by kernel_rfl
def C182:aI:=⟨[0,6,19],[],[],[],[]⟩
theorem ok182:aJ Tryz.prog C182 Tryz.f182.ntmps ((Tryz.f182.body).getD .skip)=true:=by kernel_rfl
def C192:aI:=⟨[0,2,4,8,14],[],[],[],[]⟩
theorem ok192:aJ Tryz.prog C192 Tryz.f192.ntmps ((Tryz.f192.body).getD .skip)=true:=by kernel_rfl
def C193:aI:=⟨[0,1,4,20],[],[],[],[]⟩
theorem ok193:aJ Tryz.prog C193 Tryz.f193.ntmps ((Tryz.f193.body).getD .skip)=true:=by kernel_rfl
def C194:aI:=⟨[0,1,2,3,4,6,7,22],[3],[3,14],[],[]⟩
theorem ok194:aJ Tryz.prog C194 Tryz.f194.ntmps ((Tryz.f194.body).getD .skip)=true:=by kernel_rfl
def C195:aI:=⟨[0,1,2,3,5,14,15,16],[1],[1,6,8,10,13,25],[],[]⟩
theorem ok195:aJ Tryz.prog C195 Tryz.f195.ntmps ((Tryz.f195.body).getD .skip)=true:=by kernel_rfl
def C196:aI:=⟨[0,1,2,3,8,9,10,14,17],[],[],[],[]⟩
theorem ok196:aJ Tryz.prog C196 Tryz.f196.ntmps ((Tryz.f196.body).getD .skip)=true:=by kernel_rfl
def C200:aI:=⟨[0,2,3,4,8,41],[],[],[],[]⟩
theorem ok200:aJ Tryz.prog C200 Tryz.f200.ntmps ((Tryz.f200.body).getD .skip)=true:=by kernel_rfl
def C201:aI:=⟨[0,1,4,5,15,24],[],[],[],[]⟩
theorem ok201:aJ Tryz.prog C201 Tryz.f201.ntmps ((Tryz.f201.body).getD .skip)=true:=by kernel_rfl
def C202:aI:=⟨[0,1,2,6,13],[],[],[],[]⟩
theorem ok202:aJ Tryz.prog C202 Tryz.f202.ntmps ((Tryz.f202.body).getD .skip)=true:=by kernel_rfl
def C203:aI:=⟨[0,1,2,6,7,8,9,25],[],[],[],[]⟩
theorem ok203:aJ Tryz.prog C203 Tryz.f203.ntmps ((Tryz.f203.body).getD .skip)=true:=by kernel_rfl
def C204:aI:=⟨[0,2],[],[],[],[]⟩
theorem ok204:aJ Tryz.prog C204 Tryz.f204.ntmps ((Tryz.f204.body).getD .skip)=true:=by kernel_rfl
def C205:aI:=⟨[0,1,4,5,7,8,9,16],[],[],[],[]⟩
theorem ok205:aJ Tryz.prog C205 Tryz.f205.ntmps ((Tryz.f205.body).getD .skip)=true:=by kernel_rfl
def C206:aI:=⟨[0,1,2,6,7,8,9,10,11],[],[],[],[]⟩
theorem ok206:aJ Tryz.prog C206 Tryz.f206.ntmps ((Tryz.f206.body).getD .skip)=true:=by kernel_rfl
def C207:aI:=⟨[0,1,2,6,8,9],[6,8],[6,8],[],[]⟩
theorem ok207:aJ Tryz.prog C207 Tryz.f207.ntmps ((Tryz.f207.body).getD .skip)=true:=by kernel_rfl
def C208:aI:=⟨[0,1,2,5,6,7,8,9,11,12,13,14,19,30,36,37,38,39,44,49],[5,6],[5,6,59],[],[]⟩
theorem ok208:aJ Tryz.prog C208 Tryz.f208.ntmps ((Tryz.f208.body).getD .skip)=true:=by kernel_rfl
def C209:aI:=⟨[0,1,4,5,6,13,17],[5],[5,18,23],[],[]⟩
theorem ok209:aJ Tryz.prog C209 Tryz.f209.ntmps ((Tryz.f209.body).getD .skip)=true:=by kernel_rfl
def C210:aI:=⟨[0,2,3,4,7,8],[2,3],[2,3,11,12],[],[]⟩
theorem ok210:aJ Tryz.prog C210 Tryz.f210.ntmps ((Tryz.f210.body).getD .skip)=true:=by kernel_rfl
def C211:aI:=⟨[0,1,2,12],[],[],[],[]⟩
theorem ok211:aJ Tryz.prog C211 Tryz.f211.ntmps ((Tryz.f211.body).getD .skip)=true:=by kernel_rfl
def C212:aI:=⟨[0,1,4,5,6,7,14],[],[],[],[]⟩
theorem ok212:aJ Tryz.prog C212 Tryz.f212.ntmps ((Tryz.f212.body).getD .skip)=true:=by kernel_rfl
def C213:aI:=⟨[0,2,3,5,6,8,9,10,11,12,20,25,26,27,28],[],[],[],[]⟩
theorem ok213:aJ Tryz.prog C213 Tryz.f213.ntmps ((Tryz.f213.body).getD .skip)=true:=by kernel_rfl
def C214:aI:=⟨[0,2,3],[],[],[],[]⟩
theorem ok214:aJ Tryz.prog C214 Tryz.f214.ntmps ((Tryz.f214.body).getD .skip)=true:=by kernel_rfl
def C215:aI:=⟨[0,1,4,5,6],[],[],[],[]⟩
theorem ok215:aJ Tryz.prog C215 Tryz.f215.ntmps ((Tryz.f215.body).getD .skip)=true:=by kernel_rfl
def C216:aI:=⟨[0,1,4,5,6,12,21,34],[],[],[],[(4,.cons 0 (.cons 1 (.cons 2 (.cons 4 (.cons 5 (.cons 3 (.cons 6 (.cons 7 (.nil)))))))))]⟩
theorem ok216:aJ Tryz.prog C216 Tryz.f216.ntmps ((Tryz.f216.body).getD .skip)=true:=by kernel_rfl
def C219:aI:=⟨[0,1,4],[],[],[],[]⟩
theorem ok219:aJ Tryz.prog C219 Tryz.f219.ntmps ((Tryz.f219.body).getD .skip)=true:=by kernel_rfl
def C221:aI:=⟨[0,1,4,5,6,9,15,24],[],[],[],[]⟩
theorem ok221:aJ Tryz.prog C221 Tryz.f221.ntmps ((Tryz.f221.body).getD .skip)=true:=by kernel_rfl
def C222:aI:=⟨[0,1,4],[],[],[],[]⟩
theorem ok222:aJ Tryz.prog C222 Tryz.f222.ntmps ((Tryz.f222.body).getD .skip)=true:=by kernel_rfl
def C223:aI:=⟨[0,2,3],[],[],[],[]⟩
theorem ok223:aJ Tryz.prog C223 Tryz.f223.ntmps ((Tryz.f223.body).getD .skip)=true:=by kernel_rfl
def C224:aI:=⟨[0,1,4,5,7,8,10,12,13,15,22,29,39,40,41,42,49,63,64,65,66],[],[],[],[]⟩
theorem ok224:aJ Tryz.prog C224 Tryz.f224.ntmps ((Tryz.f224.body).getD .skip)=true:=by kernel_rfl
def C225:aI:=⟨[0,1,4,5,7,8,9,16],[],[],[],[]⟩
theorem ok225:aJ Tryz.prog C225 Tryz.f225.ntmps ((Tryz.f225.body).getD .skip)=true:=by kernel_rfl
def C226:aI:=⟨[0,1,2,3],[2],[2,4],[],[]⟩
theorem ok226:aJ Tryz.prog C226 Tryz.f226.ntmps ((Tryz.f226.body).getD .skip)=true:=by kernel_rfl
def C227:aI:=⟨[0,2,3,5,7,8,9,10],[],[],[],[]⟩
theorem ok227:aJ Tryz.prog C227 Tryz.f227.ntmps ((Tryz.f227.body).getD .skip)=true:=by kernel_rfl
def C228:aI:=⟨[0,1,2,3,8,9,10,11,12,16,26,34],[],[],[],[(8,.cons 0 (.cons 1 (.cons 2 (.cons 4 (.cons 5 (.cons 6 (.cons 7 (.cons 9 (.cons 10 (.both (.cons 3 (.both (.cons 8 (.cons 12 (.both (.cons 11 (.cons 13 (.cons 14 (.cons 15 (.cons 16 (.nil)))))) (.cons 13 (.both (.cons 11 (.cons 14 (.cons 15 (.cons 16 (.nil))))) (.cons 14 (.cons 15 (.cons 11 (.cons 16 (.nil)))))))))) (.cons 11 (.cons 8 (.cons 12 (.cons 13 (.cons 14 (.cons 15 (.cons 16 (.nil)))))))))) (.both (.cons 8 (.both (.cons 3 (.cons 12 (.both (.cons 11 (.cons 13 (.cons 14 (.cons 15 (.cons 16 (.nil)))))) (.cons 13 (.both (.cons 11 (.cons 14 (.cons 15 (.cons 16 (.nil))))) (.cons 14 (.cons 15 (.cons 11 (.cons 16 (.nil)))))))))) (.cons 11 (.cons 3 (.cons 12 (.cons 13 (.cons 14 (.cons 15 (.cons 16 (.nil)))))))))) (.cons 11 (.cons 3 (.cons 8 (.cons 12 (.cons 13 (.cons 14 (.cons 15 (.cons 16 (.nil))))))))))))))))))))]⟩
theorem ok228:aJ Tryz.prog C228 Tryz.f228.ntmps ((Tryz.f228.body).getD .skip)=true:=by kernel_rfl
def C229:aI:=⟨[0,1,4,6,16],[],[],[],[]⟩
theorem ok229:aJ Tryz.prog C229 Tryz.f229.ntmps ((Tryz.f229.body).getD .skip)=true:=by kernel_rfl
def C230:aI:=⟨[0,1,4,6,16],[],[],[],[]⟩
theorem ok230:aJ Tryz.prog C230 Tryz.f230.ntmps ((Tryz.f230.body).getD .skip)=true:=by kernel_rfl
def C231:aI:=⟨[0,1,4,5,6,7,8,9],[],[],[],[]⟩
theorem ok231:aJ Tryz.prog C231 Tryz.f231.ntmps ((Tryz.f231.body).getD .skip)=true:=by kernel_rfl
def C232:aI:=⟨[0,1,4,5,7,8,9,16],[],[],[],[]⟩
theorem ok232:aJ Tryz.prog C232 Tryz.f232.ntmps ((Tryz.f232.body).getD .skip)=true:=by kernel_rfl
def C234:aI:=⟨[0,1,7,21],[],[],[],[]⟩
theorem ok234:aJ Tryz.prog C234 Tryz.f234.ntmps ((Tryz.f234.body).getD .skip)=true:=by kernel_rfl
def C235:aI:=⟨[0,2],[],[],[],[]⟩
theorem ok235:aJ Tryz.prog C235 Tryz.f235.ntmps ((Tryz.f235.body).getD .skip)=true:=by kernel_rfl
def C242:aI:=⟨[0,2],[],[],[],[]⟩
theorem ok242:aJ Tryz.prog C242 Tryz.f242.ntmps ((Tryz.f242.body).getD .skip)=true:=by kernel_rfl
def C245:aI:=⟨[0,2,3],[],[],[],[]⟩
theorem ok245:aJ Tryz.prog C245 Tryz.f245.ntmps ((Tryz.f245.body).getD .skip)=true:=by kernel_rfl
def C246:aI:=⟨[0,1,4,6,16],[],[],[],[]⟩
theorem ok246:aJ Tryz.prog C246 Tryz.f246.ntmps ((Tryz.f246.body).getD .skip)=true:=by kernel_rfl
def C247:aI:=⟨[0,1,4,5,6,7,12],[],[],[],[]⟩
theorem ok247:aJ Tryz.prog C247 Tryz.f247.ntmps ((Tryz.f247.body).getD .skip)=true:=by kernel_rfl
def C248:aI:=⟨[0,1,4,13],[],[],[],[]⟩
theorem ok248:aJ Tryz.prog C248 Tryz.f248.ntmps ((Tryz.f248.body).getD .skip)=true:=by kernel_rfl
def C249:aI:=⟨[0,1,4,16],[],[],[],[]⟩
theorem ok249:aJ Tryz.prog C249 Tryz.f249.ntmps ((Tryz.f249.body).getD .skip)=true:=by kernel_rfl
def C266:aI:=⟨[0,1,4,5,6,7,8,9,10,11,12,13,16,24,31,36,59,64,73,93,107,114,132,139],[],[],[],[]⟩
theorem ok266:aJ Tryz.prog C266 Tryz.f266.ntmps ((Tryz.f266.body).getD .skip)=true:=by kernel_rfl
def C267:aI:=⟨[0,1,4],[],[],[],[]⟩
theorem ok267:aJ Tryz.prog C267 Tryz.f267.ntmps ((Tryz.f267.body).getD .skip)=true:=by kernel_rfl
def C269:aI:=⟨[0,1,4,5,6,7,8,9,10,11,12,13],[],[],[],[]⟩
theorem ok269:aJ Tryz.prog C269 Tryz.f269.ntmps ((Tryz.f269.body).getD .skip)=true:=by kernel_rfl
def C270:aI:=⟨[0,1,4],[],[],[],[(0,.cons 0 (.cons 1 (.cons 2 (.cons 3 (.cons 4 (.cons 5 (.cons 6 (.cons 7 (.cons 9 (.cons 10 (.cons 11 (.both (.cons 8 (.cons 12 (.cons 13 (.cons 14 (.cons 15 (.nil)))))) (.cons 12 (.both (.cons 8 (.cons 13 (.cons 14 (.cons 15 (.nil))))) (.cons 13 (.cons 8 (.cons 14 (.cons 15 (.nil)))))))))))))))))))]⟩
theorem ok270:aJ Tryz.prog C270 Tryz.f270.ntmps ((Tryz.f270.body).getD .skip)=true:=by kernel_rfl
def C281:aI:=⟨[0,2,3,5,6,7,8,9,21],[5],[5,13,22,25,28],[],[]⟩
theorem ok281:aJ Tryz.prog C281 Tryz.f281.ntmps ((Tryz.f281.body).getD .skip)=true:=by kernel_rfl
def C289:aI:=⟨[0,1,4],[],[],[],[]⟩
theorem ok289:aJ Tryz.prog C289 Tryz.f289.ntmps ((Tryz.f289.body).getD .skip)=true:=by kernel_rfl
set_option maxRecDepth 100000
def KF (i:Nat):List Value:=[.int .i64 1,.int .i64 0,.int .i64 1,.int .i64 8,.int .i64 2,.int .i64 (if 1<i then 8 else 0),.int .i64 24,.int .i64 8,.int .i64 3,.int .i64 (if 2<i then 200 else 0),.int .i64 96,.int .i64 1,
 .int .i64 4,.int .i64 (if 3<i then 296 else 0),.int .i64 4,.int .i64 248,.int .i64 5,.int .i64 (if 4<i then 1288 else 0),.int .i64 96,.int .i64 16]
theorem vY (k a b c:Int)(h:Heap):aC Tryz.prog 144 [.agg ⟨[.int .i64 k,.int .i64 a,.int .i64 b,.int .i64 c]⟩] h (λv h'=>Keeps [] h h'/\v=.int .i64 (IntKind.i64.wrap (a+IntKind.i64.wrap (b*c)))):=by
 refine aG aH Tryz.func144 rfl ok144 (by simp [Tryz.f144]) ?_;(conv=>whnf);refine aL.i λb1 h1 e1 s1 o1 k1=>?_;(conv=>whnf);exact ⟨k1,rfl⟩
theorem KC (h:Heap):aC Tryz.prog 211 [] h (λv h'=>Keeps [] h h'/\∃ b,v=.slice (some ⟨b,0,none⟩) 5 5/\h'[b]?=some (.cells ⟨KF 5⟩ 211 (0,0))):=by
 refine aG aH Tryz.func211 rfl ok211 (by simp [Tryz.f211]) ?_;(conv=>whnf);refine aL.i λb1 h1 e1 s1 o1 k1=>?_;(conv=>whnf);refine bP.on [1,2] [] (λi:Nat=>[(1,.v (.slice (some ⟨b1,0,none⟩) 5 5)),(2,.v (.int .i64 (i:Int)))]) (λ_=>[]) (λi h'=>1<=i/\i<=5/\Keeps [] h h'/\h'[b1]?=some (.cells ⟨KF i⟩ 211 (0,0))) (λi=>5-i) 1 ?_ ?_
 ·(conv=>whnf);exact ⟨1,rfl,rfl,rfl,by decide,by decide,k1,o1⟩
 ·rintro i h2 ⟨i1,i5,k2,o2⟩;have hi:i=1\/i=2\/i=3\/i=4\/i=5:=by omega
  rcases hi with rfl|rfl|rfl|rfl|rfl
  case inr.inr.inr.inr=>
   (conv=>whnf);refine aj.f (by decide) ?_;(conv=>whnf);exact ⟨k2,b1,rfl,o2⟩
  case inl=>
   (conv=>whnf);refine aj.t (by decide) ?_;(conv=>whnf);refine aX.i 0 (by decide) (by decide) rfl ?_;(conv=>whnf);refine fq.o o2 rfl ?_;(conv=>whnf);refine ak.i (vY _ _ _ _ h2) λv h3 k3 hv=>?_;subst hv;(conv=>whnf);refine aX.i 1 (by decide) (by decide) rfl ?_;(conv=>whnf);refine dN.i (k3.obj o2 (by simp)) (by decide) (by simp [au]) λh4 s4 o4 k4=>?_;(conv=>whnf);refine ⟨3,by decide,?_⟩;(conv=>whnf);exact ⟨2,rfl,rfl,rfl,by decide,by decide,(k2.trans k3).new1 k4 (by omega),o4⟩
  case inr.inl=>
   (conv=>whnf);refine aj.t (by decide) ?_;(conv=>whnf);refine aX.i 1 (by decide) (by decide) rfl ?_;(conv=>whnf);refine fq.o o2 rfl ?_;(conv=>whnf);refine ak.i (vY _ _ _ _ h2) λv h3 k3 hv=>?_;subst hv;(conv=>whnf);refine aX.i 2 (by decide) (by decide) rfl ?_;(conv=>whnf);refine dN.i (k3.obj o2 (by simp)) (by decide) (by simp [au]) λh4 s4 o4 k4=>?_;(conv=>whnf);refine ⟨2,by decide,?_⟩;(conv=>whnf);exact ⟨3,rfl,rfl,rfl,by decide,by decide,(k2.trans k3).new1 k4 (by omega),o4⟩
  case inr.inr.inl=>
   (conv=>whnf);refine aj.t (by decide) ?_;(conv=>whnf);refine aX.i 2 (by decide) (by decide) rfl ?_;(conv=>whnf);refine fq.o o2 rfl ?_;(conv=>whnf);refine ak.i (vY _ _ _ _ h2) λv h3 k3 hv=>?_;subst hv;(conv=>whnf);refine aX.i 3 (by decide) (by decide) rfl ?_;(conv=>whnf);refine dN.i (k3.obj o2 (by simp)) (by decide) (by simp [au]) λh4 s4 o4 k4=>?_;(conv=>whnf);refine ⟨1,by decide,?_⟩;(conv=>whnf);exact ⟨4,rfl,rfl,rfl,by decide,by decide,(k2.trans k3).new1 k4 (by omega),o4⟩
  case inr.inr.inr.inl=>
   (conv=>whnf);refine aj.t (by decide) ?_;(conv=>whnf);refine aX.i 3 (by decide) (by decide) rfl ?_;(conv=>whnf);refine fq.o o2 rfl ?_;(conv=>whnf);refine ak.i (vY _ _ _ _ h2) λv h3 k3 hv=>?_;subst hv;(conv=>whnf);refine aX.i 4 (by decide) (by decide) rfl ?_;(conv=>whnf);refine dN.i (k3.obj o2 (by simp)) (by decide) (by simp [au]) λh4 s4 o4 k4=>?_;(conv=>whnf);refine ⟨0,by decide,?_⟩;(conv=>whnf);exact ⟨5,rfl,rfl,rfl,by decide,by decide,(k2.trans k3).new1 k4 (by omega),o4⟩
def iJ:Nat->Int|1=>0|2=>8|3=>200|4=>296|_=>1288
def jA:Nat->Int|1=>1|2=>24|3=>96|4=>4|_=>96
def jB:Nat->Int|1=>8|2=>8|3=>1|4=>248|_=>16
theorem KG (k:Nat)(hk:k=1\/k=2\/k=3\/k=4\/k=5)(h:Heap):aC Tryz.prog 143 [.int .i64 (k:Int)] h (λv h'=>Keeps [] h h'/\v=.agg ⟨[.int .i64 (k:Int),.int .i64 (iJ k),.int .i64 (jA k),.int .i64 (jB k)]⟩):=by
 refine aG aH Tryz.func143 rfl ok143 (by simp [Tryz.f143]) ?_;(conv=>whnf);refine aL.i λb1 h1 e1 s1 o1 k1=>?_;(conv=>whnf);refine ak.i (KC h1) λv h2 k2 hv=>?_;obtain ⟨b,rfl,o2⟩:=hv;(conv=>whnf);refine aX.i (k-1) ?_ (by omega) rfl ?_
 ·rcases hk with rfl|rfl|rfl|rfl|rfl <;> decide
 (conv=>whnf);refine fq.o (vs:=[.int .i64 (k:Int),.int .i64 (iJ k),.int .i64 (jA k),.int .i64 (jB k)]) o2 (by rcases hk with rfl|rfl|rfl|rfl|rfl <;> rfl) ?_;(conv=>whnf);refine aK.i λh3 s3 k3=>?_;(conv=>whnf);exact ⟨(k1.trans k2).new1 k3 (by omega),rfl⟩
theorem Ej (h:Heap):aC Tryz.prog 88 [] h (λv h'=>Keeps [] h h'/\v=.int .i64 2824):=by
 refine aG aH Tryz.func88 rfl ok88 (by simp [Tryz.f88]) ?_;(conv=>whnf);refine ak.i (KG 5 (by decide) h) λv h1 k1 hv=>?_;subst hv;(conv=>whnf);refine ak.i (vY _ _ _ _ h1) λv h2 k2 hv=>?_;subst hv;(conv=>whnf);exact ⟨k1.trans k2,rfl⟩
theorem EH (k:Nat)(hk:k=1\/k=2\/k=3\/k=4\/k=5)(i:Int)(h:Heap):aC Tryz.prog 119 [.int .i64 (k:Int),.int .i64 i] h (λv h'=>Keeps [] h h'/\v=.tuple #[.int .i64 (if 0<=i/\i<jA k then iJ k+i*jB k else 0),.int .i64 (if 0<=i/\i<jA k then 0 else 1)]):=by
 refine aG aH Tryz.func119 rfl ok119 (by simp [Tryz.f119]) ?_;(conv=>whnf);refine ak.i (KG k hk h) λv h1 k1 hv=>?_;subst hv;(conv=>whnf);refine aL.i λb2 h2 e2 s2 o2 k2=>?_;(conv=>whnf);refine aK.i λh3 s3 k3=>?_;have kk:Keeps [] h h3:=(k1.trans k2).new1 k3 (by have:=k1.size;omega);(conv=>whnf);refine aj.i (λhc=>?_) (λhc=>?_)
 ·(conv=>whnf);have hn:¬ (0<=i/\i<jA k):=by simp [dm] at hc;omega
  exact ⟨kk,by rw [if_neg hn,if_neg hn]⟩
 ·(conv=>whnf);have hn:0<=i/\i<jA k:=by simp [dm] at hc;omega
  refine ⟨kk,?_⟩;rw [if_pos hn,if_pos hn];have hb:0<=i/\i<96:=by rcases hk with rfl|rfl|rfl|rfl|rfl <;> simp [jA] at hn <;> omega
  have e:IntKind.i64.wrap (iJ k+IntKind.i64.wrap (i*jB k))=iJ k+i*jB k:=by
   rcases hk with rfl|rfl|rfl|rfl|rfl <;> simp only [iJ,jB] <;> rw [dR (x:=i*_) (by omega) (by omega),dR (by omega) (by omega)]
  rw [e]
theorem ul (i:Int)(h:Heap):aC Tryz.prog 71 [.int .i64 i] h (λv h'=>Keeps [] h h'/\v=.tuple #[.int .i64 (if 0<=i/\i<24 then 8+i*8 else 0),.int .i64 (if 0<=i/\i<24 then 0 else 1)]):=by
 refine aG aH Tryz.func71 rfl ok71 (by simp [Tryz.f71]) ?_;(conv=>whnf);refine ak.i (EH 2 (by decide) i h) λv h1 k1 hv=>?_;subst hv;(conv=>whnf);exact ⟨k1,rfl⟩
theorem EB (i:Int)(h:Heap):aC Tryz.prog 129 [.int .i64 i] h (λv h'=>Keeps [] h h'/\v=.tuple #[.int .i64 (if 0<=i/\i<96 then 200+i*1 else 0),.int .i64 (if 0<=i/\i<96 then 0 else 1)]):=by
 refine aG aH Tryz.func129 rfl ok129 (by simp [Tryz.f129]) ?_;(conv=>whnf);refine ak.i (EH 3 (by decide) i h) λv h1 k1 hv=>?_;subst hv;(conv=>whnf);exact ⟨k1,rfl⟩
theorem Kw (i:Int)(h:Heap):aC Tryz.prog 214 [.int .i64 i] h (λv h'=>Keeps [] h h'/\v=.tuple #[.int .i64 (if 0<=i/\i<96 then 1288+i*16 else 0),.int .i64 (if 0<=i/\i<96 then 0 else 1)]):=by
 refine aG aH Tryz.func214 rfl ok214 (by simp [Tryz.f214]) ?_;(conv=>whnf);refine ak.i (EH 5 (by decide) i h) λv h1 k1 hv=>?_;subst hv;(conv=>whnf);exact ⟨k1,rfl⟩
def lk:List (Int×UInt64)->Int->Option UInt64
 | [],_=>none
 | (k,v)::r,n=>if n=k then some v else lk r n
def gY:List (Int×UInt64)->Int->UInt64->List (Int×UInt64)
 | [],n,v=>[(n,v)]
 | (k,u)::r,n,v=>if n=k then (k,v)::r else (k,u)::gY r n v
def fJ (m:List (Int×UInt64)):List (Int×Value):=m.map λp=>(p.1,wv p.2)
theorem qX:∀ (m:List (Int×UInt64)) (n:Int),gT (fJ m) n=(lk m n).map wv
 | [],n=>rfl
 | (k,v)::r,n=>by
  have:=qX r n;simp only [fJ,List.map_cons,gT,lk] at this ⊢;split
  ·rfl
  ·exact this
theorem Bo:∀ (m:List (Int×UInt64)) (n:Int) (w:UInt64),jy (fJ m) n (wv w)=fJ (gY m n w)
 | [],n,w=>rfl
 | (k,v)::r,n,w=>by
  have:=Bo r n w;simp only [fJ,List.map_cons,jy,gY] at this ⊢;split
  ·rfl
  ·rw [this];rfl
theorem su:∀ (m:List (Int×UInt64)) (n:Int) (w:UInt64) (k:Int),lk (gY m n w) k=if k=n then some w else lk m k
 | [],n,w,k=>by simp [gY,lk]
 | (k',u)::r,n,w,k=>by
  by_cases h:n=k'
  ·subst h;simp only [gY,if_true,lk];split <;> simp_all
  ·simp only [gY,if_neg h,lk];rw [su r n w k];by_cases h2:k=k'
   ·subst h2;rw [if_pos rfl,if_pos rfl,if_neg (λe=>h e.symm)]
   ·rw [if_neg h2,if_neg h2]
def lF (s:List Int):List (Int×Value):=s.map λk=>(k,.bool true)
theorem KD:∀ (s:List Int) (k:Int),gT (lF s) k=if k∈s then some (.bool true) else none
 | [],k=>rfl
 | x::s,k=>by
  have:=KD s k;simp only [lF,List.map_cons,gT,List.mem_cons] at this ⊢;by_cases h:k=x
  ·simp [h]
  ·simp [h,this]
theorem KA (s:List Int)(k:Int):(gT (lF s) k).getD (.bool false)=.bool (decide (k∈s)):=by
 rw [KD];split <;> simp_all
def lX (s:List Int)(k:Int):List Int:=if k∈s then s else s++[k]
theorem nR {s:List Int}{k x:Int}:x∈lX s k↔x∈s\/x=k:=by
 unfold lX;split
 ·constructor
  ·exact .inl
  ·rintro (h|rfl) <;> assumption
 ·simp
theorem Bp:∀ (s:List Int) (k:Int),jy (lF s) k (.bool true)=lF (lX s k)
 | [],k=>rfl
 | x::s,k=>by
  have ih:=Bp s k;simp only [lF,List.map_cons,jy] at ih ⊢;by_cases h:k=x
  ·subst h;simp [lX]
  ·rw [if_neg h,ih];unfold lX;by_cases h2:k∈s
   ·simp [h2]
   ·simp [h,h2]
structure aS where
 sure:List UInt64
 loose:List (Int×UInt64)
 way:List (Int×UInt64)
 calls:Int
 gy:Int
structure ML where
 m:Nat
 sa:Option Addr
 len:Nat
 cap:Nat
 lb:Nat
 wb:Nat
def ML.blocks (L:ML):List Nat:=L.m::L.lb::L.wb::ay L.sa
structure fT (h:Heap)(L:ML)(M:aS):Prop where
 obj:h[L.m]?=some (.cells ⟨[.slice L.sa L.len L.cap,.map (some L.lb),.map (some L.wb),.int .i64 M.calls,.int .i64 M.gy]⟩ 91 (0,0))
 sure:Sl h L.sa L.len L.cap M.sure
 loose:dF h L.lb (fJ M.loose)
 way:dF h L.wb (fJ M.way)
 ap1:L.lb≠L.wb
 ap2:∀ b∈ay L.sa,b≠L.m/\b≠L.lb/\b≠L.wb
 lt:∀ b∈ay L.sa,b<h.size
theorem yD {h:Heap}{b r:Nat}{c:Array Value}{T:TypeId}{fz:Nat×Nat}{m:List (Int×Value)}(o:h[b]?=some (.cells c T fz))(M:dF h r m):b≠r:=by
 rintro rfl;obtain ⟨es,cl,h1,_⟩:=M;rw [o] at h1;cases h1
theorem fT.ap3 {h:Heap}{L:ML}{M:aS}(A:fT h L M):L.m≠L.lb/\L.m≠L.wb:=⟨yD A.obj A.loose,yD A.obj A.way⟩
theorem fT.keep {F:List Nat}{h h':Heap}{L:ML}{M:aS}(A:fT h L M)(k:Keeps F h h')(hF:∀ b∈L.blocks,b∉F):fT h' L M:=
 ⟨k.obj A.obj (hF _ (by simp [ML.blocks])),A.sure.je k (λb hb=>hF b (by simp [ML.blocks,hb])),A.loose.keep k (hF _ (by simp [ML.blocks])),A.way.keep k (hF _ (by simp [ML.blocks])),A.ap1,A.ap2,λb hb=>Nat.lt_of_lt_of_le (A.lt b hb) k.size⟩
theorem fT.blt {h:Heap}{L:ML}{M:aS}(A:fT h L M):∀ b∈L.blocks,b<h.size:=by
 intro b hb;simp only [ML.blocks,List.mem_cons] at hb;rcases hb with rfl|rfl|rfl|hb
 ·exact eU A.obj
 ·exact A.loose.lt
 ·exact A.way.lt
 ·exact A.lt b hb
theorem fT.on {h h':Heap}{L:ML}{M:aS}(A:fT h L M)(k:Keeps [] h h'):fT h' L M:=A.keep k (by simp)
def aS.there (M:aS)(i:Int):Bool:=decide (0<=i)&&decide (i<M.sure.length)
def aS.read (M:aS)(i:Int):UInt64:=if M.there i then (lk M.loose i).getD (M.sure[i.toNat]?.getD 0) else 0
theorem EF {h:Heap}{L:ML}{M:aS}(A:fT h L M)(i:Int):aC Tryz.prog 116 [.pointer (some ⟨L.m,0,none⟩),.int .i64 i] h (λv h'=>Keeps [] h h'/\v=.bool (M.there i)):=by
 refine aG aH Tryz.func116 rfl ok116 (by simp [Tryz.f116]) ?_;(conv=>whnf);refine ax.u (.slice L.sa L.len L.cap) (λ_=>by unfold Heap.cell?;rw [A.obj];rfl) ?_;(conv=>whnf);refine ⟨Keeps.refl _ _,?_⟩;have:=A.sure.hlen;simp [dJ,aS.there,this]
theorem Bn {h:Heap}{L:ML}{M:aS}(A:fT h L M)(i:Int):aC Tryz.prog 68 [.pointer (some ⟨L.m,0,none⟩),.int .i64 i] h (λv h'=>Keeps [] h h'/\v=wv (M.read i)):=by
 refine aG aH Tryz.func68 rfl ok68 (by simp [Tryz.f68]) ?_;(conv=>whnf);refine ak.i (EF A i) λv h1 k1 hv=>?_;subst hv;have A1:=A.on k1;(conv=>whnf);refine aj.i (λhc=>?_) (λhc=>?_)
 ·(conv=>whnf);refine ⟨k1,?_⟩;have:M.there i=false:=by simpa using hc
  unfold aS.read;rw [this]
  first | done | rfl
 ·have ht:M.there i=true:=by simpa using hc
  (conv=>whnf);refine ax.o A1.obj rfl ?_;(conv=>whnf);cases hl:lk M.loose i with
  | some w=>
   refine gL.is A1.loose (by rw [qX,hl]) ?_;(conv=>whnf);refine aj.t rfl ?_;(conv=>whnf);refine ⟨k1,?_⟩;unfold aS.read;rw [ht,hl]
   first | done | rfl
  | none=>
   refine gL.is A1.loose (by rw [qX,hl]) ?_;(conv=>whnf);refine aj.f rfl ?_;(conv=>whnf);refine ax.o A1.obj rfl ?_;(conv=>whnf);have hn:=A1.sure.hlen;have hb:0<=i/\i<M.sure.length:=by simpa [aS.there] using ht
   obtain ⟨b,off,ha,_,hcell⟩:=A1.sure.at1 i.toNat (by omega);refine aX.i i.toNat (by omega) (by omega) ha ?_;(conv=>whnf);refine ax.i hcell ?_;(conv=>whnf);refine ⟨k1,?_⟩;unfold aS.read;rw [ht,hl];have:i.toNat<M.sure.length:=by omega
   simp [this];rfl
def aS.call (M:aS)(there:Bool):Int×aS:=
 let c:=IntKind.i64.wrap (M.calls+1)
 if M.gy=0 then (14,{ M with calls:=c })
 else
  let M2:=if 0<M.gy then { M with calls:=c,gy:=IntKind.i64.wrap (M.gy-1) } else { M with calls:=c }
  if there then (0,M2) else (1,M2)
theorem EG {h:Heap}{L:ML}{M:aS}(A:fT h L M)(t:Bool):aC Tryz.prog 142 [.pointer (some ⟨L.m,0,none⟩),.bool t] h (λv h'=>Keeps [L.m] h h'/\v=.int .i64 (M.call t).1/\fT h' L (M.call t).2):=by
 refine aG aH Tryz.func142 rfl ok142 (by simp [Tryz.f142]) ?_;(conv=>whnf);refine aj.f rfl ?_;(conv=>whnf);refine ax.o A.obj rfl ?_;(conv=>whnf);refine dN.i A.obj (Nat.le_of_ble_eq_true rfl) (by simp [au]) λh1 s1 o1 k1=>?_;have nb:∀ b∈L.lb::L.wb::ay L.sa,b∉[L.m]:=by
  intro b hb;simp only [List.mem_cons] at hb;simp only [List.mem_singleton];rcases hb with rfl|rfl|hb
  ·exact λe=>A.ap3.1 e.symm
  ·exact λe=>A.ap3.2 e.symm
  ·exact (A.ap2 b hb).1
 have mk:∀ {h':Heap} (c u:Int),h'[L.m]?=some (.cells ⟨[.slice L.sa L.len L.cap,.map (some L.lb),.map (some L.wb),.int .i64 c,.int .i64 u]⟩ 91 (0,0))->Keeps [L.m] h h'->fT h' L { M with calls:=c,gy:=u }:=
  λc u o k=>⟨o,A.sure.je k (λb hb=>nb b (by simp [hb])),A.loose.keep k (nb _ (by simp)),A.way.keep k (nb _ (by simp)),A.ap1,A.ap2,λb hb=>Nat.lt_of_lt_of_le (A.lt b hb) k.size⟩
 have sw:h1[L.m]?=some (.cells ⟨[.slice L.sa L.len L.cap,.map (some L.lb),.map (some L.wb),.int .i64 (IntKind.i64.wrap (M.calls+1)),.int .i64 M.gy]⟩ 91 (0,0)):=o1;(conv=>whnf);refine aV.pass ?_;(conv=>whnf);refine ax.o sw rfl ?_;(conv=>whnf);refine aj.i (λhc=>?_) (λhc=>?_)
 ·(conv=>whnf);have h0:M.gy=0:=by simpa using hc
  refine ⟨k1,?_⟩;unfold aS.call;rw [if_pos h0];exact ⟨rfl,mk _ _ sw k1⟩
 ·have h0:¬ M.gy=0:=by simpa using hc
  (conv=>whnf);refine ax.o sw rfl ?_;(conv=>whnf);refine aj.i (λhd=>?_) (λhd=>?_)
  ·have h1:0<M.gy:=by simpa using hd
   (conv=>whnf);refine ax.o sw rfl ?_;(conv=>whnf);refine dN.i sw (Nat.le_of_ble_eq_true rfl) (by simp [au]) λh2 s2 o2 k2=>?_;have EC:h2[L.m]?=some (.cells ⟨[.slice L.sa L.len L.cap,.map (some L.lb),.map (some L.wb),.int .i64 (IntKind.i64.wrap (M.calls+1)),.int .i64 (IntKind.i64.wrap (M.gy-1))]⟩ 91 (0,0)):=o2;(conv=>whnf);refine aj.i (λhe=>?_) (λhe=>?_)
   all_goals
    (conv=>whnf);refine ⟨k1.trans k2,?_⟩;unfold aS.call;rw [if_neg h0,if_pos h1];cases t <;> first|(exact absurd he (by decide))|exact ⟨rfl,mk _ _ EC (k1.trans k2)⟩
  ·have h1:¬ 0<M.gy:=by simpa using hd
   (conv=>whnf);refine aj.i (λhe=>?_) (λhe=>?_)
   all_goals
    (conv=>whnf);refine ⟨k1,?_⟩;unfold aS.call;rw [if_neg h0,if_neg h1];cases t <;> first|(exact absurd he (by decide))|exact ⟨rfl,mk _ _ sw k1⟩
def aS.store (M:aS)(i:Int)(w:UInt64):Int×aS:=
 if (M.call (M.there i)).1=0 then (0,{ (M.call (M.there i)).2 with loose:=gY (M.call (M.there i)).2.loose i w }) else M.call (M.there i)
theorem KE {h:Heap}{L:ML}{M:aS}(A:fT h L M)(i:Int)(w:UInt64):aC Tryz.prog 85 [.pointer (some ⟨L.m,0,none⟩),.int .i64 i,wv w] h (λv h'=>Keeps [L.m,L.lb] h h'/\v=.int .i64 (M.store i w).1/\fT h' L (M.store i w).2):=by
 refine aG aH Tryz.func85 rfl ok85 (by simp [Tryz.f85]) ?_;(conv=>whnf);refine ak.i (EF A i) λv h1 k1 hv=>?_;subst hv;have A1:=A.on k1;(conv=>whnf);refine ak.m (EG A1 (M.there i)) (by simp [au]) λv h2 k2 hv=>?_;obtain ⟨rfl,A2⟩:=hv;(conv=>whnf);refine aV.pass ?_;(conv=>whnf);refine aj.i (λhc=>?_) (λhc=>?_)
 ·have h0:(M.call (M.there i)).1=0:=by simpa using hc
  (conv=>whnf);refine ax.o A2.obj rfl ?_;(conv=>whnf);refine aW.put rfl rfl A2.loose (by simp [au]) λh3 s3 M3 k3=>?_;(conv=>whnf);have k03:Keeps [L.m,L.lb] h h3:=(k1.mono (by simp)).trans ((k2.mono (by simp)).trans (k3.mono (by simp)));refine ⟨k03,?_⟩;unfold aS.store;rw [if_pos h0];refine ⟨by simp [h0],?_⟩;have w3:dF h3 L.lb (fJ (gY (M.call (M.there i)).2.loose i w)):=by rw [<-Bo];exact M3
  exact ⟨k3.obj A2.obj (by simpa using A2.ap3.1),A2.sure.je k3 (λb hb=>by simpa using (A2.ap2 b hb).2.1),w3,A2.way.keep k3 (by simpa using A2.ap1.symm),A2.ap1,A2.ap2,λb hb=>Nat.lt_of_lt_of_le (A2.lt b hb) k3.size⟩
 ·have h0:¬ (M.call (M.there i)).1=0:=by simpa using hc
  (conv=>whnf);refine ⟨(k1.mono (by simp)).trans (k2.mono (by simp)),?_⟩;unfold aS.store;rw [if_neg h0];exact ⟨rfl,A2⟩
theorem Kt {h:Heap}{L:ML}{M:aS}(A:fT h L M):aC Tryz.prog 84 [.pointer (some ⟨L.m,0,none⟩)] h (λv h'=>Keeps [] h h'/\v=.int .i64 M.sure.length):=by
 refine aG aH Tryz.func84 rfl ok84 (by simp [Tryz.f84]) ?_;(conv=>whnf);refine aj.f rfl ?_;(conv=>whnf);refine ax.o A.obj rfl ?_;(conv=>whnf);exact ⟨Keeps.refl _ _,by rw [A.sure.hlen]⟩
def vX (a:Int):Int:=if 0<=a/\a<8 then 1 else if 8<=a/\a<200 then 2 else if 200<=a/\a<296 then 3 else if 296<=a/\a<1288 then 4 else if 1288<=a/\a<2824 then 5 else 0
def jR (a:Int):Bool:=(decide (8<=a)&&decide (a<296))||(decide (1288<=a)&&decide (a<2824))
theorem Tg (a:Int)(h:Heap):aC Tryz.prog 281 [.int .i64 a] h (λv h'=>Keeps [] h h'/\∃ i,v=.tuple #[.int .i64 (vX a),.int .i64 i]):=by
 refine aG aH Tryz.func281 rfl ok281 (by simp [Tryz.f281]) ?_;(conv=>whnf);refine ak.i (KC h) λv h1 k1 hv=>?_;obtain ⟨b,rfl,o1⟩:=hv;(conv=>whnf);refine bP.on [0,6,7,8] [] (λi:Nat=>[(0,.v (.int .i64 a)),(6,.v (.slice (some ⟨b,0,none⟩) 5 5)),(7,.v (.int .i64 5)),(8,.v (.int .i64 (i:Int)))]) (λ_=>[]) (λi h'=>i<=5/\Keeps [] h1 h'/\∀ k:Nat,1<=k->k<=i->¬ (iJ k<=a/\a<iJ k+jA k*jB k)) (λi=>5-i) 0 ?_ ?_
 ·(conv=>whnf);exact ⟨0,rfl,rfl,rfl,by decide,Keeps.refl _ _,λk h1 h2=>by omega⟩
 ·rintro i h2 ⟨i5,k2,no⟩;have o2:=k2.obj o1 (by simp);(conv=>whnf);refine aj.i (λhc=>?_) (λhc=>?_)
  ·have hi:i<5:=by simp at hc;omega
   (conv=>whnf);refine aX.i i rfl hi rfl ?_;(conv=>whnf);refine fq.o (vs:=[.int .i64 ((i+1:Nat):Int),.int .i64 (iJ (i+1)),.int .i64 (jA (i+1)),.int .i64 (jB (i+1))]) o2 ?_ ?_
   ·have:i=0\/i=1\/i=2\/i=3\/i=4:=by omega
    rcases this with rfl|rfl|rfl|rfl|rfl <;> rfl
   (conv=>whnf);refine aL.i λb3 h3 e3 s3 o3 k3=>?_;(conv=>whnf);refine aK.i λh4 s4 k4=>?_;have k24:Keeps [] h2 h4:=k3.new1 k4 (by omega);have bnd:0<=iJ (i+1)/\iJ (i+1)<=1288/\0<=jA (i+1)*jB (i+1)/\jA (i+1)*jB (i+1)<=1536/\1<=jB (i+1):=by
    have:i=0\/i=1\/i=2\/i=3\/i=4:=by omega
    rcases this with rfl|rfl|rfl|rfl|rfl <;> decide
   have ew:IntKind.i64.wrap (iJ (i+1)+IntKind.i64.wrap (jA (i+1)*jB (i+1)))=iJ (i+1)+jA (i+1)*jB (i+1):=by
    rw [dR (x:=jA (i+1)*jB (i+1)) (by omega) (by omega),dR (by omega) (by omega)]
   have found:iJ (i+1)<=a->a<iJ (i+1)+jA (i+1)*jB (i+1)->((i+1:Nat):Int)=vX a:=by
    intro h1 h2;have:i=0\/i=1\/i=2\/i=3\/i=4:=by omega
    unfold vX;rcases this with rfl|rfl|rfl|rfl|rfl <;> simp [iJ,jA,jB] at h1 h2 ⊢ <;> (repeat' split) <;> omega
   have next:¬ (iJ (i+1)<=a/\a<iJ (i+1)+jA (i+1)*jB (i+1))->∀ k:Nat,1<=k->k<=i+1->¬ (iJ k<=a/\a<iJ k+jA k*jB k):=by
    intro hn k h1 h2;rcases Nat.lt_or_ge k (i+1) with h|h
    ·exact no k h1 (by omega)
    ·have:k=i+1:=by omega
     subst this;exact hn
   refine aj.i (λhg=>?_) (λhg=>?_)
   ·have hg1:iJ (i+1)<=a:=by simpa using hg
    (conv=>whnf);refine ak.i (vY _ _ _ _ h4) λv h5 k5 hv=>?_;subst hv;rw [ew];(conv=>whnf);refine aj.i (λhd=>?_) (λhd=>?_)
    ·have hd1:a<iJ (i+1)+jA (i+1)*jB (i+1):=by simp [dJ] at hd;exact hd.2
     (conv=>whnf);refine dL.i (by omega) ?_;(conv=>whnf);exact ⟨k1.trans (k2.trans (k24.trans k5)),_,by rw [found hg1 hd1]⟩
    ·have hd1:¬ a<iJ (i+1)+jA (i+1)*jB (i+1):=by
      intro hx;simp [dJ] at hd;exact absurd hx (by have:=hd hg1;omega)
     (conv=>whnf);refine ⟨5-(i+1),by omega,?_⟩;(conv=>whnf);exact ⟨i+1,rfl,by rw [wrapN (n:=i+1) (by simp) (by omega)],rfl,by omega,k2.trans (k24.trans k5),next λh=>hd1 h.2⟩
   ·have hg1:¬ iJ (i+1)<=a:=by simpa using hg
    (conv=>whnf);refine aj.i (λhd=>?_) (λhd=>?_)
    ·exfalso;simp [dJ] at hd;exact hg1 hd.1
    ·(conv=>whnf);refine ⟨5-(i+1),by omega,?_⟩;(conv=>whnf);exact ⟨i+1,rfl,by rw [wrapN (n:=i+1) (by simp) (by omega)],rfl,by omega,k2.trans k24,next λh=>hg1 h.1⟩
  ·(conv=>whnf);have hi:i=5:=by simp at hc;omega
   subst hi;refine ⟨k1.trans k2,0,?_⟩;have h1:=no 1 (by omega) (by omega);have h2:=no 2 (by omega) (by omega);have h3:=no 3 (by omega) (by omega);have h4:=no 4 (by omega) (by omega);have h5:=no 5 (by omega) (by omega);simp [iJ,jA,jB] at h1 h2 h3 h4 h5;have:vX a=0:=by unfold vX;(repeat' split) <;> omega
   rw [this]
theorem Ti (a:Int)(h:Heap):aC Tryz.prog 245 [.int .i64 a] h (λv h'=>Keeps [] h h'/\v=.bool (jR a)):=by
 refine aG aH Tryz.func245 rfl ok245 (by simp [Tryz.f245]) ?_;(conv=>whnf);refine ak.i (Tg a h) λv h1 k1 hv=>?_;obtain ⟨i,rfl⟩:=hv;(conv=>whnf);refine ⟨k1,?_⟩
 congr 1
 rw [dm,dm,Bool.eq_iff_iff];simp only [Bool.or_eq_true,beq_iff_eq,jR,Bool.and_eq_true,decide_eq_true_eq];unfold vX
 (repeat' split) <;> omega
def upd (f:Int->UInt64)(a:Int)(w:UInt64):Int->UInt64:=λx=>if x=a then w else f x
def kG (f:Int->UInt64)(a:Int)(l:List UInt64):Int->UInt64:=λx=>if a<=x/\x<a+l.length then l[(x-a).toNat]?.getD 0 else f x
def bW (f:Int->UInt64)(a:Int)(n:Nat):List UInt64:=(List.range n).map λ(i:Nat)=>f (a+(i:Int))
theorem Tj (f:Int->UInt64)(a:Int):kG f a []=f:=by
 funext x;unfold kG;rw [if_neg (by simp only [List.length_nil];omega)]
theorem Tk (f:Int->UInt64)(a:Int)(l:List UInt64)(i:Nat)(hi:i<l.length):upd (kG f a (l.take i)) (a+(i:Int)) l[i]=kG f a (l.take (i+1)):=by
 funext x
 unfold upd kG;have h1:(l.take i).length=i:=by simp;omega
 have h2:(l.take (i+1)).length=i+1:=by simp;omega
 rw [h1,h2];by_cases h:x=a+(i:Int)
 ·subst h;rw [if_pos rfl,if_pos (by omega)];have:(a+(i:Int)-a).toNat=i:=by omega
  rw [this];simp [hi]
 ·rw [if_neg h];by_cases h3:a<=x/\x<a+(i:Int)
  ·rw [if_pos h3,if_pos (by omega)];have:(x-a).toNat<i:=by omega
   simp [List.getElem?_take,this,show (x-a).toNat<i+1 by omega]
  ·rw [if_neg h3,if_neg (by omega)]
structure VS where
 now:Int->UInt64
 seen:List Int
 mine:List Int
 away:List Int
 bG:List Int
structure VL where
 v:Nat
 mem:ML
 ob:Nat
 sb:Nat
 mb:Nat
 ab:Option Nat
 jY:Option Nat
def VL.blocks (V:VL):List Nat:=V.v::V.ob::V.sb::V.mb::(V.mem.blocks++(V.ab.toList++V.jY.toList))
def vZ (h:Heap)(r:Option Nat)(s:List Int):Prop:=match r with|none=>s=[]|some r=>dF h r (lF s)
theorem vZ.keep {F:List Nat}{h h':Heap}{r:Option Nat}{s:List Int}(A:vZ h r s)(k:Keeps F h h')(hF:∀ b∈r.toList,b∉F):vZ h' r s:=by
 cases r with
 | none=>exact A
 | some r=>exact dF.keep A k (hF r (by simp))
structure At (h:Heap)(V:VL)(M:aS)(X:VS):Prop where
 mem:fT h V.mem M
 obj:h[V.v]?=some (.cells ⟨[.pointer (some ⟨V.mem.m,0,none⟩),.map (some V.ob),.map (some V.sb),.map (some V.mb),.map V.ab,.map V.jY]⟩ 121 (0,0))
 own:∃ own:List (Int×UInt64),dF h V.ob (fJ own)/\(∀ a,X.now a=(lk own a).getD (M.read a))/\∀ a,lk own a≠none->jR a=true
 seen:dF h V.sb (lF X.seen)
 mine:dF h V.mb (lF X.mine)
 away:vZ h V.ab X.away
 bG:vZ h V.jY X.bG
 ap1:V.ob≠V.sb/\V.ob≠V.mb/\V.sb≠V.mb
 ap2:∀ b∈[V.v,V.ob,V.sb,V.mb],b∉V.mem.blocks
 ap3:∀ r∈V.ab.toList++V.jY.toList,r≠V.ob/\r≠V.sb/\r≠V.mb/\r≠V.v
 bH:∀ x∈X.seen++X.mine,0<=x/\x<24
theorem At.keep {F:List Nat}{h h':Heap}{V:VL}{M:aS}{X:VS}(A:At h V M X)(k:Keeps F h h')(hF:∀ b∈V.blocks,b∉F):At h' V M X where
 mem:=A.mem.keep k (λb hb=>hF b (by simp [VL.blocks,hb]))
 obj:=k.obj A.obj (hF _ (by simp [VL.blocks]))
 own:=let ⟨own,h1,h2⟩:=A.own;⟨own,h1.keep k (hF _ (by simp [VL.blocks])),h2⟩
 seen:=A.seen.keep k (hF _ (by simp [VL.blocks]))
 mine:=A.mine.keep k (hF _ (by simp [VL.blocks]))
 away:=A.away.keep k (λb hb=>hF b (by simp only [VL.blocks,List.mem_cons,List.mem_append];simp [hb]))
 bG:=A.bG.keep k (λb hb=>hF b (by simp only [VL.blocks,List.mem_cons,List.mem_append];simp [hb]))
 ap1:=A.ap1
 ap2:=A.ap2
 ap3:=A.ap3
 bH:=A.bH
theorem At.on {h h':Heap}{V:VL}{M:aS}{X:VS}(A:At h V M X)(k:Keeps [] h h'):At h' V M X:=A.keep k (by simp)
theorem At.blt {h:Heap}{V:VL}{M:aS}{X:VS}(A:At h V M X):∀ b∈V.blocks,b<h.size:=by
 have sl:∀ (r:Option Nat) (s:List Int),vZ h r s->∀ b∈r.toList,b<h.size:=by
  intro r s hs b hb;cases r with
  | none=>simp at hb
  | some r=>simp at hb;subst hb;exact dF.lt hs
 intro b hb;simp only [VL.blocks,List.mem_cons,List.mem_append] at hb;rcases hb with rfl|rfl|rfl|rfl|hb|hb|hb
 ·exact eU A.obj
 ·obtain ⟨own,h1,_⟩:=A.own;exact h1.lt
 ·exact A.seen.lt
 ·exact A.mine.lt
 ·exact A.mem.blt b hb
 ·exact sl _ _ A.away b hb
 ·exact sl _ _ A.bG b hb
theorem At.ED {h:Heap}{V:VL}{M:aS}{X:VS}(A:At h V M X):V.v≠V.ob/\V.v≠V.sb/\V.v≠V.mb:=by
 obtain ⟨own,h1,_⟩:=A.own;exact ⟨yD A.obj h1,yD A.obj A.seen,yD A.obj A.mine⟩
theorem At.put {h h':Heap}{V:VL}{M:aS}{X:VS}(A:At h V M X){own:List (Int×UInt64)}(h2:∀ a,X.now a=(lk own a).getD (M.read a))(h3:∀ a,lk own a≠none->jR a=true)
 {a:Int} {w:UInt64} (ho:jR a=true) (k:Keeps [V.ob] h h') (Mp:dF h' V.ob (jy (fJ own) a (wv w))):At h' V M { X with now:=upd X.now a w } where
 mem:=A.mem.keep k (λb hb hx=>by simp at hx;subst hx;exact A.ap2 _ (by simp) hb)
 obj:=k.obj A.obj (by simpa using A.ED.1)
 own:=⟨gY own a w,by rw [<-Bo];exact Mp,λx=>by
  rw [su];show upd X.now a w x=_;unfold upd;split
  ·rfl
  ·exact h2 x,λx hx=>by
  rw [su] at hx;split at hx
  ·rename_i e;subst e;exact ho
  ·exact h3 x hx⟩
 seen:=A.seen.keep k (by simpa using A.ap1.1.symm)
 mine:=A.mine.keep k (by simpa using A.ap1.2.1.symm)
 away:=A.away.keep k (λb hb=>by simpa using (A.ap3 b (by simp [hb])).1)
 bG:=A.bG.keep k (λb hb=>by simpa using (A.ap3 b (by simp [hb])).1)
 ap1:=A.ap1
 ap2:=A.ap2
 ap3:=A.ap3
 bH:=A.bH
theorem yC {h:Heap}{V:VL}{M:aS}{X:VS}(A:At h V M X)(a:Int):aC Tryz.prog 124 [.pointer (some ⟨V.v,0,none⟩),.int .i64 a] h (λv h'=>Keeps [] h h'/\v=wv (X.now a)):=by
 refine aG aH Tryz.func124 rfl ok124 (by simp [Tryz.f124]) ?_;(conv=>whnf);refine aj.f rfl ?_;(conv=>whnf);refine ax.o A.obj rfl ?_;(conv=>whnf);obtain ⟨own,h1,h2,h3⟩:=A.own;cases hl:lk own a with
 | some w=>
  refine gL.is h1 (by rw [qX,hl]) ?_;(conv=>whnf);refine aj.t rfl ?_;(conv=>whnf);exact ⟨Keeps.refl _ _,by rw [h2,hl];rfl⟩
 | none=>
  refine gL.is h1 (by rw [qX,hl]) ?_;(conv=>whnf);refine aj.f rfl ?_;(conv=>whnf);refine ax.o A.obj rfl ?_;(conv=>whnf);refine ak.i (Bn A.mem a) λv h4 k4 hv=>?_;subst hv;(conv=>whnf);exact ⟨k4,by rw [h2,hl];rfl⟩
theorem Ku {h:Heap}{V:VL}{M:aS}{X:VS}(A:At h V M X)(a:Int)(w:UInt64):aC Tryz.prog 202 [.pointer (some ⟨V.v,0,none⟩),.int .i64 a,wv w] h (λv h'=>Keeps [V.ob] h h'/\v=.int .i64 (if jR a then 0 else 1)/\At h' V M (if jR a then { X with now:=upd X.now a w } else X)):=by
 refine aG aH Tryz.func202 rfl ok202 (by simp [Tryz.f202]) ?_;(conv=>whnf);refine aj.t rfl ?_;(conv=>whnf);refine ak.i (Ti a h) λv h1 k1 hv=>?_;subst hv;have A1:=A.on k1;(conv=>whnf);refine aj.i (λhc=>?_) (λhc=>?_)
 ·(conv=>whnf);have ho:jR a=false:=by simpa [dm] using hc
  rw [ho];exact ⟨k1.mono (by simp),rfl,A1⟩
 ·have ho:jR a=true:=by simpa [dm] using hc
  (conv=>whnf);refine ax.o A1.obj rfl ?_;(conv=>whnf);obtain ⟨own,h1,h2,h3⟩:=A1.own;refine aW.put rfl rfl h1 (by simp [au]) λh2 s2 M2 k2=>?_;(conv=>whnf);rw [ho];exact ⟨(k1.mono (by simp)).trans k2,rfl,A1.put (by assumption) h3 ho k2 M2⟩
theorem Bg {A B:List Value}{x v:Value}:bF A.length [v] (A++x::B)=A++v::B:=by
 induction A with
 | nil=>cases B <;> rfl
 | cons a A ih=>simp only [List.length_cons,List.cons_append,bF,ih]
theorem Ky {h:Heap}{V:VL}{M:aS}{X:VS}(A:At h V M X)(a:Int)(n:Nat)(ha:0<=a/\a<=1000000)(hn:n<=1000000):aC Tryz.prog 73 [.pointer (some ⟨V.v,0,none⟩),.int .i64 a,.int .i64 (n:Int)] h (λv h'=>Keeps [] h h'/\∃ b,v=.slice (some ⟨b,0,none⟩) n n/\h.size<=b/\b<h'.size/\h'[b]?=some (.cells ⟨(bW X.now a n).map wv⟩ 46 (0,0))):=by
 refine aG aH Tryz.func73 rfl ok73 (by simp [Tryz.f73]) ?_;(conv=>whnf);refine aW.make rfl rfl rfl rfl rfl (by show 8*n<=_;omega) (by omega) λb1 h1 e1 s1 o1 k1=>?_;(conv=>whnf);refine bP.on [0,1,7,12,13] [] (λi:Nat=>[(0,.v (.pointer (some ⟨V.v,0,none⟩))),(1,.v (.int .i64 a)),(7,.v (.slice (some ⟨b1,0,none⟩) n n)),(12,.v (.int .i64 (n:Int))),(13,.v (.int .i64 (i:Int)))]) (λ_=>[])
  (λi h'=>i<=n/\Keeps [] h h'/\h1.size<=h'.size/\h'[b1]?=some (.cells ⟨(bW X.now a i).map wv++List.replicate (n-i) (.int .u64 0)⟩ 46 (0,0))) (λi=>n-i) 0 ?_ ?_
 ·(conv=>whnf);exact ⟨0,rfl,rfl,rfl,Nat.zero_le _,k1,Nat.le_refl _,o1⟩
 ·rintro i h2 ⟨hi,k2,z2,o2⟩;(conv=>whnf);refine aj.i (λhc=>?_) (λhc=>?_)
  ·have hi1:i<n:=by simp at hc;omega
   (conv=>whnf);rw [dR (x:=a+(i:Int)) (by omega) (by omega)];refine ak.i (yC (A.on k2) (a+(i:Int))) λv h3 k3 hv=>?_;subst hv;(conv=>whnf);refine aX.i i rfl hi1 rfl ?_;have er:List.replicate (n-i) (Value.int .u64 0)=.int .u64 0::List.replicate (n-(i+1)) (.int .u64 0):=by
    rw [show n-i=(n-(i+1))+1 by omega,List.replicate_succ]
   rw [er] at o2;have hlen:((bW X.now a i).map wv).length=i:=by simp [bW]
   (conv=>whnf);refine dN.i (k3.obj o2 (by simp)) ?_ (by simp [au]) λh4 s4 o4 k4=>?_
   ·simp only [List.length_append,List.length_cons,hlen,List.length_replicate];show 0+i*1+1<=_;omega
   (conv=>whnf);refine ⟨n-(i+1),by omega,?_⟩;(conv=>whnf);refine ⟨i+1,rfl,by rw [wrapN (n:=i+1) (by simp) (by omega)],rfl,by omega,(k2.trans k3).new1 k4 (by omega),by have:=k3.size;omega,?_⟩;have e4:bF (0+i*1) [wv (X.now (a+(i:Int)))] ((bW X.now a i).map wv++.int .u64 0::List.replicate (n-(i+1)) (.int .u64 0))=(bW X.now a (i+1)).map wv++List.replicate (n-(i+1)) (.int .u64 0):=by
    have:=Bg (A:=(bW X.now a i).map wv) (x:=.int .u64 0) (v:=wv (X.now (a+(i:Int)))) (B:=List.replicate (n-(i+1)) (.int .u64 0));rw [hlen] at this;rw [show 0+i*1=i by omega,this];simp [bW,List.range_succ]
   rw [<-e4];exact o4
  ·(conv=>whnf);have hi1:i=n:=by simp at hc;omega
   subst hi1;refine ⟨k2,b1,rfl,by omega,by have:=k1.size;omega,?_⟩;simpa using o2
theorem Kz {h:Heap}{V:VL}{M:aS}{X:VS}(A:At h V M X)(a:Int){sa:Option Addr}{n c:Nat}{ws:List UInt64}(S:Sl h sa n c ws)(ha:0<=a/\a<=1000000)(hn:n<=1000000)(ho:∀ i:Nat,i<n->jR (a+(i:Int))=true)(hs:V.ob∉ay sa) :
 aC Tryz.prog 206 [.pointer (some ⟨V.v,0,none⟩),.int .i64 a,.slice sa n c] h (λv h'=>Keeps [V.ob] h h'/\At h' V M { X with now:=kG X.now a ws }):=by
 refine aG aH Tryz.func206 rfl ok206 (by simp [Tryz.f206]) ?_;(conv=>whnf);have hl:=S.hlen;refine bP.on [0,1,8,9,10] [] (λi:Nat=>[(0,.v (.pointer (some ⟨V.v,0,none⟩))),(1,.v (.int .i64 a)),(8,.v (.slice sa n c)),(9,.v (.int .i64 (n:Int))),(10,.v (.int .i64 (i:Int)))]) (λ_=>[])
  (λi h'=>i<=n/\Keeps [V.ob] h h'/\At h' V M { X with now:=kG X.now a (ws.take i) }) (λi=>n-i) 0 ?_ ?_
 ·(conv=>whnf);exact ⟨0,rfl,rfl,rfl,Nat.zero_le _,Keeps.refl _ _,by rw [List.take_zero,Tj];exact A⟩
 ·rintro i h2 ⟨hi,k2,A2⟩;(conv=>whnf);refine aj.i (λhc=>?_) (λhc=>?_)
  ·have hi1:i<ws.length:=by simp at hc;omega
   have S2:=S.je k2 (λb hb hx=>by simp at hx;subst hx;exact hs hb);obtain ⟨b,off,hb,_,hcell⟩:=S2.at1 i hi1;(conv=>whnf);refine aX.i i rfl (by omega) hb ?_;(conv=>whnf);refine ax.i hcell ?_;(conv=>whnf);refine ax.o A2.obj rfl ?_;(conv=>whnf);rw [dR (x:=a+(i:Int)) (by omega) (by omega)];obtain ⟨own,q1,q2,q3⟩:=A2.own;refine aW.put rfl rfl q1 (by simp [au]) λh3 s3 M3 k3=>?_;(conv=>whnf);refine ⟨n-(i+1),by omega,?_⟩;(conv=>whnf);refine ⟨i+1,rfl,by rw [wrapN (n:=i+1) (by simp) (by omega)],rfl,by omega,k2.trans k3,?_⟩;have:=A2.put q2 q3 (ho i (by omega)) k3 M3;simp only at this;rw [Tk X.now a ws i hi1] at this;exact this
  ·(conv=>whnf);have hi1:i=ws.length:=by simp at hc;omega
   rw [hi1,List.take_length] at A2;exact ⟨k2,A2⟩
theorem D5 {h:Heap}{V:VL}{M:aS}{X:VS}(A:At h V M X)(k:Int):aC Tryz.prog 152 [.pointer (some ⟨V.v,0,none⟩),.int .i64 k] h (λv h'=>Keeps [] h h' /\
 ((0<=k/\k<96/\∃ b,v=.tuple #[.slice (some ⟨b,0,none⟩) 16 16,.int .i64 0]/\h.size<=b/\b<h'.size/\h'[b]?=some (.cells ⟨(bW X.now (1288+k*16) 16).map wv⟩ 46 (0,0)))\/(¬ (0<=k/\k<96)/\v=.tuple #[.slice none 0 0,.int .i64 1]))):=by
 refine aG aH Tryz.func152 rfl ok152 (by simp [Tryz.f152]) ?_;(conv=>whnf);refine ak.i (Kw k h) λv h1 k1 hv=>?_;subst hv;(conv=>whnf);refine aj.i (λhc=>?_) (λhc=>?_)
 ·(conv=>whnf);refine ⟨k1,.inr ⟨λhk=>?_,rfl⟩⟩;rw [if_pos hk] at hc;simp [dm] at hc
 ·have hk:0<=k/\k<96:=Classical.byContradiction λhk=>by
   rw [if_neg hk] at hc;simp [dm] at hc
  rw [if_pos hk];(conv=>whnf);refine ak.i (Ky (A.on k1) (1288+k*16) 16 (by omega) (by omega)) λv h2 k2 hv=>?_;obtain ⟨b,rfl,q1,q2,q3⟩:=hv;(conv=>whnf);exact ⟨k1.trans k2,.inl ⟨hk.1,hk.2,b,rfl,by have:=k1.size;omega,q2,q3⟩⟩
def lg (ws:List UInt64):List UInt64:=ws++List.replicate (16-ws.length) 0
def bZ (f:Int->UInt64)(k:Int)(ws:List UInt64):Int->UInt64:=kG f (1288+k*16) (lg ws)
theorem ug:∀ l:List UInt64,gV (l.map wv)=true
 | []=>rfl
 | x::l=>by simpa [gV,uE,wv] using ug l
theorem _root_.Go.aN.Sl.rX {α:Type}[Rp α]{h:Heap}{a:Option Addr}{len cap:Nat}{xs:List α}(s:Sl h a len cap xs)(hp:0<len):∃ b off,a=some ⟨b,off,none⟩:=by
 obtain ⟨b,off,ha,_⟩:=s.at_ 0 (by rw [<-s.hlen];exact hp);exact ⟨b,off,ha⟩
theorem Bd {A B:List Value}{x:Value}:bF 0 A (List.replicate A.length x++B)=A++B:=by
 induction A with
 | nil=>cases B <;> simp [bF]
 | cons a A ih=>simp only [List.length_cons,List.replicate_succ,List.cons_append,bF];rw [ih]
theorem xP {h:Heap}{V:VL}{M:aS}{X:VS}(A:At h V M X)(k:Int){sa:Option Addr}{n c:Nat}{ws:List UInt64}(S:Sl h sa n c ws)(hs:V.ob∉ay sa) :
 aC Tryz.prog 203 [.pointer (some ⟨V.v,0,none⟩),.int .i64 k,.slice sa n c] h (λv h'=>Keeps [V.ob] h h'/\v=.int .i64 (if 0<=k/\k<96/\n<=16 then 0 else 1)/\At h' V M (if 0<=k/\k<96/\n<=16 then { X with now:=bZ X.now k ws } else X)):=by
 refine aG aH Tryz.func203 rfl ok203 (by simp [Tryz.f203]) ?_;(conv=>whnf);refine ak.i (Kw k h) λv h1 k1 hv=>?_;subst hv;have A1:=A.on k1;(conv=>whnf);refine aj.i (λhc=>?_) (λhc=>?_)
 ·(conv=>whnf);have hn:¬ (0<=k/\k<96/\n<=16):=λhk=>by
   rw [if_pos ⟨hk.1,hk.2.1⟩] at hc;simp [dm] at hc;omega
  rw [if_neg hn,if_neg hn];exact ⟨k1.mono (by simp),rfl,A1⟩
 ·have hk:0<=k/\k<96/\n<=16:=by
   by_cases hk:0<=k/\k<96
   ·rw [if_pos hk] at hc;simp [dm] at hc;omega
   ·rw [if_neg hk] at hc;simp [dm] at hc
  rw [if_pos hk,if_pos hk,if_pos ⟨hk.1,hk.2.1⟩];have hl:=S.hlen;(conv=>whnf);refine aW.make (n:=16) rfl rfl rfl rfl rfl (by decide) (by decide) λb2 h2 e2 s2 o2 k2=>?_;have S2:=S.keep (k1.trans k2);have EC:h2[b2]?=some (.cells ⟨List.replicate n (.int .u64 0)++List.replicate (16-n) (.int .u64 0)⟩ 46 (0,0)):=by
   rw [o2,List.replicate_append_replicate,show n+(16-n)=16 by omega]
  have fin:∀ h3,h2.size<=h3.size->Keeps [b2] h2 h3->h3[b2]?=some (.cells ⟨(lg ws).map wv⟩ 46 (0,0))->At h3 V M X/\Sl h3 (some ⟨b2,0,none⟩) 16 16 (lg ws)/\V.ob∉ay (some ⟨b2,0,none⟩):=by
   intro h3 s3 k3 o3;have hV:V.ob<h.size:=by obtain ⟨own,q,_⟩:=A.own;exact q.lt
   have z1:=k1.size;refine ⟨A.on ((k1.trans k2).new1 k3 (by omega)),Sl.mJ o3 (by simp [One.ok]) (by simp [lg];omega) (by simp [lg];omega),?_⟩;simp [ay];omega
  have rest:∀ h3,h2.size<=h3.size->Keeps [b2] h2 h3->h3[b2]?=some (.cells ⟨(lg ws).map wv⟩ 46 (0,0))->aC Tryz.prog 206 [.pointer (some ⟨V.v,0,none⟩),.int .i64 (1288+k*16),.slice (some ⟨b2,0,none⟩) 16 16] h3 (λv h'=>Keeps [V.ob] h3 h'/\At h' V M { X with now:=bZ X.now k ws }):=by
   intro h3 s3 k3 o3;obtain ⟨A3,S3,n3⟩:=fin h3 s3 k3 o3;refine Kz A3 (1288+k*16) S3 (by omega) (by decide) (λi hi=>?_) n3;simp [jR];omega
  (conv=>whnf);rcases Nat.eq_zero_or_pos n with h0|h0
  ·subst h0;have hw:ws=[]:=List.eq_nil_of_length_eq_zero hl.symm;subst hw;refine aW.copy0 rfl rfl (by simp) ?_;(conv=>whnf);refine ak.m (rest h2 (Nat.le_refl _) (Keeps.refl _ _) (by rw [o2];rfl)) (by simp [au]) λv h4 k4 hv=>?_;(conv=>whnf);exact ⟨((k1.trans k2).mono (by simp)).trans k4,rfl,hv⟩
  ·obtain ⟨xb,xo,rfl⟩:=S.rX h0;refine aW.copy (sz:=1) (new:=ws.map wv) rfl rfl rfl EC (by rw [List.length_map,<-hl];omega) (S2.cells1) (ug ws) (by simp only [List.length_map,List.length_append,List.length_replicate];omega) (by simp [au]) λh3 s3 o3 k3=>?_;have nQ:h3[b2]?=some (.cells ⟨(lg ws).map wv⟩ 46 (0,0)):=by
    rw [o3];have:n=(ws.map wv).length:=by simp [hl]
    rw [this,Bd];simp [lg,wv]
   (conv=>whnf);refine ak.m (rest h3 (by omega) k3 nQ) (by simp [au]) λv h4 k4 hv=>?_;(conv=>whnf);exact ⟨(((k1.trans k2).new1 k3 (by have:=k1.size;omega)).mono (by simp)).trans k4,rfl,hv⟩
theorem Tf {h:Heap}{V:VL}{M:aS}{X:VS}(A:At h V M X)(k:Int):aC Tryz.prog 130 [.pointer (some ⟨V.v,0,none⟩),.int .i64 k] h (λv h'=>Keeps [] h h'/\v=.bool (decide (k∈X.away))):=by
 have ha:=A.away;have ho:=A.obj;cases hab:V.ab with
 | none=>
  rw [hab] at ha ho;refine aG aH Tryz.func130 rfl ok130 (by simp [Tryz.f130]) ?_;(conv=>whnf);refine ax.u (.map none) (λ_=>by unfold Heap.cell?;rw [ho];rfl) ?_;(conv=>whnf);have:X.away=[]:=ha;exact ⟨Keeps.refl _ _,by rw [this];rfl⟩
 | some r=>
  rw [hab] at ha ho;refine aG aH Tryz.func130 rfl ok130 (by simp [Tryz.f130]) ?_;(conv=>whnf);refine ax.u (.map (some r)) (λ_=>by unfold Heap.cell?;rw [ho];rfl) ?_;(conv=>whnf);refine gL.z (.bool false) ha rfl (KA _ _) ?_;(conv=>whnf);exact ⟨Keeps.refl _ _,rfl⟩
def iF (B:Int->UInt64)(X:VS)(k:Int):Bool:=(decide (0<=k)&&decide (k<96))&&(decide (B (200+k)=0)&&(decide (X.now (200+k)=0)&&!decide (k∈X.away)))
theorem qO (w:UInt64):(((w.toNat:Int)==0):Bool)=decide (w=0):=by
 rw [Bool.eq_iff_iff];simp
 constructor
 ·intro h;exact UInt64.toNat_inj.1 (by simpa using h)
 ·rintro rfl;rfl
theorem Kv {h:Heap}{V:VL}{M:aS}{X:VS}(A:At h V M X)(k:Int):aC Tryz.prog 77 [.pointer (some ⟨V.v,0,none⟩),.int .i64 k] h (λv h'=>Keeps [] h h'/\v=.bool (iF M.read X k)):=by
 refine aG aH Tryz.func77 rfl ok77 (by simp [Tryz.f77]) ?_;(conv=>whnf);refine ak.i (EB k h) λv h1 k1 hv=>?_;subst hv;have A1:=A.on k1;(conv=>whnf);refine ax.u (.pointer (some ⟨V.mem.m,0,none⟩)) (λ_=>by unfold Heap.cell?;rw [A1.obj];rfl) ?_;(conv=>whnf);refine aj.i (λhc=>?_) (λhc=>?_)
 case refine_1=>
  have hk:0<=k/\k<96:=Classical.byContradiction λhk=>by
   rw [if_neg hk] at hc;simp [dJ] at hc
  rw [if_pos hk,if_pos hk,Int.mul_one];(conv=>whnf);refine ak.i (Bn A1.mem (200+k)) λv h2 k2 hv=>?_;subst hv;have A2:=A1.on k2;(conv=>whnf);refine aj.i (λhd=>?_) (λhd=>?_)
  ·have hm:M.read (200+k)=0:=by simpa [dJ,qO] using hd
   (conv=>whnf);refine ak.i (yC A2 (200+k)) λv h3 k3 hv=>?_;subst hv;have A3:=A2.on k3;(conv=>whnf);refine aj.i (λhe=>?_) (λhe=>?_)
   ·have hn:X.now (200+k)=0:=by
     simp [dJ,hm,qO] at he;exact he
    (conv=>whnf);refine ak.i (Tf A3 k) λv h4 k4 hv=>?_;subst hv;(conv=>whnf);refine ⟨k1.trans (k2.trans (k3.trans k4)),?_⟩;simp [iF,hk,hm,hn,dJ]
   ·have hn:¬ X.now (200+k)=0:=by
     intro hn;simp [dJ,hm,hn] at he
    (conv=>whnf);refine ⟨k1.trans (k2.trans k3),?_⟩;simp [iF,hn,dJ,qO]
  ·have hm:¬ M.read (200+k)=0:=by
    intro hm;simp [dJ,hm] at hd
   (conv=>whnf);refine aj.i (λhe=>?_) (λhe=>?_)
   ·exfalso;simp [dJ,qO,hm] at he
   ·(conv=>whnf);refine ⟨k1.trans k2,?_⟩;simp [iF,hm,dJ,qO]
 case refine_2=>
  have hk:¬ (0<=k/\k<96):=λhk=>by
   rw [if_pos hk] at hc;simp [dJ] at hc
  rw [if_neg hk,if_neg hk];(conv=>whnf);refine aj.i (λhd=>?_) (λhd=>?_)
  ·exfalso;simp [dJ] at hd
  ·(conv=>whnf);refine aj.i (λhd=>?_) (λhd=>?_)
   ·exfalso;simp [dJ] at hd
   ·(conv=>whnf);refine ⟨k1,?_⟩;have:iF M.read X k=false:=by
     unfold iF;have:(decide (0<=k)&&decide (k<96))=false:=by
      rw [Bool.eq_false_iff];intro h;simp at h;exact hk h
     rw [this];rfl
    rw [this];rfl
theorem SV {h:Heap}{L:ML}{M:aS}(A:fT h L M):aC Tryz.prog 39 [.pointer (some ⟨L.m,0,none⟩)] h (λv h'=>Keeps [] h h' /\
 if M.sure.length=2824 then ∃ V:VL,v=.pointer (some ⟨V.v,0,none⟩)/\V.mem=L/\V.ab=none/\V.jY=none/\(∀ x∈[V.v,V.ob,V.sb,V.mb],h.size<=x)/\At h' V M ⟨M.read,[],[],[],[]⟩ else v=.pointer none):=by
 refine aG aH Tryz.func39 rfl ok39 (by simp [Tryz.f39]) ?_;(conv=>whnf);refine ak.i (Kt A) λv h1 k1 hv=>?_;subst hv;(conv=>whnf);refine ak.i (Ej h1) λv h2 k2 hv=>?_;subst hv;(conv=>whnf);refine aj.i (λhc=>?_) (λhc=>?_)
 ·(conv=>whnf);have hn:¬ M.sure.length=2824:=by intro e;rw [e] at hc;simp at hc
  rw [if_neg hn];exact ⟨k1.trans k2,rfl⟩
 ·have hn:M.sure.length=2824:=by simp at hc;omega
  (conv=>whnf);refine aL.i λb3 h3 e3 s3 o3 k3=>?_;(conv=>whnf);refine aL.i λb4 h4 e4 s4 o4 k4=>?_;(conv=>whnf);refine aL.i λb5 h5 e5 s5 o5 k5=>?_;(conv=>whnf);refine aL.i λb6 h6 e6 s6 o6 k6=>?_;(conv=>whnf);rw [if_pos hn];have k06:=k1.trans (k2.trans (k3.trans (k4.trans (k5.trans k6))));have z1:=k1.size;have z2:=k2.size;have old:=A.blt;refine ⟨k06,⟨b6,L,b3,b4,b5,none,none⟩,rfl,rfl,rfl,rfl,?_,A.on k06,o6,⟨[],(dF.new o3).keep (k4.trans (k5.trans k6)) (by simp),λa=>rfl,λa ha=>absurd rfl ha⟩,(dF.new o4).keep (k5.trans k6) (by simp),(dF.new o5).keep k6 (by simp),rfl,rfl,?_,?_,by simp,by simp⟩
  ·intro x hx;simp only [List.mem_cons,List.not_mem_nil,or_false] at hx;omega
  ·show b3≠b4/\b3≠b5/\b4≠b5;omega
  ·intro b hb hx;have:=old b hx;simp only [List.mem_cons,List.not_mem_nil,or_false] at hb;omega
theorem Bj {h:Heap}{V:VL}{M:aS}{X:VS}(A:At h V M X):aC Tryz.prog 27 [.pointer (some ⟨V.v,0,none⟩)] h (λv h'=>Keeps [V.v] h h' /\
 ∃ ob sb mb,h.size<=ob/\h.size<=sb/\h.size<=mb/\At h' { V with ob:=ob,sb:=sb,mb:=mb } M { X with now:=M.read,seen:=[],mine:=[] }):=by
 refine aG aH Tryz.func27 rfl ok27 (by simp [Tryz.f27]) ?_;(conv=>whnf);refine aj.t rfl ?_;(conv=>whnf);refine aL.i λb3 h3 e3 s3 o3 k3=>?_;(conv=>whnf);refine aL.i λb4 h4 e4 s4 o4 k4=>?_;(conv=>whnf);refine aL.i λb5 h5 e5 s5 o5 k5=>?_;have k05:=k3.trans (k4.trans k5);have A5:=A.on k05;(conv=>whnf);refine dN.i A5.obj (Nat.le_of_ble_eq_true rfl) (by simp [au]) λh6 s6 o6 k6=>?_;(conv=>whnf);refine dN.i o6 (Nat.le_of_ble_eq_true rfl) (by simp [au]) λh7 s7 o7 k7=>?_;(conv=>whnf);refine dN.i o7 (Nat.le_of_ble_eq_true rfl) (by simp [au]) λh8 s8 o8 k8=>?_;(conv=>whnf);have kv:Keeps [V.v] h5 h8:=k6.trans (k7.trans k8);have Ta:h8[V.v]?=some (.cells ⟨[.pointer (some ⟨V.mem.m,0,none⟩),.map (some b3),.map (some b4),.map (some b5),.map V.ab,.map V.jY]⟩ 121 (0,0)):=o8;have hv:V.v<h.size:=eU A.obj;have lt:∀ b∈V.mem.blocks++(V.ab.toList++V.jY.toList),b<h.size/\b≠V.v:=by
  intro b hb;refine ⟨A.blt b (by simp only [VL.blocks,List.mem_cons];exact .inr (.inr (.inr (.inr hb)))),?_⟩;rcases List.mem_append.1 hb with hb|hb
  ·intro e;exact A.ap2 V.v (by simp) (e ▸ hb)
  ·exact (A.ap3 b hb).2.2.2
 refine ⟨(k05.mono (by simp)).trans kv,b3,b4,b5,by omega,by omega,by omega,?_⟩;exact {
  mem:=A5.mem.keep kv (λb hb=>by simpa using (lt b (by simp [hb])).2)
  obj:=Ta
  own:=⟨[],((dF.new o3).keep (k4.trans k5) (by simp)).keep kv (by simp;omega),λa=>rfl,λa ha=>absurd rfl ha⟩
  seen:=((dF.new o4).keep k5 (by simp)).keep kv (by simp;omega)
  mine:=(dF.new o5).keep kv (by simp;omega)
  away:=A5.away.keep kv (λb hb=>by simpa using (lt b (by simp [hb])).2)
  bG:=A5.bG.keep kv (λb hb=>by simpa using (lt b (by simp [hb])).2)
  ap1:=by show b3≠b4/\b3≠b5/\b4≠b5;omega
  ap2:=λb hb hx=>by
   have:=lt b (List.mem_append_left _ hx);simp only [List.mem_cons,List.not_mem_nil,or_false] at hb;omega
  ap3:=λr hr=>by
   have:=lt r (List.mem_append_right _ hr);show r≠b3/\r≠b4/\r≠b5/\r≠V.v;omega
  bH:=by simp }
theorem Tc {h:Heap}{v:Nat}(k:Int):aC Tryz.prog 212 [.pointer (some ⟨v,0,none⟩),.int .i64 k] h (λv h'=>Keeps [] h h'/\v=.tuple #[.int .i64 (if 0<=k/\k<96 then 200+k*1 else 0),.int .i64 (if 0<=k/\k<96 then 0 else 1)]):=by
 refine aG aH Tryz.func212 rfl ok212 (by simp [Tryz.f212]) ?_;(conv=>whnf);refine ak.i (EB k h) λv h1 k1 hv=>?_;subst hv;(conv=>whnf);refine aV.pass ?_;(conv=>whnf);refine aj.f rfl ?_;(conv=>whnf);exact ⟨k1,rfl⟩
theorem Bl {k:Int}(h:0<=k/\k<96):jR (200+k)=true:=by simp [jR];omega
def fQ (X:VS)(k:Int):Int×VS:=
 if 0<=k/\k<96 then (if X.now (200+k)=0 then (15,X) else (0,{ X with now:=upd X.now (200+k) 0 })) else (1,X)
theorem En {h:Heap}{V:VL}{M:aS}{X:VS}(A:At h V M X)(k:Int):aC Tryz.prog 145 [.pointer (some ⟨V.v,0,none⟩),.int .i64 k] h (λv h'=>Keeps [V.ob] h h'/\v=.int .i64 (fQ X k).1/\At h' V M (fQ X k).2):=by
 refine aG aH Tryz.func145 rfl ok145 (by simp [Tryz.f145]) ?_;(conv=>whnf);refine ak.i (Tc k) λv h1 k1 hv=>?_;subst hv;have A1:=A.on k1;(conv=>whnf);refine aj.i (λhc=>?_) (λhc=>?_)
 ·have hk:¬ (0<=k/\k<96):=λhk=>by rw [if_pos hk] at hc;simp at hc
  (conv=>whnf);unfold fQ;rw [if_neg hk,if_neg hk];exact ⟨k1.mono (by simp),rfl,A1⟩
 ·have hk:0<=k/\k<96:=Classical.byContradiction λhk=>by rw [if_neg hk] at hc;simp at hc
  rw [if_pos hk,Int.mul_one];(conv=>whnf);refine ak.i (yC A1 (200+k)) λv h2 k2 hv=>?_;subst hv;have A2:=A1.on k2;(conv=>whnf);refine aj.i (λhd=>?_) (λhd=>?_)
  ·have hn:X.now (200+k)=0:=by simpa [qO] using hd
   (conv=>whnf);unfold fQ;rw [if_pos hk,if_pos hn];exact ⟨(k1.trans k2).mono (by simp),rfl,A2⟩
  ·have hn:¬ X.now (200+k)=0:=by simpa [qO] using hd
   (conv=>whnf);refine ak.m (Ku A2 (200+k) 0) (by simp [au]) λv h3 k3 hv=>?_;obtain ⟨rfl,A3⟩:=hv;rw [if_pos (Bl hk)] at A3;(conv=>whnf);unfold fQ;rw [if_pos hk,if_neg hn,if_pos (Bl hk)];exact ⟨((k1.trans k2).mono (by simp)).trans k3,rfl,A3⟩
def bE (B:Int->UInt64)(X:VS)(n:Nat):Nat:=((List.range n).filter λ(i:Nat)=>iF B X (i:Int)).length
theorem Td (B:Int->UInt64)(X:VS)(n:Nat):bE B X (n+1)=bE B X n+(if iF B X (n:Int) then 1 else 0):=by
 unfold bE;rw [List.range_succ,List.filter_append,List.length_append]
 congr 1
 simp only [List.filter_cons,List.filter_nil];split <;> rfl
theorem Te (B:Int->UInt64)(X:VS)(n:Nat):bE B X n<=n:=by
 unfold bE;exact Nat.le_trans (List.length_filter_le _ _) (by simp)
theorem free_spec {h:Heap}{V:VL}{M:aS}{X:VS}(A:At h V M X):aC Tryz.prog 33 [.pointer (some ⟨V.v,0,none⟩)] h (λv h'=>Keeps [] h h'/\v=.int .i64 (bE M.read X 96:Int)):=by
 refine aG aH Tryz.func33 rfl ok33 (by simp [Tryz.f33]) ?_;(conv=>whnf);refine bP.on [0,3,5] [] (λi:Nat=>[(0,.v (.pointer (some ⟨V.v,0,none⟩))),(3,.v (.int .i64 (bE M.read X i:Int))),(5,.v (.int .i64 (i:Int)))]) (λ_=>[]) (λi h'=>i<=96/\Keeps [] h h') (λi=>96-i) 0 ?_ ?_
 ·(conv=>whnf);exact ⟨0,rfl,rfl,rfl,by decide,Keeps.refl _ _⟩
 ·rintro i h2 ⟨hi,k2⟩;(conv=>whnf);refine aj.i (λhc=>?_) (λhc=>?_)
  ·have hi1:i<96:=by simp at hc;omega
   have hle:=Te M.read X i;have hs:=Td M.read X i;(conv=>whnf);refine aV.pass ?_;(conv=>whnf);refine ak.i (Kv (A.on k2) (i:Int)) λv h3 k3 hv=>?_;subst hv;(conv=>whnf);refine aj.i (λhd=>?_) (λhd=>?_)
   all_goals
    (conv=>whnf);refine ⟨96-(i+1),by omega,?_⟩;(conv=>whnf);refine ⟨i+1,rfl,?_,rfl,by omega,k2.trans k3⟩;rw [hd] at hs;simp only [if_true,Bool.false_eq_true,if_false] at hs;rw [hs,wrapN (x:=(i:Int)+1) (n:=i+1) (by simp) (by omega)]
    first | rfl | rw [wrapN (x:=(bE M.read X i:Int)+1) (n:=bE M.read X i+1) (by simp) (by omega)]
  ·(conv=>whnf);have hi1:i=96:=by simp at hc;omega
   subst hi1;exact ⟨k2,rfl⟩
def jZ (B:Int->UInt64)(X:VS):Nat->Nat->Option Nat
 | 0,_=>none
 | f+1,i=>if iF B X (i:Int) then some i else jZ B X f (i+1)
theorem Ah {B:Int->UInt64}{X:VS}:∀ {f i k:Nat},jZ B X f i=some k->iF B X (k:Int)=true/\i<=k/\k<i+f
 | 0,i,k,h=>by cases h
 | f+1,i,k,h=>by
  simp only [jZ] at h;split at h
  ·simp at h;subst h;exact ⟨by assumption,Nat.le_refl _,by omega⟩
  ·have:=Ah h;exact ⟨this.1,by omega,by omega⟩
def w64 (n:Int):UInt64:=UInt64.ofNat (n%18446744073709551616).toNat
theorem qJ (n:Int):((w64 n).toNat:Int)=n%18446744073709551616:=by
 unfold w64;rw [UInt64.toNat_ofNat'];omega
theorem Ar (n:Int):wv (w64 n)=.int .u64 (IntKind.u64.wrap n):=by
 unfold wv;rw [qJ];rfl
def bL (B:Int->UInt64)(X:VS)(node:Int):Int×Int×VS:=
 if 0<=node/\node<24 then
  (match jZ B X 96 0 with
  | some k=>((k:Int),0,{ X with now:=bZ (upd X.now (200+(k:Int)) (w64 (node+1))) (k:Int) [] })
  | none=>(0,9,X))
 else (0,1,X)
theorem DV {h:Heap}{V:VL}{M:aS}{X:VS}(A:At h V M X)(node:Int):aC Tryz.prog 134 [.pointer (some ⟨V.v,0,none⟩),.int .i64 node] h (λv h'=>Keeps [V.ob] h h'/\v=.tuple #[.int .i64 (bL M.read X node).1,.int .i64 (bL M.read X node).2.1]/\At h' V M (bL M.read X node).2.2):=by
 refine aG aH Tryz.func134 rfl ok134 (by simp [Tryz.f134]) ?_;(conv=>whnf);refine ak.i (ul node h) λv h1 k1 hv=>?_;subst hv;have A1:=A.on k1;(conv=>whnf);refine aj.i (λhc=>?_) (λhc=>?_)
 ·have hk:¬ (0<=node/\node<24):=λhk=>by rw [if_pos hk] at hc;simp [dm] at hc
  (conv=>whnf);unfold bL;rw [if_neg hk];exact ⟨k1.mono (by simp),rfl,A1⟩
 ·have hk:0<=node/\node<24:=Classical.byContradiction λhk=>by rw [if_neg hk] at hc;simp [dm] at hc
  have hT:bL M.read X node=(match jZ M.read X 96 0 with
   | some k=>((k:Int),0,{ X with now:=bZ (upd X.now (200+(k:Int)) (w64 (node+1))) (k:Int) [] })
   | none=>(0,9,X)):=by unfold bL;rw [if_pos hk]
  rw [hT];clear hT;(conv=>whnf);refine bP.on [0,1,23] [] (λi:Nat=>[(0,.v (.pointer (some ⟨V.v,0,none⟩))),(1,.v (.int .i64 node)),(23,.v (.int .i64 (i:Int)))]) (λ_=>[]) (λi h'=>i<=96/\Keeps [] h h'/\jZ M.read X 96 0=jZ M.read X (96-i) i) (λi=>96-i) 0 ?_ ?_
  ·(conv=>whnf);exact ⟨0,rfl,rfl,rfl,by decide,k1,rfl⟩
  ·rintro i h2 ⟨hi,k2,hF⟩;have A2:=A.on k2;(conv=>whnf);refine aj.i (λhc=>?_) (λhc=>?_)
   ·have hi1:i<96:=by simp at hc;omega
    have hF2:jZ M.read X (96-i) i=if iF M.read X (i:Int) then some i else jZ M.read X (96-(i+1)) (i+1):=by
     rw [show 96-i=(96-(i+1))+1 by omega];rfl
    rw [hF2] at hF;clear hF2;(conv=>whnf);refine ak.i (Kv A2 (i:Int)) λv h3 k3 hv=>?_;subst hv;have A3:=A2.on k3;(conv=>whnf);refine aj.i (λhd=>?_) (λhd=>?_)
    ·have hd':iF M.read X (i:Int)=false:=by simpa using hd
     rw [hd'] at hF;(conv=>whnf);refine ⟨96-(i+1),by omega,?_⟩;(conv=>whnf);exact ⟨i+1,rfl,by rw [wrapN (n:=i+1) (by simp) (by omega)],rfl,by omega,k2.trans k3,by rw [hF,if_neg (by simp)]⟩
    ·have hd':iF M.read X (i:Int)=true:=by simpa using hd
     rw [hd',if_pos rfl] at hF;rw [hF];(conv=>whnf);refine ak.i (EB (i:Int) h3) λv h4 k4 hv=>?_;subst hv;have hib:(0:Int)<=(i:Int)/\(i:Int)<96:=⟨by omega,by omega⟩;rw [if_pos hib,Int.mul_one];have A4:=A3.on k4;(conv=>whnf);rw [dR (x:=node+1) (by omega) (by omega),<-Ar];refine ak.m (Ku A4 (200+(i:Int)) (w64 (node+1))) (by simp [au]) λv h5 k5 hv=>?_;obtain ⟨rfl,A5⟩:=hv;rw [if_pos (Bl hib)] at A5;rw [if_pos (Bl hib)];(conv=>whnf);refine aj.f rfl ?_;(conv=>whnf);refine ak.m (xP A5 (i:Int) (Sl.nil (α:=UInt64) (a:=none) (cap:=0)) (by simp [ay])) (by simp [au]) λv h6 k6 hv=>?_;obtain ⟨rfl,A6⟩:=hv;have h3':(0:Int)<=(i:Int)/\(i:Int)<96/\0<=16:=⟨hib.1,hib.2,by omega⟩;rw [if_pos h3'] at A6;rw [if_pos h3'];(conv=>whnf);exact ⟨((k2.trans (k3.trans k4)).mono (by simp)).trans (k5.trans k6),rfl,A6⟩
   ·have hi1:i=96:=by simp at hc;omega
    subst hi1;(conv=>whnf);rw [hF];exact ⟨k2.mono (by simp),rfl,A2⟩
end Go.Proofs.YtoociceebodfeaaGreatDoor
