/-
  Joined texts: EngU, BodyF, BodyG, BodyH, BodyI, BodyJ, BodyK, BodyL.
-/
import Derived.Test.YtoociceebodfeaaGreatDoorJLawCRenamec
import Derived.Laws.IdiomStrings
import Derived.Lib.UnsafeStr
import Derived.Lib.Builder
import Derived.Laws.Externs
import Derived.Lib.MakeNoZero
set_option linter.all false
namespace Go.aN
open Go
theorem uy (s:ByteArray):(jQ s).length=s.size:=by simp [jQ]
def iT (l:List UInt8):List Value:=l.map λb=>.int .u8 (b.toNat:Int)
theorem FO (s:ByteArray):jQ s=iT s.data.toList:=rfl
theorem Bf (l:List UInt8):(iT l).length=l.length:=by simp [iT]
theorem LF (a b:List UInt8):iT (a++b)=iT a++iT b:=by simp [iT]
theorem aW.bytesOf {P:Program}{src dst e:TypeId}{s:ByteArray}(hs:P.underlying src=some .string)(hd:P.underlying dst=some (.slice e))(he:P.underlying e=some (.int .u8)){bs:List Nat}{h:Heap}{K:Value->Heap->Prop}
 (H:∀ b cap h' r fz,b=h.size->h'.size=h.size+1->s.size<=cap->h'[b]?=some (.cells ⟨jQ s++r⟩ e fz)->Keeps [] h h'->K (.slice (some ⟨b,0,none⟩) s.size cap) h') :
 aW P (convert src dst (.string s)) bs h K:=by
 unfold aW;intro hlt w hw;subst hw;have hr:=run_bytes_of_string (P:=P) w src dst e s hs hd he;refine ⟨_,_,hr,⟨rfl,rfl,rfl⟩,λb hb=>?_,?_⟩
 ·show (w.heap.push _)[b]?=_;rw [jk,if_neg (by have:=hlt b hb;omega)]
 ·have hc:s.size<=grownCap w s.size 0 e:=by
   simp only [grownCap,Question.cut];omega
  refine H w.heap.size _ (w.heap.push _) (List.replicate (grownCap w s.size 0 e-s.size) (.int .u8 0)) ((bytesRow s (grownCap w s.size 0 e)).size,(bytesRow s (grownCap w s.size 0 e)).size+1) rfl (by simp) hc ?_ (sD _ _);rw [jk,if_pos rfl]
  congr 2
  ·apply Array.ext';simp [bytesRow,jQ]
theorem aW.textOf {P:Program}{src dst e:TypeId}{b off n cap:Nat}{l:List UInt8}(hs:P.underlying src=some (.slice e))(he:P.underlying e=some (.int .u8))(hd:P.underlying dst=some .string){h:Heap}(hn:n=l.length)
 (hc:∀ j (hj:j<l.length),Heap.cell? h b (off+j)=some (.int .u8 (l[j].toNat:Int))) {bs:List Nat} {K:Value->Heap->Prop} (H:K (.string ⟨l.toArray⟩) h) :
 aW P (convert src dst (.slice (some ⟨b,off,none⟩) n cap)) bs h K:=by
 unfold aW;intro hlt w hw;subst hw;subst hn;exact ⟨_,w,run_convert_bytes_back w src dst e ⟨b,off,none⟩ cap l hs he hd (λj hj=>by rw [addr_add,uM];exact hc j hj),dG.refl w,λ_ _=>rfl,H⟩
theorem LG {P:Program}{b:Nat}{T:TypeId}{fz:Nat×Nat}:∀ (vs:List Value) (i off:Nat) (c:List Value) (w:World),(∀ v∈vs,v.oneCell'=true)->off+i+vs.length<=c.length->fz.2<=off+i ->
 w.heap[b]?=some (.cells ⟨c⟩ T fz)->∃ w',(storeCells ⟨b,off,none⟩ vs i).run P w=.ok () w'/\dG w w'/\w'.heap.size=w.heap.size /\
  w'.heap[b]?=some (.cells ⟨bF (off+i) vs c⟩ T fz)/\∀ b',b'≠b->w'.heap[b']?=w.heap[b']?
 | [],i,off,c,w,_,_,_,hb=>⟨w,by simp [storeCells],dG.refl w,rfl,by rw [yN];exact hb,λ_ _=>rfl⟩
 | v::vs,i,off,c,w,hv,hl,hz,hb=>by
  simp only [List.length_cons] at hl;have hcell:w.cell? ⟨b,off+i,none⟩=some (c[off+i]'(by omega)):=by
   rw [uM];simp [Heap.cell?,hb,show off+i<c.length by omega]
  have hfr:w.frozen? ⟨b,off+i,none⟩=false:=by
   obtain ⟨lo,hi⟩:=fz;simp [World.frozen?,hb];intro _;simpa using hz
  have hrun:=run_store P w ⟨b,off+i,none⟩ v .plain (hv v (by simp));rw [hcell] at hrun;simp only [hfr,Bool.false_eq_true,if_false] at hrun;have hb2:(w.setCell ⟨b,off+i,none⟩ v).heap[b]?=some (.cells ⟨c.set (off+i) v⟩ T fz):=by
   rw [wz,Array.getElem?_modify];simp [hb,setObj1,Array.setIfInBounds,show off+i<c.length by omega]
  obtain ⟨w',h1,h2,h3,h4,h5⟩:=LG vs (i+1) off (c.set (off+i) v) (w.setCell ⟨b,off+i,none⟩ v) (λu hu=>hv u (by simp [hu])) (by simp;omega) (by omega) hb2;refine ⟨w',?_,⟨h2.1,h2.2⟩,?_,?_,λb' hne=>?_⟩
  ·simp only [storeCells,Sem.run_bind,addr_add];rw [hrun];simp only [Result.andThen_ok];exact h1
  ·rw [h3,wz];simp
  ·rw [h4,show off+(i+1)=off+i+1 by omega,BG v vs (off+i) c (by omega)]
  ·rw [h5 b' hne,wz,Array.getElem?_modify,if_neg (Ne.symm hne)]
def Buf (h:Heap)(e:TypeId)(a:Option Addr)(n c:Nat)(s:List UInt8):Prop:=
 (a=none/\n=0/\c=0/\s=[]) \/
 ∃ g cs fz,a=some ⟨g,0,none⟩/\h[g]?=some (.cells ⟨cs⟩ e fz)/\cs.take n=iT s/\cs.length=c/\n=s.length/\n<=c/\fz.2<=n/\0<c
theorem Buf.keep {M:List Nat}{h h':Heap}{e:TypeId}{a:Option Addr}{n c:Nat}{s:List UInt8}(o:Buf h e a n c s)(k:Keeps M h h')(hm:∀ b∈ay a,b∉M):Buf h' e a n c s:=by
 rcases o with o|⟨g,cs,fz,h1,h2,h3⟩
 ·exact .inl o
 ·exact .inr ⟨g,cs,fz,h1,k.obj h2 (hm g (by simp [h1,ay])),h3⟩
theorem Buf.lt {h:Heap}{e:TypeId}{a:Option Addr}{n c:Nat}{s:List UInt8}(o:Buf h e a n c s):∀ b∈ay a,b<h.size:=by
 intro b hb;rcases o with ⟨rfl,_⟩|⟨g,cs,fz,rfl,h2,_⟩
 ·cases hb
 ·simp [ay] at hb;subst hb;exact eU h2
theorem Buf.len {h:Heap}{e:TypeId}{a:Option Addr}{n c:Nat}{s:List UInt8}(o:Buf h e a n c s):n=s.length/\n<=c:=by
 rcases o with ⟨_,rfl,rfl,rfl⟩|⟨g,cs,fz,_,_,_,_,h5,h6,_,_⟩
 ·exact ⟨rfl,Nat.le_refl _⟩
 ·exact ⟨h5,h6⟩
theorem LH:∀ l:List UInt8,gV (iT l)=true
 | []=>rfl
 | x::l=>by simpa [gV,uE,iT] using LH l
theorem LJ {P:Program}(w:World)(size:Nat)(s:ByteArray):(Builtin.firstCells size s.size (.string s)).run P w=.ok ⟨jQ s⟩ w:=by
 simp [Builtin.firstCells,jQ];apply Array.ext';simp
theorem aW.SF {P:Program}{sT xT ty e:TypeId}{i:TypeInfo}{z:Value}(hu:P.underlying sT=some (.slice e))(hx:P.underlying xT=some .string)(hi:P.info? e=some i)(hsz:i.size=1)(hby:i.bytes=1)(hz:i.zero=some z)(hzc:cellsOf z=[z])
 {h:Heap} {a:Option Addr} {n c:Nat} {l:List UInt8} {s:ByteArray} (o:Buf h e a n c l) (hbig:n+s.size<=70368744177664) {bs:List Nat} (hbs:∀ b∈ay a,b∉bs) {K:Value->Heap->Prop}
 (H:∀ a' c' h',Buf h' e a' (n+s.size) c' (l++s.data.toList)->Keeps (ay a) h h'->(∀ b∈ay a',b∈ay a\/h.size<=b)->c<=c'->(n+s.size<=c->c'=c/\a'=a)->K (.slice a' (n+s.size) c') h') :
 aW P (Builtin.append_ #[sT,xT] ty ⟨[.slice a n c,.string s]⟩) bs h K:=by
 unfold aW;intro hlt w hw;subst hw;have hsize:(sizeOf e).run P w=.ok 1 w:=by simp [sizeOf,gZ P e w hi,hsz]
 have hnew:=LJ (P:=P) w 1 s;have hlen:=o.len;by_cases hfit:n+s.size<=c
 ·rcases o with ⟨rfl,rfl,rfl,rfl⟩|⟨g,cs,fz,rfl,h2,h3,h4,h5,h6,h7,h8⟩
  ·have hn0:s.size=0:=by omega
   have hb0:jQ s=[]:=List.eq_nil_of_length_eq_zero (by rw [uy];exact hn0);have hd0:s.data.toList=[]:=List.eq_nil_of_length_eq_zero (by rw [Array.length_toList];exact hn0);have hnew0:=hnew;rw [hn0,hb0] at hnew0;refine ⟨.slice none (0+s.size) 0,w,?_,dG.refl w,λb _=>rfl,H none 0 w.heap (.inl ⟨rfl,by omega,rfl,by simp [hd0]⟩) (Keeps.refl _ _) (by simp [ay]) (Nat.le_refl _) (λ_=>⟨rfl,rfl⟩)⟩;simp [Builtin.append_,dK P sT w hu,dK P xT w hx,hsize,Builtin.lenOf,hn0,hnew0]
  ·have hroom:n+(jQ s).length<=cs.length:=by rw [uy,h4];exact hfit
   obtain ⟨w',r1,r2,r3,r4,r5⟩:=LG (P:=P) (jQ s) 0 n cs w (vQ (by rw [FO];exact LH _)) (by simpa using hroom) (by simpa using h7) h2;refine ⟨_,w',?_,r2,λb' hb'=>r5 b' (λe=>hbs g (by simp [ay]) (e ▸ hb')),H (some ⟨g,0,none⟩) c w'.heap (.inr ⟨g,_,fz,rfl,r4,?_,?_,?_,hfit,by omega,h8⟩) ⟨by omega,λb' _ hb'=>r5 b' (by simpa [ay] using hb')⟩ (λb' hb'=>.inl hb') (Nat.le_refl _) (λ_=>⟨rfl,rfl⟩)⟩
   ·simp [Builtin.append_,dK P sT w hu,hsize,dK P xT w hx,Builtin.lenOf,hfit,hnew,addr_add];rw [r1];rfl
   ·have:=sO n (jQ s) cs (by omega);simp only [Nat.add_zero];rw [uy] at this;rw [this,h3,LF,FO]
   ·simp only [Nat.add_zero,vR];exact h4
   ·simp [h5]
 ·have hcap:c<n+s.size:=by omega
  have hold:∀ w':World,w'.heap=w.heap->(Builtin.firstCells 1 n (.slice a n c)).run P w'=.ok ⟨iT l⟩ w':=by
   intro w' hw';rcases o with ⟨rfl,rfl,rfl,rfl⟩|⟨g,cs,fz,rfl,h2,h3,h4,h5,h6,h7,h8⟩
   ·simp [Builtin.firstCells,iT]
   ·simp only [Builtin.firstCells];refine wG (by rw [Bf];omega) (λk hk=>?_);rw [Nat.mul_one] at hk;simp only [Heap.cell?,hw',h2,Nat.zero_add];rw [<-h3];simp [hk,show k<cs.length by omega]
  have BZ:=FE (n+s.size) c hcap;obtain ⟨nc,hnc,hle,wH⟩:=FH (n+s.size) c e (w.tape w.drawn (.appendCap (n+s.size) c e)) (by omega);obtain ⟨zl,hzl,FI⟩:=LC z.cells (nc-(n+s.size));have hz':z.cells.size=1:=by rw [qg,hzc];rfl
  let w2:World:={ w.drew with heap:=w.heap.push (.cells ⟨iT l++jQ s++zl⟩ e) }
  refine ⟨.slice (some ⟨w.heap.size,0,none⟩) (n+s.size) nc,w2,?_,⟨rfl,rfl,rfl⟩,λb hb=>?_,H _ nc w2.heap (.inr ⟨w.heap.size,iT l++jQ s++zl,(0,0),rfl,?_,?_,?_,?_,hle,Nat.zero_le _,by omega⟩) ?_ ?_ (by omega) (λh=>absurd h hfit)⟩
  ·have hti:(typeInfo e).run P w=.ok i w:=gZ P e w hi;have hti2:(typeInfo e).run P w.drew=.ok i w.drew:=gZ P e w.drew hi;have hold2:=hold w.drew rfl;have hnew2:=LJ (P:=P) w.drew 1 s;have hzv2:(zeroValue e).run P w.drew=.ok z w.drew:=by simp [zeroValue,gZ P e w.drew hi,hz]
   have hb2:¬ (281474976710656<Builtin.nextslicecap (n+s.size) c):=by omega
   have hbz:¬ (i.bytes=0):=by omega
   simp [Builtin.append_,dK P sT w hu,hsize,dK P xT w hx,Builtin.lenOf,hfit,hti,hbz,hb2,hby,wH,hnc,hti2,hold2,hnew2,hzv2,hzl,newRow,w2];rfl
  ·show (w.heap.push _)[b]?=_;rw [jk,if_neg (by have:=hlt b hb;omega)]
  ·show (w.heap.push _)[w.heap.size]?=_;rw [jk,if_pos rfl]
  ·rw [LF,<-FO];have:(iT l++jQ s).length=n+s.size:=by simp [Bf,uy,hlen.1]
   rw [<-this,List.take_left]
  ·simp [Bf,uy,FI,hz'];omega
  ·simp [hlen.1]
  ·exact ⟨by simp [w2],λb hb _=>by show (w.heap.push _)[b]?=_;rw [jk,if_neg (by omega)]⟩
  ·intro b hb;right;simp [ay] at hb;omega
theorem aW.ext {P : Program} {f : FuncId} {fn : Func} {e : Array Value -> Sem Value} (hf : P.funcs[f]? = some fn) (hname : (fn.name == "runtime.NumGoroutine") = false) (hb : fn.body.isNone = true) (hn : Extern.findNext fn = none) (he : Extern.find fn = some e)
 {args:Array Value} {bs:List Nat} {h:Heap} {K:Value->Heap->Prop} (H:aW P (e args) bs h K):aW P (yO f args) bs h K:=by
 unfold aW at H ⊢;intro hlt w hw;obtain ⟨v,w',h1,h2⟩:=H hlt w hw;refine ⟨v,w',?_,h2⟩;unfold yO;simp only [Sem.run_bind,run_callFunc_extern hf hname hb hn he,h1,Result.andThen_ok];simp
theorem aW.pure {P:Program}{α:Type}{s:Sem α}{bs:List Nat}{h:Heap}{K:α->Heap->Prop}{v:α}(hs:∀ w:World,w.heap=h->s.run P w=.ok v w)(H:K v h):aW P s bs h K:=by
 unfold aW;intro hlt w hw;exact ⟨v,w,hs w hw,dG.refl w,λb _=>by rw [hw],by rw [hw];exact H⟩
theorem aW.Kn {P:Program}{ps:Array TypeId}{t e:TypeId}(ht:P.underlying t=some (.slice e)){n:Nat}(hn:n<=281474976710656)(hp:0<n){bs:List Nat}{h:Heap}{K:Value->Heap->Prop}
 (H:∀ b c cs h',b=h.size->h'.size=h.size+1->h'[b]?=some (.cells ⟨cs⟩ e (0,0))->cs.length=c->n<=c->Keeps [] h h'->K (.slice (some ⟨b,0,none⟩) n c) h') :
 aW P (Extern.BytealgMakeNoZero.makeNoZero ps #[t] #[.int .i64 (n:Int)]) bs h K:=by
 unfold aW;intro hlt w hw;subst hw;obtain ⟨cs,h1,h2,_⟩:=Lib.run_makeNoZero (P:=P) w ps t e ht n hn;refine ⟨_,_,h1,⟨rfl,rfl,rfl⟩,λb hb=>?_,H w.heap.size cs.size cs.toList (w.heap.push (.cells cs e)) rfl (by simp) (by rw [jk,if_pos rfl]) (by simp) h2 (sD _ _)⟩;show (w.heap.push _)[b]?=_;rw [jk,if_neg (by have:=hlt b hb;omega)]
theorem gI.i {a b:Prop}(h1:a)(h2:b):gI a b:=by unfold gI;exact ⟨h1,h2⟩
theorem Ue (w:World)(g:Nat){n:Nat}(hn:n≠0){cs:Array Value}{e:TypeId}{fz:Nat×Nat}(hg:w.heap[g]?=some (.cells cs e fz)) :
 (w.freeze ⟨g,0,none⟩ n).heap.size=w.heap.size/\(∃ wI,(w.freeze ⟨g,0,none⟩ n).heap[g]?=some (.cells cs e wI)/\wI.2<=max fz.2 n)/\∀ b,b≠g->(w.freeze ⟨g,0,none⟩ n).heap[b]?=w.heap[b]?:=by
 unfold World.freeze;rw [if_neg hn];obtain ⟨lo,hi⟩:=fz;refine ⟨by simp,⟨if lo==hi then (0,0+n) else (min lo 0,max hi (0+n)),?_,?_⟩,λb hb=>?_⟩
 ·simp only [Array.getElem?_modify,if_true,hg,Option.map_some]
 ·split
  ·simp;omega
  ·simp
 ·simp only [Array.getElem?_modify];rw [if_neg (λe=>hb e.symm)]
theorem aW.Kr {P:Program}{pt it ty e:TypeId}(hp:P.underlying pt=some (.pointer e))(hc:P.cellsOf e=1){h:Heap}{g n c:Nat}{l:List UInt8}(o:Buf h e (some ⟨g,0,none⟩) n c l)(h63:l.length<=70368744177664){bs:List Nat}(hg:g∉bs){K:Value->Heap->Prop}
 (H:∀ h',Buf h' e (some ⟨g,0,none⟩) n c l->h'.size=h.size->Keeps [g] h h'->K (.string ⟨l.toArray⟩) h') :
 aW P (Builtin.unsafeString_ #[pt,it] ty ⟨[.pointer (some ⟨g,0,none⟩),.int .i64 (n:Int)]⟩) bs h K:=by
 rcases o with ⟨h1,_⟩|⟨g',cs,fz,h1,h2,h3,h4,h5,h6,h7,h8⟩
 ·cases h1
 simp only [Option.some.injEq,Addr.mk.injEq,and_true] at h1;subst h1;subst h5;by_cases h0:l=[]
 ·subst h0;refine aW.pure (λw _=>Lib.run_unsafeString_none w pt it ty (some ⟨g,0,none⟩)) ?_;exact H h (.inr ⟨g,cs,fz,rfl,h2,h3,h4,rfl,h6,h7,h8⟩) rfl (Keeps.refl _ _)
 ·unfold aW;intro hlt w hw;subst hw;have hl0:l.length≠0:=by simpa using h0
  have hsh:w.shape? g=some (e,cs.length):=by unfold World.shape?;rw [h2];simp
  have hr:=Lib.run_unsafeString_row (P:=P) w pt it ty e hp hc g cs.length hsh l h0 (by omega) (by omega) (λj x hj=>by
   rw [addr_add,Nat.zero_add,uM];simp only [Heap.cell?,h2];have hj':j<l.length:=(List.getElem?_eq_some_iff.1 hj).1;have h9:(cs.take l.length)[j]?=(iT l)[j]?:=by rw [h3]
   rw [List.getElem?_take,if_pos hj'] at h9;simp only [List.getElem?_toArray];rw [h9];simp [iT,hj])
  obtain ⟨q1,⟨wI,q2,q3⟩,q4⟩:=Ue w g hl0 h2;refine ⟨_,_,hr,?_,λb hb=>q4 b (λx=>hg (x ▸ hb)),H _ (.inr ⟨g,cs,wI,rfl,q2,h3,h4,rfl,h6,by omega,h8⟩) q1 ⟨by omega,λb _ hb=>q4 b (by simpa using hb)⟩⟩;unfold World.freeze;rw [if_neg hl0];exact ⟨rfl,rfl,rfl⟩
theorem lq (a:Option Addr)(c s:Nat):jh a c 0 s=a:=by
 unfold jh;split
 ·rfl
 ·cases a <;> simp [Addr.add]
theorem aW.DT {P:Program}{sT nT ty e:TypeId}{i:TypeInfo}{z:Value}{k:IntKind}(hu:P.underlying sT=some (.slice e))(hx:P.underlying nT=some (.int k))(hi:P.info? e=some i)(hsz:i.size=1){aQ:Nat}(hby:i.bytes=aQ)(hz:i.zero=some z)(hzc:cellsOf z=[z])
 {n:Nat} (hp:0<n) (hbig:(2*n+192)*aQ<=281474976710656) (hb0:0<aQ) {h:Heap} {bs:List Nat} {K:Value->Heap->Prop}
 (H:∀ b c h',b=h.size->h'.size=h.size+1->h'[b]?=some (.cells ⟨List.replicate c z⟩ e (0,0))->n<=c->Keeps [] h h'->K (.slice (some ⟨b,0,none⟩) n c) h') :
 aW P (Builtin.append_ #[sT,nT] ty ⟨[.slice none 0 0,.int .i64 (n:Int)]⟩) bs h K:=by
 unfold aW;intro hlt w hw;subst hw;have hn1:n<=281474976710656:=by
  have:2*n+192<=(2*n+192)*aQ:=Nat.le_mul_of_pos_right _ hb0;omega
 have hn2:n*aQ<=281474976710656:=by
  have:=Nat.mul_le_mul_right aQ (show n<=2*n+192 by omega);omega
 have BZ:=FE n 0 hp;have hn3:Builtin.nextslicecap n 0*aQ<=281474976710656:=by
  have:=Nat.mul_le_mul_right aQ BZ;omega
 obtain ⟨nc,hnc,hle,wH⟩:=FH n 0 e (w.tape w.drawn (.appendCap n 0 e)) (by omega);have hz':z.cells=#[z]:=by rw [qg,hzc]
 have zc:∀ m,Builtin.zeroCells z.cells m=⟨List.replicate m z⟩:=by
  intro m;rw [hz'];apply Array.ext';simp only [Builtin.zeroCells];apply List.ext_getElem
  ·simp
  ·intro k k1 k2;simp [Nat.mod_one]
 have hti:(typeInfo e).run P w=.ok i w:=gZ P e w hi;have hti2:(typeInfo e).run P w.drew=.ok i w.drew:=gZ P e w.drew hi;have hsize:(sizeOf e).run P w=.ok 1 w:=by simp [sizeOf,gZ P e w hi,hsz]
 have hzv2:(zeroValue e).run P w.drew=.ok z w.drew:=by simp [zeroValue,gZ P e w.drew hi,hz]
 have hwrap:IntKind.i64.wrap (n:Int)=(n:Int):=wrapN rfl (by omega);have c1:¬ (281474976710656<(n:Int)*(aQ:Int)):=by
  have:(n:Int)*(aQ:Int)=((n*aQ:Nat):Int):=by simp
  rw [this];omega
 have c2:¬ (281474976710656<Builtin.nextslicecap n 0*aQ):=by omega
 have c3:¬ (9223372036854775807<(n:Int)):=by omega
 have c4:¬ ((n:Int)<0):=by omega
 have c5:¬ (n=0):=by omega
 refine ⟨.slice (some ⟨w.heap.size,0,none⟩) n nc,{ w.drew with heap:=w.heap.push (.cells ⟨List.replicate nc z⟩ e) },?_,⟨rfl,rfl,rfl⟩,λb hb=>?_,H w.heap.size nc (w.heap.push (.cells ⟨List.replicate nc z⟩ e)) rfl (by simp) (by rw [jk,if_pos rfl]) hle (sD _ _)⟩
 ·have Uf:¬ (aQ=0):=by omega
  simp [Builtin.append_,dK P sT w hu,dK P nT w hx,hsize,asInt,asIntOf,hwrap,c4,hti,hby,c1,c2,c3,c5,Uf,wH,hnc,hti2,hzv2,zc,Builtin.firstCells,newRow];rw [show n+(nc-n)=nc by omega];rfl
 ·show (w.heap.push _)[b]?=_;rw [jk,if_neg (by have:=hlt b hb;omega)]
theorem aW.append0 {P:Program}{sT xT ty e e':TypeId}{i:TypeInfo}(hu:P.underlying sT=some (.slice e))(hx:P.underlying xT=some (.slice e'))(hi:P.info? e=some i){h:Heap}{a x:Option Addr}{n c xc:Nat}(hc:n<=c){bs:List Nat}{K:Value->Heap->Prop}(H:K (.slice a n c) h) :
 aW P (Builtin.append_ #[sT,xT] ty ⟨[.slice a n c,.slice x 0 xc]⟩) bs h K:=by
 refine aW.pure (λw hw=>?_) H;have hsize:(sizeOf e).run P w=.ok i.size w:=by simp [sizeOf,gZ P e w hi]
 cases a <;> cases x <;> simp [Builtin.append_,dK P sT w hu,dK P xT w hx,hsize,Builtin.lenOf,hc,Builtin.firstCells,loadCells,loadCellsFrom,storeCells]
end Go.aN
set_option maxRecDepth 100000
namespace Go.Proofs.YtoociceebodfeaaGreatDoor
open Go Go.aN
def oC (w:UInt64)(i:Nat):UInt8:=UInt8.ofNat (w.toNat/2 ^ (8*(i%8)))
def iy (ws:List UInt64)(n:Nat):List UInt8:=(List.range n).map λi=>oC (ws[i/8]?.getD 0) i
theorem wrap_u8 (n:Int):IntKind.u8.wrap n=n%256:=by simp [IntKind.wrap,IntKind.bits,IntKind.signed]
theorem qU (n:Int):IntKind.u64.wrap n=n%18446744073709551616:=by simp [IntKind.wrap,IntKind.bits,IntKind.signed]
theorem Be (i:Nat)(hi:i<=1000000):IntKind.i64.wrap (8*((i:Int).tmod 8))=((8*(i%8):Nat):Int):=by
 have:(i:Int).tmod 8=((i%8:Nat):Int):=by rw [Int.tmod_eq_emod_of_nonneg (by omega)];omega
 rw [this,wrapN (n:=8*(i%8)) (by omega) (by omega)]
theorem Ez (i:Nat)(hi:i<=1000000):IntKind.i64.wrap ((i:Int).tdiv 8)=((i/8:Nat):Int):=by
 have:(i:Int).tdiv 8=((i/8:Nat):Int):=by rw [Int.tdiv_eq_ediv_of_nonneg (by omega)];omega
 rw [this,wrapN (n:=i/8) (by omega) (by omega)]
theorem SG (w:UInt64)(i:Nat):Value.int .u8 (IntKind.u8.wrap ((w.toNat:Int).fdiv (2 ^ (min ((8*(i%8):Nat):Int).toNat 64))))=.int .u8 ((oC w i).toNat:Int):=by
 congr 1
 rw [wrap_u8];have h1:min ((8*(i%8):Nat):Int).toNat 64=8*(i%8):=by omega
 rw [h1,Int.fdiv_eq_ediv_of_nonneg _ (by exact Int.le_of_lt (Int.pow_pos (by decide)))];unfold oC;rw [UInt8.toNat_ofNat'];have:(2:Int) ^ (8*(i%8))=((2 ^ (8*(i%8)):Nat):Int):=by simp
 rw [this]
 norm_cast
theorem JG {h:Heap}{a:Option Addr}{m c:Nat}{ws:List UInt64}(S:Sl h a m c ws)(n:Nat)(hn:n<=8*m)(hm:m<=1000):aC Tryz.prog 181 [.slice a m c,.int .i64 (n:Int)] h (λv h'=>Keeps [] h h'/\v=.tuple #[.string ⟨(iy ws n).toArray⟩,.int .i64 0]):=by
 refine aG aH Tryz.func181 rfl ok181 (by simp [Tryz.f181]) ?_;(conv=>whnf);have hl:=S.hlen;have e8:IntKind.i64.wrap (8*(m:Int))=((8*m:Nat):Int):=wrapN (by omega) (by omega);refine aj.f (by simp [dm,e8];omega) ?_;(conv=>whnf);refine aW.make (n:=n) rfl rfl rfl rfl rfl (by show 1*n<=_;omega) (by omega) λb1 h1 e1 s1 o1 k1=>?_;(conv=>whnf);refine bP.on [0,6,20,21] [] (λi:Nat=>[(0,.v (.slice a m c)),(6,.v (.slice (some ⟨b1,0,none⟩) n n)),(20,.v (.int .i64 (n:Int))),(21,.v (.int .i64 (i:Int)))]) (λ_=>[])
  (λi h'=>i<=n/\Keeps [] h h'/\h1.size<=h'.size/\h'[b1]?=some (.cells ⟨iT (iy ws i)++List.replicate (n-i) (.int .u8 0)⟩ 5 (0,0))) (λi=>n-i) 0 ?_ ?_
 ·(conv=>whnf);exact ⟨0,rfl,rfl,rfl,Nat.zero_le _,k1,Nat.le_refl _,o1⟩
 ·rintro i h2 ⟨hi,k2,z2,o2⟩;(conv=>whnf);refine aj.i (λhc=>?_) (λhc=>?_)
  ·have hi1:i<n:=by simp at hc;omega
   (conv=>whnf);refine dL.i (by decide) ?_;have hi8:i/8<ws.length:=by omega
   obtain ⟨b,off,hb,_,hcell⟩:=(S.keep k2).at1 (i/8) hi8;(conv=>whnf);refine aX.i (i/8) (Ez i (by omega)) (by omega) hb ?_;(conv=>whnf);refine ax.i hcell ?_;(conv=>whnf);refine dL.i (by decide) ?_;(conv=>whnf);refine dL.i (by rw [Be i (by omega)];omega) ?_;(conv=>whnf);refine aX.i i rfl hi1 rfl ?_;have er:List.replicate (n-i) (Value.int .u8 0)=.int .u8 0::List.replicate (n-(i+1)) (.int .u8 0):=by
    rw [show n-i=(n-(i+1))+1 by omega,List.replicate_succ]
   rw [er] at o2;have hlen:(iT (iy ws i)).length=i:=by simp [Bf,iy]
   (conv=>whnf);refine dN.i o2 ?_ (by simp [au]) λh4 s4 o4 k4=>?_
   ·simp only [List.length_append,List.length_cons,hlen,List.length_replicate];show 0+i*1+1<=_;omega
   (conv=>whnf);refine ⟨n-(i+1),by omega,?_⟩;(conv=>whnf);refine ⟨i+1,rfl,by rw [wrapN (n:=i+1) (by simp) (by omega)],rfl,by omega,k2.new1 k4 (by omega),by omega,?_⟩;rw [Be i (by omega)] at o4;have e4:bF (0+i*1) [Value.int .u8 ((oC ws[i/8] i).toNat:Int)] (iT (iy ws i)++.int .u8 0::List.replicate (n-(i+1)) (.int .u8 0))=iT (iy ws (i+1))++List.replicate (n-(i+1)) (.int .u8 0):=by
    have:=Bg (A:=iT (iy ws i)) (x:=.int .u8 0) (v:=Value.int .u8 ((oC ws[i/8] i).toNat:Int)) (B:=List.replicate (n-(i+1)) (.int .u8 0));rw [hlen] at this;rw [show 0+i*1=i by omega,this];simp [iy,List.range_succ,iT,hi8]
   rw [<-e4,<-SG];exact o4
  ·have hi1:i=n:=by simp at hc;omega
   subst hi1;(conv=>whnf);refine aW.textOf (l:=iy ws i) rfl rfl rfl (by simp [iy]) (λj hj=>?_) ?_
   ·simp only [Heap.cell?,o2];simp [iT,hj,List.getElem?_append]
   (conv=>whnf);exact ⟨k2,rfl⟩
def iQ:List UInt8->Nat
 | []=>0
 | b::r=>b.toNat+256*iQ r
theorem Bh:∀ l:List UInt8,iQ l<256 ^ l.length
 | []=>by simp [iQ]
 | b::r=>by
  have:=Bh r;have hb:=b.toNat_lt;simp only [iQ,List.length_cons,Nat.pow_succ];omega
theorem EA:∀ (l:List UInt8) (c:UInt8),iQ (l++[c])=iQ l+256 ^ l.length*c.toNat
 | [],c=>by simp [iQ]
 | b::r,c=>by
  have:=EA r c;simp only [List.cons_append,iQ,this,List.length_cons,Nat.pow_succ];rw [Nat.mul_add,Nat.mul_comm (256 ^ r.length) 256,Nat.mul_assoc];omega
def kg (l:List UInt8)(j:Nat):UInt64:=UInt64.ofNat (iQ ((l.drop (8*j)).take 8))
def dM (l:List UInt8)(n:Nat):List UInt64:=(List.range n).map λj=>kg l j
theorem SH (l:List UInt8)(j:Nat):iQ ((l.drop (8*j)).take 8)<18446744073709551616:=by
 have h1:=Bh ((l.drop (8*j)).take 8);have h2:((l.drop (8*j)).take 8).length<=8:=by simp;omega
 have h3:256 ^ ((l.drop (8*j)).take 8).length<=256 ^ 8:=Nat.pow_le_pow_right (by decide) h2;have h4:256 ^ 8=18446744073709551616:=by decide
 omega
theorem Eh (l:List UInt8)(j:Nat):(kg l j).toNat=iQ ((l.drop (8*j)).take 8):=by
 unfold kg;rw [UInt64.toNat_ofNat'];exact Nat.mod_eq_of_lt (SH l j)
theorem SI (l:List UInt8)(i j:Nat)(hi:i<l.length)(hj:j≠i/8):((l.take (i+1)).drop (8*j)).take 8=((l.take i).drop (8*j)).take 8:=by
 apply List.ext_getElem?;intro k;simp only [List.getElem?_take,List.getElem?_drop];by_cases h1:k<8
 ·rw [if_pos h1,if_pos h1];by_cases h2:8*j+k<i
  ·rw [if_pos (by omega),if_pos h2]
  ·by_cases h3:8*j+k<i+1
   ·have:8*j+k=i:=by omega
    omega
   ·rw [if_neg h3,if_neg h2]
 ·rw [if_neg h1,if_neg h1]
theorem SK (l:List UInt8)(i:Nat)(hi:i<l.length):((l.take (i+1)).drop (8*(i/8))).take 8=((l.take i).drop (8*(i/8))).take 8++[l[i]]:=by
 rw [List.take_succ_eq_append_getElem hi,List.drop_append,List.take_append];have h1:(l.take i).length=i:=by simp;omega
 have h2:8*(i/8)-(l.take i).length=0:=by rw [h1];omega
 rw [h2,List.drop_zero]
 congr 1
 have h3:(List.drop (8*(i/8)) (l.take i)).length=i%8:=by rw [List.length_drop,h1];omega
 rw [h3];have:8-i%8=(7-i%8)+1:=by omega
 rw [this];simp
theorem or_val (l:List UInt8)(i:Nat)(hi:i<l.length) :
 Value.int .u64 (IntKind.u64.wrap ((BitVec.ofInt IntKind.u64.bits ((kg (l.take i) (i/8)).toNat:Int) ||| BitVec.ofInt IntKind.u64.bits (IntKind.u64.wrap (IntKind.u64.wrap (l[i].toNat:Int)*2 ^ (min ((8*(i%8):Nat):Int).toNat 64)))).toNat:Int))=wv (kg (l.take (i+1)) (i/8)):=by
 have h1:min ((8*(i%8):Nat):Int).toNat 64=8*(i%8):=by omega
 rw [h1];unfold wv
 congr 1
 rw [Eh,Eh,SK l i hi,EA];generalize hA:((l.take i).drop (8*(i/8))).take 8=A;have hlen:A.length=i%8:=by subst hA;simp;omega
 have hA1:=Bh A;rw [hlen] at hA1 ⊢;have hp:(256:Nat) ^ (i%8)=2 ^ (8*(i%8)):=by rw [Nat.pow_mul]
 have hc:=l[i].toNat_lt;have hk:i%8<8:=by omega
 have hb:l[i].toNat*2 ^ (8*(i%8))<18446744073709551616:=by
  have h5:2 ^ (8*(i%8))<=2 ^ 56:=Nat.pow_le_pow_right (by decide) (by omega);have h6:l[i].toNat*2 ^ (8*(i%8))<=255*2 ^ 56:=Nat.mul_le_mul (by omega) h5;have h7:255*2 ^ 56<18446744073709551616:=by decide
  omega
 have hA2:iQ A<18446744073709551616:=by
  have h5:2 ^ (8*(i%8))<=2 ^ 56:=Nat.pow_le_pow_right (by decide) (by omega);have h7:2 ^ 56<18446744073709551616:=by decide
  omega
 have w1:IntKind.u64.wrap (l[i].toNat:Int)=(l[i].toNat:Int):=by rw [qU];omega
 have w2:IntKind.u64.wrap ((l[i].toNat:Int)*2 ^ (8*(i%8)))=((l[i].toNat*2 ^ (8*(i%8)):Nat):Int):=by
  rw [qU];have:(l[i].toNat:Int)*2 ^ (8*(i%8))=((l[i].toNat*2 ^ (8*(i%8)):Nat):Int):=by simp
  rw [this];omega
 rw [w1,w2];have SS:IntKind.u64.bits=64:=rfl;rw [SS,BitVec.toNat_or];have t1:(BitVec.ofInt 64 ((iQ A:Nat):Int)).toNat=iQ A:=by
  rw [BitVec.toNat_ofInt];omega
 have t2:(BitVec.ofInt 64 ((l[i].toNat*2 ^ (8*(i%8)):Nat):Int)).toNat=l[i].toNat*2 ^ (8*(i%8)):=by
  rw [BitVec.toNat_ofInt];omega
 rw [t1,t2];have hor:iQ A ||| l[i].toNat*2 ^ (8*(i%8))=iQ A+256 ^ (i%8)*l[i].toNat:=by
  rw [hp,Nat.or_comm,Nat.mul_comm,<-Nat.two_pow_add_eq_or_of_lt (by rw [<-hp];exact hA1)];omega
 rw [hor,qU];have hs:iQ A+256 ^ (i%8)*l[i].toNat<18446744073709551616:=by
  have:=Bh (A++[l[i]]);rw [EA,hlen,List.length_append,hlen] at this;have h8:256 ^ (i%8+[l[i]].length)<=256 ^ 8:=Nat.pow_le_pow_right (by decide) (by simp;omega);have h9:256 ^ 8=18446744073709551616:=by decide
  omega
 omega
theorem Jf (s:ByteArray)(n:Nat)(h:Heap)(hn:n<=64)(hs:s.size<=8*n):aC Tryz.prog 173 [.string s,.int .i64 (n:Int)] h (λv h'=>Keeps [] h h'/\∃ b,v=.tuple #[.slice (some ⟨b,0,none⟩) n n,.int .i64 0]/\h.size<=b/\b<h'.size/\h'[b]?=some (.cells ⟨(dM s.data.toList n).map wv⟩ 46 (0,0))):=by
 refine aG aH Tryz.func173 rfl ok173 (by simp [Tryz.f173]) ?_;(conv=>whnf);have e8:IntKind.i64.wrap (8*(n:Int))=((8*n:Nat):Int):=wrapN (by omega) (by omega);have hsl:s.data.toList.length=s.size:=by rw [Array.length_toList];rfl
 refine aj.f (by simp [dm];omega) ?_;(conv=>whnf);refine aj.f (by simp [e8];omega) ?_;(conv=>whnf);refine aW.make (n:=n) rfl rfl rfl rfl rfl (by show 8*n<=_;omega) (by omega) λb1 h1 e1 s1 o1 k1=>?_;(conv=>whnf);refine aW.bytesOf rfl rfl rfl λb2 c2 h2 r2 fz2 e2 s2 hc2 o2 k2=>?_;(conv=>whnf);refine bP.on [6,25,26,27] [] (λi:Nat=>[(6,.v (.slice (some ⟨b1,0,none⟩) n n)),(25,.v (.slice (some ⟨b2,0,none⟩) s.size c2)),(26,.v (.int .i64 (s.size:Int))),(27,.v (.int .i64 (i:Int)))]) (λ_=>[])
  (λi h'=>i<=s.size/\Keeps [] h h'/\h2.size<=h'.size/\h'[b1]?=some (.cells ⟨(dM (s.data.toList.take i) n).map wv⟩ 46 (0,0))/\h'[b2]?=some (.cells ⟨jQ s++r2⟩ 5 fz2)) (λi=>s.size-i) 0 ?_ ?_
 ·(conv=>whnf);refine ⟨0,rfl,rfl,rfl,Nat.zero_le _,k1.trans k2,Nat.le_refl _,?_,o2⟩;rw [k2.obj o1 (by simp)]
  congr 3
  simp [dM,kg,iQ,List.map_const'];exact .inr rfl
 ·rintro i h3 ⟨hi,k3,z3,o3,o4⟩;(conv=>whnf);refine aj.i (λhc=>?_) (λhc=>?_)
  ·have hi1:i<s.size:=by simp at hc;omega
   have hi2:i<s.data.toList.length:=by omega
   (conv=>whnf);refine aX.i i rfl hi1 rfl ?_;(conv=>whnf);refine ax.o (v:=.int .u8 (s.data.toList[i].toNat:Int)) o4 ?_ ?_
   ·rw [nN];show (jQ s++r2)[0+i*1]?=_;rw [show 0+i*1=i by omega,List.getElem?_append_left (by rw [uy];exact hi1)];simp [jQ];exact ⟨_,Array.getElem?_eq_getElem (by simpa using hi2),rfl⟩
   (conv=>whnf);refine dL.i (by decide) ?_;have hi8:i/8<n:=by omega
   (conv=>whnf);refine aX.i (i/8) (Ez i (by omega)) hi8 rfl ?_;(conv=>whnf);refine ax.o (v:=wv (kg (s.data.toList.take i) (i/8))) o3 ?_ ?_
   ·rw [nN];show ((dM (s.data.toList.take i) n).map wv)[0+i/8*1]?=_;rw [show 0+i/8*1=i/8 by omega];simp [dM,hi8]
   (conv=>whnf);refine dL.i (by decide) ?_;(conv=>whnf);refine dL.i (by rw [Be i (by omega)];omega) ?_;(conv=>whnf);refine aX.i (i/8) (Ez i (by omega)) hi8 rfl ?_;(conv=>whnf);refine dN.i o3 ?_ (by simp [au]) λh5 s5 o5 k5=>?_
   ·show 0+i/8*1+1<=_;simp [dM];omega
   (conv=>whnf);refine ⟨s.size-(i+1),by omega,?_⟩;(conv=>whnf);refine ⟨i+1,rfl,by rw [wrapN (n:=i+1) (by simp) (by omega)],rfl,by omega,k3.new1 k5 (by omega),by omega,?_,k5.obj o4 (by simp;omega)⟩;rw [Be i (by omega)] at o5;have hv:=or_val s.data.toList i hi2;have e5:bF (0+i/8*1) [wv (kg (s.data.toList.take (i+1)) (i/8))] ((dM (s.data.toList.take i) n).map wv)=(dM (s.data.toList.take (i+1)) n).map wv:=by
    rw [show 0+i/8*1=i/8 by omega];have hsp:∀ (k:Nat) (L:List Value) (v:Value),k<L.length->bF k [v] L=L.set k v:=by
     intro k
     induction k with
     | zero=>intro L v hL;cases L with
      | nil=>simp at hL
      | cons a L=>cases L <;> rfl
     | succ k ih=>intro L v hL;cases L with
      | nil=>simp at hL
      | cons a L=>simp only [bF,List.set_cons_succ];rw [ih L v (by simpa using hL)]
    rw [hsp _ _ _ (by simp [dM];exact hi8)];apply List.ext_getElem
    ·simp [dM]
    ·intro j j1 j2;have hj:j<n:=by simpa [dM] using j2
     rw [List.getElem_set];split
     ·rename_i e;subst e;simp [dM]
     ·rename_i e;simp only [dM,List.getElem_map,List.getElem_range]
      congr 1
      unfold kg;rw [SI _ i j hi2 (λx=>e x.symm)]
   rw [<-e5,<-hv];exact o5
  ·have hi1:i=s.size:=by simp at hc;omega
   (conv=>whnf);rw [hi1,<-hsl,List.take_length] at o3;exact ⟨k3,b1,rfl,by omega,by omega,o3⟩
structure iI (h:Heap)(b:Nat)(p:Option Addr)(a:Option Addr)(n c:Nat)(s:List UInt8):Prop where
 obj:h[b]?=some (.cells ⟨[.pointer p,.slice a n c]⟩ 173 (0,0))
 buf:Buf h 5 a n c s
 ap:b∉ay a
 hp:p=none\/p=some ⟨b,0,none⟩
theorem iI.on {h h':Heap}{b:Nat}{p a:Option Addr}{n c:Nat}{s:List UInt8}(B:iI h b p a n c s)(k:Keeps [] h h'):iI h' b p a n c s:=⟨k.obj B.obj (by simp),B.buf.keep k (by simp),B.ap,B.hp⟩
theorem iI.keep {M:List Nat}{h h':Heap}{b:Nat}{p a:Option Addr}{n c:Nat}{s:List UInt8}(B:iI h b p a n c s)(k:Keeps M h h')(h1:b∉M)(h2:∀ x∈ay a,x∉M):iI h' b p a n c s:=⟨k.obj B.obj h1,B.buf.keep k h2,B.ap,B.hp⟩
theorem Kq {h:Heap}{b:Nat}{p a:Option Addr}{n c:Nat}{s:List UInt8}(B:iI h b p a n c s):aC Tryz.prog 182 [.pointer (some ⟨b,0,none⟩)] h (λv h'=>Keeps [b] h h'/\iI h' b (some ⟨b,0,none⟩) a n c s):=by
 have hap:=B.ap;rcases B with ⟨o,hb,hap,rfl|rfl⟩
 ·refine aG aH Tryz.func182 rfl ok182 (by simp [Tryz.f182]) ?_;(conv=>whnf);refine ax.o o rfl ?_;(conv=>whnf);refine aj.t rfl ?_;(conv=>whnf);refine aW.pure (v:=.pointer (some ⟨b,0,none⟩)) (λw hw=>Lib.run_to_unsafe (P:=Tryz.prog) w ⟨b,0,none⟩ rfl rfl rfl (by decide) (by unfold World.shape?;rw [hw,o]) (by show 0<2;decide)) ?_;(conv=>whnf);refine aW.ext rfl (by kernel_rfl) (by kernel_rfl) (by kernel_rfl) (e:=Extern.AbiNoEscape.same) (by kernel_rfl) (aW.pure (λw _=>Lib.run_noEscape w _) ?_);(conv=>whnf);refine aW.pure (v:=.pointer (some ⟨b,0,none⟩)) (λw hw=>Lib.run_from_unsafe (P:=Tryz.prog) w ⟨b,0,none⟩ rfl rfl rfl (by unfold World.shape?;rw [hw,o]) (by kernel_rfl)) ?_;(conv=>whnf);refine dN.i o (Nat.le_of_ble_eq_true rfl) (by simp [au]) λh2 s2 o2 k2=>?_;(conv=>whnf);exact ⟨k2,o2,hb.keep k2 (λx hx hm=>by simp at hm;exact hap (hm ▸ hx)),hap,.inr rfl⟩
 ·refine aG aH Tryz.func182 rfl ok182 (by simp [Tryz.f182]) ?_;(conv=>whnf);refine ax.o o rfl ?_;(conv=>whnf);refine aj.f rfl ?_;(conv=>whnf);refine ax.o o rfl ?_;(conv=>whnf);refine gJ.i (v:=.bool false) (λw=>?_) ?_
  ·simp only [Sem.run_bind];rw [qc _ _ _ _ _ _ _ _ (by simp) (by simp)];simp only [Result.andThen_ok];exact Lib.run_neq_ptr_same (P:=Tryz.prog) w ⟨b,0,none⟩ rfl rfl
  (conv=>whnf);refine aj.f rfl ?_;(conv=>whnf);exact ⟨Keeps.refl _ _,o,hb,hap,.inr rfl⟩
theorem vW {h:Heap}{b:Nat}{p a:Option Addr}{n c:Nat}{s:List UInt8}(B:iI h b p a n c s)(x:ByteArray)(hx:n+x.size<=70368744177664):aC Tryz.prog 114 [.pointer (some ⟨b,0,none⟩),.string x] h
 (λv h'=>Keeps (b::ay a) h h'/\v=.tuple #[.int .i64 x.size,.nilIface]/\∃ a' c',iI h' b (some ⟨b,0,none⟩) a' (n+x.size) c' (s++x.data.toList)/\(∀ y∈ay a',y∈ay a\/h.size<=y)/\(n+x.size<=c->c'=c/\a'=a)):=by
 refine aG aH Tryz.func114 rfl ok114 (by simp [Tryz.f114]) ?_;(conv=>whnf);refine ak.m (Kq B) (by simp [au]) λv h1 k1 B1=>?_;have hb1:b<h1.size:=eU B1.obj;(conv=>whnf);refine ax.o B1.obj rfl ?_;(conv=>whnf);refine aW.SF rfl rfl rfl rfl rfl rfl rfl B1.buf hx (by simp [au]) λa2 c2 h2 F2 k2 n2 m2 q2=>?_;have o2:=k2.obj B1.obj B1.ap;(conv=>whnf);refine dN.i o2 (Nat.le_of_ble_eq_true rfl) (by simp [au]) λh3 s3 o3 k3=>?_;(conv=>whnf);have z1:=k1.size;have ap2:b∉ay a2:=λhx=>by
  rcases n2 b hx with h|h
  ·exact B1.ap h
  ·omega
 refine ⟨(k1.mono (by simp)).trans ((k2.mono (λx hx=>List.mem_cons_of_mem _ hx)).trans (k3.mono (by simp))),rfl,a2,c2,⟨o3,F2.keep k3 (λx hx hm=>by simp at hm;exact ap2 (hm ▸ hx)),ap2,.inr rfl⟩,λy hy=>(n2 y hy).imp id (λh=>by omega),q2⟩
theorem Ey {h:Heap}{b:Nat}{p a:Option Addr}{n c:Nat}{s:List UInt8}(B:iI h b p a n c s):aC Tryz.prog 235 [.pointer (some ⟨b,0,none⟩)] h (λv h'=>Keeps [] h h'/\v=.int .i64 (n:Int)):=by
 refine aG aH Tryz.func235 rfl ok235 (by simp [Tryz.f235]) ?_;(conv=>whnf);refine ax.o B.obj rfl ?_;(conv=>whnf);exact ⟨Keeps.refl _ _,rfl⟩
theorem Bb {h:Heap}{b:Nat}{p a:Option Addr}{n c:Nat}{s:List UInt8}(B:iI h b p a n c s)(hs:s.length<=70368744177664):aC Tryz.prog 115 [.pointer (some ⟨b,0,none⟩)] h (λv h'=>Keeps (ay a) h h'/\v=.string ⟨s.toArray⟩/\iI h' b p a n c s):=by
 have hbuf:=B.buf;rcases hbuf with ⟨rfl,rfl,rfl,rfl⟩|⟨g,cs,fz,rfl,h2,h3,h4,h5,h6,h7,h8⟩
 ·refine aG aH Tryz.func115 rfl ok115 (by simp [Tryz.f115]) ?_;(conv=>whnf);refine ax.o B.obj rfl ?_;(conv=>whnf);refine gI.i ?_ ?_
  ·(conv=>whnf);refine aW.pure (λw _=>Lib.run_unsafeSliceData_nil (P:=Tryz.prog) w _ _ _ _) ?_;(conv=>whnf);refine ax.o B.obj rfl ?_;(conv=>whnf);refine aW.pure (λw _=>Lib.run_unsafeString_none (P:=Tryz.prog) w _ _ _ none) ?_;(conv=>whnf);exact ⟨Keeps.refl _ _,rfl,B⟩
  ·(conv=>whnf);refine ax.o B.obj rfl ?_;(conv=>whnf);refine gI.i ?_ ?_
   all_goals
    (conv=>whnf);refine aW.pure (λw _=>Lib.run_unsafeSliceData_nil (P:=Tryz.prog) w _ _ _ _) ?_;(conv=>whnf);refine aW.pure (λw _=>Lib.run_unsafeString_none (P:=Tryz.prog) w _ _ _ none) ?_;(conv=>whnf);exact ⟨Keeps.refl _ _,rfl,B⟩
 ·have fin:∀ h',Buf h' 5 (some ⟨g,0,none⟩) n c s->Keeps [g] h h'->Keeps (ay (some ⟨g,0,none⟩)) h h'/\Value.string ⟨s.toArray⟩=.string ⟨s.toArray⟩/\iI h' b p (some ⟨g,0,none⟩) n c s:=λh' F k=>by
   exact ⟨k,rfl,k.obj B.obj (by simpa [ay] using B.ap),F,B.ap,B.hp⟩
  refine aG aH Tryz.func115 rfl ok115 (by simp [Tryz.f115]) ?_;(conv=>whnf);refine ax.o B.obj rfl ?_;(conv=>whnf);refine gI.i ?_ ?_
  ·(conv=>whnf);refine aW.pure (λw _=>Lib.run_unsafeSliceData_row (P:=Tryz.prog) w _ _ _ _ _ (by omega)) ?_;(conv=>whnf);refine ax.o B.obj rfl ?_;(conv=>whnf);refine aW.Kr rfl rfl B.buf hs (by simp [au]) λh' F s' k=>?_;(conv=>whnf);exact fin h' F k
  ·(conv=>whnf);refine ax.o B.obj rfl ?_;(conv=>whnf);refine gI.i ?_ ?_
   all_goals
    (conv=>whnf);refine aW.pure (λw _=>Lib.run_unsafeSliceData_row (P:=Tryz.prog) w _ _ _ _ _ (by omega)) ?_;(conv=>whnf);refine aW.Kr rfl rfl B.buf hs (by simp [au]) λh' F s' k=>?_;(conv=>whnf);exact fin h' F k
theorem SB (y:Int)(hy:y=16\/y=128)(h:Heap):aC Tryz.prog 269 [.int .u64 1,.int .u64 y] h (λv h'=>Keeps [] h h'/\v=.tuple #[.int .u64 0,.int .u64 y]):=by
 refine aG aH Tryz.func269 rfl ok269 (by simp [Tryz.f269]) ?_;(conv=>whnf)
 repeat (first|(refine dL.i (by decide) ?_;conv=>whnf))
 refine ⟨Keeps.refl _ _,?_⟩;rcases hy with rfl|rfl <;> rfl
theorem Km (y:Int)(hy:y=16\/y=128)(h:Heap):aC Tryz.prog 231 [.int .u64 1,.int .u64 y] h (λv h'=>Keeps [] h h'/\v=.tuple #[.int .u64 0,.int .u64 y]):=by
 refine aG aH Tryz.func231 rfl ok231 (by simp [Tryz.f231]) ?_;(conv=>whnf);refine aj.f rfl ?_;(conv=>whnf);refine ak.i (SB y hy h) λv h1 k1 hv=>?_;subst hv;(conv=>whnf);exact ⟨k1,rfl⟩
theorem SC {h:Heap}{b:Nat}{p:Option Addr}(B:iI h b p none 0 0 [])(n:Nat)(hp:0<n)(hn:n<=1000000):aC Tryz.prog 270 [.pointer (some ⟨b,0,none⟩),.int .i64 (n:Int)] h
 (λv h'=>Keeps [b] h h'/\∃ g c,iI h' b p (some ⟨g,0,none⟩) 0 c []/\n<=c/\h.size<=g):=by
 have hb:b<h.size:=eU B.obj;have rest:∀ h2 g c (cs:List Value),g=h.size->h2[g]?=some (.cells ⟨cs⟩ 5 (0,0))->cs.length=c->n<=c->Keeps [] h h2->∀ h3,h3.size=h2.size->h3[b]?=some (.cells ⟨[.pointer p,.slice (some ⟨g,0,none⟩) 0 c]⟩ 173 (0,0))->Keeps [b] h2 h3 ->
  Keeps [b] h h3/\∃ g c,iI h3 b p (some ⟨g,0,none⟩) 0 c []/\n<=c/\h.size<=g:=by
  intro h2 g c cs hg og hc hn k2 h3 s3 o3 k3;refine ⟨(k2.mono (by simp)).trans k3,g,c,⟨o3,.inr ⟨g,cs,(0,0),rfl,k3.obj og (by simp;omega),rfl,hc,rfl,Nat.zero_le _,Nat.le_refl _,by omega⟩,by simp [ay];omega,B.hp⟩,hn,by omega⟩
 have ew:IntKind.i64.wrap (IntKind.i64.wrap (2*((0:Nat):Int))+(n:Int))=(n:Int):=by
  rw [wrapN (x:=2*((0:Nat):Int)) (n:=0) (by simp) (by omega),wrapN (n:=n) (by simp) (by omega)]
 refine aG aH Tryz.func270 rfl ok270 (by simp [Tryz.f270]) ?_;(conv=>whnf);refine ax.o B.obj rfl ?_;(conv=>whnf);refine gI.i ?_ ?_
 ·(conv=>whnf);rw [ew];refine aW.ext rfl (by kernel_rfl) (by kernel_rfl) (by kernel_rfl) (e:=Extern.BytealgMakeNoZero.makeNoZero #[3] #[171]) (by kernel_rfl) (aW.Kn rfl (by omega) hp λg c cs h2 eg s2 og hc hcn k2=>?_);(conv=>whnf);refine ax.o (k2.obj B.obj (by simp)) rfl ?_;(conv=>whnf);refine dw.i 0 0 rfl rfl (Nat.le_refl _) (Nat.zero_le _) ?_;(conv=>whnf);refine ax.o (k2.obj B.obj (by simp)) rfl ?_;(conv=>whnf);refine aW.copy0 rfl rfl (by simp) ?_;(conv=>whnf);refine dN.i (k2.obj B.obj (by simp)) (Nat.le_of_ble_eq_true rfl) (by simp [au]) λh3 s3 o3 k3=>?_;(conv=>whnf);refine rest h2 g c cs eg og hc hcn k2 h3 s3 ?_ k3;rw [o3,lq];rfl
 ·(conv=>whnf);refine ax.o B.obj rfl ?_;(conv=>whnf);refine gI.i ?_ ?_
  all_goals
   (conv=>whnf);rw [ew];refine aW.ext rfl (by kernel_rfl) (by kernel_rfl) (by kernel_rfl) (e:=Extern.BytealgMakeNoZero.makeNoZero #[3] #[171]) (by kernel_rfl) (aW.Kn rfl (by omega) hp λg c cs h2 eg s2 og hc hcn k2=>?_);(conv=>whnf);refine dw.i 0 0 rfl rfl (Nat.le_refl _) (Nat.zero_le _) ?_;(conv=>whnf);refine ax.o (k2.obj B.obj (by simp)) rfl ?_;(conv=>whnf);refine aW.copy0 rfl rfl (by simp) ?_;(conv=>whnf);refine dN.i (k2.obj B.obj (by simp)) (Nat.le_of_ble_eq_true rfl) (by simp [au]) λh3 s3 o3 k3=>?_;(conv=>whnf);refine rest h2 g c cs eg og hc hcn k2 h3 s3 ?_ k3;rw [o3,lq];rfl
theorem Ko {h:Heap}{b:Nat}{p:Option Addr}(B:iI h b p none 0 0 [])(n:Nat)(hp:0<n)(hn:n<=1000000):aC Tryz.prog 234 [.pointer (some ⟨b,0,none⟩),.int .i64 (n:Int)] h
 (λv h'=>Keeps [b] h h'/\∃ g c,iI h' b (some ⟨b,0,none⟩) (some ⟨g,0,none⟩) 0 c []/\n<=c/\h.size<=g):=by
 refine aG aH Tryz.func234 rfl ok234 (by simp [Tryz.f234]) ?_;(conv=>whnf);refine ak.m (Kq B) (by simp [au]) λv h1 k1 B1=>?_;(conv=>whnf);refine aV.pass ?_;(conv=>whnf);refine aj.f (by simp) ?_;(conv=>whnf);refine ax.o B1.obj rfl ?_;(conv=>whnf);refine ax.o B1.obj rfl ?_;(conv=>whnf);refine aj.t ?_ ?_
 ·rw [wrapN (n:=0) (by simp) (by omega)];simp;omega
 (conv=>whnf);refine ak.m (SC B1 n hp hn) (by simp [au]) λv h2 k2 hv=>?_;obtain ⟨g,c,q1,q2,q3⟩:=hv;(conv=>whnf);exact ⟨k1.trans k2,g,c,q1,q2,by have:=k1.size;omega⟩
def zeros (n:Nat):List UInt8:=List.replicate n 0
theorem Sn (h:Heap):aC Tryz.prog 180 [.string ⟨#[0]⟩,.int .i64 128] h (λv h'=>Keeps [] h h'/\v=.string ⟨(zeros 128).toArray⟩):=by
 refine aG aH Tryz.func180 rfl ok180 (by simp [Tryz.f180]) ?_;(conv=>whnf);refine aj.f rfl ?_;(conv=>whnf);refine aj.f rfl ?_;(conv=>whnf);refine aV.pass ?_;(conv=>whnf);refine aj.f rfl ?_;(conv=>whnf);refine ak.i (Km 128 (.inr rfl) h) λv h1 k1 hv=>?_;subst hv;(conv=>whnf);refine aV.pass ?_;(conv=>whnf);refine aj.f rfl ?_;(conv=>whnf);refine aj.f rfl ?_;(conv=>whnf);(try refine aV.pass ?_;conv=>whnf);refine dO.i 0 rfl (by decide) ?_;(conv=>whnf);(try refine aV.pass ?_;conv=>whnf);refine aj.f rfl ?_;(conv=>whnf);(try refine aV.pass ?_;conv=>whnf);refine aj.f rfl ?_;(conv=>whnf);(try refine aV.pass ?_;conv=>whnf);refine aj.f rfl ?_;(conv=>whnf);(try refine aV.pass ?_;conv=>whnf);refine aj.f rfl ?_;(conv=>whnf);(try refine aV.pass ?_;conv=>whnf);refine aj.f rfl ?_;(conv=>whnf);(try refine aV.pass ?_;conv=>whnf);refine aj.f rfl ?_;(conv=>whnf);(try refine aV.pass ?_;conv=>whnf);refine aL.i λb2 h2 e2 s2 o2 k2=>?_;have B2:iI h2 b2 none none 0 0 []:=⟨o2,.inl ⟨rfl,rfl,rfl,rfl⟩,by simp [ay],.inl rfl⟩;(conv=>whnf);(try refine aV.pass ?_;conv=>whnf);refine ak.m (Ko B2 128 (by decide) (by decide)) (by simp [au]) λv h3 k3 hv=>?_;obtain ⟨g,c,B3,hc,hg⟩:=hv;(conv=>whnf);(try refine aV.pass ?_;conv=>whnf);refine ak.m (vW B3 ⟨#[0]⟩ (by decide)) (by simp [au]) λv h4 k4 hv=>?_;obtain ⟨rfl,a4,c4,B4,n4,q4⟩:=hv;obtain ⟨rfl,rfl⟩:=q4 (by show 0+1<=c;omega);have z1:=k1.size;have z2:=k2.size;have z3:=k3.size;have z4:=k4.size;have k04:Keeps [] h h4:=((k1.trans k2).cZ k3 (by simp;omega)).cZ k4 (by intro x hx;simp [ay] at hx;omega);(conv=>whnf);refine bP.on [7,8,9] [] (λj:Nat=>[(7,.v (.int .i64 128)),(8,.v (.int .i64 128)),(9,.v (.pointer (some ⟨b2,0,none⟩)))]) (λ_=>[])
  (λj h'=>j<=7/\Keeps [] h h'/\iI h' b2 (some ⟨b2,0,none⟩) (some ⟨g,0,none⟩) (2 ^ j) c4 (zeros (2 ^ j))) (λj=>7-j) 0 ?_ ?_
 ·(conv=>whnf);exact ⟨0,rfl,rfl,rfl,by decide,k04,B4⟩
 ·rintro j h5 ⟨hj,k5,B5⟩;have hp:2 ^ j<=128:=by
   have:2 ^ j<=2 ^ 7:=Nat.pow_le_pow_right (by decide) hj;simpa using this
  generalize hq:2 ^ j=q at *;(conv=>whnf);refine ak.i (Ey B5) λv h6 k6 hv=>?_;subst hv;have B6:=B5.on k6;(conv=>whnf);(try refine aV.pass ?_;conv=>whnf);refine aj.i (λhc=>?_) (λhc=>?_)
  ·have hj1:j<7:=by
    rcases Nat.lt_or_ge j 7 with h|h
    ·exact h
    ·have:j=7:=by omega
     subst this;subst hq;simp at hc
   have hp2:2 ^ (j+1)<=128:=by
    have:2 ^ (j+1)<=2 ^ 7:=Nat.pow_le_pow_right (by decide) (by omega);simpa using this
   have hps:2 ^ (j+1)=q+q:=by rw [Nat.pow_succ];omega
   (conv=>whnf);refine ak.i (Ey B6) λv h7 k7 hv=>?_;subst hv;have B7:=B6.on k7;(conv=>whnf);refine ak.i (Ey B7) λv h8 k8 hv=>?_;subst hv;have B8:=B7.on k8;(conv=>whnf);(try refine aV.pass ?_;conv=>whnf);refine ak.m (Bb B8 (by simp [zeros];omega)) (by simp [au]) λv h9 k9 hv=>?_;obtain ⟨rfl,B9⟩:=hv;have em:(if (128:Int)<(if ((q:Nat):Int)<IntKind.i64.wrap (128-((q:Nat):Int)) then ((q:Nat):Int) else IntKind.i64.wrap (128-((q:Nat):Int))) then (128:Int) else (if ((q:Nat):Int)<IntKind.i64.wrap (128-((q:Nat):Int)) then ((q:Nat):Int) else IntKind.i64.wrap (128-((q:Nat):Int))))=((q:Nat):Int):=by
    rw [dR (x:=128-((q:Nat):Int)) (by omega) (by omega)];split <;> split <;> omega
   (conv=>whnf);refine dw.i 0 q rfl em (Nat.zero_le _) (by show q<=_;simp [zeros,ByteArray.size]) ?_;(conv=>whnf);refine ak.m (vW B9 _ ?_) (by simp [au]) λv h10 k10 hv=>?_
   ·have:(ByteArray.extract ⟨(zeros q).toArray⟩ 0 q).size=q:=by simp [ByteArray.size_extract,zeros,ByteArray.size]
    rw [this];omega
   obtain ⟨rfl,a10,c10,B10,n10,q10⟩:=hv;have hsz:(ByteArray.extract ⟨(zeros q).toArray⟩ 0 q).size=q:=by simp [ByteArray.size_extract,zeros,ByteArray.size]
   have hdat:(ByteArray.extract ⟨(zeros q).toArray⟩ 0 q).data.toList=zeros q:=by
    rw [ByteArray.data_extract];simp [zeros]
   rw [hsz] at B10 q10;obtain ⟨rfl,rfl⟩:=q10 (by omega);rw [hdat,<-hps] at B10;have hz:zeros q++zeros q=zeros (2 ^ (j+1)):=by rw [hps];simp [zeros,List.replicate_append_replicate]
   rw [hz] at B10;(conv=>whnf);refine ⟨7-(j+1),by omega,?_⟩;(conv=>whnf);refine ⟨j+1,rfl,rfl,rfl,by omega,?_,B10⟩;have z:=(k6.trans (k7.trans k8)).size;exact ((k5.trans (k6.trans (k7.trans k8))).cZ k9 (by intro x hx;simp [ay] at hx;omega)).cZ k10 (by intro x hx;simp [ay] at hx;omega)
  ·have hj1:j=7:=by
    rcases Nat.lt_or_ge j 7 with h|h
    ·have:2 ^ j<2 ^ 7:=Nat.pow_lt_pow_right (by decide) h;have h2:(q:Int)<128:=by
      have:2 ^ j<128:=by simpa using this
      omega
     simp at hc;omega
    ·omega
   subst hj1;have hq':q=128:=by rw [<-hq]
   subst hq';(conv=>whnf);refine ak.m (Bb B6 (by simp [zeros])) (by simp [au]) λv h9 k9 hv=>?_;obtain ⟨rfl,B9⟩:=hv;(conv=>whnf);exact ⟨(k5.trans k6).cZ k9 (by intro x hx;simp [ay] at hx;omega),rfl⟩
theorem Eu:∀ l:List Int,gV (l.map λx=>Value.int .i64 x)=true
 | []=>rfl
 | x::l=>by simpa [gV,uE] using Eu l
theorem Sr (n:Nat)(hn:n<=1000000)(h:Heap):aC Tryz.prog 230 [.slice none 0 0,.int .i64 (n:Int)] h (λv h'=>Keeps [] h h'/\∃ a c,v=.slice a 0 c/\Own h' 3 1 a 0 c []/\∀ b∈ay a,h.size<=b):=by
 have e1:IntKind.i64.wrap ((n:Int)-IntKind.i64.wrap (((0:Nat):Int)-((0:Nat):Int)))=(n:Int):=by
  rw [wrapN (x:=((0:Nat):Int)-((0:Nat):Int)) (n:=0) (by simp) (by omega),wrapN (n:=n) (by simp) (by omega)]
 refine aG aH Tryz.func230 rfl ok230 (by simp [Tryz.f230]) ?_;(conv=>whnf);refine aV.pass ?_;(conv=>whnf);refine aj.f (by simp) ?_;(conv=>whnf);refine aV.pass ?_;(conv=>whnf);rw [e1];refine aj.i (λhc=>?_) (λhc=>?_)
 ·have hp:0<n:=by simp at hc;omega
  (conv=>whnf);refine dw.i 0 0 rfl rfl (Nat.le_refl _) (Nat.zero_le _) ?_;(conv=>whnf);rw [lq];refine aW.DT (aQ:=8) rfl rfl rfl rfl rfl rfl rfl hp (by omega) (by decide) λb c h1 e1 s1 o1 hc k1=>?_;(conv=>whnf);refine dw.i 0 0 rfl rfl (Nat.le_refl _) (Nat.zero_le _) ?_;(conv=>whnf);refine ⟨k1,some ⟨b,0,none⟩,c,?_,.inr ⟨b,_,rfl,o1,rfl,by simp,rfl,Nat.zero_le _⟩,by simp [ay];omega⟩;rw [lq];rfl
 ·(conv=>whnf);exact ⟨Keeps.refl _ _,none,0,rfl,.inl ⟨rfl,rfl,rfl,rfl⟩,by simp [ay]⟩
theorem Ev (h:Heap)(xs:List Int)(hx:∀ x∈xs,inI64 x):iR h (xs.map λx=>Value.int .i64 x) xs:=by
 induction xs with
 | nil=>rfl
 | cons x l ih=>exact ⟨[.int .i64 x],_,rfl,⟨rfl,hx x (by simp)⟩,ih (λy hy=>hx y (by simp [hy]))⟩
theorem Sj {h:Heap}{a:Option Addr}{n c:Nat}{xss:List (List Int)}(S:Sl h a n c xss)(hx:∀ xs∈xss,∀ x∈xs,inI64 x)(hb:xss.flatten.length<=1000)(hn:n<=1000):aC Tryz.prog 177 [.slice a n c] h
 (λv h'=>Keeps [] h h'/\∃ a' c',v=.slice a' xss.flatten.length c'/\Own h' 3 1 a' xss.flatten.length c' (xss.flatten.map λx=>.int .i64 x)/\∀ b∈ay a',h.size<=b):=by
 have hl:=S.hlen;have rY:∀ i (hi:i<xss.length),(xss.take (i+1)).flatten=(xss.take i).flatten++xss[i]:=by
  intro i hi;rw [List.take_succ_eq_append_getElem hi,List.flatten_append];simp
 have rZ:∀ i,(xss.take i).flatten.length<=xss.flatten.length:=by
  intro i;have:xss.flatten=(xss.take i).flatten++(xss.drop i).flatten:=by rw [<-List.flatten_append,List.take_append_drop]
  rw [this,List.length_append];omega
 refine aG aH Tryz.func177 rfl ok177 (by simp [Tryz.f177]) ?_;(conv=>whnf);refine bP.on [0,3,9,10,11] [] (λi:Nat=>[(0,.v (.slice a n c)),(3,.v (.int .i64 ((xss.take i).flatten.length:Int))),(9,.v (.slice a n c)),(10,.v (.int .i64 (n:Int))),(11,.v (.int .i64 (i:Int)))]) (λ_=>[])
  (λi h'=>i<=n/\h'=h) (λi=>n-i) 0 ?_ ?_
 ·(conv=>whnf);exact ⟨0,rfl,rfl,rfl,Nat.zero_le _,rfl⟩
 ·rintro i h2 ⟨hi,rfl⟩;(conv=>whnf);refine aj.i (λhc=>?_) (λhc=>?_)
  ·have hi1:i<xss.length:=by simp at hc;omega
   obtain ⟨b,off,hb',cs,⟨xa,xn,xc,rfl,SX⟩,hcell⟩:=S.at_ i hi1;(conv=>whnf);(try refine aV.pass ?_;conv=>whnf);refine aX.i i rfl (by omega) hb' ?_;(conv=>whnf);refine ax.i (hcell 0 (by simp)) ?_;have f1:=rY i hi1;have f2:=rZ (i+1);have f3:(xss.take (i+1)).flatten.length=(xss.take i).flatten.length+xn:=by rw [f1,List.length_append,SX.hlen]
   (conv=>whnf);rw [wrapN (n:=(xss.take (i+1)).flatten.length) (by rw [f3];simp) (by omega)];refine aj.f (by simp) ?_;(conv=>whnf);refine ⟨n-(i+1),by omega,?_⟩;(conv=>whnf);exact ⟨i+1,rfl,by rw [wrapN (x:=(i:Int)+1) (n:=i+1) (by simp) (by omega)],rfl,by omega,rfl⟩
  ·have hi1:i=xss.length:=by simp at hc;omega
   subst hi1;(conv=>whnf);rw [List.take_length];refine ak.i (Sr xss.flatten.length (by omega) h2) λv h3 k3 hv=>?_;obtain ⟨a3,c3,rfl,O3,n3⟩:=hv;(conv=>whnf);refine bP.on [6,25,26,27] [] (λq:Nat×Option Addr×Nat=>[(6,.v (.slice q.2.1 (xss.take q.1).flatten.length q.2.2)),(25,.v (.slice a n c)),(26,.v (.int .i64 (n:Int))),(27,.v (.int .i64 (q.1:Int)))]) (λ_=>[])
    (λq h'=>q.1<=n/\Keeps [] h2 h'/\Own h' 3 1 q.2.1 (xss.take q.1).flatten.length q.2.2 ((xss.take q.1).flatten.map λx=>.int .i64 x)/\∀ b∈ay q.2.1,h2.size<=b) (λq=>n-q.1) (0,a3,c3) ?_ ?_
   ·(conv=>whnf);exact ⟨(0,a3,c3),rfl,rfl,rfl,Nat.zero_le _,k3,O3,n3⟩
   ·rintro ⟨i,ai,ci⟩ h4 ⟨hi,k4,O4,n4⟩;simp only at hi O4 n4;(conv=>whnf);refine aj.i (λhc=>?_) (λhc=>?_)
    ·have hi1:i<xss.length:=by simp at hc;omega
     obtain ⟨b,off,hb',cs,⟨xa,xn,xc,rfl,SX⟩,hcell⟩:=S.at_ i hi1;have hc4:=hcell.keep k4;(conv=>whnf);refine aX.i i rfl (by omega) hb' ?_;(conv=>whnf);refine ax.i (hc4 0 (by simp)) ?_;have f1:=rY i hi1;have f2:=rZ (i+1);have f3:(xss.take (i+1)).flatten.length=(xss.take i).flatten.length+xn:=by rw [f1,List.length_append,SX.hlen]
     have SX4:=SX.keep k4;have oU:=SX.hlen;(conv=>whnf);rcases Nat.eq_zero_or_pos xn with h0|h0
     ·subst h0;have hx0:xss[i]=[]:=List.eq_nil_of_length_eq_zero oU.symm;have hcap:(xss.take i).flatten.length<=ci:=by
       rcases O4 with ⟨rfl,h1,rfl,h2⟩|⟨b,c,_,_,_,_,_,h6⟩
       ·omega
       ·exact h6
      refine aW.append0 rfl rfl rfl hcap ?_;(conv=>whnf);refine ⟨n-(i+1),by omega,?_⟩;(conv=>whnf);refine ⟨(i+1,ai,ci),rfl,?_,rfl,by simp only;omega,k4,?_,n4⟩
      ·have e:(xss.take (i+1)).flatten.length=(xss.take i).flatten.length:=by rw [f3,Nat.add_zero]
       simp only [e,Nat.add_zero];rw [wrapN (x:=(i:Int)+1) (n:=i+1) (by simp) (by omega)]
      ·simp only;rw [f1,hx0,List.append_nil];exact O4
     ·obtain ⟨xb,xo,rfl⟩:=SX.rX h0;refine jO (e:=3) (sz:=1) (aQ:=8) (new:=xss[i].map λx=>.int .i64 x) rfl rfl rfl rfl rfl rfl rfl O4 (by simp [oU]) (SX4.cells1) (Eu _) (by omega) (by decide) (by simp [au]) ?_;intro a5 c5 h5 O5 k5 n5;(conv=>whnf);refine ⟨n-(i+1),by omega,?_⟩;(conv=>whnf);refine ⟨(i+1,a5,c5),rfl,?_,rfl,by simp only;omega,k4.cZ k5 n4,?_,λb hb=>?_⟩
      ·simp only [f3];rw [wrapN (x:=(i:Int)+1) (n:=i+1) (by simp) (by omega)]
      ·simp only;rw [f1,List.length_append,<-oU,List.map_append];exact O5
      ·rcases n5 b hb with h|h
       ·exact n4 b h
       ·have:=k4.size;omega
    ·have hi1:i=xss.length:=by simp at hc;omega
     subst hi1;(conv=>whnf);rw [List.take_length] at O4;refine ⟨k4,ai,ci,?_,O4,n4⟩;rw [List.take_length]
theorem Sv (n:Nat)(v:Value)(hv:uE v=true):gV (List.replicate n v)=true:=by
 induction n with
 | zero=>rfl
 | succ n ih=>rw [List.replicate_succ];simp only [gV,hv];exact ih
theorem Kl {A N L:List Value}:bF A.length N (A++L)=A++bF 0 N L:=by
 induction A with
 | nil=>rfl
 | cons a A ih=>simp only [List.length_cons,List.cons_append,bF,ih]
theorem Si {h:Heap}{b:Nat}(o:h[b]?=some (.cells ⟨[.int .i64 (-1)]⟩ 3 (0,0))):aC Tryz.prog 178 [.slice (some ⟨b,0,none⟩) 1 1,.int .i64 16] h
 (λv h'=>Keeps [] h h'/\∃ b',v=.slice (some ⟨b',0,none⟩) 16 16/\h'[b']?=some (.cells ⟨List.replicate 16 (.int .i64 (-1))⟩ 3 (0,0))/\h.size<=b'):=by
 refine aG aH Tryz.func178 rfl ok178 (by simp [Tryz.f178]) ?_;(conv=>whnf);refine aV.pass ?_;(conv=>whnf);refine aj.f rfl ?_;(conv=>whnf);refine ak.i (Km 16 (.inl rfl) h) λv h1 k1 hv=>?_;subst hv;(conv=>whnf);(try refine aV.pass ?_;conv=>whnf);refine aj.f rfl ?_;(conv=>whnf);refine aW.make (n:=16) rfl rfl rfl rfl rfl (by decide) (by decide) λb2 h2 e2 s2 o2 k2=>?_;have ob:=(k1.trans k2).obj o (by simp);have hbl:b<h.size:=eU o;have z1:=k1.size;(conv=>whnf);refine aW.copy (sz:=1) (new:=[.int .i64 (-1)]) rfl rfl rfl o2 rfl (λj hj=>by simp only [Heap.cell?,ob];simp) rfl (by decide) (by simp [au]) λh3 s3 o3 k3=>?_;(conv=>whnf);refine bP.on [7,8] [] (λj:Nat=>[(7,.v (.slice (some ⟨b2,0,none⟩) 16 16)),(8,.v (.int .i64 ((2 ^ j:Nat):Int)))]) (λ_=>[])
  (λj h'=>j<=4/\Keeps [] h h'/\h'[b2]?=some (.cells ⟨List.replicate (2 ^ j) (.int .i64 (-1))++List.replicate (16-2 ^ j) (.int .i64 0)⟩ 3 (0,0))) (λj=>4-j) 0 ?_ ?_
 ·(conv=>whnf);exact ⟨0,rfl,rfl,rfl,by decide,(k1.trans k2).new1 k3 (by omega),o3⟩
 ·rintro j h4 ⟨hj,k4,o4⟩;have hp:2 ^ j<=16:=by
   have:2 ^ j<=2 ^ 4:=Nat.pow_le_pow_right (by decide) hj;simpa using this
  generalize hq:2 ^ j=q at *;(conv=>whnf);refine aj.i (λhc=>?_) (λhc=>?_)
  ·have hj1:j<4:=by
    rcases Nat.lt_or_ge j 4 with h|h
    ·exact h
    ·have:j=4:=by omega
     subst this;subst hq;simp at hc
   have hp2:2 ^ (j+1)<=16:=by
    have:2 ^ (j+1)<=2 ^ 4:=Nat.pow_le_pow_right (by decide) (by omega);simpa using this
   have hps:2 ^ (j+1)=q+q:=by rw [Nat.pow_succ];omega
   (conv=>whnf);refine dw.i q 16 rfl rfl (by omega) (by omega) ?_;(conv=>whnf);refine dw.i 0 q rfl rfl (by omega) (by omega) ?_;(conv=>whnf);have hq0:0<q:=by rw [<-hq];exact Nat.pow_pos (by decide)
   have eA:∀ s,jh (some ⟨b2,0,none⟩) 16 q s=some ⟨b2,0+q*s,none⟩:=by
    intro s;unfold jh;rw [if_neg (by omega)];simp [addr_add]
   rw [lq,eA];refine aW.copy (sz:=1) (new:=List.replicate q (.int .i64 (-1))) rfl rfl rfl o4 (by rw [List.length_replicate];omega) (λk hk=>?_) (Sv q _ rfl) ?_ (by simp [au]) λh5 s5 o5 k5=>?_
   ·have hk':k<q:=by simpa using hk
    simp only [Heap.cell?,o4];simp [hk',List.getElem?_append]
   ·show 0+q*1+_<=_;simp only [List.length_append,List.length_replicate];omega
   (conv=>whnf);refine ⟨4-(j+1),by omega,?_⟩;(conv=>whnf);have em:min (q-0) (16-q)=q:=by omega
   refine ⟨j+1,rfl,?_,rfl,by omega,k4.new1 k5 (by omega),?_⟩
   ·rw [em,hps,wrapN (n:=q+q) (by simp) (by omega)]
   ·have e5:bF (0+q*1) (List.replicate q (Value.int .i64 (-1))) (List.replicate q (Value.int .i64 (-1))++List.replicate (16-q) (Value.int .i64 0))=List.replicate (2 ^ (j+1)) (Value.int .i64 (-1))++List.replicate (16-2 ^ (j+1)) (Value.int .i64 0):=by
     have e6:List.replicate (16-q) (Value.int .i64 0)=List.replicate (List.replicate q (Value.int .i64 (-1))).length (Value.int .i64 0)++List.replicate (16-2 ^ (j+1)) (Value.int .i64 0):=by
      rw [List.length_replicate,List.replicate_append_replicate]
      congr 1;omega
     rw [e6,show 0+q*1=(List.replicate q (Value.int .i64 (-1))).length by rw [List.length_replicate];omega,Kl,Bd,<-List.append_assoc,List.replicate_append_replicate,hps]
    rw [<-e5];exact o5
  ·have hj1:j=4:=by
    rcases Nat.lt_or_ge j 4 with h|h
    ·have:2 ^ j<2 ^ 4:=Nat.pow_lt_pow_right (by decide) h;have h2:(q:Int)<16:=by
      have:2 ^ j<16:=by simpa using this
      omega
     simp at hc;omega
    ·omega
   subst hj1;have hq':q=16:=by rw [<-hq]
   subst hq';(conv=>whnf);exact ⟨k4,b2,rfl,o4,by omega⟩
def eO (n:Int):Bool:=decide (n ≠ -1)
def iB (n:Int):Bool:=decide (n < -1)||decide (96<=n)
theorem vV (n:Int)(h:Heap):aC Tryz.prog 133 [.int .i64 n] h (λv h'=>Keeps [] h h'/\v=.bool (eO n)):=by
 refine aG aH Tryz.func133 rfl ok133 (by simp [Tryz.f133]) ?_;(conv=>whnf);refine ⟨Keeps.refl _ _,?_⟩
 congr 1
 rw [Bool.eq_iff_iff];simp [eO]
theorem Sw (n:Int)(h:Heap):aC Tryz.prog 204 [.int .i64 n] h (λv h'=>Keeps [] h h'/\v=.bool (iB n)):=by
 refine aG aH Tryz.func204 rfl ok204 (by simp [Tryz.f204]) ?_;(conv=>whnf);refine ⟨Keeps.refl _ _,?_⟩
 congr 1
def lD (p:Int->Bool):List Int->Nat->Int
 | [],_ => -1
 | x::l,i=>if p x then (i:Int) else lD p l (i+1)
theorem Ew (p:Int->Bool):∀ (l:List Int) (i:Nat),decide (0<=lD p l i)=l.any p
 | [],i=>rfl
 | x::l,i=>by
  simp only [lD,List.any_cons];split
  ·rename_i hp;rw [hp];simp
  ·rename_i hp;rw [Ew p l (i+1)];simp [hp]
theorem Sy (p:Int->Bool)(hcall:∀ (x:Int) (h:Heap),aC Tryz.prog 133 [.int .i64 x] h (λv h'=>Keeps [] h h'/\v=.bool (p x))){h:Heap}{a:Option Addr}{n c:Nat}{xs:List Int}(S:Sl h a n c xs)(hn:n<=1000000000) :
 aC Tryz.prog 232 [.slice a n c,.func (.func 133) #[] #[]] h (λv h'=>Keeps [] h h'/\v=.int .i64 (lD p xs 0)):=by
 have hl:=S.hlen;refine aG aH Tryz.func232 rfl ok232 (by simp [Tryz.f232]) ?_;(conv=>whnf);refine bP.on [0,1,7,8] [] (λi:Nat=>[(0,.v (.slice a n c)),(1,.v (.func (.func 133) #[] #[])),(7,.v (.int .i64 (n:Int))),(8,.v (.int .i64 (i:Int)))]) (λ_=>[])
  (λi h'=>i<=n/\Keeps [] h h'/\lD p xs 0=lD p (xs.drop i) i) (λi=>n-i) 0 ?_ ?_
 ·(conv=>whnf);exact ⟨0,rfl,rfl,rfl,Nat.zero_le _,Keeps.refl _ _,rfl⟩
 ·rintro i h2 ⟨hi,k2,hI⟩;(conv=>whnf);refine aj.i (λhc=>?_) (λhc=>?_)
  ·have hi1:i<xs.length:=by simp at hc;omega
   obtain ⟨b,off,hb,_,hcell⟩:=(S.keep k2).at1 i hi1;rw [List.drop_eq_getElem_cons hi1] at hI;simp only [lD] at hI;(conv=>whnf);refine aX.i i rfl (by omega) hb ?_;(conv=>whnf);refine ax.i hcell ?_;(conv=>whnf);refine ak.i (hcall xs[i] h2) λv h3 k3 hv=>?_;subst hv;(conv=>whnf);refine aj.i (λhd=>?_) (λhd=>?_)
   ·(conv=>whnf);rw [if_pos (by simpa using hd)] at hI;exact ⟨k2.trans k3,by rw [hI]⟩
   ·rw [if_neg (by simpa using hd)] at hI;(conv=>whnf);refine ⟨n-(i+1),by omega,?_⟩;(conv=>whnf);exact ⟨i+1,rfl,by rw [wrapN (n:=i+1) (by simp) (by omega)],rfl,by omega,k2.trans k3,hI⟩
  ·have hi1:i=xs.length:=by simp at hc;omega
   (conv=>whnf);refine ⟨k2,?_⟩;rw [hI,hi1,List.drop_length];rfl
theorem Sz (p:Int->Bool)(hcall:∀ (x:Int) (h:Heap),aC Tryz.prog 204 [.int .i64 x] h (λv h'=>Keeps [] h h'/\v=.bool (p x))){h:Heap}{a:Option Addr}{n c:Nat}{xs:List Int}(S:Sl h a n c xs)(hn:n<=1000000000) :
 aC Tryz.prog 232 [.slice a n c,.func (.func 204) #[] #[]] h (λv h'=>Keeps [] h h'/\v=.int .i64 (lD p xs 0)):=by
 have hl:=S.hlen;refine aG aH Tryz.func232 rfl ok232 (by simp [Tryz.f232]) ?_;(conv=>whnf);refine bP.on [0,1,7,8] [] (λi:Nat=>[(0,.v (.slice a n c)),(1,.v (.func (.func 204) #[] #[])),(7,.v (.int .i64 (n:Int))),(8,.v (.int .i64 (i:Int)))]) (λ_=>[])
  (λi h'=>i<=n/\Keeps [] h h'/\lD p xs 0=lD p (xs.drop i) i) (λi=>n-i) 0 ?_ ?_
 ·(conv=>whnf);exact ⟨0,rfl,rfl,rfl,Nat.zero_le _,Keeps.refl _ _,rfl⟩
 ·rintro i h2 ⟨hi,k2,hI⟩;(conv=>whnf);refine aj.i (λhc=>?_) (λhc=>?_)
  ·have hi1:i<xs.length:=by simp at hc;omega
   obtain ⟨b,off,hb,_,hcell⟩:=(S.keep k2).at1 i hi1;rw [List.drop_eq_getElem_cons hi1] at hI;simp only [lD] at hI;(conv=>whnf);refine aX.i i rfl (by omega) hb ?_;(conv=>whnf);refine ax.i hcell ?_;(conv=>whnf);refine ak.i (hcall xs[i] h2) λv h3 k3 hv=>?_;subst hv;(conv=>whnf);refine aj.i (λhd=>?_) (λhd=>?_)
   ·(conv=>whnf);rw [if_pos (by simpa using hd)] at hI;exact ⟨k2.trans k3,by rw [hI]⟩
   ·rw [if_neg (by simpa using hd)] at hI;(conv=>whnf);refine ⟨n-(i+1),by omega,?_⟩;(conv=>whnf);exact ⟨i+1,rfl,by rw [wrapN (n:=i+1) (by simp) (by omega)],rfl,by omega,k2.trans k3,hI⟩
  ·have hi1:i=xs.length:=by simp at hc;omega
   (conv=>whnf);refine ⟨k2,?_⟩;rw [hI,hi1,List.drop_length];rfl
theorem SA (f:Nat)(p:Int->Bool)(hf:(f=133/\p=eO)\/(f=204/\p=iB)){h:Heap}{a:Option Addr}{n c:Nat}{xs:List Int}(S:Sl h a n c xs)(hn:n<=1000000000) :
 aC Tryz.prog 232 [.slice a n c,.func (.func f) #[] #[]] h (λv h'=>Keeps [] h h'/\v=.int .i64 (lD p xs 0)):=by
 rcases hf with ⟨rfl,rfl⟩|⟨rfl,rfl⟩
 ·exact Sy eO vV S hn
 ·exact Sz iB Sw S hn
theorem Es (f:Nat)(p:Int->Bool)(hf:(f=133/\p=eO)\/(f=204/\p=iB)){h:Heap}{a:Option Addr}{n c:Nat}{xs:List Int}(S:Sl h a n c xs)(hn:n<=1000000000) :
 aC Tryz.prog 179 [.slice a n c,.func (.func f) #[] #[]] h (λv h'=>Keeps [] h h'/\v=.bool (xs.any p)):=by
 refine aG aH Tryz.func179 rfl ok179 (by simp [Tryz.f179]) ?_;(conv=>whnf);refine ak.i (SA f p hf S hn) λv h1 k1 hv=>?_;subst hv;(conv=>whnf);refine ⟨k1,?_⟩;rw [<-Ew p xs 0]
structure aA where
 kind:Int
 links:Int
 size:Int
 dU:UInt64
 d0:Int
 d1:Int
 d2:Int
 d3:Int
 d4:Int
 more:Int
 deriving DecidableEq
def aA.cells (c:aA):List Value:=[.int .i64 c.kind,.int .i64 c.links,.int .i64 c.size,wv c.dU,.int .i64 c.d0,.int .i64 c.d1,.int .i64 c.d2,.int .i64 c.d3,.int .i64 c.d4,.int .i64 c.more]
def aA.direct (c:aA):List Int:=[c.d0,c.d1,c.d2,c.d3,c.d4]
def aA.zero:aA:=⟨0,0,0,0,0,0,0,0,0,0⟩
def aA.ok (c:aA):Prop:=inI64 c.kind/\inI64 c.links/\inI64 c.size/\(∀ x∈c.direct,inI64 x)/\inI64 c.more
def fD (h:Heap)(b:Nat)(m:List Int)(sp:List Value):Prop:=h[b]?=some (.cells ⟨m.map (λx=>Value.int .i64 x)++sp⟩ 3 (0,0))
theorem fD.sl {h:Heap}{b:Nat}{m:List Int}{sp:List Value}(o:fD h b m sp)(hm:∀ x∈m,inI64 x){n cap:Nat}(hn:n=m.length)(hc:n<=cap)(hb:m.length<=281474976710656):Sl h (some ⟨b,0,none⟩) n cap m:=by
 subst hn;exact Sl.of1 (α:=Int) o (λi hi=>by rw [List.getElem?_append_left (by simpa using hi)];simp [hi,One.val]) hm hc hb
theorem yB:∀ (k:Nat) (L:List Value) (v:Value),k<L.length->bF k [v] L=L.set k v
 | 0,[],v,h=>by simp at h
 | 0,a::L,v,h=>by cases L <;> rfl
 | k+1,[],v,h=>by simp at h
 | k+1,a::L,v,h=>by simp only [bF,List.set_cons_succ];rw [yB k L v (by simpa using h)]
theorem ints_set {m:List Int}{sp:List Value}{i:Nat}{x:Int}(hi:i<m.length):bF (0+i*1) [Value.int .i64 x] (m.map (λx=>Value.int .i64 x)++sp)=(m.set i x).map (λx=>Value.int .i64 x)++sp:=by
 rw [show 0+i*1=i by omega,yB _ _ _ (by simp;omega),List.set_append,if_pos (by simpa using hi),List.map_set]
theorem fD.nth {h:Heap}{b:Nat}{m:List Int}{sp:List Value}(o:fD h b m sp){i:Nat}(hi:i<m.length):Heap.cell? h b (0+i*1)=some (.int .i64 m[i]):=by
 unfold fD at o;simp only [Heap.cell?,o];rw [show 0+i*1=i by omega];simp [List.getElem?_append,hi]
def dB (now:Int->UInt64)(k:Int):List UInt64:=bW now (1288+k*16) 16
def iH (w:UInt64):Int:=(w.toNat:Int)-1
def mapOf (now:Int->UInt64)(c:aA):Option (List Int):=
 if c.more = -1 then some (c.direct++List.replicate 16 (-1))
 else if 0<=c.more/\c.more<96/\(dB now c.more).all (λw=>decide (w.toNat<=96))=true/\((dB now c.more).map iH).any eO=true then some (c.direct++(dB now c.more).map iH)
 else none
theorem vL {now:Int->UInt64}{c:aA}{m:List Int}(h:mapOf now c=some m):m.length=21:=by
 unfold mapOf at h;split at h
 ·simp at h;subst h;simp [aA.direct]
 ·split at h
  ·simp at h;subst h;simp [aA.direct,dB,bW]
  ·cases h
theorem Sg {h:Heap}{V:VL}{M:aS}{X:VS}(A:At h V M X)(c:aA)(hc:c.ok):aC Tryz.prog 112 [.pointer (some ⟨V.v,0,none⟩),.agg ⟨c.cells⟩] h (λv h'=>Keeps [] h h' /\
 match mapOf X.now c with
 | some m=>∃ b cap sp,v=.tuple #[.slice (some ⟨b,0,none⟩) 21 cap,.int .i64 0]/\fD h' b m sp/\h.size<=b/\21<=cap/\cap=21+sp.length
 | none=>v=.tuple #[.slice none 0 0,.int .i64 15]):=by
 refine aG aH Tryz.func112 rfl ok112 (by simp [Tryz.f112]) ?_;(conv=>whnf);refine aL.i λb1 h1 e1 s1 o1 k1=>?_;(conv=>whnf);refine aj.f rfl ?_;(conv=>whnf);refine gJ.i (v:=.slice (some ⟨b1,4,none⟩) 5 5) (λw=>rfl) ?_;(conv=>whnf);refine aL.i λb2 h2 e2 s2 o2 k2=>?_;(conv=>whnf);refine ak.i (Si o2) λv h3 k3 hv=>?_;obtain ⟨b3,rfl,o3,n3⟩:=hv;(conv=>whnf);refine aL.i λb4 h4 e4 s4 o4 k4=>?_;have z3:=k3.size;have YW:b3<h3.size:=eU o3;have S1:Sl h4 (some ⟨b1,4,none⟩) 5 5 c.direct:=⟨rfl,Nat.le_refl _,by simp [aA.direct],λi hi=>⟨b1,4,rfl,[.int .i64 c.direct[i]],⟨rfl,hc.2.2.2.1 _ (List.getElem_mem hi)⟩,λj hj=>by
  have hj0:j=0:=by simpa using hj
  subst hj0;have o14:=(k2.trans (k3.trans k4)).obj o1 (by simp);simp only [Heap.cell?,o14];have hi':i<5:=hi;have:i=0\/i=1\/i=2\/i=3\/i=4:=by omega
  rcases this with rfl|rfl|rfl|rfl|rfl <;> rfl⟩⟩
 have S2:Sl h4 (some ⟨b3,0,none⟩) 16 16 (List.replicate 16 (-1:Int)):=Sl.mJ (α:=Int) (by rw [k4.obj o3 (by simp)];rfl) (by intro x hx;rw [List.mem_replicate] at hx;rw [hx.2];exact ⟨by decide,by decide⟩) rfl (by decide);have S:Sl h4 (some ⟨b4,0,none⟩) 2 2 [c.direct,List.replicate 16 (-1:Int)]:=⟨rfl,Nat.le_refl _,by simp,λi hi=>⟨b4,0,rfl,[if i=0 then .slice (some ⟨b1,4,none⟩) 5 5 else .slice (some ⟨b3,0,none⟩) 16 16],by
  have hi':i<2:=hi;have:i=0\/i=1:=by omega
  rcases this with rfl|rfl
  ·exact ⟨_,_,_,rfl,S1⟩
  ·exact ⟨_,_,_,rfl,S2⟩,λj hj=>by
  have hj0:j=0:=by simpa using hj
  subst hj0;have hi':i<2:=hi;have:i=0\/i=1:=by omega
  simp only [Heap.cell?,o4];rcases this with rfl|rfl <;> rfl⟩⟩
 (conv=>whnf);refine ak.i (Sj S ?_ (by simp [aA.direct]) (by decide)) λv h5 k5 hv=>?_
 ·intro xs hxs x hx;simp only [List.mem_cons,List.not_mem_nil,or_false] at hxs;rcases hxs with rfl|rfl
  ·exact hc.2.2.2.1 x hx
  ·rw [List.mem_replicate] at hx;rw [hx.2];exact ⟨by decide,by decide⟩
 obtain ⟨a5,c5,rfl,O5,n5⟩:=hv;have hfl:[c.direct,List.replicate 16 (-1:Int)].flatten=c.direct++List.replicate 16 (-1):=by simp
 have hlen:(c.direct++List.replicate 16 (-1:Int)).length=21:=by simp [aA.direct]
 rw [hfl,hlen] at O5;rw [hfl,hlen];have k05:Keeps [] h h5:=k1.trans (k2.trans (k3.trans (k4.trans k5)));rcases O5 with ⟨_,h0,_⟩|⟨b5,L,rfl,o5,t5,l5,_,Bc⟩
 ·omega
 have z15:=(k2.trans (k3.trans k4)).size;have hb5:h.size<=b5:=by have:=n5 b5 (by simp [ay]);omega
 obtain ⟨sp,hsp⟩:∃ sp,L=(c.direct++List.replicate 16 (-1:Int)).map (λx=>Value.int .i64 x)++sp:=⟨L.drop 21,by
  have:((c.direct++List.replicate 16 (-1:Int)).map (λx=>Value.int .i64 x)).length=21:=by simp [aA.direct]
  rw [this] at t5;rw [<-t5,List.take_append_drop]⟩
 have I5:fD h5 b5 (c.direct++List.replicate 16 (-1)) sp:=by rw [hsp] at o5;exact o5
 have hcap:c5=21+sp.length:=by
  have h1:L.length=21+sp.length:=by rw [hsp];simp [aA.direct];omega
  omega
 clear t5 l5 S S1 S2;have o15:=(k2.trans (k3.trans (k4.trans k5))).obj o1 (by simp);(conv=>whnf);refine ax.o o15 rfl ?_;(conv=>whnf);refine aj.i (λhd=>?_) (λhd=>?_)
 ·have hm:c.more = -1:=by simpa using hd
  (conv=>whnf);refine ⟨k05,?_⟩;unfold mapOf;rw [if_pos hm];exact ⟨b5,c5,sp,rfl,I5,hb5,Bc,hcap⟩
 ·have hm:¬ c.more = -1:=by simpa using hd
  (conv=>whnf);refine ax.o o15 rfl ?_;(conv=>whnf);refine ak.i (D5 (A.on k05) c.more) λv h6 k6 hv=>?_;rcases hv with ⟨q1,q2,b6,rfl,q3,q4,o6⟩|⟨q1,rfl⟩
  ·(conv=>whnf);refine aj.f rfl ?_;have hml:(dB X.now c.more).length=16:=by simp [dB,bW]
   have hne:b6≠b5:=by have:=eU o5;omega
   (conv=>whnf);refine bP.on [6,32,33,34] [] (λi:Nat=>[(6,.v (.slice (some ⟨b5,0,none⟩) 21 c5)),(32,.v (.slice (some ⟨b6,0,none⟩) 16 16)),(33,.v (.int .i64 16)),(34,.v (.int .i64 (i:Int)))]) (λ_=>[])
    (λi h'=>i<=16/\Keeps [] h h'/\h6.size<=h'.size/\fD h' b5 (c.direct++(((dB X.now c.more).map iH).take i++List.replicate (16-i) (-1))) sp/\h'[b6]?=some (.cells ⟨(dB X.now c.more).map wv⟩ 46 (0,0))/\∀ k (hk:k<(dB X.now c.more).length),k<i->(dB X.now c.more)[k].toNat<=96) (λi=>16-i) 0 ?_ ?_
   ·(conv=>whnf);exact ⟨0,rfl,rfl,rfl,Nat.zero_le _,k05.trans k6,Nat.le_refl _,k6.obj I5 (by simp),o6,λk _ hk=>by omega⟩
   ·rintro i h7 ⟨hi,k7,z7,I7,o7,all7⟩;(conv=>whnf);refine aj.i (λhe=>?_) (λhe=>?_)
    ·have hi1:i<16:=by simp at he;omega
     have hi2:i<(dB X.now c.more).length:=by omega
     (conv=>whnf);refine aX.i i rfl hi1 rfl ?_;(conv=>whnf);refine ax.o (v:=wv (dB X.now c.more)[i]) o7 ?_ ?_
     ·rw [nN];show ((dB X.now c.more).map wv)[0+i*1]?=_;rw [show 0+i*1=i by omega];simp [hi2]
     (conv=>whnf);refine aj.i (λhf=>?_) (λhf=>?_)
     ·(conv=>whnf);have hw:96<(dB X.now c.more)[i].toNat:=by simp at hf;omega
      refine ⟨k7,?_⟩;have:mapOf X.now c=none:=by
       unfold mapOf;rw [if_neg hm,if_neg];rintro ⟨_,_,hall,_⟩;have:=List.all_eq_true.1 hall _ (List.getElem_mem hi2);simp at this;omega
      rw [this]
     ·have hw:(dB X.now c.more)[i].toNat<=96:=by simp at hf;omega
      have ew:IntKind.i64.wrap (IntKind.i64.wrap ((dB X.now c.more)[i].toNat:Int)-1)=iH (dB X.now c.more)[i]:=by
       rw [dR (x:=((dB X.now c.more)[i].toNat:Int)) (by omega) (by omega),dR (by omega) (by omega)];rfl
      (conv=>whnf);refine aX.i (5+i) ?_ (by omega) rfl ?_
      ·rw [wrapN (n:=5+i) (by simp) (by omega)]
      (conv=>whnf);refine dN.i I7 ?_ (by simp [au]) λh8 s8 o8 k8=>?_
      ·show 0+(5+i)*1+1<=_;simp [aA.direct,hml];omega
      (conv=>whnf);refine ⟨16-(i+1),by omega,?_⟩;(conv=>whnf);refine ⟨i+1,rfl,by rw [wrapN (n:=i+1) (by simp) (by omega)],rfl,by omega,k7.new1 k8 hb5,by omega,?_,k8.obj o7 (by simpa using hne),λk hk hki=>?_⟩
      ·rw [ew] at o8;have hlen2:5+i<(c.direct++(((dB X.now c.more).map iH).take i++List.replicate (16-i) (-1))).length:=by simp [aA.direct,hml];omega
       have e8:=ints_set (sp:=sp) (x:=iH (dB X.now c.more)[i]) hlen2;have e9:(c.direct++(((dB X.now c.more).map iH).take i++List.replicate (16-i) (-1))).set (5+i) (iH (dB X.now c.more)[i])=c.direct++(((dB X.now c.more).map iH).take (i+1)++List.replicate (16-(i+1)) (-1)):=by
        have hd5:c.direct.length=5:=rfl;have ht:(((dB X.now c.more).map iH).take i).length=i:=by simp [hml];omega
        rw [List.set_append,if_neg (by omega),hd5,show 5+i-5=i by omega,List.set_append,if_neg (by omega),ht,Nat.sub_self,show 16-i=(16-(i+1))+1 by omega,List.replicate_succ,List.set_cons_zero,
         List.take_succ_eq_append_getElem (by simp [hml];omega)]
        simp
       rw [e9] at e8;unfold fD;rw [<-e8];exact o8
      ·rcases Nat.lt_or_ge k i with h|h
       ·exact all7 k hk h
       ·have:k=i:=by omega
        subst this;exact hw
    ·have hi1:i=16:=by simp at he;omega
     subst hi1;have hall:(dB X.now c.more).all (λw=>decide (w.toNat<=96))=true:=by
      rw [List.all_eq_true];intro w hw;obtain ⟨k,hk,rfl⟩:=List.mem_iff_getElem.1 hw;have:=all7 k hk (by omega);simpa using this
     have et:((dB X.now c.more).map iH).take 16++List.replicate (16-16) (-1)=(dB X.now c.more).map iH:=by
      rw [List.take_of_length_le (by simp [hml])];simp
     rw [et] at I7;have Sk:∀ x∈c.direct++(dB X.now c.more).map iH,inI64 x:=by
      intro x hx;rcases List.mem_append.1 hx with hx|hx
      ·exact hc.2.2.2.1 x hx
      ·obtain ⟨w,hw,rfl⟩:=List.mem_map.1 hx;have:=List.all_eq_true.1 hall w hw;simp at this;unfold iH inI64;omega
     have SM:=I7.sl Sk (n:=21) (cap:=c5) (by simp [aA.direct,hml]) Bc (by simp [aA.direct,hml]);have SP:=SM.part (l:=5) (r:=21) (by decide) (by decide);(conv=>whnf);refine dw.i 5 21 rfl rfl (by decide) Bc ?_;(conv=>whnf);have hpart:(List.take 21 (c.direct++(dB X.now c.more).map iH)).drop 5=(dB X.now c.more).map iH:=by
      rw [List.take_of_length_le (by simp [aA.direct,hml])];rw [List.drop_append];simp [aA.direct]
     rw [hpart] at SP;refine ak.i (Es 133 eO (.inl ⟨rfl,rfl⟩) SP (by decide)) λv h8 k8 hv=>?_;subst hv;(conv=>whnf);refine aj.i (λhf=>?_) (λhf=>?_)
     ·(conv=>whnf);refine ⟨k7.trans k8,?_⟩;have hn:((dB X.now c.more).map iH).any eO=false:=by simpa using hf
      have:mapOf X.now c=none:=by
       unfold mapOf;rw [if_neg hm,if_neg];rintro ⟨_,_,_,h⟩;rw [hn] at h;cases h
      rw [this]
     ·(conv=>whnf);refine ⟨k7.trans k8,?_⟩;have hn:((dB X.now c.more).map iH).any eO=true:=by simpa using hf
      have:mapOf X.now c=some (c.direct++(dB X.now c.more).map iH):=by
       unfold mapOf;rw [if_neg hm,if_pos ⟨q1,q2,hall,hn⟩]
      rw [this];exact ⟨b5,c5,sp,rfl,k8.obj I7 (by simp),hb5,Bc,hcap⟩
  ·(conv=>whnf);refine aj.t rfl ?_;(conv=>whnf);refine ⟨k05.trans k6,?_⟩;have:mapOf X.now c=none:=by
    unfold mapOf;rw [if_neg hm,if_neg];rintro ⟨h1,h2,_⟩;exact q1 ⟨h1,h2⟩
   rw [this]
theorem xV {h:Heap}{V:VL}{M:aS}{X:VS}(A:At h V M X)(c:aA)(hc:c.ok):aC Tryz.prog 112 [.pointer (some ⟨V.v,0,none⟩),.agg ⟨c.cells⟩] h (λv h'=>Keeps [] h h' /\
 match mapOf X.now c with
 | some m=>∃ b cap sp,v=.tuple #[.slice (some ⟨b,0,none⟩) 21 cap,.int .i64 0]/\fD h' b m sp/\h.size<=b/\21<=cap
 | none=>v=.tuple #[.slice none 0 0,.int .i64 15]):=aC.mono (Sg A c hc) λv h' ⟨k,H⟩=>⟨k,by
 cases hm:mapOf X.now c with
 | none=>rw [hm] at H;exact H
 | some m=>
  rw [hm] at H;obtain ⟨b,cap,sp,h1,h2,h3,h4,_⟩:=H;exact ⟨b,cap,sp,h1,h2,h3,h4⟩⟩
def dD (now:Int->UInt64)(n:Int):List UInt8:=if n = -1 then zeros 128 else iy (bW now (1288+n*16) 16) 128
theorem kZ (now:Int->UInt64)(n:Int):(dD now n).length=128:=by
 unfold dD;split
 ·simp [zeros]
 ·simp [iy]
theorem Eo {h:Heap}{V:VL}{M:aS}{X:VS}(A:At h V M X)(n:Int):aC Tryz.prog 113 [.pointer (some ⟨V.v,0,none⟩),.int .i64 n] h (λv h'=>Keeps [] h h' /\
 v=.tuple (if n = -1\/(0<=n/\n<96) then #[.string ⟨(dD X.now n).toArray⟩,.int .i64 0] else #[.string ⟨#[]⟩,.int .i64 15])):=by
 refine aG aH Tryz.func113 rfl ok113 (by simp [Tryz.f113]) ?_;(conv=>whnf);refine ak.i (vV n h) λv h1 k1 hv=>?_;subst hv;(conv=>whnf);refine aj.i (λhd=>?_) (λhd=>?_)
 ·have hn:n = -1:=by simpa [eO] using hd
  (conv=>whnf);refine ak.i (Sn h1) λv h2 k2 hv=>?_;subst hv;(conv=>whnf);refine ⟨k1.trans k2,?_⟩;rw [if_pos (.inl hn)];unfold dD;rw [if_pos hn]
 ·have hn:¬ n = -1:=by simpa [eO] using hd
  (conv=>whnf);refine ak.i (D5 (A.on k1) n) λv h2 k2 hv=>?_;rcases hv with ⟨q1,q2,b6,rfl,q3,q4,o6⟩|⟨q1,rfl⟩
  ·(conv=>whnf);refine aj.f rfl ?_;have S:=Sl.mJ (α:=UInt64) (xs:=bW X.now (1288+n*16) 16) (n:=16) o6 (by simp [One.ok]) (by simp [bW]) (by simp [bW]);(conv=>whnf);refine ak.i (JG S 128 (by decide) (by decide)) λv h3 k3 hv=>?_;subst hv;(conv=>whnf);refine ⟨k1.trans (k2.trans k3),?_⟩;rw [if_pos (.inr ⟨q1,q2⟩)];unfold dD;rw [if_neg hn]
  ·(conv=>whnf);refine aj.t rfl ?_;(conv=>whnf);refine ⟨k1.trans k2,?_⟩;rw [if_neg (by rintro (h|h);exact hn h;exact q1 h)]
theorem J9 {h:Heap}{V:VL}{M:aS}{X:VS}(A:At h V M X)(n:Int)(s:ByteArray)(hs:s.size<=128):aC Tryz.prog 135 [.pointer (some ⟨V.v,0,none⟩),.int .i64 n,.string s] h (λv h'=>Keeps [V.ob] h h' /\
 v=.int .i64 (if 0<=n/\n<96 then 0 else 1)/\At h' V M (if 0<=n/\n<96 then { X with now:=bZ X.now n (dM s.data.toList 16) } else X)):=by
 refine aG aH Tryz.func135 rfl ok135 (by simp [Tryz.f135]) ?_;(conv=>whnf);refine ak.i (Jf s 16 h (by decide) (by omega)) λv h1 k1 hv=>?_;obtain ⟨b,rfl,q1,q2,o1⟩:=hv;have A1:=A.on k1;have qM:=A.blt V.ob (by simp [VL.blocks]);(conv=>whnf);refine aj.f rfl ?_;have S:=Sl.mJ (α:=UInt64) (xs:=dM s.data.toList 16) (n:=16) o1 (by simp [One.ok]) (by simp [dM]) (by simp [dM]);(conv=>whnf);refine ak.m (xP A1 n S (by simp [ay];omega)) (by simp [au]) λv h2 k2 hv=>?_;obtain ⟨rfl,A2⟩:=hv;(conv=>whnf);refine ⟨(k1.mono (by simp)).trans k2,?_⟩;by_cases hn:0<=n/\n<96
 ·have hn3:0<=n/\n<96/\16<=16:=⟨hn.1,hn.2,Nat.le_refl _⟩;rw [if_pos hn3] at A2;rw [if_pos hn3,if_pos hn,if_pos hn];exact ⟨rfl,A2⟩
 ·have hn3:¬ (0<=n/\n<96/\16<=16):=λh=>hn ⟨h.1,h.2.1⟩;rw [if_neg hn3] at A2;rw [if_neg hn3,if_neg hn,if_neg hn];exact ⟨rfl,A2⟩
theorem El {v0:Nat}(node:Int)(h:Heap):aC Tryz.prog 131 [.pointer (some ⟨v0,0,none⟩),.int .i64 node] h (λv h'=>Keeps [] h h'/\v=.int .i64 (if 0<=node/\node<24 then 0 else 1)):=by
 refine aG aH Tryz.func131 rfl ok131 (by simp [Tryz.f131]) ?_;(conv=>whnf);refine ak.i (ul node h) λv h1 k1 hv=>?_;subst hv;(conv=>whnf);(try refine aV.pass ?_;conv=>whnf);refine aj.f rfl ?_;(conv=>whnf);exact ⟨k1,rfl⟩
theorem R9 (n:Nat)(hn:n<=1000000)(h:Heap):aC Tryz.prog 132 [.int .i64 (n:Int)] h (λv h'=>Keeps [] h h'/\v=.int .i64 (((n+127)/128:Nat):Int)):=by
 refine aG aH Tryz.func132 rfl ok132 (by simp [Tryz.f132]) ?_;(conv=>whnf);refine dL.i (by decide) ?_;(conv=>whnf);refine ⟨Keeps.refl _ _,?_⟩;rw [wrapN (x:=(n:Int)+128) (n:=n+128) (by simp) (by omega),wrapN (x:=((n+128:Nat):Int)-1) (n:=n+127) (by omega) (by omega)];have:((n+127:Nat):Int).tdiv 128=(((n+127)/128:Nat):Int):=by rw [Int.tdiv_eq_ediv_of_nonneg (by omega)];omega
 rw [this,wrapN (n:=(n+127)/128) rfl (by omega)]
def j6 (c:aA)(m:List Int):aA:={ c with d0:=m[0]?.getD 0,d1:=m[1]?.getD 0,d2:=m[2]?.getD 0,d3:=m[3]?.getD 0,d4:=m[4]?.getD 0 }
def eH (B:Int->UInt64)(X:VS)(node:Int)(c:aA)(m:List Int):aA×Int×VS:=
 if (0<=node/\node<24)/\m.length=21/\m.any iB=false then
  (if (m.drop 5).any eO=false then
   (if c.more = -1 then ({ j6 c m with more := -1 },0,X)
   else if (fQ X c.more).1=0 then ({ j6 c m with more := -1 },0,(fQ X c.more).2) else (aA.zero,(fQ X c.more).1,(fQ X c.more).2))
  else
   let t:=if c.more = -1 then bL B X node else (c.more,0,X)
   if t.2.1=0 then
    ({ j6 c m with more:=t.1 },if 0<=t.1/\t.1<96 then 0 else 1,if 0<=t.1/\t.1<96 then { t.2.2 with now:=bZ t.2.2.now t.1 ((m.drop 5).map λn=>w64 (n+1)) } else t.2.2)
   else (aA.zero,t.2.1,t.2.2))
 else (aA.zero,1,X)
theorem take5 {m:List Int}(h:m.length=21):∃ a b c d e r,m=a::b::c::d::e::r/\r.length=16:=by
 match m,h with
 | a::b::c::d::e::r,h=>exact ⟨a,b,c,d,e,r,rfl,by simpa using h⟩
theorem jE {n:Int}:eO n=true↔¬ n = -1:=by unfold eO;exact decide_eq_true_iff
theorem AQ {n:Int}:eO n=false↔n = -1:=by
 rw [<-Bool.not_eq_true,jE]
 first | done | exact Classical.not_not
theorem Kb {b:Bool}(h:(!b)=true):b=false:=by cases b <;> simp_all
theorem Kg {b:Bool}(h:(!b)=false):b=true:=by cases b <;> simp_all
theorem xM (h:Heap):∀ l:List UInt64,iR h (l.map wv) l
 | []=>rfl
 | x::l=>⟨[wv x],l.map wv,rfl,rfl,xM h l⟩
theorem Au {h:Heap}{V:VL}{M:aS}{X:VS}(A:At h V M X)(node:Int)(c:aA){sa:Option Addr}{n cap:Nat}{m:List Int}(S:Sl h sa n cap m)(hs:n=21->V.ob∉ay sa) :
 aC Tryz.prog 136 [.pointer (some ⟨V.v,0,none⟩),.int .i64 node,.agg ⟨c.cells⟩,.slice sa n cap] h (λv h'=>Keeps [V.ob] h h' /\
  v=.tuple #[.agg ⟨(eH M.read X node c m).1.cells⟩,.int .i64 (eH M.read X node c m).2.1]/\At h' V M (eH M.read X node c m).2.2):=by
 have hl:=S.hlen;have qM:=A.blt V.ob (by simp [VL.blocks]);refine aG aH Tryz.func136 rfl ok136 (by simp [Tryz.f136]) ?_;(conv=>whnf);refine aL.i λb1 h1 e1 s1 o1 k1=>?_;(conv=>whnf);refine aL.i λb2 h2 e2 s2 o2 k2=>?_;(conv=>whnf);refine ak.i (El node h2) λv h3 k3 hv=>?_;subst hv;have k03:=k1.trans (k2.trans k3);have z3:=k3.size;have bad:¬ ((0<=node/\node<24)/\m.length=21/\m.any iB=false)->∀ h4 h5:Heap,Keeps [] h3 h4->Keeps [b2] h4 h5->Keeps [V.ob] h h5/\Value.tuple #[.agg ⟨[.int .i64 0,.int .i64 0,.int .i64 0,.int .u64 0,.int .i64 0,.int .i64 0,.int .i64 0,.int .i64 0,.int .i64 0,.int .i64 0]⟩,.int .i64 1]=.tuple #[.agg ⟨(eH M.read X node c m).1.cells⟩,.int .i64 (eH M.read X node c m).2.1]/\At h5 V M (eH M.read X node c m).2.2:=by
  intro hno h4 h5 k4 k5;have k05:Keeps [] h h5:=(k03.trans k4).new1 k5 (by omega);unfold eH;rw [if_neg hno];exact ⟨k05.mono (by simp),rfl,A.on k05⟩
 (conv=>whnf);(try refine aV.pass ?_;conv=>whnf);refine aj.i (λhc=>?_) (λhc=>?_)
 ·have hb:0<=node/\node<24:=Classical.byContradiction λhb=>by rw [if_neg hb] at hc;simp [dJ,dm] at hc
  rw [if_pos hb] at hc;rw [if_pos hb];have h21:n=21:=by simp [dJ,dm] at hc;omega
  subst h21;(conv=>whnf);refine ak.i (Es 204 iB (.inr ⟨rfl,rfl⟩) (S.keep k03) (by decide)) λv h4 k4 hv=>?_;subst hv;have k04:=k03.trans k4;have z4:=k4.size;(conv=>whnf);refine aj.i (λhd=>?_) (λhd=>?_)
  ·have ho:m.any iB=true:=by simpa [dJ,dm] using hd
   (conv=>whnf);refine aj.t rfl ?_;(conv=>whnf);refine aK.i λh5 s5 k5=>?_;(conv=>whnf);exact bad (λx=>by rw [ho] at x;exact absurd x.2.2 (by decide)) h4 h5 k4 k5
  ·have ho:m.any iB=false:=by simpa [dJ,dm] using hd
   have Et:(0<=node/\node<24)/\m.length=21/\m.any iB=false:=⟨hb,hl.symm,ho⟩;have bH:∀ x∈m,-1<=x/\x<96:=by
    intro x hx;have:=List.any_eq_false.1 ho x hx;simp [iB] at this;omega
   obtain ⟨xb,xo,rfl⟩:=S.rX (by decide);have o14:=(k2.trans (k3.trans k4)).obj o1 (by simp);have Sm:=S.keep k04;(conv=>whnf);refine aj.f rfl ?_;(conv=>whnf);refine gJ.i (v:=.slice (some ⟨b1,4,none⟩) 5 5) (λw=>rfl) ?_;(conv=>whnf);refine aW.copy (sz:=1) (new:=(m.take 5).map λx=>.int .i64 x) rfl rfl rfl o14 (by simp [hl.symm]) (λj hj=>?_) (Eu _) ?_ ?_ λh5 s5 o5 k5=>?_
   ·have hj5:j<5:=by simp [hl.symm] at hj;exact hj
    rw [Sm.cells1 j (by simp [hl.symm];omega)];have hjm:j<m.length:=by omega
    simp [One.val,List.getElem?_take,hj5]
   ·show 4+((m.take 5).map λx=>Value.int .i64 x).length<=10;simp [hl.symm]
   ·intro hx;have hx2:b1∈[b2]:=hx;simp at hx2;omega
   have hb1:b1<h5.size:=eU o5;have k05:Keeps [] h h5:=k04.new1 k5 (by omega);have yx:h5[b1]?=some (.cells ⟨(j6 c m).cells⟩ 67 (0,0)):=by
    rw [o5];obtain ⟨a,b,c',d,e,r,rfl,_⟩:=take5 hl.symm;rfl
   clear o5;have Sp:=(S.keep k05).part (l:=5) (r:=21) (by decide) (Nat.le_refl _);rw [List.take_of_length_le (by omega)] at Sp;have hcap:=S.hcap;(conv=>whnf);refine dw.i 5 21 rfl rfl (by decide) hcap ?_;(conv=>whnf);refine ak.i (Es 133 eO (.inl ⟨rfl,rfl⟩) Sp (by decide)) λv h6 k6 hv=>?_;subst hv;have k06:=k05.trans k6;have o6:=k6.obj yx (by simp);(conv=>whnf);(try refine aV.pass ?_;conv=>whnf);refine aj.i (λhu=>?_) (λhu=>?_)
   ·have hu':(m.drop 5).any eO=false:=by simpa using hu
    have hP:eH M.read X node c m=(if c.more = -1 then ({ j6 c m with more := -1 },0,X)
     else if (fQ X c.more).1=0 then ({ j6 c m with more := -1 },0,(fQ X c.more).2) else (aA.zero,(fQ X c.more).1,(fQ X c.more).2)):=by
     unfold eH;rw [if_pos Et,if_pos hu']
    rw [hP];have hob1:V.ob≠b1:=by omega
    (conv=>whnf);(try refine aV.pass ?_;conv=>whnf);refine ax.o o6 rfl ?_;(conv=>whnf);refine ak.i (vV _ h6) λv h7 k7 hv=>?_;subst hv;have k07:=k06.trans k7;have o7:=k7.obj o6 (by simp);have z7:=(k6.trans k7).size;have fin:∀ (X':VS) (h8:Heap),Keeps [V.ob] h h8->At h8 V M X'->h7.size<=h8.size->h8[b1]?=some (.cells ⟨(j6 c m).cells⟩ 67 (0,0))->∀ h9,h9.size=h8.size->Keeps [b1] h8 h9->∀ h10,h10.size=h9.size->Keeps [b2] h9 h10->Keeps [V.ob] h h10/\At h10 V M X':=by
     intro X' h8 k8 A8 z8 o8 h9 s9 k9 h10 s10 k10;have nv:∀ b∈V.blocks,b≠b1/\b≠b2:=λb hb=>by have:=A.blt b hb;omega
     exact ⟨(k8.m1 k9 (by omega)).m1 k10 (by omega),(A8.keep k9 (λb hb=>by simpa using (nv b hb).1)).keep k10 (λb hb=>by simpa using (nv b hb).2)⟩
    (conv=>whnf);(try refine aV.pass ?_;conv=>whnf);refine aj.i (λhq=>?_) (λhq=>?_)
    ·have hm:¬ c.more = -1:=jE.1 hq;rw [if_neg hm];(conv=>whnf);refine ax.o o7 rfl ?_;(conv=>whnf);refine ak.m (En (A.on k07) _) (by intro b hb hx;have hb2:b∈[b2]:=hb;simp at hb2 hx;omega) λv h8 k8 hv=>?_;obtain ⟨rfl,A8⟩:=hv;have e8:(j6 c m).more=c.more:=rfl;rw [e8] at A8;have k08:Keeps [V.ob] h h8:=(k07.mono (by simp)).trans k8;have o8:=k8.obj o7 (by simpa using hob1.symm);(conv=>whnf);(try refine aV.pass ?_;conv=>whnf);refine aj.i (λhr=>?_) (λhr=>?_)
     all_goals rw [e8] at hr
     ·have hd0:¬ (fQ X c.more).1=0:=by simpa using hr
      rw [if_neg hd0];(conv=>whnf);refine aK.i λh9 s9 k9=>?_;(conv=>whnf);have nv:∀ b∈V.blocks,b≠b1/\b≠b2:=λb hb=>by have:=A.blt b hb;omega
      exact ⟨k08.m1 k9 (by omega),rfl,A8.keep k9 (λb hb=>by simpa using (nv b hb).2)⟩
     ·have hd0:(fQ X c.more).1=0:=by simpa using hr
      rw [if_pos hd0];(conv=>whnf);refine dN.i o8 (Nat.le_of_ble_eq_true rfl) (by intro hx;have hx2:b1∈[b2]:=hx;simp at hx2;omega) λh9 s9 o9 k9=>?_;(conv=>whnf);refine fq.o o9 rfl ?_;(conv=>whnf);refine aK.i λh10 s10 k10=>?_;(conv=>whnf);obtain ⟨q1,q2⟩:=fin _ h8 k08 A8 k8.size o8 h9 s9 k9 h10 s10 k10;exact ⟨q1,rfl,q2⟩
    ·have hm:c.more = -1:=AQ.1 hq;rw [if_pos hm];(conv=>whnf);(try refine aV.pass ?_;conv=>whnf);refine aj.f rfl ?_;(conv=>whnf);refine dN.i o7 (Nat.le_of_ble_eq_true rfl) (by intro hx;have hx2:b1∈[b2]:=hx;simp at hx2;omega) λh9 s9 o9 k9=>?_;(conv=>whnf);refine fq.o o9 rfl ?_;(conv=>whnf);refine aK.i λh10 s10 k10=>?_;(conv=>whnf);obtain ⟨q1,q2⟩:=fin _ h7 (k07.mono (by simp)) (A.on k07) (Nat.le_refl _) o7 h9 s9 k9 h10 s10 k10;exact ⟨q1,rfl,q2⟩
   ·have hu':¬ (m.drop 5).any eO=false:=by rw [show (m.drop 5).any eO=true by simpa using hu];decide
    have hP:∀ (k:Int) (X1:VS),(if c.more = -1 then bL M.read X node else (c.more,0,X))=(k,0,X1)->eH M.read X node c m=({ j6 c m with more:=k },(if 0<=k/\k<96 then 0 else 1),if 0<=k/\k<96 then { X1 with now:=bZ X1.now k ((m.drop 5).map λn=>w64 (n+1)) } else X1):=by
     intro k X1 he;unfold eH;rw [if_pos Et,if_neg hu'];simp only [he,if_true]
    have hob1:V.ob≠b1:=by omega
    have hob2:V.ob≠b2:=by omega
    have nb2:∀ b∈au [(8,b2,aA.zero.cells)],b∉[V.ob]:=by intro b hb hx;have hb2:b∈[b2]:=hb;simp at hb2 hx;omega
    have nv:∀ b∈V.blocks,b≠b1/\b≠b2:=λb hb=>by have:=A.blt b hb;omega
    (conv=>whnf);(try refine aV.pass ?_;conv=>whnf);refine ax.o o6 rfl ?_;(conv=>whnf);refine ak.i (vV _ h6) λv h7 k7 hv=>?_;subst hv;have k07:=k06.trans k7;have o7:=k7.obj o6 (by simp);have z7:=(k6.trans k7).size;(conv=>whnf);(try refine aV.pass ?_;conv=>whnf);refine aj.i ?ca ?cb
    case' ca=>
     intro hq;have hm:c.more = -1:=AQ.1 (Kb hq);(conv=>whnf);refine ak.m (DV (A.on k07) node) nb2 λv hy ky hv=>?_;obtain ⟨rfl,Ay⟩:=hv;have oy:=ky.obj o7 (by simpa using hob1.symm);(conv=>whnf);refine dN.i oy (Nat.le_of_ble_eq_true rfl) (by intro hx;have hx2:b1∈[b2]:=hx;simp at hx2;omega) λhx sx ox kx=>?_;have Ax:=Ay.keep kx (λb hb=>by simpa using (nv b hb).1);have zy:=ky.size;have qW:Keeps [V.ob] h hx:=((k07.mono (by simp)).trans ky).m1 kx (by omega);(conv=>whnf);refine aj.i (λhr=>?_) (λhr=>?_)
     ·have ht:¬ (bL M.read X node).2.1=0:=by simpa using hr
      (conv=>whnf);refine aK.i λh9 s9 k9=>?_;(conv=>whnf);have:eH M.read X node c m=(aA.zero,(bL M.read X node).2.1,(bL M.read X node).2.2):=by
       unfold eH;rw [if_pos Et,if_neg hu',if_pos hm];simp only [if_neg ht]
      rw [this];exact ⟨qW.m1 k9 (by omega),rfl,Ax.keep k9 (λb hb=>by simpa using (nv b hb).2)⟩
     have ht:(bL M.read X node).2.1=0:=by simpa using hr
     have hPx:=hP (bL M.read X node).1 (bL M.read X node).2.2 (by rw [if_pos hm,<-ht]);have zz:b2<hx.size/\h.size<=hx.size:=⟨by omega,by omega⟩;have yA:hx[b1]?=some (.cells ⟨({ j6 c m with more:=(bL M.read X node).1 }:aA).cells⟩ 67 (0,0)):=ox;clear oy ox hr hq ht kx sx ky Ay zy;rw [hPx];clear hPx;generalize (bL M.read X node).1=k,(bL M.read X node).2.2=X1 at yA Ax ⊢
    case' cb=>
     intro hq;have hm:¬ c.more = -1:=jE.1 (Kg hq);have hPx:=hP c.more X (by rw [if_neg hm]);have Ax:=A.on k07;have qW:Keeps [V.ob] h h7:=k07.mono (by simp);have zz:b2<h7.size/\h.size<=h7.size:=⟨by omega,by omega⟩;have yA:h7[b1]?=some (.cells ⟨({ j6 c m with more:=c.more }:aA).cells⟩ 67 (0,0)):=o7;rw [hPx];clear hPx hq;obtain ⟨X1,hX1⟩:∃ X1,X1=X:=⟨_,rfl⟩;rw [<-hX1] at Ax ⊢;obtain ⟨hx,hhx⟩:∃ hx,hx=h7:=⟨_,rfl⟩;rw [<-hhx] at Ax qW yA zz ⊢;obtain ⟨k,hk⟩:∃ k,k=c.more:=⟨_,rfl⟩;rw [<-hk] at yA ⊢
    all_goals
     have Sx:=S.je qW (λb hb hx=>by simp at hx;exact (hs rfl) (hx ▸ hb));have Sq:=Sx.part (l:=5) (r:=21) (by decide) (Nat.le_refl _);rw [List.take_of_length_le (by omega)] at Sq;have hml:(m.drop 5).length=16:=by simp;omega
     (conv=>whnf);refine dw.i 5 21 rfl rfl (by decide) hcap ?_;(conv=>whnf);refine bP.on [0,6,8,11,69,70,71] [8] (λq:Nat×Option Addr×Nat=>[(0,.v (.pointer (some ⟨V.v,0,none⟩))),(6,.v (.pointer (some ⟨b1,0,none⟩))),(8,.lp 8 0),(11,.v (.slice q.2.1 q.1 q.2.2)),(69,.v (.slice (jh (some ⟨xb,xo,none⟩) cap 5 1) 16 (cap-5))),(70,.v (.int .i64 16)),(71,.v (.int .i64 (q.1:Int)))])
      (λ_=>[(8,b2,aA.zero.cells)]) (λq h'=>q.1<=16/\Keeps [] hx h'/\Own h' 46 1 q.2.1 q.1 q.2.2 ((((m.drop 5).take q.1).map λn=>w64 (n+1)).map wv)/\∀ b∈ay q.2.1,hx.size<=b) (λq=>16-q.1) (0,none,0) ?_ ?_
     ·(conv=>whnf);exact ⟨(0,none,0),rfl,rfl,rfl,by decide,Keeps.refl _ _,.inl ⟨rfl,rfl,rfl,rfl⟩,by simp [ay]⟩
     ·rintro ⟨i,a,ca⟩ h8 ⟨hi,k8,O8,n8⟩;simp only at hi O8 n8;(conv=>whnf);refine aj.i (λhc=>?_) (λhc=>?_)
      ·have hi1:i<(m.drop 5).length:=by simp at hc;omega
       obtain ⟨yb,yo,hy,YV,hcell⟩:=(Sq.keep k8).at1 i hi1;have hr:=bH (m.drop 5)[i] (List.mem_of_mem_drop (List.getElem_mem hi1));(conv=>whnf);refine aX.i i rfl (by omega) hy ?_;(conv=>whnf);refine ax.i hcell ?_;(conv=>whnf);refine aL.i λb9 h9 e9 s9 o9 k9=>?_;(conv=>whnf);have ev:Value.int .u64 (IntKind.u64.wrap (IntKind.i64.wrap ((m.drop 5)[i]+1)))=wv (w64 ((m.drop 5)[i]+1)):=by
        rw [dR (x:=(m.drop 5)[i]+1) (by omega) (by omega),Ar]
       rw [ev] at o9 ⊢;have z8:=k8.size;refine jO (e:=46) (sz:=1) (aQ:=8) (new:=[wv (w64 ((m.drop 5)[i]+1))]) rfl rfl rfl rfl rfl rfl rfl (O8.keep k9 (by simp)) rfl (λj hj=>?_) rfl (by omega) (by decide) (λb hb hx2=>?_) ?_
       ·have hj0:j=0:=by simpa using hj
        subst hj0;simp only [Heap.cell?,o9];rfl
       ·have hb2:b∈[b2]:=hx2;have:=n8 b hb;simp at hb2;omega
       intro a10 c10 h10 O10 k10 n10;(conv=>whnf);refine ⟨16-(i+1),by omega,?_⟩;(conv=>whnf);refine ⟨(i+1,a10,c10),rfl,by rw [wrapN (x:=(i:Int)+1) (n:=i+1) (by simp) (by omega)],rfl,by simp only;omega,(k8.trans k9).cZ k10 n8,?_,λb hb=>?_⟩
       ·simp only;rw [List.take_succ_eq_append_getElem hi1,List.map_append,List.map_append];exact O10
       ·rcases n10 b hb with h|h
        ·exact n8 b h
        ·omega
      ·have hi1:i=16:=by simp at hc;omega
       subst hi1;rw [List.take_of_length_le (by omega)] at O8;have SL:=O8.sl (xM h8 _) rfl (by decide) (by simp;omega);have z8:=k8.size;have o8:=k8.obj yA (by simp);have hsl:V.ob∉ay a:=λhb=>by have:=n8 _ hb;omega
       have fin:∀ h9 h10:Heap,Keeps [V.ob] h8 h9->At h9 V M (if 0<=k/\k<96/\16<=16 then { X1 with now:=bZ X1.now k ((m.drop 5).map λn=>w64 (n+1)) } else X1)->Keeps [b2] h9 h10 ->
        Keeps [V.ob] h h10/\Value.tuple #[.agg ⟨({ j6 c m with more:=k }:aA).cells⟩,.int .i64 (if 0<=k/\k<96/\16<=16 then 0 else 1)]=.tuple #[.agg ⟨({ j6 c m with more:=k }:aA).cells⟩,.int .i64 (if 0<=k/\k<96 then 0 else 1)]/\At h10 V M (if 0<=k/\k<96 then { X1 with now:=bZ X1.now k ((m.drop 5).map λn=>w64 (n+1)) } else X1):=by
        intro h9 h10 k9 A9 k10;have hk:(0<=k/\k<96/\16<=16)↔(0<=k/\k<96):=⟨λh=>⟨h.1,h.2.1⟩,λh=>⟨h.1,h.2,Nat.le_refl _⟩⟩;simp only [hk] at A9 ⊢;exact ⟨((qW.trans (k8.mono (by simp))).trans k9).m1 k10 (by omega),trivial,A9.keep k10 (λb hb=>by simpa using (nv b hb).2)⟩
       (conv=>whnf);refine ax.o o8 rfl ?_;(conv=>whnf);refine gI.i ?_ ?_
       ·(conv=>whnf);refine fq.o o8 rfl ?_;(conv=>whnf);refine ak.m (xP (Ax.on k8) k SL hsl) nb2 λv h9 k9 hv=>?_;obtain ⟨rfl,A9⟩:=hv;(conv=>whnf);refine aK.i λh10 s10 k10=>?_;(conv=>whnf);exact fin h9 h10 k9 A9 k10
       ·(conv=>whnf);refine ak.m (xP (Ax.on k8) k SL hsl) nb2 λv h9 k9 hv=>?_;obtain ⟨rfl,A9⟩:=hv;(conv=>whnf);refine fq.o (k9.obj o8 (by simpa using hob1.symm)) rfl ?_;(conv=>whnf);refine aK.i λh10 s10 k10=>?_;(conv=>whnf);exact fin h9 h10 k9 A9 k10
 ·have hno:¬ ((0<=node/\node<24)/\m.length=21/\m.any iB=false):=by
   rintro ⟨h1,h2,_⟩;rw [if_pos h1] at hc;simp [dJ,dm] at hc;omega
  (conv=>whnf);refine aj.i (λhd=>?_) (λhd=>?_)
  ·(conv=>whnf);refine aj.t rfl ?_;(conv=>whnf);refine aK.i λh4 s4 k4=>?_;(conv=>whnf);exact bad hno h3 h4 (Keeps.refl _ _) k4
  ·have hb:¬ (0<=node/\node<24):=λhb=>by
    rw [if_pos hb] at hc hd;simp [dJ,dm] at hc hd;omega
   rw [if_neg hb];(conv=>whnf);refine aj.t rfl ?_;(conv=>whnf);refine aK.i λh4 s4 k4=>?_;(conv=>whnf);exact bad hno h3 h4 (Keeps.refl _ _) k4
def iC (now:Int->UInt64)(m:List Int):List UInt8:=m.flatMap (dD now)
theorem AX {now:Int->UInt64}:∀ m:List Int,(iC now m).length=128*m.length
 | []=>rfl
 | x::m=>by
  have:=AX (now:=now) m;simp only [iC,List.flatMap_cons,List.length_append,kZ,List.length_cons] at this ⊢;omega
theorem Kh {now:Int->UInt64}(m:List Int)(i:Nat):(iC now m).take (128*i)=iC now (m.take i):=by
 induction m generalizing i with
 | nil=>simp [iC]
 | cons x m ih=>
  cases i with
  | zero=>simp [iC]
  | succ i=>
   have:=ih i;simp only [iC,List.flatMap_cons,List.take_succ_cons] at this ⊢;rw [List.take_append,kZ,show 128*(i+1)-128=128*i by omega,this,List.take_of_length_le (by rw [kZ];omega)]
theorem Sb {now:Int->UInt64}(m:List Int)(i:Nat)(hi:i<m.length):(iC now m).take (128*(i+1))=(iC now m).take (128*i)++dD now m[i]:=by
 rw [Kh,Kh,List.take_succ_eq_append_getElem hi];unfold iC;rw [List.flatMap_append,List.flatMap_singleton]
def nP (now:Int->UInt64)(m:List Int)(at_ end_ i:Nat):List UInt8:=((iC now m).take (min (128*i) end_)).drop at_
theorem Sc {now:Int->UInt64}(m:List Int)(a e i:Nat)(hi:i<m.length)(h1:128*i<e)(h2:a<128*i+128)(h3:a<=e) :
 nP now m a e (i+1)=nP now m a e i++((dD now m[i]).take (min (e-128*i) 128)).drop (a-128*i):=by
 unfold nP;have hl:=AX (now:=now) m;have e1:(iC now m).take (min (128*(i+1)) e)=(iC now m).take (128*i)++(dD now m[i]).take (min (e-128*i) 128):=by
  have:(iC now m).take (min (128*(i+1)) e)=((iC now m).take (128*(i+1))).take (min (128*(i+1)) e):=by
   rw [List.take_take];congr 1;omega
  rw [this,Sb m i hi,List.take_append];have h4:((iC now m).take (128*i)).length=128*i:=by rw [List.length_take,hl];omega
  rw [h4,List.take_of_length_le (by rw [h4];omega)]
  congr 2;omega
 rw [e1,show min (128*i) e=128*i by omega,List.drop_append]
 congr 2
 rw [List.length_take,hl];omega
theorem Sd {now:Int->UInt64}(m:List Int)(a e i:Nat)(h2:128*i+128<=a):nP now m a e (i+1)=nP now m a e i:=by
 unfold nP;rw [List.drop_eq_nil_of_le (by rw [List.length_take];omega),List.drop_eq_nil_of_le (by rw [List.length_take];omega)]
def mO (now:Int->UInt64)(c:aA):Prop:=∀ m,mapOf now c=some m->∀ x∈m,x = -1\/(0<=x/\x<96)
def oZ (now:Int->UInt64)(c:aA)(at_ n:Int):List UInt8×Int:=
 if at_<0\/n<0\/4096<n then ([],1)
 else match mapOf now c with
  | none=>([],15)
  | some m=>if c.size<=at_ then ([],0) else (((iC now m).take (min c.size (at_+n)).toNat).drop at_.toNat,0)
theorem Ba {h:Heap}{V:VL}{M:aS}{X:VS}(A:At h V M X)(c:aA)(hc:c.ok)(hsz:0<=c.size/\c.size<=2688)(hm:mO X.now c)(at_ n:Int) :
 aC Tryz.prog 66 [.pointer (some ⟨V.v,0,none⟩),.agg ⟨c.cells⟩,.int .i64 at_,.int .i64 n] h (λv h'=>Keeps [] h h'/\v=.tuple #[.string ⟨(oZ X.now c at_ n).1.toArray⟩,.int .i64 (oZ X.now c at_ n).2]):=by
 refine aG aH Tryz.func66 rfl ok66 (by simp [Tryz.f66]) ?_;(conv=>whnf);refine aL.i λb1 h1 e1 s1 o1 k1=>?_;(conv=>whnf);(try refine aV.pass ?_;conv=>whnf);refine aj.i (λhq=>?_) (λhq=>?_)
 ·(conv=>whnf);have:at_<0\/n<0\/4096<n:=by
   simp [dm] at hq;omega
  refine ⟨k1,?_⟩;unfold oZ;rw [if_pos this]
 ·have hno:¬ (at_<0\/n<0\/4096<n):=by
   simp [dm] at hq;omega
  have hP:oZ X.now c at_ n=match mapOf X.now c with
   | none=>([],1*15)
   | some m=>if c.size<=at_ then ([],0) else (((iC X.now m).take (min c.size (at_+n)).toNat).drop at_.toNat,0):=by
   unfold oZ;rw [if_neg hno];rfl
  rw [hP];clear hP;(conv=>whnf);refine ak.i (xV (A.on k1) c hc) λv h2 k2 hv=>?_;have k02:=k1.trans k2;cases hmo:mapOf X.now c with
  | none=>
   rw [hmo] at hv;simp only at hv;subst hv;(conv=>whnf);refine aj.t rfl ?_;(conv=>whnf);exact ⟨k02,rfl⟩
  | some m=>
   rw [hmo] at hv;simp only at hv;obtain ⟨b,cap,sp,rfl,I2,hb,hcap⟩:=hv;have hml:=vL hmo;have hmr:=hm m hmo;(conv=>whnf);refine aj.i (λhr=>?_) (λhr=>?_)
   ·have:c.size<=at_:=by simpa [dm] using hr
    (conv=>whnf);simp only;rw [if_pos this];exact ⟨k02,rfl⟩
   ·have hs:¬ c.size<=at_:=by simp [dm] at hr;omega
    simp only;rw [if_neg hs];obtain ⟨a,rfl⟩:∃ a:Nat,at_=(a:Int):=⟨at_.toNat,by omega⟩;obtain ⟨z,hz⟩:∃ z:Nat,c.size=(z:Int):=⟨c.size.toNat,by omega⟩;obtain ⟨r,rfl⟩:∃ r:Nat,n=(r:Int):=⟨n.toNat,by omega⟩;rw [hz] at hs hsz;generalize hE:min z (a+r)=e;have he:(if IntKind.i64.wrap ((a:Int)+(r:Int))<(z:Int) then IntKind.i64.wrap ((a:Int)+(r:Int)) else (z:Int))=(e:Int):=by
     rw [wrapN (x:=(a:Int)+(r:Int)) (n:=a+r) (by simp) (by omega)];split <;> omega
    have hE2:(min c.size ((a:Int)+(r:Int))).toNat=e:=by rw [hz];omega
    rw [hE2,show ((a:Int)).toNat=a by omega];have hae:a<=e:=by omega
    have YU:e<=2688:=by omega
    (conv=>whnf);rw [hz,he];refine aL.i λb3 h3 e3 s3 o3 k3=>?_;have B3:iI h3 b3 none none 0 0 []:=⟨o3,.inl ⟨rfl,rfl,rfl,rfl⟩,by simp [ay],.inl rfl⟩;have z2:=k02.size;(conv=>whnf);refine aV.pass ?_;(conv=>whnf);refine bP.on [0,2,12,13,54,55,56] [] (λi:Nat=>[(0,.v (.pointer (some ⟨V.v,0,none⟩))),(2,.v (.int .i64 (a:Int))),(12,.v (.int .i64 (e:Int))),(13,.v (.pointer (some ⟨b3,0,none⟩))),(54,.v (.slice (some ⟨b,0,none⟩) 21 cap)),(55,.v (.int .i64 21)),(56,.v (.int .i64 (i:Int)))]) (λ_=>[])
     (λi h'=>i<=21/\Keeps [] h h'/\h3.size<=h'.size/\fD h' b m sp/\∃ p ba bn bc,iI h' b3 p ba bn bc (nP X.now m a e i)/\∀ x∈ay ba,h3.size<=x) (λi=>21-i) 0 ?_ ?_
    ·(conv=>whnf);exact ⟨0,rfl,rfl,rfl,by decide,k02.trans k3,Nat.le_refl _,k3.obj I2 (by simp),none,none,0,0,by simpa [nP] using B3,by simp [ay]⟩
    ·rintro i h4 ⟨hi,k4,z4,I4,p,ba,bn,bc,B4,nb4⟩;have hbl:b<h2.size:=eU I2;have Ki:∀ j,(nP X.now m a e j).length<=2688:=by
      intro j;unfold nP;rw [List.length_drop,List.length_take,AX];omega
     have Kj:∀ h5:Heap,Keeps [] h4 h5->(nP X.now m a e i=((iC X.now m).take e).drop a)->aC Tryz.prog 115 [.pointer (some ⟨b3,0,none⟩)] h5 (λv h'=>Keeps (ay ba) h5 h'/\v=.string ⟨(((iC X.now m).take e).drop a).toArray⟩):=by
      intro h5 k5 hr;rw [<-hr];exact aC.mono (Bb (B4.on k5) (by have:=Ki i;omega)) λv h' hh=>⟨hh.1,hh.2.1⟩
     (conv=>whnf);refine aj.i (λhx=>?_) (λhx=>?_)
     ·have hi1:i<m.length:=by simp at hx;omega
      (conv=>whnf);(try refine aV.pass ?_;conv=>whnf);refine aX.i i rfl (by omega) rfl ?_;(conv=>whnf);refine ax.i (I4.nth hi1) ?_;have ew:IntKind.i64.wrap ((i:Int)*128)=((128*i:Nat):Int):=wrapN (by omega) (by omega);(conv=>whnf);rw [ew];refine aj.i (λhy=>?_) (λhy=>?_)
      ·have hge:e<=128*i:=by simp at hy;omega
       (conv=>whnf);refine ak.m (Kj h4 (Keeps.refl _ _) (by unfold nP;rw [show min (128*i) e=e by omega])) (by simp [au]) λv h5 k5 hv=>?_;subst hv;(conv=>whnf);exact ⟨k4.cZ k5 (λx hx=>by have:=nb4 x hx;omega),rfl⟩
      ·have hlt:128*i<e:=by simp at hy;omega
       have ew2:IntKind.i64.wrap (((128*i:Nat):Int)+128)=((128*i+128:Nat):Int):=wrapN (by omega) (by omega);(conv=>whnf);rw [ew2];refine aj.i (λhw=>?_) (λhw=>?_)
       ·have hle:128*i+128<=a:=by simp at hw;omega
        (conv=>whnf);refine ⟨21-(i+1),by omega,?_⟩;(conv=>whnf);refine ⟨i+1,rfl,by rw [wrapN (x:=(i:Int)+1) (n:=i+1) (by simp) (by omega)],rfl,by omega,k4,z4,I4,p,ba,bn,bc,?_,nb4⟩;rw [Sd m a e i hle];exact B4
       ·have hle:a<128*i+128:=by simp at hw;omega
        (conv=>whnf);refine ak.i (Eo (A.on k4) m[i]) λv h5 k5 hv=>?_;rw [if_pos (hmr _ (List.getElem_mem hi1))] at hv;subst hv;(conv=>whnf);refine aj.f rfl ?_;have el:(if (0:Int)>IntKind.i64.wrap ((a:Int)-((128*i:Nat):Int)) then (0:Int) else IntKind.i64.wrap ((a:Int)-((128*i:Nat):Int)))=((a-128*i:Nat):Int):=by
         rw [dR (x:=(a:Int)-((128*i:Nat):Int)) (by omega) (by omega)];split <;> omega
        have er:(if (128:Int)<IntKind.i64.wrap ((e:Int)-((128*i:Nat):Int)) then (128:Int) else IntKind.i64.wrap ((e:Int)-((128*i:Nat):Int)))=((min (e-128*i) 128:Nat):Int):=by
         rw [dR (x:=(e:Int)-((128*i:Nat):Int)) (by omega) (by omega)];split <;> omega
        have Kk:(ByteArray.mk (dD X.now m[i]).toArray).size=128:=by
         show (dD X.now m[i]).toArray.size=128;simp [kZ]
        (conv=>whnf);refine dw.i (a-128*i) (min (e-128*i) 128) el er (by omega) (by rw [Kk];omega) ?_;have hx1:(ByteArray.extract ⟨(dD X.now m[i]).toArray⟩ (a-128*i) (min (e-128*i) 128)).data.toList=((dD X.now m[i]).take (min (e-128*i) 128)).drop (a-128*i):=by
         rw [ByteArray.data_extract];simp [List.drop_take]
        have hx2:(ByteArray.extract ⟨(dD X.now m[i]).toArray⟩ (a-128*i) (min (e-128*i) 128)).size<=128:=by
         rw [ByteArray.size_extract,Kk];omega
        have hbn:=(B4.buf.len).1;(conv=>whnf);refine ak.m (vW (B4.on k5) _ (by have:=Ki i;omega)) (by simp [au]) λv h6 k6 hv=>?_;obtain ⟨rfl,a6,c6,B6,n6,_⟩:=hv;rw [hx1,<-Sc m a e i hi1 hlt hle hae] at B6;(conv=>whnf);refine ⟨21-(i+1),by omega,?_⟩;(conv=>whnf);have z5:=k5.size;have z6:=k6.size;refine ⟨i+1,rfl,by rw [wrapN (x:=(i:Int)+1) (n:=i+1) (by simp) (by omega)],rfl,by omega,(k4.trans k5).cZ k6 (λx hx=>?_),by omega,?_,_,_,_,_,B6,λx hx=>?_⟩
        ·simp only [List.mem_cons] at hx;rcases hx with rfl|hx
         ·omega
         ·have:=nb4 x hx;omega
        ·refine k6.obj (k5.obj I4 (by simp)) (λhx=>?_);simp only [List.mem_cons] at hx;rcases hx with hx|hx
         ·omega
         ·have:=nb4 b hx;omega
        ·rcases n6 x hx with h|h
         ·exact nb4 x h
         ·omega
     ·have hi1:i=21:=by simp at hx;omega
      subst hi1;(conv=>whnf);refine ak.m (Kj h4 (Keeps.refl _ _) (by unfold nP;rw [show min (128*21) e=e by omega])) (by simp [au]) λv h5 k5 hv=>?_;subst hv;(conv=>whnf);exact ⟨k4.cZ k5 (λx hx=>by have:=nb4 x hx;omega),rfl⟩
end Go.Proofs.YtoociceebodfeaaGreatDoor
