/-
  Joined texts: WldB, EntB, MemB, MemC, LayA, LayB, LaiZ, BegA, NewT, BegB, LivA, LivB, WlkA, WlkB, RenA, CalH, CalI, CalK, PlyC, PlyD, AnyA, AnyB.
-/
import Derived.Test.YtoociceebodfeaaGreatDoorJLawCRenamej
import Derived.Test.YtoociceebodfeaaGreatDoorJLawCRenameh
import Derived.Test.YtoociceebodfeaaGreatDoorJLawCRenameg
import Derived.Test.YtoociceebodfeaaGreatDoorJLawCRenamei
import Derived.Test.YtoociceebodfeaaGreatDoorJLawCRenamee
import Derived.Test.YtoociceebodfeaaGreatDoorJLawCRenamem
import Derived.Test.YtoociceebodfeaaGreatDoorJLawCRenamel
import Derived.Test.YtoociceebodfeaaGreatDoorJLawCRenamek
import Derived.Test.YtoociceebodfeaaGreatDoorRows
set_option linter.all false
set_option maxRecDepth 100000
set_option maxHeartbeats 8000000
namespace Go.Proofs.YtoociceebodfeaaGreatDoor
open Go Go.aN
def Oe (f:jo):List UInt8:=if kindOf f=2 then [] else f.data.take 130
def CO (T:List aD)(num:List Int)(f:jo)(T':List aD)(num':List Int):Prop:=
 (T'=T/\num'=num) \/
 ∃ n,2<=n/\n<24/\(∀ i,inT T i->nu num i≠n)/\(∀ k,2<=k->k<n->∃ i,inT T i/\nu num i=k) /\
  T'=mG T (vo f T.length) (bD (tn T (vo f T.length)).names ⟨f.name,(T.length:Int)⟩)++[⟨n,kindOf f,1,Oe f,[]⟩]/\num'=num++[n]
def Od (T:List aD)(f:jo):Prop:=(tn T (vo f T.length)).kind=2/\dI f.name=true/\dA (tn T (vo f T.length)).names f.name=false/\(tn T (vo f T.length)).names.length<10
end Go.Proofs.YtoociceebodfeaaGreatDoor
namespace Go.aN
theorem wX {α β:Type}(f:α->β):∀ (l:List α) (j:Nat),(l.map f).eraseIdx j=(l.eraseIdx j).map f
 | [],_=>rfl
 | _::_,0=>rfl
 | x::l,j+1=>by simp [wX f l j]
theorem aW.del {P:Program}{T kT eT Yn ty:TypeId}(hu:P.underlying T=some (.map kT eT))(hk:P.underlying kT=some (.int .i64)){h:Heap}{r:Nat}{m:List (Int×Value)}(o:dF h r m){n:Int}(hn:gT m n≠none){bs:List Nat}(hb:r∉bs)
 {K:Value->Heap->Prop} (H:∀ h' j,j<m.length->(m[j]?).map (·.1)=some n->h'.size=h.size->dF h' r (m.eraseIdx j)->Keeps [r] h h'->K (.tuple #[]) h'):aW P (Builtin.delete_ #[T,Yn] ty ⟨[.map (some r),.int .i64 n]⟩) bs h K:=by
 unfold aW;intro hlt w hw;subst hw;have hr:=o.lt;obtain ⟨es,cl,h1,h2,h3,h4,h5⟩:=o;obtain ⟨q,h6,h7,h8⟩:=vP es.toList m n 0 h2;obtain ⟨p,rfl⟩:∃ p,q=some p:=by
  cases q with
  | none=>exact absurd (by simpa using h7.symm) hn
  | some p=>exact ⟨p,rfl⟩
 obtain ⟨j,hj1,hj2,hj3⟩:=h8 p rfl;have hj:p.1=j:=by omega
 have hjl:j<es.size:=by simpa using hj2
 have hml:m.length=es.size:=by
  have:=congrArg List.length h2;simpa using this.symm
 have hel:(es.eraseIdxIfInBounds j).toList=es.toList.eraseIdx j:=by
  rw [Array.eraseIdxIfInBounds,dif_pos hjl,Array.toList_eraseIdx]
 refine ⟨.tuple #[],{ w with heap:=w.heap.setIfInBounds r (.map (es.eraseIdxIfInBounds j) cl) },?_,⟨rfl,rfl,rfl⟩,λb hb'=>?_,H _ j (by omega) hj3 (by simp) ⟨es.eraseIdxIfInBounds j,cl,by rw [ku _ _ _ _ hr,if_pos rfl],?_,?_,?_,?_⟩ (sj _ _ _ hr)⟩
 ·simp only [Builtin.delete_,Sem.run_bind,dK P T w hu,Result.andThen_ok,qN h1,List.getElem?_toArray,List.getElem?_cons_zero,List.getElem?_cons_succ];rw [uj hk (.inl ⟨_,rfl⟩)];simp only [Result.andThen_ok,uh hk h6 w,hj,Sem.run_bind,r9 h1,Sem.run_pure]
 ·show (w.heap.setIfInBounds r _)[b]?=_;rw [ku _ _ _ _ hr,if_neg (by intro e;subst e;exact hb hb')]
 ·rw [hel,<-wX,h2,wX]
 ·rw [<-wX];exact h3.sublist (List.eraseIdx_sublist _ _)
 ·rw [hel,<-wX];exact h4.sublist (List.eraseIdx_sublist _ _)
 ·intro e he;rw [hel] at he;exact h5 e (List.mem_of_mem_eraseIdx he)
theorem aW.Yh {P:Program}{T kT eT ty:TypeId}(hu:P.underlying T=some (.map kT eT)){h:Heap}{r:Nat}{m:List (Int×Value)}(o:dF h r m){bs:List Nat}(hb:r∉bs)
 {K:Value->Heap->Prop} (H:∀ h',h'.size=h.size->dF h' r []->Keeps [r] h h'->K (.tuple #[]) h'):aW P (Builtin.clear_ #[T] ty ⟨[.map (some r)]⟩) bs h K:=by
 unfold aW;intro hlt w hw;subst hw;have hr:=o.lt;obtain ⟨es,cl,h1,h2,h3,h4,h5⟩:=o;refine ⟨.tuple #[],{ w with heap:=w.heap.setIfInBounds r (.map #[] cl) },?_,⟨rfl,rfl,rfl⟩,λb hb'=>?_,H _ (by simp) ⟨#[],cl,by rw [ku _ _ _ _ hr,if_pos rfl],rfl,List.nodup_nil,List.nodup_nil,by simp⟩ (sj _ _ _ hr)⟩
 ·simp [Builtin.clear_,Sem.run_bind,dK P T w hu,qN h1,r9 h1]
 ·show (w.heap.setIfInBounds r _)[b]?=_;rw [ku _ _ _ _ hr,if_neg (by intro e;subst e;exact hb hb')]
end Go.aN
namespace Go.Proofs.YtoociceebodfeaaGreatDoor
open Go Go.aN
def mq (h:Heap)(L:ML)(M:aS):Prop:=Own h 46 1 L.sa L.len L.cap (M.sure.map wv)
theorem Yk {h:Heap}{b off n c:Nat}{ws:List UInt64}(S:Sl h (some ⟨b,off,none⟩) n c ws)(hn:n<=1099511627776):aC Tryz.prog 41 [.slice (some ⟨b,off,none⟩) n c] h (λv h'=>Keeps [] h h'/\∃ a' c',v=.slice a' n c'/\Own h' 46 1 a' n c' (ws.map wv)/\Sl h' a' n c' ws/\∀ x∈ay a',h.size<=x/\x<h'.size):=by
 refine aG aH Tryz.func41 rfl ok41 (by simp [Tryz.f41]) ?_;(conv=>whnf);refine aj.f rfl ?_;(conv=>whnf);refine aL.i λb1 h1 e1 s1 o1 k1=>?_;(conv=>whnf);have hl:=S.hlen;have O:Own h1 46 1 (some ⟨b1,0,none⟩) 0 0 []:=.inr ⟨b1,[],rfl,o1,rfl,rfl,rfl,Nat.le_refl _⟩;refine jO (e:=46) (sz:=1) (aQ:=8) (new:=ws.map wv) rfl rfl rfl rfl rfl rfl rfl O (by simp [hl]) ((S.keep k1).cells1) (ug ws) (by omega) (by decide) (by simp [au]) ?_;intro a2 c2 h2 O2 k2 n2;(conv=>whnf);rw [Nat.zero_add] at O2;have nb:∀ x∈ay a2,h.size<=x/\x<h2.size:=λx hx=>by
  refine ⟨?_,O2.lt x hx⟩;rcases n2 x hx with h|h
  ·simp [ay] at h;omega
  ·omega
 refine ⟨k1.cZ k2 (by intro x hx;simp [ay] at hx;omega),a2,c2,by rw [Nat.zero_add],O2,?_,nb⟩;have R:iR h2 ([]++ws.map wv) ws:=by
  rw [List.nil_append];exact xM h2 ws
 exact O2.sl R rfl (by decide) (by omega)
theorem Yl {h:Heap}{b off n c:Nat}{ws:List UInt64}(S:Sl h (some ⟨b,off,none⟩) n c ws)(hn:n<=4096):aC Tryz.prog 82 [.slice (some ⟨b,off,none⟩) n c] h (λv h'=>Keeps [] h h'/\∃ L:ML,v=.pointer (some ⟨L.m,0,none⟩)/\fT h' L ⟨ws,[],[],0,-1⟩/\mq h' L ⟨ws,[],[],0,-1⟩/\∀ x∈L.blocks,h.size<=x):=by
 refine aG aH Tryz.func82 rfl ok82 (by simp [Tryz.f82]) ?_;(conv=>whnf);have hm:(if (4096:Int)<(n:Int) then (4096:Int) else (n:Int))=(n:Int):=if_neg (by omega);have hl:=S.hlen;refine dw.i 0 n rfl hm (Nat.zero_le _) S.hcap ?_;(conv=>whnf);have S1:=S.part (l:=0) (r:=n) (Nat.zero_le _) (Nat.le_refl _);have e1:∀ s,jh (some ⟨b,off,none⟩) c 0 s=some ⟨b,off,none⟩:=λs=>by
  unfold jh;split
  ·rfl
  ·simp [Addr.add]
 rw [e1,Nat.sub_zero,Nat.sub_zero,List.drop_zero,hl,List.take_length,<-hl] at S1;rw [e1,Nat.sub_zero,Nat.sub_zero];refine ak.i (Yk S1 (by omega)) λv h1 k1 hv=>?_;obtain ⟨a',c',rfl,O2,S2,nb⟩:=hv;(conv=>whnf);refine aL.i λb2 h2 e2 s2 o2 k2=>?_;(conv=>whnf);refine aL.i λb3 h3 e3 s3 o3 k3=>?_;(conv=>whnf);refine aL.i λb4 h4 e4 s4 o4 k4=>?_;(conv=>whnf);have z1:=k1.size;refine ⟨k1.trans (k2.trans (k3.trans k4)),⟨b4,a',n,c',b2,b3⟩,rfl,⟨o4,S2.keep (k2.trans (k3.trans k4)),(dF.new o2).keep (k3.trans k4) (by simp),(dF.new o3).keep k4 (by simp),by show b2≠b3;omega,λx hx=>?_,λx hx=>by have:=nb x hx;omega⟩,O2.keep (k2.trans (k3.trans k4)) (by simp),?_⟩
 ·have:=nb x hx;show x≠b4/\x≠b2/\x≠b3;omega
 ·intro x hx;simp only [ML.blocks,List.mem_cons] at hx;rcases hx with hx|hx|hx|hx
  ·have hx:x=b4:=hx;omega
  ·have hx:x=b2:=hx;omega
  ·have hx:x=b3:=hx;omega
  ·exact (nb x hx).1
theorem Ym (n:Nat)(hp:0<n)(hn:n<=4096)(h:Heap):aC Tryz.prog 37 [.int .i64 (n:Int)] h (λv h'=>Keeps [] h h'/\∃ L:ML,v=.pointer (some ⟨L.m,0,none⟩)/\fT h' L ⟨List.replicate n 0,[],[],0,-1⟩/\mq h' L ⟨List.replicate n 0,[],[],0,-1⟩/\∀ x∈L.blocks,h.size<=x):=by
 refine aG aH Tryz.func37 rfl ok37 (by simp [Tryz.f37]) ?_;(conv=>whnf);have e1:(if (4096:Int)<(if (n:Int)<0 then 0 else (n:Int)) then (4096:Int) else (if (n:Int)<0 then 0 else (n:Int)))=(n:Int):=by
  rw [if_neg (show ¬ ((n:Int)<0) by omega),if_neg (by omega)]
 have e2:(if (4096:Int)<(if (0:Int)>(n:Int) then 0 else (n:Int)) then (4096:Int) else (if (0:Int)>(n:Int) then 0 else (n:Int)))=(n:Int):=e1;rw [e2];refine aW.make (n:=n) rfl rfl rfl rfl rfl (by show 8*n<=_;omega) (by omega) λb1 h1 e3 s1 o1 k1=>?_;have sw:h1[b1]?=some (.cells ⟨(List.replicate n (0:UInt64)).map wv⟩ 46 (0,0)):=by
  rw [o1,List.map_replicate];rfl
 have S1:Sl h1 (some ⟨b1,0,none⟩) n n (List.replicate n (0:UInt64)):=Sl.mJ sw (by simp [One.ok]) (by simp) (by simp;omega);(conv=>whnf);refine ak.i (Yl S1 hn) λv h2 k2 hv=>?_;obtain ⟨L,rfl,A2,O2,nb⟩:=hv;(conv=>whnf);exact ⟨k1.trans k2,L,rfl,A2,O2,λx hx=>by have:=nb x hx;omega⟩
def kV (loose way:List (Int×UInt64))(first:Int):Nat->List (Int×UInt64)
 | 0=>way
 | k+1=>match lk loose (first+(k:Int)) with | some v=>gY (kV loose way first k) (first+(k:Int)) v | none=>kV loose way first k
theorem Og (loose way:List (Int×UInt64))(first:Int):∀ (k:Nat) (x:Int),lk (kV loose way first k) x=if first<=x/\x<first+(k:Int) then (match lk loose x with|some v=>some v|none=>lk way x) else lk way x
 | 0,x=>by rw [if_neg (by omega)];rfl
 | k+1,x=>by
  have ih:=Og loose way first k x;unfold kV;cases hl:lk loose (first+(k:Int)) with
  | none=>
   simp only;rw [ih];by_cases e:x=first+(k:Int)
   ·subst e;rw [if_neg (by omega),if_pos (by omega),hl]
   ·by_cases h2:first<=x/\x<first+(k:Int)
    ·rw [if_pos h2,if_pos (by omega)]
    ·rw [if_neg h2,if_neg (by omega)]
  | some v=>
   simp only;rw [su];by_cases e:x=first+(k:Int)
   ·rw [if_pos e,e,if_pos (by omega),hl]
   ·rw [if_neg e,ih];by_cases h2:first<=x/\x<first+(k:Int)
    ·rw [if_pos h2,if_pos (by omega)]
    ·rw [if_neg h2,if_neg (by omega)]
def mo (i:Int):Int:=i-i.tmod 8
theorem XV {h:Heap}{L:ML}{M:aS}(A:fT h L M)(i:Int)(hi:0<=i/\i<1000000)(h0:(M.call (M.there i)).1=0):aC Tryz.prog 86 [.pointer (some ⟨L.m,0,none⟩),.int .i64 i] h (λv h'=>Keeps [L.m,L.wb] h h'/\v=.int .i64 0/\fT h' L { (M.call (M.there i)).2 with way:=kV (M.call (M.there i)).2.loose (M.call (M.there i)).2.way (mo i) 8 }):=by
 refine aG aH Tryz.func86 rfl ok86 (by simp [Tryz.f86]) ?_;(conv=>whnf);refine ak.i (EF A i) λv h1 k1 hv=>?_;subst hv;have A1:=A.on k1;(conv=>whnf);refine ak.m (EG A1 (M.there i)) (by simp [au]) λv h2 k2 hv=>?_;obtain ⟨rfl,A2⟩:=hv;generalize (M.call (M.there i)).2=N at A2 ⊢;rw [h0];(conv=>whnf);refine aj.f rfl ?_;have hm8:0<=i.tmod 8/\i.tmod 8<8:=by
  rw [Int.tmod_eq_emod_of_nonneg hi.1];omega
 have ew:IntKind.i64.wrap (i-i.tmod 8)=mo i:=dR (by omega) (by omega);have hlo:0<=mo i/\mo i<1000000:=by
  unfold mo;have:i.tmod 8<=i:=by rw [Int.tmod_eq_emod_of_nonneg hi.1];omega
  omega
 (conv=>whnf);refine dL.i (by decide) ?_;(conv=>whnf);rw [ew];generalize mo i=q at hlo ⊢;refine bP.on [0,6,7] [] (λk:Nat=>[(0,.v (.pointer (some ⟨L.m,0,none⟩))),(6,.v (.int .i64 q)),(7,.v (.int .i64 (q+(k:Int))))]) (λ_=>[])
  (λk h'=>k<=8/\Keeps [L.m,L.wb] h h'/\fT h' L { N with way:=kV N.loose N.way q k }) (λk=>8-k) 0 ?_ ?_
 ·(conv=>whnf);refine ⟨0,rfl,by simp,rfl,Nat.zero_le _,?_,A2⟩;exact (k1.mono (by simp)).trans (k2.mono (by simp))
 ·rintro k h3 ⟨hk,k3,A3⟩;have e8:IntKind.i64.wrap (q+8)=q+8:=dR (by omega) (by omega);(conv=>whnf);rw [e8];refine aj.i (λhc=>?_) (λhc=>?_)
  ·have hk1:k<8:=by simp at hc;omega
   (conv=>whnf);(try refine aV.pass ?_;conv=>whnf);refine ax.o A3.obj rfl ?_;have en:IntKind.i64.wrap (q+(k:Int)+1)=q+((k+1:Nat):Int):=by
    rw [dR (by omega) (by omega)];simp;omega
   cases hl:lk N.loose (q+(k:Int)) with
   | some w=>
    (conv=>whnf);refine gL.is A3.loose (by rw [qX,hl]) ?_;(conv=>whnf);(try refine aV.pass ?_;conv=>whnf);refine aj.t rfl ?_;(conv=>whnf);refine ax.o A3.obj rfl ?_;(conv=>whnf);refine aW.put rfl rfl A3.way (by simp [au]) λh4 s4 M4 k4=>?_;(conv=>whnf);refine ⟨8-(k+1),by omega,?_⟩;(conv=>whnf);refine ⟨k+1,rfl,by rw [en],rfl,by omega,k3.trans (k4.mono (by simp)),?_⟩;have hfl:kV N.loose N.way q (k+1)=gY (kV N.loose N.way q k) (q+(k:Int)) w:=by
     conv=>lhs;unfold kV
     rw [hl]
    rw [hfl];have a3:=A3.ap3;exact ⟨k4.obj A3.obj (by simpa using a3.2),A3.sure.je k4 (λb hb=>by simpa using (A3.ap2 b hb).2.2),A3.loose.keep k4 (by simpa using A3.ap1),by rw [<-Bo];exact M4,A3.ap1,A3.ap2,λb hb=>Nat.lt_of_lt_of_le (A3.lt b hb) k4.size⟩
   | none=>
    (conv=>whnf);refine gL.is A3.loose (by rw [qX,hl]) ?_;(conv=>whnf);(try refine aV.pass ?_;conv=>whnf);refine aj.f rfl ?_;(conv=>whnf);refine ⟨8-(k+1),by omega,?_⟩;(conv=>whnf);refine ⟨k+1,rfl,by rw [en],rfl,by omega,k3,?_⟩;have hfl:kV N.loose N.way q (k+1)=kV N.loose N.way q k:=by
     conv=>lhs;unfold kV
     rw [hl]
    rw [hfl];exact A3
  ·have hk1:k=8:=by simp at hc;omega
   subst hk1;(conv=>whnf);exact ⟨k3,rfl,A3⟩
theorem Oi {a:Int}{l1 l2:List Int}:(l1++a::l2).Nodup↔(a::(l1++l2)).Nodup:=List.perm_middle.nodup_iff
theorem Yb {h:Heap}{a:Option Addr}{n c:Nat}{ws:List UInt64}(O:Own h 46 1 a n c (ws.map wv))(hb:ws.length<=281474976710656):Sl h a n c ws:=by
 exact O.sl (α:=UInt64) (xM h ws) rfl (by decide) hb
theorem Yc {l:List (Int×UInt64)}{j:Nat}{n:Int}(hn:(l.map (·.1)).Nodup)(hj:(l[j]?).map (·.1)=some n)(k:Int):lk (l.eraseIdx j) k=if k=n then none else lk l k:=by
 induction l generalizing j with
 | nil=>simp at hj
 | cons p l ih=>
  obtain ⟨a,v⟩:=p;simp only [List.map_cons,List.nodup_cons] at hn;cases j with
  | zero=>
   simp at hj;subst hj;simp only [List.eraseIdx_cons_zero,lk];by_cases e:k=a
   ·rw [if_pos e,e];cases h:lk l a with
    | none=>rfl
    | some w=>
     exfalso;apply hn.1;clear ih hn
     induction l with
     | nil=>cases h
     | cons q l ih=>
      obtain ⟨b,u⟩:=q;simp only [lk] at h;simp only [List.map_cons,List.mem_cons];split at h
      ·rename_i e;exact .inl e
      ·exact .inr (ih h)
   ·rw [if_neg e,if_neg e]
  | succ j=>
   have hj':(l[j]?).map (·.1)=some n:=by simpa using hj
   have hna:n≠a:=by
    rintro rfl;apply hn.1;simp only [Option.map_eq_some_iff] at hj';obtain ⟨q,hq,rfl⟩:=hj';exact List.mem_map.2 ⟨q,List.mem_of_getElem? hq,rfl⟩
   simp only [List.eraseIdx_cons_succ,lk];rw [ih hn.2 hj'];by_cases e:k=a
   ·rw [if_pos e,if_pos e,if_neg (λx=>hna (x.symm.trans e))]
   ·rw [if_neg e,if_neg e]
theorem Yd (l:List (Int×UInt64))(j:Nat):(fJ l).eraseIdx j=fJ (l.eraseIdx j):=by
 unfold fJ;exact wX _ l j
theorem GX {h:Heap}{r:Nat}{l:List (Int×UInt64)}(o:dF h r (fJ l)):(l.map (·.1)).Nodup:=by
 obtain ⟨es,cl,_,_,g,_⟩:=o;have:(fJ l).map (·.1)=l.map (·.1):=by simp [fJ]
 rw [this] at g;exact g
theorem Ye {l:List (Int×UInt64)}{x:Int}{v:UInt64}(h:lk l x=some v):x∈l.map (·.1):=by
 induction l with
 | nil=>cases h
 | cons p l ih=>
  obtain ⟨a,w⟩:=p;simp only [lk] at h;simp only [List.map_cons,List.mem_cons];split at h
  ·rename_i e;exact .inl e
  ·exact .inr (ih h)
theorem Yf {l:List (Int×UInt64)}(h:fJ l=[]):l=[]:=by
 unfold fJ at h;exact List.map_eq_nil_iff.1 h
theorem X7 {h:Heap}{L:ML}{M:aS}(A:fT h L M)(O:mq h L M)(hu:M.gy = -1)(hs:M.sure.length<=1000000)(hw:∀ p∈M.way,lk M.loose p.1=some p.2/\M.there p.1=true):aC Tryz.prog 87 [.pointer (some ⟨L.m,0,none⟩)] h (λv h'=>Keeps L.blocks h h'/\v=.int .i64 0 /\
 ∃ N:aS,fT h' L N/\mq h' L N/\N.gy = -1/\N.sure.length=M.sure.length/\N.way=[]/\(∀ i,N.read i=M.read i)/\(∀ x,lk N.loose x≠none->lk M.loose x≠none/\lk M.way x=none)):=by
 have hc1:(M.call true).1=0:=by
  unfold aS.call;rw [hu];simp
 have hc2:(M.call true).2={ M with calls:=IntKind.i64.wrap (M.calls+1) }:=by
  unfold aS.call;rw [hu];simp
 refine aG aH Tryz.func87 rfl ok87 (by simp [Tryz.f87]) ?_;(conv=>whnf);refine ak.m (EG A true) (by simp [au]) λv h1 k1 hv=>?_;obtain ⟨rfl,A1⟩:=hv;rw [hc1];rw [hc2] at A1;have O1:mq h1 L { M with calls:=IntKind.i64.wrap (M.calls+1) }:=O.keep k1 (λb hb=>by simp;exact (A.ap2 b hb).1);(conv=>whnf);refine aj.f rfl ?_;(conv=>whnf);refine ax.o A1.obj rfl ?_;(conv=>whnf);refine aW.range rfl A1.way λit hR ei si ki IR=>?_;have AR:=A1.on ki;have OR:mq hR L { M with calls:=IntKind.i64.wrap (M.calls+1) }:=Own.keep O1 ki (by simp);have bl:=A1.blt;have hwn:=GX A1.way;generalize hM1:({ M with calls:=IntKind.i64.wrap (M.calls+1) }:aS)=M1 at *;have hread1:∀ i,M1.read i=M.read i:=λi=>by subst hM1;rfl
 have hsure1:M1.sure=M.sure:=by subst hM1;rfl
 have hway1:M1.way=M.way:=by subst hM1;rfl
 have hloose1:M1.loose=M.loose:=by subst hM1;rfl
 have hunt1:M1.gy = -1:=by subst hM1;exact hu
 have zL:∀ b∈L.blocks,b≠it:=λb hb=>by have:=bl b hb;omega
 (conv=>whnf);refine bP.on [0,15] [] (λq:List (Int×UInt64)×aS=>[(0,.v (.pointer (some ⟨L.m,0,none⟩))),(15,.v (.pointer (some ⟨it,0,none⟩)))])
  (λ_=>[]) (λq h'=>Keeps (it::L.blocks) hR h'/\(∃ last,oG h' it L.wb (fJ q.1) last)/\fT h' L q.2/\mq h' L q.2/\q.2.gy = -1/\q.2.sure.length=M.sure.length/\(∀ i,q.2.read i=M.read i)/\(q.1.map (·.1)).Nodup/\(∀ p∈q.1,lk q.2.loose p.1=some p.2/\q.2.there p.1=true)/\(∀ x,lk q.2.loose x≠none->lk M.loose x≠none/\(lk M.way x=none\/x∈q.1.map (·.1)))) (λq=>q.1.length) (M1.way,M1) ?_ ?_
 ·(conv=>whnf);refine ⟨(M1.way,M1),rfl,rfl,rfl,Keeps.refl _ _,⟨none,IR⟩,AR,OR,hunt1,by rw [hsure1],hread1,hwn,λp hp=>?_,λx hx=>?_⟩
  ·rw [hway1] at hp;have:=hw p hp;rw [hloose1];refine ⟨this.1,?_⟩;unfold aS.there;rw [hsure1];exact this.2
  ·rw [hloose1] at hx;refine ⟨hx,?_⟩;rw [hway1];cases hl:lk M.way x with
   | none=>exact .inl rfl
   | some v=>exact .inr (Ye hl)
 ·rintro ⟨R,N⟩ h2 ⟨k2,⟨last,I2⟩,A2,O2,u2,s2,r2,n2,w2,y2⟩;simp only at I2 A2 O2 u2 s2 r2 n2 w2 y2;have Yg:it≠L.wb:=λe=>zL L.wb (by simp [ML.blocks]) e.symm;(conv=>whnf);refine aW.next I2 (by simp [au]) Yg (λhR0=>?_) (λR1 p R2 h3 hRR s3 k3 I3=>?_)
  ·(conv=>whnf);refine aj.f rfl ?_;(conv=>whnf);refine ax.o A2.obj rfl ?_;(conv=>whnf);refine aW.Yh rfl A2.way (by simp [au]) λh3 s3 M3 k3=>?_;(conv=>whnf);have a3:=A2.ap3;refine ⟨?_,rfl,{ N with way:=[] },⟨k3.obj A2.obj (by simpa using a3.2),A2.sure.je k3 (λb hb=>by simpa using (A2.ap2 b hb).2.2),A2.loose.keep k3 (by simpa using A2.ap1),M3,A2.ap1,A2.ap2,λb hb=>Nat.lt_of_lt_of_le (A2.lt b hb) k3.size⟩,Own.keep O2 k3 (λb hb=>by simpa using (A2.ap2 b hb).2.2),u2,s2,rfl,r2,λx hx=>?_⟩
   rotate_left
   ·obtain ⟨y3,y4⟩:=y2 x hx;refine ⟨y3,?_⟩;rcases y4 with h|h
    ·exact h
    ·have hR1:R=[]:=Yf hR0;rw [hR1] at h;simp at h
   have ka:Keeps L.blocks h hR:=(k1.mono (by simp [ML.blocks])).bS ki;have kb:Keeps L.blocks h h2:=ka.gQ k2 (λx hx=>by
    rcases List.mem_cons.1 hx with rfl|hx
    ·right;have:=k1.size;omega
    ·exact .inl hx)
   exact kb.trans (k3.mono (by simp [ML.blocks]))
  ·obtain ⟨m1,q,m2,rfl,rfl,rfl,rfl⟩:=L9 hRR;obtain ⟨ql,qt⟩:=w2 q (by simp);(conv=>whnf);refine aj.t rfl ?_;(conv=>whnf);refine aW.entry I3 ?_;have A3:=A2.keep k3 (λb hb=>by simp;exact zL b hb);have O3:mq h3 L N:=Own.keep O2 k3 (λb hb=>by simp;exact zL b (by simp [ML.blocks,hb]));(conv=>whnf);refine ax.o A3.obj rfl ?_;have hq0:0<=q.1/\q.1<N.sure.length:=by simpa [aS.there] using qt
   have hlen:=A3.sure.hlen;have hO:=O3;rcases hO with ⟨_,h0,_⟩|⟨b,cs,hb,ob,ht,hcl,hll,hcc⟩
   ·omega
   obtain ⟨i,hi⟩:∃ i:Nat,q.1=(i:Int):=⟨q.1.toNat,by omega⟩;have hi1:i<N.sure.length:=by omega
   have GY:b∈ay L.sa:=by rw [hb];simp [ay]
   have ap:=A2.ap2 b GY;(conv=>whnf);refine aX.i i (by exact hi) (by omega) hb ?_;(conv=>whnf);refine dN.i ob ?_ (by simp [au]) λh4 s4 o4 k4=>?_
   ·show 0+i*1+1<=cs.length;omega
   have hset:(cs.set i (wv q.2)).take (N.sure.set i q.2).length=(N.sure.set i q.2).map wv:=by
    rw [List.length_set,List.take_set,List.map_set];rw [List.length_map] at ht;rw [ht]
   have ng:h4[b]?=some (.cells ⟨cs.set i (wv q.2)⟩ 46 (0,0)):=by
    rw [o4];have e:bF (0+i*1) [wv q.2] cs=cs.set i (wv q.2):=by
     rw [show 0+i*1=i by omega,yB _ _ _ (by omega)]
    exact congrArg (λx=>some (Obj.cells ⟨x⟩ 46 (0,0))) e
   have O4:mq h4 L { N with sure:=N.sure.set i q.2 }:=.inr ⟨b,_,hb,ng,by simpa using hset,by rw [List.length_set];exact hcl,by simpa using hll,hcc⟩;have kb4:∀ x∈L.blocks,x≠b->x∉[b]:=λx _ hx=>by simpa using hx
   have A4:fT h4 L { N with sure:=N.sure.set i q.2 }:=⟨k4.obj A3.obj (by simpa using λe=>ap.1 e.symm),Yb O4 (by rw [List.length_set];omega),A3.loose.keep k4 (by simpa using λe=>ap.2.1 e.symm),A3.way.keep k4 (by simpa using λe=>ap.2.2 e.symm),A3.ap1,A3.ap2,λx hx=>Nat.lt_of_lt_of_le (A3.lt x hx) k4.size⟩;(conv=>whnf);refine ax.o A4.obj rfl ?_;(conv=>whnf);refine gL.is A4.loose (by rw [qX,ql]) ?_;(conv=>whnf);(try refine aV.pass ?_;conv=>whnf);refine aj.t (by simp) ?_;(conv=>whnf);refine ax.o A4.obj rfl ?_;(conv=>whnf);refine aW.del rfl rfl A4.loose (n:=q.1) (by rw [qX,ql];simp) (by simp [au]) λh5 j hj hjn s5 M5 k5=>?_;have Yi:(N.loose[j]?).map (·.1)=some q.1:=by
    have:((fJ N.loose)[j]?).map (·.1)=some q.1:=hjn;unfold fJ at this;rw [List.getElem?_map,Option.map_map] at this;exact this
   have hln:=GX A4.loose;rw [Yd] at M5;have a3:=A3.ap3;(conv=>whnf);refine ⟨(m1++m2).length,by simp,?_⟩;(conv=>whnf);have hN5:∀ x,lk (N.loose.eraseIdx j) x=if x=q.1 then none else lk N.loose x:=λx=>Yc hln Yi x;refine ⟨(m1++m2,{ N with sure:=N.sure.set i q.2,loose:=N.loose.eraseIdx j }),rfl,rfl,rfl,?_,⟨some (q.1,wv q.2),?_⟩,⟨k5.obj A4.obj (by simpa using a3.1),A4.sure.je k5 (λx hx=>by simpa using (A3.ap2 x hx).2.1),M5,A4.way.keep k5 (by simpa using A3.ap1.symm),A3.ap1,A3.ap2,λx hx=>Nat.lt_of_lt_of_le (A4.lt x hx) k5.size⟩,Own.keep O4 k5 (λx hx=>by simpa using (A3.ap2 x hx).2.1),u2,by simp only [List.length_set];exact s2,λx=>?_,?_,λp hp=>?_,λx hx=>?_⟩
   ·exact ((k2.trans (k3.mono (by simp))).trans (k4.mono (by simp;right;simp [ML.blocks,GY]))).trans (k5.mono (by simp [ML.blocks]))
   ·have:fJ m1++fJ m2=fJ (m1++m2):=List.map_append.symm;have Yj:oG h3 it L.wb (fJ (m1++m2)) (some (q.1,wv q.2)):=by rw [<-this];exact I3
    refine (Yj.keep k4 ?_ (by simpa using λe=>ap.2.2 e.symm)).keep k5 ?_ (by simpa using A3.ap1.symm)
    ·have:=zL b (by simp [ML.blocks,GY]);simpa using λe=>this e.symm
    ·have:=zL L.lb (by simp [ML.blocks]);simpa using λe=>this e.symm
   ·rw [<-r2 x];unfold aS.read aS.there;simp only [List.length_set];split
    ·rename_i hx;rw [hN5];by_cases e:x=q.1
     ·rw [if_pos e,e,ql,hi];simp [hi1]
     ·rw [if_neg e];have hne:x.toNat≠i:=by
       intro e2;apply e;have:0<=x:=by simp at hx;exact hx.1
       omega
      rw [List.getElem?_set_ne (λe=>hne e.symm)]
    ·rfl
   ·have:(m1++q::m2).map (·.1)=m1.map (·.1)++q.1::m2.map (·.1):=by simp
    rw [this] at n2;rw [List.map_append];exact (List.nodup_cons.1 (Oi.1 n2)).2
   ·have hp':p∈m1++q::m2:=by
     simp only [List.mem_append,List.mem_cons] at hp ⊢;rcases hp with h|h
     ·exact .inl h
     ·exact .inr (.inr h)
    obtain ⟨p1,p2⟩:=w2 p hp';refine ⟨?_,?_⟩
    ·show lk (N.loose.eraseIdx j) p.1=some p.2;have hne:p.1≠q.1:=by
      intro e;have:(m1++q::m2).map (·.1)=m1.map (·.1)++q.1::m2.map (·.1):=by simp
      rw [this] at n2;have hnq:=Oi.1 n2;rw [List.nodup_cons] at hnq;apply hnq.1;rw [<-e,<-List.map_append];exact List.mem_map.2 ⟨p,hp,rfl⟩
     rw [hN5,if_neg hne];exact p1
    ·unfold aS.there at p2 ⊢;simp only [List.length_set];exact p2
   ·have hx:lk (N.loose.eraseIdx j) x≠none:=hx;rw [hN5] at hx;have hne:x≠q.1:=by
     intro e;rw [if_pos e] at hx;exact hx rfl
    rw [if_neg hne] at hx;obtain ⟨y3,y4⟩:=y2 x hx;refine ⟨y3,?_⟩;rcases y4 with h|h
    ·exact .inl h
    ·right
     simp only [List.map_append,List.map_cons,List.mem_append,List.mem_cons] at h ⊢;rcases h with h|h|h
     ·exact .inl h
     ·exact absurd h hne
     ·exact .inr h
def pW:List UInt64:=([7021221306412823411,2824,0,0,0,0,0,0]:List UInt64)++(List.replicate 8 0++(fP (cB 2 1)++List.replicate 2800 0))
theorem XU:pW.length=2824:=by
 unfold pW;simp [fP]
theorem XR (h:Heap):aC Tryz.prog 83 [] h (λv h'=>Keeps [] h h'/\∃ b,v=.slice (some ⟨b,0,none⟩) 2824 2824/\h.size<=b/\h'[b]?=some (.cells ⟨pW.map wv⟩ 46 (0,0))):=by
 refine aG aH Tryz.func83 rfl ok83 (by simp [Tryz.f83]) ?_;(conv=>whnf);refine ak.i (Ej h) λv h1 k1 hv=>?_;subst hv;(conv=>whnf);refine aW.make (n:=2824) rfl rfl rfl rfl rfl (by decide) (by decide) λb2 h2 e2 s2 o2 k2=>?_;(conv=>whnf);refine ak.i (RX h2) λv h3 k3 hv=>?_;obtain ⟨b3,rfl,hb3,_,o3⟩:=hv;have z1:=k1.size;have z2:=k2.size;have z3:=k3.size;have Oh:(([7021221306412823411,2824,0,0,0,0,0,0]:List UInt64).map wv).length=8:=rfl;(conv=>whnf);refine aW.copy (sz:=1) (new:=([7021221306412823411,2824,0,0,0,0,0,0]:List UInt64).map wv) rfl rfl rfl (k3.obj o2 (by simp)) rfl (λj hj=>by simp only [Heap.cell?,o3];simp) (ug _) (by rw [Oh,List.length_replicate];decide) (by simp [au]) λh4 s4 o4 k4=>?_;have hz:List.replicate 2824 (Value.int .u64 0)=List.replicate 8 (.int .u64 0)++(List.replicate 8 (.int .u64 0)++(List.replicate 8 (.int .u64 0)++List.replicate 2800 (.int .u64 0))):=by
  rw [List.replicate_append_replicate,List.replicate_append_replicate,List.replicate_append_replicate]
 have e4:bF 0 (([7021221306412823411,2824,0,0,0,0,0,0]:List UInt64).map wv) (List.replicate 2824 (.int .u64 0))=(([7021221306412823411,2824,0,0,0,0,0,0]:List UInt64).map wv)++(List.replicate 8 (.int .u64 0)++(List.replicate 8 (.int .u64 0)++List.replicate 2800 (.int .u64 0))):=by
  rw [hz];have:=Bd (A:=([7021221306412823411,2824,0,0,0,0,0,0]:List UInt64).map wv) (x:=Value.int .u64 0) (B:=List.replicate 8 (.int .u64 0)++(List.replicate 8 (.int .u64 0)++List.replicate 2800 (.int .u64 0)));rw [Oh] at this;exact this
 rw [e4] at o4;(conv=>whnf);refine ak.i (Gf 2 1 h4) λv h5 k5 hv=>?_;rw [if_pos (by decide)] at hv;subst hv;(conv=>whnf);refine aL.i λb6 h6 e6 s6 o6 k6=>?_;(conv=>whnf);refine aK.i λh7 s7 k7=>?_;have k47:Keeps [] h4 h7:=(k5.trans k6).new1 k7 (by have:=k5.size;omega);obtain ⟨fo,fr⟩:=Cj (kind:=2) (by decide) 1;(conv=>whnf);refine ak.i (Gc (cB 2 1) fo h7) λv h8 k8 hv=>?_;rw [if_pos fr] at hv;obtain ⟨b8,rfl,hb8,o8⟩:=hv;(conv=>whnf);refine ak.i (ul 1 h8) λv h9 k9 hv=>?_;subst hv;(conv=>whnf);refine dw.i 16 2824 rfl rfl (by decide) (by decide) ?_;(conv=>whnf);have eA:jh (some ⟨b2,0,none⟩) 2824 16 1=some ⟨b2,0+16*1,none⟩:=by
  unfold jh;rw [if_neg (by omega)];simp [addr_add]
 have X8:jh (some ⟨b2,0,none⟩) 2824 16 Tryz.prog.types[46].size=some ⟨b2,0+16*1,none⟩:=eA;rw [X8];have k49:=k47.trans (k8.trans k9);have hcw:(fP (cB 2 1)).length=8:=rfl;refine aW.copy (sz:=1) (new:=(fP (cB 2 1)).map wv) rfl rfl rfl (k49.obj o4 (by simp)) (by rw [List.length_map];rfl) (λj hj=>by simp only [Heap.cell?,k9.obj o8 (by simp)];simp) (ug _) (by simp [hcw]) ?_ λh10 s10 o10 k10=>?_
 ·have:=k3.size;have:=k4.size;have:=k5.size;simp [au,aZ];omega
 (conv=>whnf);have e10:bF (0+16*1) ((fP (cB 2 1)).map wv) (([7021221306412823411,2824,0,0,0,0,0,0]:List UInt64).map wv++(List.replicate 8 (.int .u64 0)++(List.replicate 8 (.int .u64 0)++List.replicate 2800 (.int .u64 0))))=pW.map wv:=by
  have h1:([7021221306412823411,2824,0,0,0,0,0,0]:List UInt64).map wv++(List.replicate 8 (Value.int .u64 0)++(List.replicate 8 (.int .u64 0)++List.replicate 2800 (.int .u64 0)))=(([7021221306412823411,2824,0,0,0,0,0,0]:List UInt64).map wv++List.replicate 8 (.int .u64 0))++(List.replicate 8 (.int .u64 0)++List.replicate 2800 (.int .u64 0)):=by rw [List.append_assoc]
  rw [h1];have h2:=Kl (A:=([7021221306412823411,2824,0,0,0,0,0,0]:List UInt64).map wv++List.replicate 8 (.int .u64 0)) (N:=(fP (cB 2 1)).map wv) (L:=List.replicate 8 (.int .u64 0)++List.replicate 2800 (.int .u64 0));have hl:(([7021221306412823411,2824,0,0,0,0,0,0]:List UInt64).map wv++List.replicate 8 (Value.int .u64 0)).length=0+16*1:=by simp
  rw [hl] at h2;rw [h2];have h3:=Bd (A:=(fP (cB 2 1)).map wv) (x:=Value.int .u64 0) (B:=List.replicate 2800 (.int .u64 0));rw [List.length_map,hcw] at h3;rw [h3];unfold pW;simp only [List.map_append,List.map_replicate,List.append_assoc];rfl
 rw [e10] at o10;refine ⟨?_,b2,rfl,by omega,o10⟩;exact ((k1.trans (k2.trans k3)).new1 k4 (by omega)).trans k49 |>.new1 k10 (by omega)
def fB (i:Int):UInt64:=if 0<=i/\i<2824 then pW[i.toNat]?.getD 0 else 0
theorem Ya {i:Int}:fB i=if i=0 then 7021221306412823411 else if i=1 then 2824 else if 16<=i/\i<24 then (fP (cB 2 1))[(i-16).toNat]?.getD 0 else 0:=by
 unfold fB;by_cases h:0<=i/\i<2824
 ·rw [if_pos h];obtain ⟨n,rfl⟩:∃ n:Nat,i=(n:Int):=⟨i.toNat,by omega⟩;rw [Int.toNat_natCast];unfold pW;have hl0:([7021221306412823411,2824,0,0,0,0,0,0]:List UInt64).length=8:=rfl;have hl2:(fP (cB 2 1)).length=8:=rfl;by_cases h8:n<8
  ·rw [List.getElem?_append_left (by rw [hl0];exact h8)];have:n=0\/n=1\/n=2\/n=3\/n=4\/n=5\/n=6\/n=7:=by omega
   rcases this with rfl|rfl|rfl|rfl|rfl|rfl|rfl|rfl <;> rfl
  ·rw [List.getElem?_append_right (by rw [hl0];omega),hl0,if_neg (by omega),if_neg (by omega)];by_cases h16:n<16
   ·rw [List.getElem?_append_left (by simp;omega),if_neg (by omega),List.getElem?_replicate,if_pos (by omega)];rfl
   ·rw [List.getElem?_append_right (by simp;omega),List.length_replicate];by_cases h24:n<24
    ·rw [List.getElem?_append_left (by rw [hl2];omega),if_pos (by omega)]
     congr 2
     omega
    ·rw [List.getElem?_append_right (by rw [hl2];omega),if_neg (by omega),List.getElem?_replicate];split <;> rfl
 ·rw [if_neg h,if_neg (by omega),if_neg (by omega),if_neg (by omega)]
structure tJ (B:Int->UInt64)(at_:Nat)(N:aS):Prop where
 u:N.gy = -1
 len:N.sure.length=2824
 read:∀ i,N.read i=if i<at_ then fB i else B i
 way:∀ i,lk N.way i=lk N.loose i
 bH:∀ i,lk N.loose i≠none->0<=i/\i<2824
theorem GV {N:aS}(hu:N.gy = -1)(t:Bool):N.call t=(if t then 0 else 1,{ N with calls:=IntKind.i64.wrap (N.calls+1) }):=by
 unfold aS.call;rw [hu];cases t <;> rfl
theorem XO {i:Int}(hi:0<=i):mo i<=i/\i<mo i+8:=by
 unfold mo;rw [Int.tmod_eq_emod_of_nonneg hi];omega
theorem tJ.step {B:Int->UInt64}{a:Nat}{N:aS}(I:tJ B a N)(ha:a<2824):∀ (c1 c2:Int),tJ B (a+1) { N with calls:=c2,loose:=gY N.loose a (fB a),way:=kV (gY N.loose a (fB a)) N.way (mo a) 8 }:=by
 intro c1 c2;have hl:=XO (i:=(a:Int)) (by omega);refine ⟨I.u,I.len,λi=>?_,λi=>?_,λi hi=>?_⟩
 ·have hr:=I.read i;unfold aS.read aS.there at hr ⊢;simp only at hr ⊢;rw [su];by_cases e:i=(a:Int)
  ·rw [if_pos e];have h1:(decide (0<=i)&&decide (i<(N.sure.length:Int)))=true:=by rw [I.len];simp;omega
   rw [if_pos h1,if_pos (by omega),e];rfl
  ·rw [if_neg e,hr];by_cases h2:i<(a:Int)
   ·rw [if_pos h2,if_pos (by omega)]
   ·rw [if_neg h2,if_neg (by omega)]
 ·show lk (kV _ _ _ 8) i=lk (gY _ _ _) i;rw [Og,su,I.way i];by_cases h1:mo (a:Int)<=i/\i<mo (a:Int)+((8:Nat):Int)
  ·rw [if_pos h1];by_cases e:i=(a:Int)
   ·rw [if_pos e]
   ·rw [if_neg e];cases lk N.loose i <;> rfl
  ·rw [if_neg h1,if_neg (by intro e;apply h1;omega)]
 ·have hi':lk (gY N.loose (a:Int) (fB (a:Int))) i≠none:=hi;rw [su] at hi';by_cases e:i=(a:Int)
  ·omega
  ·rw [if_neg e] at hi';exact I.bH i hi'
theorem tJ.skip {B:Int->UInt64}{a:Nat}{N:aS}(I:tJ B a N)(h:N.read a=fB a):tJ B (a+1) N:=by
 refine ⟨I.u,I.len,λi=>?_,I.way,I.bH⟩;by_cases e:i=(a:Int)
 ·rw [if_pos (by omega),e];exact h
 ·rw [I.read i];by_cases h2:i<(a:Int)
  ·rw [if_pos h2,if_pos (by omega)]
  ·rw [if_neg h2,if_neg (by omega)]
theorem XP {l:List (Int×UInt64)}(h:∀ x,lk l x=none):l=[]:=by
 cases l with
 | nil=>rfl
 | cons p l=>
  have:=h p.1;simp [lk] at this
theorem XQ {h:Heap}{L:ML}{M:aS}(A:fT h L M)(O:mq h L M)(hu:M.gy = -1)(hs:M.sure.length=2824)(hl0:M.loose=[])(hw0:M.way=[]):aC Tryz.prog 38 [.pointer (some ⟨L.m,0,none⟩)] h (λv h'=>Keeps L.blocks h h'/\v=.int .i64 0 /\
 ∃ N:aS,fT h' L N/\N.gy = -1/\N.sure.length=2824/\(∀ i,N.read i=fB i)/\N.loose=[]):=by
 have bl:=A.blt;refine aG aH Tryz.func38 rfl ok38 (by simp [Tryz.f38]) ?_;(conv=>whnf);refine ak.i (XR h) λv h1 k1 hv=>?_;obtain ⟨b1,rfl,hb1,o1⟩:=hv;(conv=>whnf);refine ak.i (Kt (A.on k1)) λv h2 k2 hv=>?_;subst hv;rw [hs];(conv=>whnf);refine aj.f rfl ?_;have I0:tJ M.read 0 M:=⟨hu,hs,λi=>by
  by_cases h:i<((0:Nat):Int)
  ·rw [if_pos h];have h1:fB i=0:=by
    unfold fB;rw [if_neg (by omega)]
   have h2:M.there i=false:=by
    unfold aS.there;rw [decide_eq_false (by omega)];rfl
   unfold aS.read;rw [h1,h2];rfl
  ·rw [if_neg h],λi=>by rw [hl0,hw0],λi hi=>by rw [hl0] at hi;exact absurd rfl hi⟩
 have nb1:∀ b∈L.blocks,b≠b1:=λb hb=>by have:=bl b hb;omega
 have k12:=k1.trans k2;have XT:=XU;(conv=>whnf);refine bP.on [0,13,14,15] [] (λq:Nat×aS=>[(0,.v (.pointer (some ⟨L.m,0,none⟩))),(13,.v (.slice (some ⟨b1,0,none⟩) 2824 2824)),(14,.v (.int .i64 2824)),(15,.v (.int .i64 (q.1:Int)))]) (λ_=>[])
  (λq h'=>q.1<=2824/\Keeps L.blocks h h'/\h'[b1]?=some (.cells ⟨pW.map wv⟩ 46 (0,0))/\fT h' L q.2/\mq h' L q.2/\tJ M.read q.1 q.2) (λq=>2824-q.1) (0,M) ?_ ?_
 ·(conv=>whnf);exact ⟨(0,M),rfl,rfl,rfl,Nat.zero_le _,k12.mono (by simp),k2.obj o1 (by simp),A.on k12,Own.keep O k12 (by simp),I0⟩
 ·rintro ⟨a,N⟩ h3 ⟨ha,k3,o3,A3,O3,I3⟩;simp only at ha A3 O3 I3;(conv=>whnf);refine aj.i (λhc=>?_) (λhc=>?_)
  ·have ha1:a<2824:=by
    have:(a:Int)<2824:=by simpa using hc
    omega
   have hla:(pW[a]'(by omega))=fB (a:Int):=by
    unfold fB;rw [if_pos (by omega),Int.toNat_natCast,List.getElem?_eq_getElem (by omega)];rfl
   have hth:N.there (a:Int)=true:=by unfold aS.there;rw [I3.len];simp;omega
   (conv=>whnf);(try refine aV.pass ?_;conv=>whnf);refine aX.i a rfl ha1 rfl ?_;(conv=>whnf);refine ax.o (v:=wv (pW[a]'(by omega))) o3 ?_ ?_
   ·rw [nN];show (pW.map wv)[0+a*1]?=_;rw [show 0+a*1=a by omega];simp [XT,ha1]
   rw [hla];(conv=>whnf);refine ak.i (Bn A3 (a:Int)) λv h4 k4 hv=>?_;subst hv;have A4:=A3.on k4;have O4:mq h4 L N:=Own.keep O3 k4 (by simp);have o4:=k4.obj o3 (by simp);(conv=>whnf);refine aj.i (λhd=>?_) (λhd=>?_)
   ·have he:N.read (a:Int)=fB (a:Int):=by
     have:(((N.read (a:Int)).toNat:Nat):Int)=(((fB (a:Int)).toNat:Nat):Int):=by simpa using hd
     exact UInt64.toNat_inj.1 (by omega)
    (conv=>whnf);refine ⟨2824-(a+1),by omega,?_⟩;(conv=>whnf);exact ⟨(a+1,N),rfl,by rw [wrapN (x:=(a:Int)+1) (n:=a+1) (by simp) (by omega)],rfl,by simp only;omega,k3.bS k4,o4,A4,O4,I3.skip he⟩
   ·have hst:N.store (a:Int) (fB (a:Int))=(0,{ N with calls:=IntKind.i64.wrap (N.calls+1),loose:=gY N.loose (a:Int) (fB (a:Int)) }):=by
     unfold aS.store;rw [GV I3.u,hth];rfl
    (conv=>whnf);refine ak.m (KE A4 (a:Int) (fB (a:Int))) (by simp [au]) λv h5 k5 hv=>?_;rw [hst] at hv;obtain ⟨rfl,A5⟩:=hv;(conv=>whnf);(try refine aV.pass ?_;conv=>whnf);refine aj.t rfl ?_;have I5:=I3.step ha1;generalize hN5:({ N with calls:=IntKind.i64.wrap (N.calls+1),loose:=gY N.loose (a:Int) (fB (a:Int)) }:aS)=N5 at A5;have hth5:N5.there (a:Int)=true:=by subst hN5;exact hth
    have hu5:N5.gy = -1:=by subst hN5;exact I3.u
    have O5:mq h5 L N5:=by
     have:mq h5 L N:=Own.keep O4 k5 (λb hb=>by have:=A4.ap2 b hb;simp;exact ⟨this.1,this.2.1⟩);subst hN5;exact this
    have o5:=k5.obj o4 (by
     have q1:=nb1 L.m (by simp [ML.blocks]);have q2:=nb1 L.lb (by simp [ML.blocks]);simp;exact ⟨λe=>q1 e.symm,λe=>q2 e.symm⟩)
    (conv=>whnf);refine ak.m (XV A5 (a:Int) (by omega) (by rw [GV hu5,hth5];rfl)) (by simp [au]) λv h6 k6 hv=>?_;obtain ⟨rfl,A6⟩:=hv;rw [GV hu5] at A6;(conv=>whnf);refine aj.f rfl ?_;(conv=>whnf);refine ⟨2824-(a+1),by omega,?_⟩;(conv=>whnf);have hN6:({ ({ N5 with calls:=IntKind.i64.wrap (N5.calls+1) }:aS) with way:=kV ({ N5 with calls:=IntKind.i64.wrap (N5.calls+1) }:aS).loose ({ N5 with calls:=IntKind.i64.wrap (N5.calls+1) }:aS).way (mo (a:Int)) 8 }:aS)={ N with calls:=IntKind.i64.wrap (IntKind.i64.wrap (N.calls+1)+1),loose:=gY N.loose (a:Int) (fB (a:Int)),way:=kV (gY N.loose (a:Int) (fB (a:Int))) N.way (mo (a:Int)) 8 }:=by subst hN5;rfl
    have XW:fT h6 L { N with calls:=IntKind.i64.wrap (IntKind.i64.wrap (N.calls+1)+1),loose:=gY N.loose (a:Int) (fB (a:Int)),way:=kV (gY N.loose (a:Int) (fB (a:Int))) N.way (mo (a:Int)) 8 }:=by rw [<-hN6];exact A6
    refine ⟨(a+1,_),rfl,by rw [wrapN (x:=(a:Int)+1) (n:=a+1) (by simp) (by omega)],rfl,by simp only;omega,?_,?_,XW,?_,I5 0 _⟩
    ·exact ((k3.bS k4).trans (k5.mono (by simp [ML.blocks]))).trans (k6.mono (by simp [ML.blocks]))
    ·refine k6.obj o5 ?_;have q1:=nb1 L.m (by simp [ML.blocks]);have q2:=nb1 L.wb (by simp [ML.blocks]);simp;exact ⟨λe=>q1 e.symm,λe=>q2 e.symm⟩
    ·have:mq h6 L N5:=Own.keep O5 k6 (λb hb=>by have:=A5.ap2 b hb;simp;exact ⟨this.1,this.2.2⟩);subst hN5;exact this
  ·have ha1:a=2824:=by
    have:¬ ((a:Int)<2824):=by simpa using hc
    omega
   subst ha1;have X0:=GX A3.way;(conv=>whnf);refine ak.m (X7 A3 O3 I3.u (by rw [I3.len];decide) (λp hp=>?_)) (by simp [au]) λv h4 k4 hv=>?_
   ·have h1:=wK X0 hp;rw [I3.way] at h1;have h2:=I3.bH p.1 (by rw [h1];simp);refine ⟨h1,?_⟩;unfold aS.there;rw [I3.len];simp;omega
   obtain ⟨rfl,N',A4,_,u4,l4,_,r4,y4⟩:=hv;(conv=>whnf);refine ⟨k3.trans k4,rfl,N',A4,u4,by rw [l4,I3.len],λi=>?_,XP λx=>?_⟩
   rotate_left
   ·apply Classical.byContradiction;intro hx;obtain ⟨q1,q2⟩:=y4 x hx;rw [I3.way] at q2;exact q1 q2
   rw [r4,I3.read];by_cases h:i<((2824:Nat):Int)
   ·rw [if_pos h]
   ·rw [if_neg h];have h1:fB i=0:=by
     unfold fB;rw [if_neg (by omega)]
    have h2:M.there i=false:=by
     unfold aS.there;rw [hs,decide_eq_false (show ¬ (i<((2824:Nat):Int)) from h)];simp
    unfold aS.read;rw [h1,h2];rfl
def S0:FS:=⟨λn=>if n=1 then cB 2 1 else gu 0,λ_=>[],λ_=>[]⟩
theorem GZ {k:Int}(h0:0<=k):fB (200+k)=0:=by
 rw [Ya,if_neg (by omega),if_neg (by omega),if_neg (by omega)]
theorem Yo:∀ n:Fin 24,bW fB (8+(n.val:Int)*8) 8=fP (if (n.val:Int)=1 then cB 2 1 else gu 0):=by decide +kernel
theorem fs0:bK fB S0:=by
 have hno:∀ n:Int,0<=n->n<24->∀ x,0<=x->x<96->fB (200+x)≠w64 (n+1):=by
  intro n n0 n1 x x0 x1 e;rw [GZ x0] at e;have h1:(w64 (n+1)).toNat=(n+1).toNat:=by
   unfold w64;rw [UInt64.toNat_ofNat'];omega
  rw [<-e] at h1;have:(0:UInt64).toNat=0:=rfl;omega
 refine ⟨λn n0 n1=>?_,λn n0 n1=>?_,rfl,λk k0 k1=>.inl (GZ k0)⟩
 ·have:=Yo ⟨n.toNat,by omega⟩;simp only [Int.toNat_of_nonneg n0] at this;exact this
 ·by_cases h:n=1
  ·have:S0.C n=cB 2 1:=if_pos h;rw [this];exact Iz (by decide) 1 (hno n n0 n1)
  ·have:S0.C n=gu 0:=if_neg h;rw [this];exact Ad 0 (hno n n0 n1)
theorem Yp (s m a n:List Int)(ha:a=[]):bE fB ⟨fB,s,m,a,n⟩ 96=96:=by
 subst ha;unfold bE;rw [List.filter_eq_self.2 (λj hj=>?_),List.length_range];have hj:=List.mem_range.1 hj;unfold iF;have h0:fB (200+(j:Int))=0:=GZ (by omega);simp [h0];omega
def T0:List aD:=[⟨0,0,0,[],[]⟩,⟨1,2,1,[],[]⟩]
inductive RunT:List jo->List aD->List Int->Prop
 | nil:RunT [] T0 [0,1]
 | put {fs:List jo} {T:List aD} {num:List Int} {f:jo} {T':List aD} {num':List Int}:RunT fs T num->CO T num f T' num'->(Od T f->T'.length=T.length+1)->RunT (fs++[f]) T' num'
theorem CO.len {T:List aD}{num:List Int}{f:jo}{T':List aD}{num':List Int}(P:CO T num f T' num'):T'.length<=T.length+1:=by
 rcases P with ⟨rfl,rfl⟩|⟨n,_,_,_,_,rfl,rfl⟩
 ·omega
 ·unfold mG;simp
theorem RunT.len {fs:List jo}{T:List aD}{num:List Int}(R:RunT fs T num):T.length<=2+fs.length:=by
 induction R with
 | nil=>decide
 | put _ P _ ih=>have:=P.len;rw [List.length_append];show _<=2+(_+1);omega
def L0:List bY:=[⟨⟨0,0,0,[],[]⟩,none,0,0⟩,⟨⟨1,2,1,[],[]⟩,none,0,0⟩]
theorem Yq (h:Heap):aC Tryz.prog 40 [] h (λv h'=>Keeps [] h h'/\∃ bT t,v=.pointer (some ⟨t,0,none⟩)/\h.size<=bT/\h.size<=t/\h'[t]?=some (.cells ⟨[.slice (some ⟨bT,0,none⟩) 2 2]⟩ 80 (0,0))/\h'[bT]?=some (.cells ⟨gm L0⟩ 77 (0,0))):=by
 refine aG aH Tryz.func40 rfl ok40 (by simp [Tryz.f40]) ?_;(conv=>whnf);refine aL.i λb1 h1 e1 s1 o1 k1=>?_;(conv=>whnf);refine aL.i λb2 h2 e2 s2 o2 k2=>?_;(conv=>whnf);exact ⟨k1.trans k2,b1,b2,rfl,by omega,by omega,o2,k2.obj o1 (by simp)⟩
instance:Rp jo where
 n:=4
 iA _ vs x:=vs=x.cells/\x.ok
 len h:=by rw [h.1];rfl
 keep _ h:=h
instance:Flat jo:=⟨λh=>h⟩
section
variable {H:Type} {enc:TypeId×Value->H} {W:World} {sp:Nat->Bool} {held:Bool}
end
theorem RunT.inv {fs:List jo}{f:jo}{T':List aD}{num':List Int}(R:RunT (fs++[f]) T' num'):∃ T num,RunT fs T num/\CO T num f T' num'/\(Od T f->T'.length=T.length+1):=by
 generalize he:fs++[f]=gs at R;cases R with
 | nil=>simp at he
 | put R P G=>
  obtain ⟨rfl,e2⟩:=List.append_inj' he rfl;cases e2;exact ⟨_,_,R,P,G⟩
def GU (T:List aD)(f:jo):List aD:=mG T (vo f T.length) (bD (tn T (vo f T.length)).names ⟨f.name,(T.length:Int)⟩)++[⟨T.length,kindOf f,1,Oe f,[]⟩]
def f1:jo:=⟨0,1,[98],[]⟩
def f2:jo:=⟨0,2,[97],[47,98]⟩
def f3:jo:=⟨1,0,[99],[]⟩
def T3:List aD:=GU (GU (GU T0 f1) f2) f3
theorem WI.path {B:Int->UInt64}{X:VS}{S:FS}{T:List aD}{num:List Int}(W:WI B X S T num)(path:List UInt8)(follow:Bool) :
 (aR (aY S) path follow).2=(aR (aO T) path follow).2/\((aR (aO T) path follow).2=0->(aR (aY S) path follow).1=nu num (aR (aO T) path follow).1/\inT T (aR (aO T) path follow).1):=by
 unfold aR;cases bC path with
 | none=>exact ⟨rfl,λh=>by cases h⟩
 | some l=>
  have h1:inT T 1:=by have:=W.w.two;exact ⟨by omega,by omega⟩
  have:=qE W.w.alike (root:=1) (follow:=follow) h1 600 1 0 l h1;rw [W.w.root.1] at this;exact this
def iN (T:List aD):Prop:=∀ x∈T,x.kind≠3
theorem iN.tn {T:List aD}(h:iN T)(i:Int):(tn T i).kind≠3:=by
 unfold Proofs.YtoociceebodfeaaGreatDoor.tn;cases hx:T[i.toNat]? with
 | none=>decide
 | some x=>exact h x (List.mem_of_getElem? hx)
theorem iN.up {T:List aD}(h:iN T)(d:Int){x:aD}(hx:x.kind≠3):iN (bJ T d x):=λy hy=>by
 rcases List.mem_or_eq_of_mem_set hy with hy|rfl
 ·exact h y hy
 ·exact hx
theorem Pf {x:aD}(h:x.kind≠3):(tK x).kind≠3:=by
 unfold tK;split
 ·decide
 ·exact h
theorem fw.G7 {T T':List aD}{c:cK}{r:dz}(S:iN T)(h7:c.kind≠7)(h0:r.err=0)(DD:fw T c r T'):iN T':=by
 have jW:∀ {e:Int},r=bI e->e=0:=λh=>by rw [h] at h0;exact h0
 have dat:∀ {path:List UInt8} {f:List UInt8->List UInt8×Int},mD T path f 0 T'->iN T':=by
  intro path f D;rcases D with ⟨d1,d2⟩|⟨_,d1,d2⟩|⟨d1,_,_,rfl⟩
  ·exact absurd d2.symm d1
  ·exact absurd d2.symm d1
  ·exact S.up _ (S.tn _)
 have Hg:∀ {path:List UInt8} {k:Int},k≠3->mE T path k [] 0 T'->iN T':=by
  intro path k hk D;rcases D with ⟨d1,d2⟩|⟨d,nm,nd,Q,⟨_,d2⟩|⟨_,_,rfl⟩⟩
  ·exact absurd d2.symm d1
  ·cases d2
  ·intro y hy;rcases List.mem_append.1 hy with hy|hy
   ·refine iN.up S d (x:=_) ?_ y hy;exact S.tn d
   ·obtain rfl:=List.mem_singleton.1 hy;exact hk
 have rem:∀ {path:List UInt8} {b:Bool},qC T path b 0 T'->iN T':=by
  intro path b D;rcases D with ⟨d1,d2⟩|⟨d,nm,nd,Q,⟨_,d2⟩|⟨_,_,_,d2⟩|⟨_,_,_,d2⟩|⟨_,_,_,_,d2⟩|⟨_,_,_,_,rfl⟩⟩
  ·exact absurd d2.symm d1
  ·cases d2
  ·cases d2
  ·cases d2
  ·cases d2
  ·have S1:=S.up d (x:={ tn T d with names:=(tn T d).names.eraseIdx (aP (tn T d).names nm) }) (S.tn d);exact S1.up nd (Pf (S1.tn nd))
 by_cases k4:c.kind=4
 ·obtain ⟨e,he,D⟩:=(rc4 k4).1 DD;rw [jW he] at D;exact Hg (by decide) D
 by_cases k5:c.kind=5
 ·obtain ⟨e,he,D⟩:=(rc5 k5).1 DD;rw [jW he] at D;exact Hg (by decide) D
 by_cases k6:c.kind=6
 ·obtain ⟨e,he,D⟩:=(rc6 k6).1 DD;rw [jW he] at D;rcases D with ⟨d1,d2⟩|⟨_,_,d2⟩|⟨_,_,⟨d1,d2⟩|⟨d,nm,nd,Q,⟨_,d2⟩|⟨_,_,d2⟩|⟨_,_,_,hT⟩⟩⟩
  ·exact absurd d2.symm d1
  ·cases d2
  ·exact absurd d2.symm d1
  ·cases d2
  ·cases d2
  ·rw [hT];refine iN.up (iN.up S _ ?_) _ ?_
   ·exact S.tn _
   ·exact S.tn _
 by_cases k8:c.kind=8
 ·obtain ⟨e,he,D⟩:=(rc8 k8).1 DD;rw [jW he] at D;exact rem D
 by_cases k9:c.kind=9
 ·obtain ⟨e,he,D⟩:=(rc9 k9).1 DD;rw [jW he] at D;exact rem D
 by_cases k10:c.kind=10
 ·obtain ⟨e,he,D⟩:=(rc10 k10).1 DD;rw [jW he] at D;rcases D with ⟨_,d2⟩|⟨_,_,⟨d1,d2⟩|⟨d,nm,nd,Q,⟨_,d2⟩|⟨_,⟨d1,d2⟩|⟨f,nm2,nd2,Q2,⟨_,_,rfl⟩|⟨_,_,d2⟩|⟨_,_,_,d2⟩|⟨_,_,_,rfl⟩⟩⟩⟩⟩
  ·cases d2
  ·exact absurd d2.symm d1
  ·cases d2
  ·exact absurd d2.symm d1
  ·exact S
  ·cases d2
  ·cases d2
  ·have S1:=S.up d (x:={ tn T d with names:=(tn T d).names.eraseIdx (aP (tn T d).names nm) }) (S.tn d);exact S1.up f (S1.tn f)
 by_cases k11:c.kind=11
 ·obtain ⟨e,he,D⟩:=(rc11 k11).1 DD;rw [jW he] at D;exact dat D
 by_cases k13:c.kind=13
 ·obtain ⟨e,he,D⟩:=(rc13 k13).1 DD;rw [jW he] at D;exact dat D
 by_cases k12:c.kind=12
 ·rw [((rc12 k12).1 DD).1];exact S
 by_cases k14:c.kind=14
 ·rw [((rc14 k14).1 DD).1];exact S
 by_cases k16:c.kind=16
 ·rw [((rc16 k16).1 DD).1];exact S
 by_cases k15:c.kind=15
 ·rw [((rc15 k15).1 DD).1];exact S
 rw [((rc0 (by omega)).1 DD).1];exact S
theorem xg {F:Fs}(hn:∀ i,F.kind i≠3){r:Int}:∀ (f:Nat) (fl:Bool) (at_:Int) (k:Nat) (l:List (List UInt8)),l.length<f->dn F r fl f at_ k l=(match l with
 | []=>(at_,0)
 | name::rest=>if F.kind at_≠2 then (0,6) else match F.find at_ name with
  | none=>(0,4)
  | some next=>dn F r fl (f-1) next k rest)
 | f+1,fl,at_,k,[],_=>rfl
 | f+1,fl,at_,k,name::rest,_=>by
  rw [tL];simp only [Nat.add_sub_cancel];split
  ·rfl
  ·cases F.find at_ name with
   | none=>rfl
   | some next=>
    simp only;rw [if_pos (.inl (hn next))]
theorem Hl {T:List aD}(S:iN T){y:Int}:∀ (f:Nat) (at_:Int) (k:Nat) (l:List (List UInt8)) (fl:Bool),l.length<f->dn (aO T) 1 fl f at_ k l=(y,0)->fF T y at_
 | f+1,at_,k,[],fl,_,h=>by
  have:at_=y:=congrArg Prod.fst h;rw [this];exact .refl
 | f+1,at_,k,name::rest,fl,hl,h=>by
  rw [xg (F:=aO T) S.tn _ _ _ _ _ hl] at h;simp only [Nat.add_sub_cancel] at h;by_cases hk:(aO T).kind at_=2
  ·rw [if_neg (λh=>h hk)] at h;cases hf:(aO T).find at_ name with
   | none=>rw [hf] at h;cases h
   | some next=>
    rw [hf] at h;obtain ⟨e,he,hen⟩:=vw.1 hf;have:=Hl S f next k rest fl (by simp only [List.length_cons] at hl;omega) h;rw [<-hen] at this;exact .head hk (List.mem_of_find?_eq_some he) this
  ·rw [if_pos hk] at h;cases h
def zO (x:aD)(nm:List UInt8):aD:={ x with names:=x.names.eraseIdx (aP x.names nm) }
def Pg (x:aD)(nm:List UInt8)(n:Int):aD:={ x with names:=bD x.names ⟨nm,n⟩ }
structure Moved (T T':List aD)(d:Int)(nm:List UInt8)(f:Int)(nm2:List UInt8)(x:Int):Prop where
 kind:∀ i,inT T i->(tn T' i).kind=(tn T i).kind
 find:∀ i n,inT T i->(tn T i).kind=2->(aO T').find i n=if i=f/\n=nm2 then some x else if i=d/\n=nm then none else (aO T).find i n
 same:∀ i,inT T i->i≠d->i≠f->tn T' i=tn T i
 was:(aO T).find d nm=some x
 new:(aO T).find f nm2=none
 inn:inT T d/\(tn T d).kind=2/\inT T f/\(tn T f).kind=2/\inT T x
 rM:¬ fF T f x/\¬ fF T d x
theorem Moved.walk {T T':List aD}{d f x:Int}{nm nm2:List UInt8}(M:Moved T T' d nm f nm2 x)(W:jq T)(S:iN T){y:Int}(hb:¬ fF T y x):∀ (g:Nat) (at_:Int) (k:Nat) (l:List (List UInt8)) (fl:Bool),inT T at_->l.length<g->dn (aO T) 1 fl g at_ k l=(y,0)->dn (aO T') 1 fl g at_ k l=(y,0)
 | g+1,at_,k,[],fl,_,_,h=>h
 | g+1,at_,k,name::rest,fl,hi,hl,h=>by
  rw [xg (F:=aO T) S.tn _ _ _ _ _ hl] at h;simp only [Nat.add_sub_cancel] at h;by_cases hk:(aO T).kind at_=2
  ·rw [if_neg (λh=>h hk)] at h;cases hf:(aO T).find at_ name with
   | none=>rw [hf] at h;cases h
   | some next=>
    rw [hf] at h;have hl':rest.length<g:=by simp only [List.length_cons] at hl;omega
    obtain ⟨e,he,hen⟩:=vw.1 hf;have hin:inT T next:=hen ▸ (W.dir at_ hi hk).2.1 e (List.mem_of_find?_eq_some he);have hg:(aO T').find at_ name=some next:=by
     rw [M.find at_ name hi hk];by_cases h1:at_=f/\name=nm2
     ·rw [h1.1,h1.2,M.new] at hf;cases hf
     ·rw [if_neg h1];by_cases h2:at_=d/\name=nm
      ·exfalso;rw [h2.1,h2.2,M.was] at hf;cases hf;exact hb (Hl S g x k rest fl hl' h)
      ·rw [if_neg h2];exact hf
    have ih:=M.walk W S hb g next k rest fl hin hl' h;rw [tL,if_neg (λh=>h ((M.kind at_ hi).trans hk)),hg];simp only;rw [if_pos (.inl (by show (tn T' next).kind≠3;rw [M.kind next hin];exact S.tn next))];exact ih
  ·rw [if_pos hk] at h;cases h
theorem Ho {F:Fs}(hn:∀ i,F.kind i≠3){d:Int}{n:List UInt8}:∀ (f:Nat) (at_:Int) (k:Nat) (l:List (List UInt8)) (fl:Bool),l.length+1<f->dn F 1 true f at_ k l=(d,0)->F.kind d=2->dn F 1 fl f at_ k (l++[n])=(match F.find d n with|none=>(0,4)|some y=>(y,0))
 | f+2,at_,k,[],fl,_,h,hd=>by
  have:at_=d:=congrArg Prod.fst h;subst this;rw [List.nil_append,xg hn _ _ _ _ _ (by simp)];simp only;rw [if_neg (λh=>h hd)];cases F.find at_ n with
  | none=>rfl
  | some y=>rfl
 | f+2,at_,k,name::rest,fl,hl,h,hd=>by
  simp only [List.length_cons] at hl;rw [xg hn _ _ _ _ _ (by simp only [List.length_cons];omega)] at h;rw [List.cons_append,xg hn _ _ _ _ _ (by simp;omega)];simp only [Nat.add_sub_cancel] at h ⊢;by_cases hk:F.kind at_=2
  ·rw [if_neg (λh=>h hk)] at h ⊢;cases hf:F.find at_ name with
   | none=>rw [hf] at h;cases h
   | some next=>
    rw [hf] at h;exact Ho hn (f+1) next k rest fl (by omega) h hd
  ·rw [if_pos hk] at h;cases h
theorem Ph {l:List (List UInt8)}(h:l≠[]):l.dropLast++[l.getLast?.getD []]=l:=by
 rw [List.getLast?_eq_some_getLast h];exact List.dropLast_concat_getLast h
theorem wZ {F:Fs}(hn:∀ i,F.kind i≠3){path nm:List UInt8}{d:Int}{l:List (List UInt8)}(hp:bC path=some l)(hl:l≠[])(hw:dn F 1 true 600 1 0 l.dropLast=(d,0))(hk:F.kind d=2)(hnm:nm=l.getLast?.getD [])(fl:Bool) :
 aR F path fl=(match F.find d nm with|none=>(0,4)|some y=>(y,0)):=by
 unfold aR;rw [hp];simp only;have h60:=(jX hp).1;have:=Ho hn (n:=nm) 600 1 0 l.dropLast fl (by rw [List.length_dropLast];omega) hw hk;rw [hnm,Ph hl] at this;rw [hnm];exact this
theorem lM.moved {S:FS}{T T':List aD}{num:List Int}(W:bX S T num)(NL:iN T){old name:List UInt8}(D:lM T old name 0 T')(hn:(aR (aO T) name false).2≠0) :
 ∃ l1 l2 d nm f nm2 x,bC old=some l1/\l1≠[]/\dn (aO T) 1 true 600 1 0 l1.dropLast=(d,0)/\nm=l1.getLast?.getD []/\bC name=some l2/\l2≠[]/\dn (aO T) 1 true 600 1 0 l2.dropLast=(f,0)/\nm2=l2.getLast?.getD []/\x≠0/\Moved T T' d nm f nm2 x:=by
 have WT:=W.tree;rcases D with ⟨_,d2⟩|⟨_,_,⟨d1,d2⟩|⟨d,nm,nd,Q,⟨_,d2⟩|⟨h0,⟨d1,d2⟩|⟨f,nm2,nd2,Q2,D⟩⟩⟩⟩
 ·cases d2
 ·exact absurd d2.symm d1
 ·cases d2
 ·exact absurd d2.symm d1
 ·obtain ⟨l1,hp1,hl1,hw1,hk1,hn1,hd1⟩:=CV Q.is;obtain ⟨l2,hp2,hl2,hw2,hk2,hn2,hd2⟩:=CV Q2.is;have hpath2:=wZ (F:=aO T) NL.tn hp2 hl2 hw2 hk2 hn2 false;obtain ⟨e1,he1,hen1,hem1,hin1⟩:=Q.there WT h0;have Pj:(aO T).find d nm=some nd:=vw.2 ⟨e1,he1,hen1⟩;rcases D with ⟨hs,_,_⟩|⟨_,_,d2⟩|⟨_,_,_,d2⟩|⟨hz,hb,_,hT⟩
  ·exfalso;apply hn;have h2:nd2≠0:=by rw [hs];exact h0
   obtain ⟨e2,he2,hen2,_⟩:=Q2.there WT h2;rw [hpath2,vw.2 ⟨e2,he2,hen2⟩]
  ·cases d2
  ·cases d2
  ·subst hz;have hnew:=Q2.new WT;have hnone:(aO T).find f nm2=none:=Pk hnew;have hbf:¬ fF T f nd:=λh=>hb ⟨h.dir Q2.kind,h⟩;obtain ⟨rk,zP⟩:=W.rank;have hbel:∀ {y a:Int},fF T y a->live T a->rk y<=rk a:=by
    intro y a h
    induction h with
    | refl=>exact λ_=>Nat.le_refl _
    | head h1 h2 _ ih=>
     intro hl;have:=zP _ hl h1 _ h2;have:=ih ((W.dir _ hl h1).2.1 _ h2);omega
   have hld:live T d:=⟨Q.inn,by rw [Q.kind];decide⟩;have hlx:live T nd:=hen1 ▸ (W.dir d hld Q.kind).2.1 e1 hem1;have hbd:¬ fF T d nd:=λh=>by
    have h1:=hbel h hlx;have h2:=zP d hld Q.kind e1 hem1;rw [hen1] at h2;omega
   have hst:=(WT.dir d Q.inn Q.kind).2.2;have hsf:=(WT.dir f Q2.inn Q2.kind).2.2;obtain ⟨hpt,hkl,_,_⟩:=vz hst he1;have hd0:(0:Int)<=d:=by have:=Q.inn.1;omega
   have hf0:(0:Int)<=f:=by have:=Q2.inn.1;omega
   have htn:∀ i,inT T i->tn T' i=if i=f then Pg (if f=d then zO (tn T d) nm else tn T f) nm2 nd else if i=d then zO (tn T d) nm else tn T i:=λi hi=>by
    have hi0:(0:Int)<=i:=by have:=hi.1;omega
    rw [hT,lQ ((xh _).2 Q2.inn) _ hi0,lQ Q.inn _ hi0,lQ Q.inn _ hf0];rfl
   refine ⟨l1,l2,d,nm,f,nm2,nd,hp1,hl1,hw1,hn1,hp2,hl2,hw2,hn2,h0,⟨λi hi=>?_,λi n hi hki=>?_,λi hi h1 h2=>?_,Pj,hnone,⟨Q.inn,Q.kind,Q2.inn,Q2.kind,hin1⟩,hbf,hbd⟩⟩
   ·rw [htn i hi];by_cases h1:i=f
    ·rw [if_pos h1];show (if f=d then zO (tn T d) nm else tn T f).kind=_;by_cases h2:f=d
     ·rw [if_pos h2,h1,h2];rfl
     ·rw [if_neg h2,h1]
    ·rw [if_neg h1];by_cases h2:i=d
     ·rw [if_pos h2,h2];rfl
     ·rw [if_neg h2]
   ·show (bR (tn T' i).names n).map (·.node)=_;rw [htn i hi];by_cases h1:i=f
    ·rw [if_pos h1];generalize hB:(if f=d then zO (tn T d) nm else tn T f)=B;show (bR (bD B.names ⟨nm2,nd⟩) n).map (·.node)=_;have hbase:∀ n,bR B.names n=if i=d/\n=nm then none else bR (tn T i).names n:=λn=>by
      rw [<-hB];by_cases h2:f=d
      ·rw [if_pos h2];show bR ((tn T d).names.eraseIdx (aP (tn T d).names nm)) n=_;rw [Hq hst hpt,h1,h2];by_cases h3:n=nm
       ·rw [if_pos h3,if_pos ⟨rfl,h3⟩]
       ·rw [if_neg h3,if_neg (show ¬ (d=d/\n=nm) from λh=>h3 h.2)]
      ·rw [if_neg h2,if_neg (show ¬ (i=d/\n=nm) from λh=>h2 (h1.symm.trans h.1)),h1]
     have hsb:strict B.names:=by
      rw [<-hB];split
      ·exact tN hst _
      ·exact hsf
     have hnn:bR B.names nm2=none:=by
      rw [hbase];split
      ·rfl
      ·rw [h1];exact hnew
     rw [Pm hsb hnn];by_cases h3:n=nm2
     ·rw [if_pos h3,if_pos (show i=f/\n=nm2 from ⟨h1,h3⟩)];rfl
     ·rw [if_neg h3,if_neg (show ¬ (i=f/\n=nm2) from λh=>h3 h.2),hbase];by_cases h4:i=d/\n=nm
      ·rw [if_pos h4,if_pos h4];rfl
      ·rw [if_neg h4,if_neg h4];rfl
    ·rw [if_neg h1,if_neg (show ¬ (i=f/\n=nm2) from λh=>h1 h.1)];by_cases h2:i=d
     ·rw [if_pos h2];show (bR ((tn T d).names.eraseIdx (aP (tn T d).names nm)) n).map (·.node)=_;rw [Hq hst hpt];by_cases h3:n=nm
      ·rw [if_pos h3,if_pos (show i=d/\n=nm from ⟨h2,h3⟩)];rfl
      ·rw [if_neg h3,if_neg (show ¬ (i=d/\n=nm) from λh=>h3 h.2),h2];rfl
     ·rw [if_neg h2,if_neg (show ¬ (i=d/\n=nm) from λh=>h2 h.1)];rfl
   ·rw [htn i hi,if_neg h2,if_neg h1]
theorem He {S:FS}{T T':List aD}{num:List Int}(W:bX S T num)(NL:iN T){old name:List UInt8}(D:lM T old name 0 T')(hn:(aR (aO T) name false).2≠0) :
 ∃ x,(∀ fl,aR (aO T) old fl=(x,0))/\(∀ fl,aR (aO T') name fl=(x,0))/\(∀ fl,(aR (aO T') old fl).2≠0)/\tn T' x=tn T x/\iN T'/\∀ e T2,jq T'->lM T' name old e T2->e=0:=by
 have WT:=W.tree;have CX:iN T':=(show fw T ⟨10,old,name,[],0,0⟩ (bI 0) T' from (rc10 rfl).2 ⟨0,rfl,D⟩).G7 NL (by show (10:Int)≠7;decide) rfl;obtain ⟨l1,l2,d,nm,f,nm2,x,hp1,hl1,hw1,hn1,hp2,hl2,hw2,hn2,hx0,M⟩:=D.moved W NL hn;obtain ⟨Hr,kd,Ht,kf,ix⟩:=M.inn;have Hu:inT T 1:=⟨by decide,by have:=WT.two;omega⟩;have h60:=(jX hp1).1;have h61:=(jX hp2).1;have g1:=M.walk WT NL M.rM.2 600 1 0 l1.dropLast true Hu (by rw [List.length_dropLast];omega) hw1;have g2:=M.walk WT NL M.rM.1 600 1 0 l2.dropLast true Hu (by rw [List.length_dropLast];omega) hw2;have kd':(aO T').kind d=2:=(M.kind d Hr).trans kd;have Hw:(aO T').kind f=2:=(M.kind f Ht).trans kf;have f2:(aO T').find f nm2=some x:=by rw [M.find f nm2 Ht kf,if_pos ⟨rfl,rfl⟩]
 have f1:(aO T').find d nm=none:=by
  rw [M.find d nm Hr kd];by_cases h:d=f/\nm=nm2
  ·have:=M.was;rw [h.1,h.2,M.new] at this;cases this
  ·rw [if_neg h,if_pos ⟨rfl,rfl⟩]
 have hxd:x≠d:=λh=>M.rM.2 (h ▸ .refl);have Pn:x≠f:=λh=>M.rM.1 (h ▸ .refl);refine ⟨x,λfl=>?_,λfl=>?_,λfl=>?_,M.same x ix hxd Pn,CX,λe T2 YM D2=>?_⟩
 ·rw [wZ (F:=aO T) NL.tn hp1 hl1 hw1 kd hn1 fl,M.was]
 ·rw [wZ (F:=aO T') CX.tn hp2 hl2 g2 Hw hn2 fl,f2]
 ·rw [wZ (F:=aO T') CX.tn hp1 hl1 g1 kd' hn1 fl,f1]
  decide
 ·have P2:=Hy (F:=aO T') hp2 hl2 g2 Hw;rw [<-hn2,f2] at P2;have P1:=Hy (F:=aO T') hp1 hl1 g1 kd';rw [<-hn1,f1] at P1;have hbel:∀ {y a:Int},fF T' y a->y=d->inT T a->fF T a x->(∀ b,fF T b a->fF T b x)->False:=by
   intro y a h
   induction h with
   | refl=>
    intro hy _ hb _;rw [hy] at hb;exact M.rM.2 hb
   | @head a e h1 h2 _ ih=>
    intro hy hi hb hc;have had:a≠d:=λh=>M.rM.2 (h ▸ hb);have Po:a≠f:=λh=>M.rM.1 (h ▸ hb);rw [M.same a hi had Po] at h1 h2;have he:fF T e.node a:=.head h1 h2 .refl;exact ih hy ((WT.dir a hi h1).2.1 e h2) (hc _ he) (λb hb2=>hc b (.head h1 h2 hb2))
  rcases D2 with ⟨h,_⟩|⟨_,_,⟨d1,d2⟩|⟨d',gK,nd',Q',⟨h,_⟩|⟨h0,⟨d1,_⟩|⟨f',Hz,zQ,Pp,D⟩⟩⟩⟩
  ·rcases h with h|h
   ·rw [hp2] at h;cases h
   ·rw [hp1] at h;cases h
  ·rw [P2] at d1;exact absurd rfl d1
  ·have:=Q'.is;rw [P2] at this;have:=congrArg (λq=>q.2.2.1) this;simp only [Option.getD_some] at this;omega
  ·rw [P1] at d1;exact absurd rfl d1
  ·have e1:=Q'.is;rw [P2] at e1;have hnd:x=nd':=congrArg (λq=>q.2.2.1) e1;have e2:=Pp.is;rw [P1] at e2;have hnd2:(0:Int)=zQ:=congrArg (λq=>q.2.2.1) e2;have CY:d=f':=congrArg Prod.fst e2;rcases D with ⟨h,_⟩|⟨_,⟨_,h⟩,_⟩|⟨_,_,h,_⟩|⟨_,_,he,_⟩
   ·omega
   ·exfalso;rw [<-hnd,<-CY] at h;exact hbel h rfl ix .refl (λb hb=>hb)
   ·omega
   ·exact he
structure mr (S:FS)(K:Int->Int)(NM:Int->List aF)(BY:Int->List UInt8):Prop where
 k:∀ i,(S.C i).kind=K i
 n:∀ i,S.nm i=NM i
 b:∀ i,S.aQ i=BY i
def vf (K:Int->Int)(NM:Int->List aF)(BY:Int->List UInt8):Fs:=⟨K,λi name=>(bR (NM i) name).map (·.node),BY⟩
theorem mr.view {S:FS}{K:Int->Int}{NM:Int->List aF}{BY:Int->List UInt8}(Z:mr S K NM BY):aY S=vf K NM BY:=by
 have h1:(λi=>(S.C i).kind)=K:=funext Z.k;have h2:S.nm=NM:=funext Z.n;have h3:S.aQ=BY:=funext Z.b;unfold aY vf;rw [h1,h2,h3]
theorem mr.fc {S:FS}{K:Int->Int}{NM:Int->List aF}{BY:Int->List UInt8}(Z:mr S K NM BY)(h1:K 1=2)(h:∀ n:Fin 24,K (n.val:Int)=2->∀ e∈NM (n.val:Int),0<=e.node/\e.node<24/\K e.node≠0):gD S:=by
 refine ⟨(Z.k 1).trans h1,λn n0 n1 hk e he=>?_⟩;have:=h ⟨n.toNat,by omega⟩;simp only [Int.toNat_of_nonneg n0] at this;rw [Z.n] at he;have:=this ((Z.k n).symm.trans hk) e he;rw [Z.k];exact this
theorem mr.ns {S:FS}{K:Int->Int}{NM:Int->List aF}{BY:Int->List UInt8}(Z:mr S K NM BY)(h:∀ n:Fin 24,K (n.val:Int)=2->∀ e∈NM (n.val:Int),e.node≠(n.val:Int)):wP S:=by
 intro n n0 n1 hk e he;have:=h ⟨n.toNat,by omega⟩;simp only [Int.toNat_of_nonneg (show 0<=n by omega)] at this;rw [Z.n] at he;exact this ((Z.k n).symm.trans hk) e he
theorem Oq {B:Int->UInt64}{X X':VS}{S:FS}{K:Int->Int}{NM:Int->List aF}{BY:Int->List UInt8}{path data nm:List UInt8}{kind n1:Int}{v:Value}(Z:mr S K NM BY)(hp:bB (vf K NM BY) path=(1,nm,0,0))
 (hfree:8<=bE B X 96) (hlen:(NM 1).length<10) (hn:2<=n1/\n1<24/\K n1=0) (hl:∀ k:Fin 24,2<=(k.val:Int)->(k.val:Int)<n1->K (k.val:Int)≠0) (R:lJ B X S path kind data v X') :
 v=.int .i64 0/\X'.away=X.away/\X'.bG=X.bG/\bE B X 96<=bE B X' 96+8/\∃ S',bK X'.now S' /\
  mr S' (λi=>if i=1 then 2 else if i=n1 then kind else K i) (λi=>if i=1 then bD (NM 1) ⟨nm,n1⟩ else if i=n1 then [] else NM i) (λi=>if i=1 then BY 1 else if i=n1 then data else BY i) /\
  (S'.C n1).links=1/\∀ i,i≠1->i≠n1->S'.C i=S.C i:=by
 obtain ⟨e1,e2,H⟩:=R;have hv:=Z.view;rw [hv] at H;rcases H with ⟨he,_⟩|⟨d,gK,nd,P,H⟩
 ·rw [hp] at he;exact absurd rfl he
 ·have hP:=P.is;rw [hv,hp] at hP;obtain ⟨t1,t2⟩:=Prod.mk.inj hP;obtain ⟨t2,t3⟩:=Prod.mk.inj t2;obtain ⟨t3,_⟩:=Prod.mk.inj t3;subst t1 t2 t3;rcases H with ⟨hnd,_⟩|⟨_,_,hc⟩|⟨_,hv0,hm,hf,n,Mk⟩
  ·exact absurd rfl hnd
  ·exfalso;rcases hc with hc|hc|hc
   ·omega
   ·rw [Z.n] at hc;omega
   ·exact hc n1 hn.1 hn.2.1 ((Z.k n1).trans hn.2.2)
  ·have hne:n=n1:=by
    have h1:=Mk.was;rw [Z.k] at h1;have h2:=Mk.bH;rcases Int.lt_trichotomy n n1 with h|h|h
    ·have:=hl ⟨n.toNat,by omega⟩;simp only [Int.toNat_of_nonneg (show 0<=n by omega)] at this;exact absurd h1 (this h2.1 h)
    ·exact h
    ·exact absurd ((Z.k n1).trans hn.2.2) (Mk.least n1 hn.1 h)
   subst hne;obtain ⟨c2,c1,k1,k2,k3,k4,I⟩:=Mk.fs;have hn1:n≠1:=by have:=hn.1;omega
   refine ⟨hv0,e1,e2,hf,_,I,⟨λi=>?_,λi=>?_,λi=>?_⟩,?_,λi h1 h2=>?_⟩
   ·show (if i=1 then c1 else if i=n then c2 else S.C i).kind=_;by_cases h1:i=1
    ·rw [if_pos h1,if_pos h1];exact k3
    ·rw [if_neg h1,if_neg h1];by_cases h2:i=n
     ·rw [if_pos h2,if_pos h2];exact k1
     ·rw [if_neg h2,if_neg h2];exact Z.k i
   ·show (if i=1 then bD (S.nm 1) ⟨nm,n⟩ else if i=n then [] else S.nm i)=_;rw [Z.n 1,Z.n i]
   ·show (if i=1 then S.aQ 1 else if i=n then data else S.aQ i)=_;rw [Z.b 1,Z.b i]
   ·show (if n=1 then c1 else if n=n then c2 else S.C n).links=1;rw [if_neg hn1,if_pos rfl];exact k2
   ·show (if i=1 then c1 else if i=n then c2 else S.C i)=_;rw [if_neg h1,if_neg h2]
def K0 (i:Int):Int:=if i=1 then 2 else 0
def N0 (i:Int):List aF:=[]
def B0 (i:Int):List UInt8:=[]
def K1 (i:Int):Int:=if i=1 then 2 else if i=2 then 1 else K0 i
def N1 (i:Int):List aF:=if i=1 then bD (N0 1) ⟨[102],2⟩ else if i=2 then [] else N0 i
def B1 (i:Int):List UInt8:=if i=1 then B0 1 else if i=2 then [] else B0 i
def K2 (i:Int):Int:=if i=1 then 2 else if i=3 then 3 else K1 i
def N2 (i:Int):List aF:=if i=1 then bD (N1 1) ⟨[108],3⟩ else if i=3 then [] else N1 i
def B2 (i:Int):List UInt8:=if i=1 then B1 1 else if i=3 then [47,102] else B1 i
def B3 (i:Int):List UInt8:=if i=2 then [104,105] else B2 i
def K4 (i:Int):Int:=if i=3 then 0 else if i=1 then 2 else K2 i
def N4 (i:Int):List aF:=if i=3 then [] else if i=1 then (N2 1).eraseIdx (aP (N2 1) [108]) else N2 i
def B4 (i:Int):List UInt8:=if i=3 then [] else if i=1 then B3 1 else B3 i
theorem sim0:mr S0 K0 N0 B0:=⟨λi=>by
 show (if i=1 then cB 2 1 else gu 0).kind=if i=1 then 2 else 0;by_cases h:i=1
 ·rw [if_pos h,if_pos h];rfl
 ·rw [if_neg h,if_neg h];rfl,λ_=>rfl,λ_=>rfl⟩
theorem pl0:bB (vf K0 N0 B0) [47,102]=(1,[102],0,0):=by decide +kernel
theorem pl1:bB (vf K1 N1 B1) [47,108]=(1,[108],0,0):=by decide +kernel
theorem pa2:aR (vf K2 N2 B2) [47,108] true=(2,0):=by decide +kernel
theorem pl3:bB (vf K2 N2 B3) [47,108]=(1,[108],3,0):=by decide +kernel
theorem pa4:aR (vf K4 N4 B4) [47,102] true=(2,0):=by decide +kernel
theorem pb4:aR (vf K4 N4 B4) [47,102] false=(2,0):=by decide +kernel
theorem fc0:∀ n:Fin 24,K0 (n.val:Int)=2->∀ e∈N0 (n.val:Int),0<=e.node/\e.node<24/\K0 e.node≠0:=by decide +kernel
theorem fc1:∀ n:Fin 24,K1 (n.val:Int)=2->∀ e∈N1 (n.val:Int),0<=e.node/\e.node<24/\K1 e.node≠0:=by decide +kernel
theorem fc2:∀ n:Fin 24,K2 (n.val:Int)=2->∀ e∈N2 (n.val:Int),0<=e.node/\e.node<24/\K2 e.node≠0:=by decide +kernel
theorem ns2:∀ n:Fin 24,K2 (n.val:Int)=2->∀ e∈N2 (n.val:Int),e.node≠(n.val:Int):=by decide +kernel
theorem fc4:∀ n:Fin 24,K4 (n.val:Int)=2->∀ e∈N4 (n.val:Int),0<=e.node/\e.node<24/\K4 e.node≠0:=by decide +kernel
theorem YE {B:Int->UInt64}{X X':VS}{S:FS}{v:Value}(Z:mr S K2 N2 B2)(hfree:2<=bE B X 96)(R:sW B X S [47,108] 0 [104,105] v X') :
 v=.int .i64 0/\X'.away=X.away/\X'.bG=X.bG/\∃ S',bK X'.now S'/\mr S' K2 N2 B3/\(S'.C 2).links=(S.C 2).links/\S'.C 3=S.C 3:=by
 obtain ⟨e1,e2,H⟩:=R;have hp:cO S [47,108]=(2,0):=by unfold cO;rw [Z.view];exact pa2
 have hk:(S.C 2).kind=1:=by rw [Z.k];decide +kernel
 have he:gB S [47,108]=0:=by
  unfold gB;rw [hp,if_neg (by rintro ⟨_,h⟩;rw [hk] at h;cases h)]
 have hb:S.aQ 2=[]:=by rw [Z.b];decide +kernel
 rw [he,hp] at H;simp only [hb] at H;have hr:fu [] 0 [104,105]=([104,105],0):=by decide +kernel
 rw [hr] at H;rcases H with ⟨h,_⟩|⟨_,h,_⟩|⟨_,_,_,h⟩|⟨_,_,hv,_,c',hc1,hc2,I⟩
 ·exact absurd rfl h
 ·exact absurd rfl h
 ·exfalso;have:((0:Int).toNat+[(104:UInt8),105].length+127)/128-(0:Int).toNat/128+1=2:=by decide
  omega
 ·refine ⟨hv,e1,e2,_,I,⟨λi=>?_,λi=>?_,λi=>?_⟩,?_,?_⟩
  ·show (if i=2 then c' else S.C i).kind=_;by_cases h:i=2
   ·rw [if_pos h,h,hc1];exact Z.k 2
   ·rw [if_neg h];exact Z.k i
  ·show (if i=2 then S.nm 2 else S.nm i)=_;by_cases h:i=2
   ·rw [if_pos h,h];exact Z.n 2
   ·rw [if_neg h];exact Z.n i
  ·show (if i=2 then [104,105] else S.aQ i)=_;unfold B3;rw [Z.b i]
  ·show (if (2:Int)=2 then c' else S.C 2).links=_;rw [if_pos rfl];exact hc2
  ·show (if (3:Int)=2 then c' else S.C 3)=_;rw [if_neg (by decide)]
theorem YF {X X':VS}{S:FS}{v:Value}(Z:mr S K2 N2 B3)(hl:(S.C 3).links=1)(R:oh X S [47,108] qz v X') :
 v=.int .i64 0/\X'.away=X.away/\X'.bG=X.bG/\∃ S',bK X'.now S'/\mr S' K4 N4 B4/\S'.C 2=S.C 2:=by
 obtain ⟨e1,e2,H⟩:=R;have hv:=Z.view;rw [hv] at H;rcases H with ⟨he,_⟩|⟨d,gK,nd,P,H⟩
 ·rw [pl3] at he;exact absurd rfl he
 ·have hP:=P.is;rw [hv,pl3] at hP;obtain ⟨t1,t2⟩:=Prod.mk.inj hP;obtain ⟨t2,t3⟩:=Prod.mk.inj t2;obtain ⟨t3,_⟩:=Prod.mk.inj t3;subst t1 t2 t3;have hk:(S.C 3).kind=3:=by rw [Z.k];decide +kernel
  have hm:qz (S.C 3)=0:=by
   unfold qz;rw [hk,if_neg (by decide)]
  rcases H with ⟨h,_⟩|⟨_,h,_⟩|⟨_,_,hv0,_,c1,k1,_,⟨h,_⟩|⟨_,vv,I⟩⟩
  ·cases h
  ·exact absurd hm h
  ·omega
  ·refine ⟨hv0,e1,e2,_,I,⟨λi=>?_,λi=>?_,λi=>?_⟩,?_⟩
   ·show (if i=3 then gu vv else if i=1 then c1 else S.C i).kind=_;unfold K4;by_cases h3:i=3
    ·rw [if_pos h3,if_pos h3];rfl
    ·rw [if_neg h3,if_neg h3];by_cases h1:i=1
     ·rw [if_pos h1,if_pos h1];exact k1
     ·rw [if_neg h1,if_neg h1];exact Z.k i
   ·show (if i=3 then [] else if i=1 then (S.nm 1).eraseIdx (aP (S.nm 1) [108]) else S.nm i)=_;unfold N4;rw [Z.n 1,Z.n i]
   ·show (if i=3 then [] else if i=1 then S.aQ 1 else S.aQ i)=_;unfold B4;rw [Z.b 1,Z.b i]
   ·show (if (2:Int)=3 then gu vv else if (2:Int)=1 then c1 else S.C 2)=_;rw [if_neg (by decide),if_neg (by decide)]
theorem G9 (h:Heap):aC Tryz.prog 11 [] h (λv h'=>Keeps [] h h'/\∃ (w t bT:Nat) (V:VL) (N:aS),v=.pointer (some ⟨w,0,none⟩) /\
 h'[w]?=some (.cells ⟨[.pointer (some ⟨V.mem.m,0,none⟩),.pointer (some ⟨V.v,0,none⟩),.pointer (some ⟨t,0,none⟩)]⟩ 31 (0,0))/\h'[t]?=some (.cells ⟨[.slice (some ⟨bT,0,none⟩) 2 2]⟩ 80 (0,0))/\h'[bT]?=some (.cells ⟨gm L0⟩ 77 (0,0)) /\
 At h' V N ⟨fB,[],[],[],[]⟩/\N.read=fB/\N.gy = -1/\N.sure.length=2824/\N.loose=[]/\V.ab=none/\V.jY=none/\(∀ b∈V.blocks,h.size<=b/\b<bT/\b<t/\b<w)):=by
 refine aG aH Tryz.func11 rfl ok11 (by simp [Tryz.f11]) ?_;(conv=>whnf);refine ak.i (Ym 2824 (by decide) (by decide) h) λv h1 k1 hv=>?_;obtain ⟨ML1,rfl,A1,O1,n1⟩:=hv;have z1:=k1.size;(conv=>whnf);refine ak.m (XQ A1 O1 rfl rfl rfl rfl) (by simp [au]) λv h2 k2 hv=>?_;obtain ⟨rfl,N,A2,hu,hs,hr,hlo⟩:=hv;have z2:=k2.size;(conv=>whnf);refine aj.f rfl ?_;(conv=>whnf);refine ak.i (SV A2) λv h3 k3 hv=>?_;rw [if_pos hs] at hv;obtain ⟨V,rfl,Oo,hab,jI,Yz,A3⟩:=hv;have z3:=k3.size;have hr2:N.read=fB:=funext hr;rw [hr2] at A3;(conv=>whnf);refine ak.i (Yq h3) λv h4 k4 hv=>?_;obtain ⟨bT,t,rfl,GK,ht,YA,YB⟩:=hv;have z4:=k4.size;(conv=>whnf);refine aL.i λw h5 e5 s5 o5 k5=>?_;have k35:Keeps [] h3 h5:=k4.trans k5;have A5:=A3.on k35;have YC:∀ b∈V.blocks,b<h3.size:=A3.blt;have YD:∀ b∈V.blocks,h.size<=b:=by
  intro b hb;have hb2:b∈[V.v,V.ob,V.sb,V.mb]\/b∈ML1.blocks:=by
   unfold VL.blocks at hb;rw [Oo,hab,jI] at hb;simp only [List.mem_cons,List.mem_append,Option.toList,List.not_mem_nil,or_false] at hb ⊢;rcases hb with h|h|h|h|h <;> simp [h]
  rcases hb2 with h|h
  ·have:=Yz b h;omega
  ·exact n1 b h
 have k05:Keeps [] h h5:=(k1.cZ k2 (λb hb=>n1 b hb)).trans (k3.trans k35);(conv=>whnf);refine ax.o o5 rfl ?_;(conv=>whnf);refine aj.f rfl ?_;(conv=>whnf);refine ⟨k05,w,t,bT,V,N,rfl,?_,k5.obj YA (by simp),k5.obj YB (by simp),A5,hr2,hu,hs,hlo,hab,jI,λb hb=>⟨YD b hb,?_⟩⟩
 ·rw [Oo];exact o5
 ·have:=YC b hb;omega
theorem OU (h:Heap):aC Tryz.prog 10 [] h (λv h'=>Keeps [] h h'/\v=.bool true):=by
 refine aG aH Tryz.func10 rfl ok10 (by simp [Tryz.f10]) ?_;(conv=>whnf);refine ak.i (G9 h) λv h1 k1 hv=>?_;obtain ⟨w,t,bT,V,N,rfl,o1,_,_,A1,hr,hu,hs,hlo,hab,jI,hV⟩:=hv;have rM:=hV V.ob (by simp [VL.blocks]);have Zh:=hV V.sb (by simp [VL.blocks]);have Zi:=hV V.mb (by simp [VL.blocks]);have hf0:bE N.read ⟨fB,[],[],[],[]⟩ 96=96:=by rw [hr];exact Yp _ _ _ _ rfl
 (conv=>whnf);refine ax.o o1 rfl ?_;(conv=>whnf);refine aj.t rfl ?_;(conv=>whnf);refine ak.m (Gq A1 fs0 (sim0.fc rfl fc0) rfl [47,102] (by decide) (kind:=1) (.inl rfl)) (by simp [au]) λv h2 k2 hv=>?_;obtain ⟨X2,A2,R2⟩:=hv;obtain ⟨rfl,a2,n2,f2,S1,I2,Z2,l2,c2⟩:=Oq (n1:=2) sim0 pl0 (by omega) (by decide) (by decide) (by decide +kernel) R2;have o2:=k2.obj o1 (by simp;omega);have Z2:mr S1 K1 N1 B1:=Z2;(conv=>whnf);refine ax.o o2 rfl ?_;(conv=>whnf);refine aj.t rfl ?_;(conv=>whnf);refine ak.m (Na A2 I2 (Z2.fc rfl fc1) n2 [47,108] [47,102] (by decide) (by decide)) (by simp [au]) λv h3 k3 hv=>?_;obtain ⟨X3,A3,R3⟩:=hv;have R3:lJ N.read X2 S1 [47,108] 3 [47,102] v X3:=by
  rcases R3 with ⟨hpn,_⟩|⟨_,R3⟩
  ·exact absurd hpn (by decide +kernel)
  ·exact R3
 obtain ⟨rfl,a3,n3,f3,S2,I3,Z3,l3,c3⟩:=Oq (n1:=3) Z2 pl1 (by omega) (by decide +kernel) (by decide +kernel) (by decide +kernel) R3;have o3:=k3.obj o2 (by simp;omega);have Z3:mr S2 K2 N2 B2:=Z3;(conv=>whnf);refine ax.o o3 rfl ?_;(conv=>whnf);refine aj.t rfl ?_;(conv=>whnf);refine ak.m (Nc A3 I3 (Z3.fc rfl fc2) [47,108] (by decide) 0 [104,105]) (by simp [au]) λv h4 k4 hv=>?_;obtain ⟨X4,A4,R4⟩:=hv;obtain ⟨rfl,a4,n4,S3,I4,Z4,l4,c4⟩:=YE Z3 (by omega) R4;have o4:=k4.obj o3 (by simp;omega);(conv=>whnf);refine ax.o o4 rfl ?_;(conv=>whnf);refine aj.t rfl ?_;(conv=>whnf);refine ak.m (Nb A4 I4 (Z4.fc rfl fc2) (Z4.ns ns2) [47,108] (by decide)) (by simp [au]) λv h5 k5 hv=>?_;obtain ⟨X5,A5,R5⟩:=hv;obtain ⟨rfl,a5,n5,S4,I5,Z5,c5⟩:=YF Z4 (by rw [c4];exact l3) R5;have o5:=k5.obj o4 (by simp;omega);(conv=>whnf);refine aj.f rfl ?_;have hp5:cO S4 [47,102]=(2,0):=by unfold cO;rw [Z5.view];exact pa4
 have hk5:(S4.C 2).kind=1:=by rw [Z5.k];decide +kernel
 have he5:gB S4 [47,102]=0:=by
  unfold gB;rw [hp5,if_neg (by rintro ⟨_,h⟩;rw [hk5] at h;cases h)]
 have hb5:S4.aQ 2=[104,105]:=by rw [Z5.b];decide +kernel
 have hr5:jd [104,105] 0 9=([104,105],0):=by decide +kernel
 have hq5:aR (aY S4) [47,102] false=(2,0):=by rw [Z5.view];exact pb4
 have hl5:(S4.C 2).links=1:=by rw [c5,l4,c3 2 (by decide) (by decide)];exact l2
 have hs5:(S4.C 2).size=2:=by
  obtain ⟨m,F⟩:=(I5.node 2 (by decide) (by decide)).file (.inl hk5);rw [F.size,hb5];rfl
 (conv=>whnf);refine ax.o o5 rfl ?_;(conv=>whnf);refine ak.m (C8 A5 I5 (Z5.fc rfl fc4) [47,102] (by decide) 0 9) (by simp [au]) λv h6 k6 hv=>?_;obtain ⟨⟨s6,A6⟩,hv⟩:=hv;rw [he5,if_pos rfl,hp5] at hv;simp only [hb5] at hv;rw [hr5] at hv;subst hv;have o6:=k6.obj o5 (by simp;omega);(conv=>whnf);refine ax.o o6 rfl ?_;(conv=>whnf);refine ak.m (C9 A6 I5 (Z5.fc rfl fc4) [47,102] (by decide)) (by simp [au]) λv h7 k7 hv=>?_;obtain ⟨⟨s7,A7⟩,hv⟩:=hv;rw [hq5,if_pos rfl] at hv;simp only [hl5,hs5] at hv;subst hv;(conv=>whnf);refine aL.i λb8 h8 e8 s8 o8 k8=>?_;(conv=>whnf);refine aK.i λh9 s9 k9=>?_;(conv=>whnf);have z1:=k1.size;have z2:=k2.size;have z3:=k3.size;have z4:=k4.size;have z5:=k5.size;have z6:=k6.size;have z7:=k7.size;have sub:∀ {a b:Heap},Keeps [V.ob,V.sb,V.mb] a b->∀ x∈[V.ob,V.sb,V.mb],h.size<=x:=λ_ x hx=>by
  simp at hx;omega
 have k05:Keeps [] h h5:=(((k1.cZ k2 (sub k2)).cZ k3 (sub k3)).cZ k4 (sub k4)).cZ k5 (sub k5);have k07:Keeps [] h h7:=(k05.cZ k6 (λx hx=>by simp at hx;omega)).cZ k7 (λx hx=>by simp at hx;omega);refine ⟨k07.trans (k8.new1 k9 (by omega)),?_⟩;have hs:((ba [104,105]).toList==(ByteArray.mk #[104,105]).toList)=true:=by
  have h1:((ba [104,105]).toList==(ba [104,105]).toList)=true:=beq_self_eq_true _;exact h1
 rw [hs];rfl
instance:Rp cK where
 n:=6
 iA _ vs x:=vs=x.cells/\x.ok
 len h:=by rw [h.1];rfl
 keep _ h:=h
instance:Flat cK:=⟨λh=>h⟩
section
variable {H:Type} {enc:TypeId×Value->H} {W:World} {sp:Nat->Bool} {held:Bool}
theorem Yw:Opens enc Tryz.prog W sp held 43 cK:=by
 intro fuel cs x h hw;obtain ⟨hl,f',hp⟩:=Ud Tryz.underlying43 h hw;obtain ⟨a,b,c,d,e,f,rfl⟩:∃ a b c d e f,cs=[a,b,c,d,e,f]:=by
  match cs,hl with
  | [a,b,c,d,e,f],_=>exact ⟨a,b,c,d,e,f,rfl⟩
 obtain ⟨y0,h0,w0⟩:=hp _ (List.mem_cons_self);obtain ⟨y1,h1,w1⟩:=hp _ (List.mem_cons_of_mem _ List.mem_cons_self);obtain ⟨y2,h2,w2⟩:=hp _ (List.mem_cons_of_mem _ (List.mem_cons_of_mem _ List.mem_cons_self));obtain ⟨y3,h3,w3⟩:=hp _ (List.mem_cons_of_mem _ (List.mem_cons_of_mem _ (List.mem_cons_of_mem _ List.mem_cons_self)));obtain ⟨y4,h4,w4⟩:=hp _ (List.mem_cons_of_mem _ (List.mem_cons_of_mem _ (List.mem_cons_of_mem _ (List.mem_cons_of_mem _ List.mem_cons_self))));obtain ⟨y5,h5,w5⟩:=hp _ (List.mem_cons_of_mem _ (List.mem_cons_of_mem _ (List.mem_cons_of_mem _ (List.mem_cons_of_mem _ (List.mem_cons_of_mem _ List.mem_cons_self)))));obtain ⟨n,e0,g0⟩:=FN (W:=W) Tryz.underlying3 f' _ _ h0 w0;obtain ⟨s,e1,g1⟩:=wY (W:=W) Tryz.underlying9 f' _ _ h1 w1;obtain ⟨t,e2,g2⟩:=wY (W:=W) Tryz.underlying9 f' _ _ h2 w2;obtain ⟨u,e3,g3⟩:=wY (W:=W) Tryz.underlying9 f' _ _ h3 w3;obtain ⟨m,e4,g4⟩:=FN (W:=W) Tryz.underlying3 f' _ _ h4 w4;obtain ⟨k,e5,g5⟩:=FN (W:=W) Tryz.underlying3 f' _ _ h5 w5;cases e0;cases e1;cases e2;cases e3;cases e4;cases e5;obtain ⟨l1,rfl⟩:∃ l:List UInt8,s=⟨l.toArray⟩:=⟨s.data.toList,rfl⟩;obtain ⟨l2,rfl⟩:∃ l:List UInt8,t=⟨l.toArray⟩:=⟨t.data.toList,rfl⟩;obtain ⟨l3,rfl⟩:∃ l:List UInt8,u=⟨l.toArray⟩:=⟨u.data.toList,rfl⟩;exact ⟨⟨n,l1,l2,l3,m,k⟩,rfl,g0,by have:=g1;unfold lK at this;rwa [dP] at this,by have:=g2;unfold lK at this;rwa [dP] at this,by have:=g3;unfold lK at this;rwa [dP] at this,g4,g5⟩
end
theorem tn0 (i:Int)(hi:inT (aB L0) i):i=1:=by
 have h1:=hi.1;have h2:i<2:=hi.2;omega
theorem rel0:bX S0 (aB L0) [0,1]:=by
 have l1:∀ i,live (aB L0) i->i=1:=λi hi=>tn0 i hi.1;refine ⟨rfl,by decide,⟨rfl,rfl⟩,λi hi=>?_,λi j hi hj _=>by rw [l1 i hi,l1 j hj],λi hi=>?_,λi hi=>?_,λi hi _=>?_,λi hi h=>?_,λi hi h=>?_,rfl,λn n0 n24 hk=>?_,λi hi h=>absurd (l1 i hi) h,rfl,⟨λ_=>0,λi hi _ e he=>?_⟩⟩
 ·rw [l1 i hi];decide
 ·rw [l1 i hi];exact ⟨rfl,by decide,by decide⟩
 ·rw [l1 i hi];rfl
 ·rw [l1 i hi];exact ⟨rfl,λe he=>(by cases he),List.Pairwise.nil,rfl⟩
 ·rw [l1 i hi] at h;exact absurd rfl h
 ·rw [tn0 i hi];rfl
 ·refine ⟨1,⟨⟨by decide,by decide⟩,by decide⟩,?_⟩;show (1:Int)=n;have hk':(if n=1 then cB 2 1 else gu 0).kind≠0:=hk;by_cases h1:n=1
  ·exact h1.symm
  ·rw [if_neg h1] at hk';exact absurd rfl hk'
 ·rw [l1 i hi] at he;cases he
theorem sml0:iV (aB L0) 0:=⟨by decide,λx hx=>by
 have:x=⟨0,0,0,[],[]⟩\/x=⟨1,2,1,[],[]⟩:=by simpa [aB,L0] using hx
 rcases this with rfl|rfl
 ·exact ⟨Nat.zero_le _,λh=>by cases h⟩
 ·exact ⟨Nat.zero_le _,λh=>by cases h⟩⟩
theorem OW {h:Heap}{a:Option Addr}{n c:Nat}{xs:List cK}(S:Sl h a n c xs):aC Tryz.prog 13 [.slice a n c] h (λv h'=>Keeps [] h h'/\∃ c',v=.slice a (min n 60) c'/\Sl h' a (min n 60) c' (xs.take 60)):=by
 have hl:=S.hlen;have hc:=S.hcap;refine aG aH Tryz.func13 rfl ok13 (by simp [Tryz.f13]) ?_;(conv=>whnf);refine dw.i 0 (min n 60) rfl (by split <;> omega) (Nat.zero_le _) (by omega) ?_;(conv=>whnf);have P:=S.part (l:=0) (r:=min n 60) (Nat.zero_le _) (by omega);rw [List.drop_zero] at P;have e:xs.take (min n 60)=xs.take 60:=by
  rw [hl,<-List.take_take];exact List.take_of_length_le (by rw [List.length_take];omega)
 rw [e,lq] at P;refine ⟨Keeps.refl _ _,_,?_,P⟩;rw [lq];rfl
theorem OV {h0 h:Heap}(hb:h0.size<=h.size){w t bT:Nat}{V:VL}{N:aS}
 (hw:h[w]?=some (.cells ⟨[.pointer (some ⟨V.mem.m,0,none⟩),.pointer (some ⟨V.v,0,none⟩),.pointer (some ⟨t,0,none⟩)]⟩ 31 (0,0))) (ht:h[t]?=some (.cells ⟨[.slice (some ⟨bT,0,none⟩) 2 2]⟩ 80 (0,0))) (hT:h[bT]?=some (.cells ⟨gm L0⟩ 77 (0,0)))
 (A:At h V N ⟨fB,[],[],[],[]⟩) (hu:N.gy = -1) (hs:N.sure.length=2824) (hab:V.ab=none) (jI:V.jY=none) (hV:∀ b∈V.blocks,h0.size<=b/\b<bT/\b<t/\b<w) (hw0:h0.size<=w) :
 lN h h0.size w V N ⟨fB,[],[],[],[]⟩ S0 (min bT t) t (some ⟨bT,0,none⟩) 2 L0 [0,1] 0:=by
 refine ⟨hw,A,fs0,rel0,sml0,⟨ht,.inr ⟨bT,_,rfl,hT,rfl,rfl,rfl,Nat.le_refl _⟩,λx hx=>?_,by omega,λb hb=>?_⟩,⟨hab,jI⟩,⟨hu,hs⟩,⟨hw0,λb hb=>(hV b hb).1⟩,λhx=>by have:=(hV w hx).2.2.2;omega⟩
 ·have:x=⟨⟨0,0,0,[],[]⟩,none,0,0⟩\/x=⟨⟨1,2,1,[],[]⟩,none,0,0⟩:=by simpa [L0] using hx
  rcases this with rfl|rfl
  ·exact ⟨rfl,.inl ⟨rfl,rfl,rfl,rfl⟩,λb hb=>(by cases hb),λe he=>(by cases he),Nat.zero_le _⟩
  ·exact ⟨rfl,.inl ⟨rfl,rfl,rfl,rfl⟩,λb hb=>(by cases hb),λe he=>(by cases he),Nat.zero_le _⟩
 ·have:b=bT:=by simpa [ay] using hb
  omega
theorem _root_.Go.aN.Sl.OX {h:Heap}{a:Option Addr}{n c:Nat}{xs:List cK}(S:Sl h a n c xs)(hn:0<n):∀ b∈ay a,b<h.size:=by
 have hl:=S.hlen;obtain ⟨b,o,hb,cs,⟨rfl,_⟩,hc⟩:=S.at_ 0 (by omega);intro x hx;rw [hb] at hx;simp [ay] at hx;subst hx;exact vU (hc 0 (by simp [cK.cells]))
theorem lN.on {h h':Heap}{b0 w:Nat}{V:VL}{M:aS}{X:VS}{S:FS}{z t:Nat}{aT:Option Addr}{cT:Nat}{L:List bY}{num:List Int}{N:Nat}(P:lN h b0 w V M X S z t aT cT L num N)(k:Keeps [] h h'):lN h' b0 w V M X S z t aT cT L num N:=
 ⟨k.obj P.obj (by simp),P.at_.on k,P.fs,P.rel,P.jV,P.tree.keep k (by simp),P.ab,P.calm,P.new,P.apart⟩
theorem CP {H:Type}:∀ {l:List (DataW H)} {d:DataW H},d∈l->Rows.uptoBulk d<=Rows.uptoBulkAll l
 | x::r,d,h=>by
  simp only [Rows.uptoBulkAll];rcases List.mem_cons.1 h with rfl|h
  ·omega
  ·have:=CP h;omega
section
variable {H:Type} {enc:TypeId×Value->H} {W:World} {sp:Nat->Bool} {held:Bool}
theorem Ov:Opens enc Tryz.prog W sp held 22 (List cK):=Uc Tryz.underlying22 (by kernel_rfl) (by decide) (of_decide_eq_true (by kernel_rfl)) Yw
theorem Om {fuel:Nat}{s:ByteArray}{x:DataW H×List MemPlace}(h:DataW.trod enc Tryz.prog W 0 sp held fuel 9 [.string s]=some x):s.data.toList.length<=Rows.uptoBulk x.1:=by
 obtain ⟨s',h1,h2,_⟩:=DataW.trod_string Tryz.underlying9 h;have:s=s':=by simpa using h1
 subst this;rw [h2];simp only [Rows.uptoBulk];omega
theorem Yx {fuel:Nat}{c:cK}{x:DataW H×List MemPlace}(h:DataW.trod enc Tryz.prog W 0 sp held fuel 43 c.cells=some x):c.path.length<=Rows.uptoBulk x.1/\c.path2.length<=Rows.uptoBulk x.1:=by
 obtain ⟨xs,n,rfl,rfl,_,hl,hf⟩:=DataW.trod_struct Tryz.underlying43 h;have hl:xs.length=6:=hl;have h1:=hf 1 _ rfl;have h2:=hf 2 _ rfl;have g1:xs[1]?=some (xs[1]'(by omega)):=List.getElem?_eq_getElem _;have g2:xs[2]?=some (xs[2]'(by omega)):=List.getElem?_eq_getElem _;rw [g1] at h1;rw [g2] at h2;have b1:=Om (s:=ba c.path) h1;have b2:=Om (s:=ba c.path2) h2;have m1:=CP (List.mem_map_of_mem (f:=(·.1)) (List.getElem_mem (show 1<xs.length by omega)));have m2:=CP (List.mem_map_of_mem (f:=(·.1)) (List.getElem_mem (show 2<xs.length by omega)));have e1:(ba c.path).data.toList.length=c.path.length:=by unfold ba;simp
 have e2:(ba c.path2).data.toList.length=c.path2.length:=by unfold ba;simp
 simp only [Rows.uptoBulk];omega
theorem OC {a:Option Addr}{n c:Nat}{d:DataW H}{p:List MemPlace}(h:DataW.Trod enc Tryz.prog W 0 sp held 22 (.slice a n c) d p){L:List cK}(S:Sl W.heap a n c L)(hb:Rows.uptoBulk d<=1048576):∀ x∈L,x.path.length<=1048576/\x.path2.length<=1048576:=by
 obtain ⟨fuel,hf⟩:=h;have hcs:(Value.slice a n c).cells.toList=[.slice a n c]:=by simp [Value.cells]
 rw [hcs] at hf;have hl:=S.hlen;rcases DataW.trod_slice Tryz.underlying22 hf with ⟨h1,_⟩|⟨ad,len,cap,elems,rest,m,_,h1,h2,_,_,_,he,hel,_⟩
 ·have:n=0:=by simp at h1;exact h1.2.1
  intro x hx;have:L=[]:=List.eq_nil_of_length_eq_zero (by omega);subst this;cases hx
 ·have e1:a=some ad/\n=len/\c=cap:=by simpa using h1
  obtain ⟨rfl,rfl,rfl⟩:=e1;have hd:d=.slice (elems.map (·.1)) (rest.map (·.1)):=congrArg Prod.fst h2;rw [hd] at hb;simp only [Rows.uptoBulk] at hb;intro x hx;obtain ⟨i,hi,rfl⟩:=List.getElem_of_mem hx;have hi1:i<elems.length:=by omega
  have g:=hel i (by omega);rw [List.getElem?_eq_getElem hi1] at g;have hn6:Tryz.prog.cellsOf 43=6:=by kernel_rfl
  rw [hn6] at g;cases hcell:W.cells? 0 (ad.add (i*6)) 6 with
  | none=>rw [hcell] at g;cases g
  | some cs=>
   rw [hcell] at g;have g:DataW.trod enc Tryz.prog W 0 sp held m 43 cs=some (elems[i]'hi1):=g;obtain ⟨b,off,q1,q2,q3⟩:=FM hcell (by decide);obtain ⟨b',off',hb',cs',⟨rfl,_⟩,hc'⟩:=S.at_ i hi;have hadd:ad=⟨b',off',none⟩:=Option.some.inj hb';rw [hadd,addr_add] at q1;have eb:b'=b/\off'+i*6=off:=by
    have:=q1;simp only [Addr.mk.injEq,and_true] at this;exact this
   obtain ⟨rfl,rfl⟩:=eb;have Yy:cs=(L[i]'hi).cells:=by
    apply List.ext_getElem?;intro j;by_cases hj:j<6
    ·have a1:=q3 j (by omega);have a2:=hc' j (by simpa [cK.cells] using hj);rw [<-a1];exact a2
    ·rw [List.getElem?_eq_none (by omega),List.getElem?_eq_none (by simp [cK.cells];omega)]
   rw [Yy] at g;have hcl:=Yx g;have hm:=CP (List.mem_map_of_mem (f:=(·.1)) (List.getElem_mem hi1));omega
end
structure zM (now:Int->UInt64)(c:aA):Prop where
 ok:c.ok
 size:0<=c.size/\c.size<=2688
 map:mO now c
theorem Yt {ws:List UInt64}{c:aA}(h:gU ws=some c):fV c=true:=by
 unfold gU at h;split at h
 ·rename_i h1;cases h;exact h1.2.1
 ·cases h
theorem Yu (now:Int->UInt64){c:aA}(h:fV c=true)(hk:c.kind≠0):zM now c:=by
 have B:=tT h;refine ⟨Ab B,B.s,λm hm x hx=>?_⟩;unfold mapOf at hm;have hd:∀ y∈c.direct,y = -1\/(0<=y/\y<96):=λy hy=>by
  simp only [aA.direct,List.mem_cons,List.not_mem_nil,or_false] at hy;have:=B.d0;have:=B.d1;have:=B.d2;have:=B.d3;have:=B.d4;rcases hy with rfl|rfl|rfl|rfl|rfl <;> omega
 split at hm
 ·cases hm;rcases List.mem_append.1 hx with hx|hx
  ·exact hd x hx
  ·exact .inl (List.eq_of_mem_replicate hx)
 ·split at hm
  ·rename_i hall;cases hm;rcases List.mem_append.1 hx with hx|hx
   ·exact hd x hx
   ·obtain ⟨w,hw,rfl⟩:=List.mem_map.1 hx;have h96:=List.all_eq_true.1 hall.2.2.1 w hw;have h96:w.toNat<=96:=by simpa using h96
    unfold iH;have:IntKind.i64.wrap ((w.toNat:Int)-1)=(w.toNat:Int)-1:=dR (by omega) (by omega);omega
  ·cases hm
theorem Ol {h:Heap}{V:VL}{M:aS}{X:VS}(A:At h V M X)(n:Int):aC Tryz.prog 149 [.pointer (some ⟨V.v,0,none⟩),.int .i64 n] h (λv h'=>Keeps [V.sb] h h'/\(∃ s,At h' V M { X with seen:=s }) /\
 (v=.tuple #[.agg ⟨aA.zero.cells⟩,.int .i64 15]\/∃ c,v=.tuple #[.agg ⟨c.cells⟩,.int .i64 0]/\zM X.now c)):=by
 have bl:=A.blt;refine aG aH Tryz.func149 rfl ok149 (by simp [Tryz.f149]) ?_;(conv=>whnf);refine aL.i λb1 h1 e1 s1 o1 k1=>?_;have nb1:∀ b∈V.blocks,b≠b1:=λb hb=>by have:=bl b hb;omega
 (conv=>whnf);refine ak.m (sV (A.on k1) n) (by simp [au,aZ];exact λe=>nb1 V.sb (by simp [VL.blocks]) e.symm) λv h2 k2 hv=>?_;have z1:=k1.size;have fin:∀ {w:Value} {X2:VS} {e:Int} {c:aA},w=.tuple #[.agg ⟨c.cells⟩,.int .i64 e]->(∃ s,X2={ X with seen:=s })->At h2 V M X2->∀ (h4 h5:Heap) (b3:Nat) (h3:Heap),Keeps [] h2 h3->b3=h2.size->Keeps [b3] h3 h4->Keeps [b1] h4 h5->Keeps [V.sb] h h5/\∃ s,At h5 V M { X with seen:=s }:=by
  rintro w X2 e c _ ⟨s,rfl⟩ A2 h4 h5 b3 h3 k3 e3 k4 k5;have z2:=k2.size;have bl2:=A2.blt;exact ⟨(((k1.mono (by simp)).trans k2).bS k3).m1 k4 (by omega) |>.m1 k5 (by omega),s,((A2.on k3).keep k4 (λb hb=>by have:=bl2 b hb;simp;omega)).keep k5 (λb hb=>by simp;exact nb1 b hb)⟩
 by_cases hn:0<=n/\n<24
 ·rw [if_pos hn] at hv;obtain ⟨rfl,A2⟩:=hv;cases hc:gU (bW X.now (8+n*8) 8) with
  | none=>
   unfold pM;(conv=>whnf);refine aL.i λb3 h3 e3 s3 o3 k3=>?_;(conv=>whnf);refine aK.i λh4 s4 k4=>?_;(conv=>whnf);refine aj.t rfl ?_;(conv=>whnf);refine aK.i λh5 s5 k5=>?_;(conv=>whnf);obtain ⟨q1,q2⟩:=fin (e:=15) (c:=aA.zero) rfl ⟨_,rfl⟩ A2 h4 h5 b3 h3 k3 e3 k4 k5;exact ⟨q1,q2,.inl rfl⟩
  | some c=>
   unfold pM;(conv=>whnf);refine aL.i λb3 h3 e3 s3 o3 k3=>?_;(conv=>whnf);refine aK.i λh4 s4 k4=>?_;by_cases hk:c.kind=0
   ·(conv=>whnf);refine aj.t (by simp [dm,hk]) ?_;(conv=>whnf);refine aK.i λh5 s5 k5=>?_;(conv=>whnf);obtain ⟨q1,q2⟩:=fin (e:=0) (c:=c) rfl ⟨_,rfl⟩ A2 h4 h5 b3 h3 k3 e3 k4 k5;exact ⟨q1,q2,.inl rfl⟩
   ·(conv=>whnf);refine aj.f (by simp [dm,hk]) ?_;(conv=>whnf);refine aK.i λh5 s5 k5=>?_;(conv=>whnf);obtain ⟨q1,q2⟩:=fin (e:=0) (c:=c) rfl ⟨_,rfl⟩ A2 h4 h5 b3 h3 k3 e3 k4 k5;exact ⟨q1,q2,.inr ⟨c,rfl,Yu _ (Yt hc) hk⟩⟩
 ·rw [if_neg hn] at hv;obtain ⟨rfl,A2⟩:=hv;(conv=>whnf);refine aL.i λb3 h3 e3 s3 o3 k3=>?_;(conv=>whnf);refine aK.i λh4 s4 k4=>?_;(conv=>whnf);refine aj.t rfl ?_;(conv=>whnf);refine aK.i λh5 s5 k5=>?_;(conv=>whnf);obtain ⟨q1,q2⟩:=fin (e:=1) (c:=aA.zero) rfl ⟨X.seen,rfl⟩ A2 h4 h5 b3 h3 k3 e3 k4 k5;exact ⟨q1,q2,.inl rfl⟩
theorem Yv {h:Heap}{V:VL}{M:aS}{X:VS}(A:At h V M X){c:aA}(K:zM X.now c):aC Tryz.prog 150 [.pointer (some ⟨V.v,0,none⟩),.agg ⟨c.cells⟩] h (λv h'=>Keeps [] h h' /\
 (v=.tuple #[.slice none 0 0,.int .i64 15]\/∃ a k l,l.length<=60/\(∀ x∈l,x.length<=120)/\v=.tuple #[.slice a l.length k,.int .i64 0]/\Sl h' a l.length k (bq l)/\∀ b∈ay a,h.size<=b)):=by
 refine aG aH Tryz.func150 rfl ok150 (by simp [Tryz.f150]) ?_;(conv=>whnf);refine aL.i λb1 h1 e1 s1 o1 k1=>?_;(conv=>whnf);refine ak.i (Ba (A.on k1) c K.ok K.size K.map 0 121) λv h2 k2 hv=>?_;have hlen:(oZ X.now c 0 121).1.length<=140737488351232:=by
  unfold oZ;rw [if_neg (by omega)];split
  ·simp
  ·split
   ·simp
   ·rw [List.length_drop,List.length_take];have:=K.size;omega
 generalize oZ X.now c 0 121=r at *;subst hv;by_cases he:r.2=0
 ·(conv=>whnf);refine aj.f (by simp [he]) ?_;(conv=>whnf);refine ak.i (uS r.1 hlen h2) λv h3 k3 hv=>?_;have z1:=k1.size;have z2:=k2.size;cases hp:bC r.1 with
  | none=>
   rw [hp] at hv;have hv:v=.tuple #[.slice none 0 0,.int .i64 3]:=hv;subst hv;(conv=>whnf);refine aj.t rfl ?_;(conv=>whnf);exact ⟨k1.trans (k2.trans k3),.inl rfl⟩
  | some l=>
   rw [hp] at hv;obtain ⟨a,k,rfl,S3,nb⟩:=hv;obtain ⟨p1,p2,p3,p4⟩:=jX hp;(conv=>whnf);refine aj.f rfl ?_;(conv=>whnf);refine ⟨k1.trans (k2.trans k3),.inr ⟨a,k,l,p1,λx hx=>?_,rfl,S3,λb hb=>by have:=nb b hb;omega⟩⟩;have h1:=wL hx;by_cases hh:l=[]
   ·rw [hh] at hx;cases hx
   ·rw [if_neg hh] at p4;rw [p4] at h1;omega
 ·(conv=>whnf);refine aj.t (by simp [he]) ?_;(conv=>whnf);exact ⟨k1.trans k2,.inl rfl⟩
structure WN where
 links:Nat
 l:List (List UInt8)
 a:Option Addr
 n:Nat
 c:Nat
 s:List Int
def G5 (now:Int->UInt64)(v:Value):Prop:=(∃ e,e≠0/\v=.tuple #[.int .i64 0,.agg ⟨aA.zero.cells⟩,.int .i64 e])\/∃ n c,v=.tuple #[.int .i64 n,.agg ⟨c.cells⟩,.int .i64 0]/\zM now c
theorem Yr {h:Heap}{V:VL}{M:aS}{X:VS}(A:At h V M X)(follow:Bool){a:Option Addr}{n c:Nat}{l:List (List UInt8)}(T:Sl h a n c (bq l))(ha:∀ b∈ay a,b≠V.sb)(hl:l.length<=60)(hx:∀ x∈l,x.length<=200) :
 aC Tryz.prog 101 [.pointer (some ⟨V.v,0,none⟩),.slice a n c,.bool follow] h (λv h'=>Keeps [V.sb] h h'/\(∃ s,At h' V M { X with seen:=s })/\G5 X.now v):=by
 have bl:=A.blt;refine aG aH Tryz.func101 rfl ok101 (by simp [Tryz.f101]) ?_;(conv=>whnf);refine aL.i λb1 h1 e1 s1 o1 k1=>?_;have nb1:∀ b∈V.blocks,b≠b1:=λb hb=>by have:=bl b hb;omega
 have msb:V.sb∈V.blocks:=by simp [VL.blocks]
 (conv=>whnf);refine bP.on [0,1,2,7,9] [7] (λq:WN=>[(0,.v (.pointer (some ⟨V.v,0,none⟩))),(1,.v (.slice q.a q.n q.c)),(2,.v (.bool follow)),(7,.lp 7 0),(9,.v (.int .i64 (q.links:Int)))]) (λ_=>[(7,b1,aA.zero.cells)])
  (λq h'=>q.links<=8/\Keeps [V.sb] h h'/\h1.size<=h'.size/\At h' V M { X with seen:=q.s }/\Sl h' q.a q.n q.c (bq q.l)/\(∀ b∈ay q.a,b≠V.sb)/\(∀ x∈q.l,x.length<=200)/\q.l.length<=60+60*q.links) (λq=>8-q.links) ⟨0,l,a,n,c,X.seen⟩ ?_ ?_
 ·(conv=>whnf);exact ⟨⟨0,l,a,n,c,X.seen⟩,rfl,rfl,rfl,Nat.zero_le _,k1.mono (by simp),Nat.le_refl _,A.on k1,T.keep k1,ha,hx,by simpa using hl⟩
 ·rintro ⟨links,l,a,n,c,s0⟩ h2 ⟨q1,k2,z2,A2,T2,a2,x2,l2⟩;simp only at q1 A2 T2 a2 x2 l2;have bl2:=A2.blt;have nl:=T2.hlen;rw [fE] at nl;have stop:∀ (e:Int) (h7 h8:Heap),e≠0->Keeps [V.sb] h h7->h1.size<=h7.size->(∃ s,At h7 V M { X with seen:=s })->Keeps [b1] h7 h8->Keeps [V.sb] h h8/\(∃ s,At h8 V M { X with seen:=s })/\G5 X.now (Value.tuple #[.int .i64 0,.agg ⟨aA.zero.cells⟩,.int .i64 e]):=by
   intro e h7 h8 he k7 z7 ⟨s,A7⟩ k8;exact ⟨k7.m1 k8 (by omega),⟨s,A7.keep k8 (λb hb=>by simp;exact nb1 b hb)⟩,.inl ⟨e,he,rfl⟩⟩
  (conv=>whnf);refine ak.m (Ol A2 1) (by simp [au,aZ];exact λe=>nb1 V.sb msb e.symm) λv h3 k3 hv=>?_;obtain ⟨⟨s3,A3⟩,hv⟩:=hv;have z3:=k3.size;have bl3:=A3.blt;have kk3:=k2.trans k3;rcases hv with rfl|⟨c1,rfl,K1⟩
  ·(conv=>whnf);refine aL.i λb4 h4 e4 s4 o4 k4=>?_;(conv=>whnf);refine aK.i λh5 s5 k5=>?_;have k35:Keeps [] h3 h5:=k4.new1 k5 (by omega);(conv=>whnf);refine aj.t rfl ?_;(conv=>whnf);refine aK.i λh6 s6 k6=>?_;(conv=>whnf);exact stop 15 h5 h6 (by decide) (kk3.bS k35) (by have:=k35.size;omega) ⟨_,A3.on k35⟩ k6
  ·(conv=>whnf);refine aL.i λb4 h4 e4 s4 o4 k4=>?_;(conv=>whnf);refine aK.i λh5 s5 k5=>?_;(conv=>whnf);refine aj.f rfl ?_;have k35:Keeps [] h3 h5:=k4.new1 k5 (by omega);have A5:=A3.on k35;have T5:=(T2.je k3 (λb hb=>by simpa using a2 b hb)).keep k35;have hb4:∀ b∈V.blocks,b≠b4:=λb hb=>by have:=bl3 b hb;omega
   (conv=>whnf);refine bP.on [0,1,2,7,9,10,11,29,30,31] [7,11] (λq:Nat×Int×List Int×aA=>[(0,.v (.pointer (some ⟨V.v,0,none⟩))),(1,.v (.slice a n c)),(2,.v (.bool follow)),(7,.lp 7 0),(9,.v (.int .i64 (links:Int))),(10,.v (.int .i64 q.2.1)),(11,.lp 11 0),(29,.v (.slice a n c)),(30,.v (.int .i64 (n:Int))),(31,.v (.int .i64 (q.1:Int)))]) (λq=>[(7,b1,aA.zero.cells),(11,b4,q.2.2.2.cells)])
    (λq h'=>q.1<=n/\Keeps [V.sb] h h'/\h5.size<=h'.size/\At h' V M { X with seen:=q.2.2.1 }/\Sl h' a n c (bq l)/\zM X.now q.2.2.2) (λq=>n-q.1) (0,1,s3,c1) ?_ ?_
   ·(conv=>whnf);exact ⟨(0,1,s3,c1),rfl,rfl,rfl,Nat.zero_le _,kk3.bS k35,Nat.le_refl _,A5,T5,K1⟩
   ·rintro ⟨i,at_,s6,cq⟩ h6 ⟨hi,k6,z6,A6,T6,K6⟩;simp only at hi A6 K6;have bl6:=A6.blt;have z5:=k35.size;(conv=>whnf);refine aj.i (λhc=>?_) (λhc=>?_)
    ·have hi1:i<l.length:=by
      have:(i:Int)<(n:Int):=by simpa using hc
      omega
     obtain ⟨b7,off7,hb7,_,hcell⟩:=T6.at1 i (by rw [fE];exact hi1);have en:(bq l)[i]'(by rw [fE];exact hi1)=ba l[i]:=by simp [bq]
     rw [en] at hcell;(conv=>whnf);refine aX.i i rfl (by omega) hb7 ?_;(conv=>whnf);refine ax.i hcell ?_;(conv=>whnf);refine ak.i (DZ A6 cq K6.ok l[i]) λv h7 k7 hv=>?_;have A7:=A6.on k7;have T7:=T6.keep k7;have k07:Keeps [V.sb] h h7:=k6.bS k7;have z7:=k7.size;generalize nL ({ X with seen:=s6 }:VS).now cq l[i]=fr at hv;obtain ⟨next,there,fe⟩:=fr;simp only at hv;subst hv;by_cases hfe:fe=0
     ·subst hfe;(conv=>whnf);(try refine aV.pass ?_;conv=>whnf);refine aj.f rfl ?_;cases there with
      | false=>
       (conv=>whnf);(try refine aV.pass ?_;conv=>whnf);refine aj.t rfl ?_;(conv=>whnf);refine aK.i λh8 s8 k8=>?_;(conv=>whnf);exact stop 4 h7 h8 (by decide) k07 (by omega) ⟨_,A7⟩ k8
      | true=>
       (conv=>whnf);(try refine aV.pass ?_;conv=>whnf);refine aj.f rfl ?_;(conv=>whnf);refine ak.m (Ol A7 next) (by
        have q1:=λe=>nb1 V.sb msb e;have q2:=λe=>hb4 V.sb msb e;simp [au,aZ];exact ⟨λe=>q1 e.symm,λe=>q2 e.symm⟩) λv h8 k8 hv=>?_
       obtain ⟨⟨s8,A8⟩,hv⟩:=hv;have z8:=k8.size;rcases hv with rfl|⟨c8,rfl,K8⟩
       ·(conv=>whnf);refine aK.i λh9 s9 k9=>?_;(conv=>whnf);refine aj.t rfl ?_;(conv=>whnf);refine aK.i λh10 s10 k10=>?_;(conv=>whnf);exact stop 15 h9 h10 (by decide) ((k07.trans k8).m1 k9 (by omega)) (by omega) ⟨_,A8.keep k9 (λb hb=>by simp;exact hb4 b hb)⟩ k10
       ·(conv=>whnf);refine aK.i λh9 s9 k9=>?_;have A9:=A8.keep k9 (λb hb=>by simp;exact hb4 b hb);have T9:Sl h9 a n c (bq l):=(T7.je k8 (λb hb=>by simpa using a2 b hb)).je k9 (λb hb=>by
         have hlt:b<h2.size:=by
          obtain ⟨bb,oo,hbb,_,hcc⟩:=T2.at1 i (by rw [fE];exact hi1);rw [hbb] at hb;simp [ay] at hb;subst hb;exact vU hcc
         simp;omega)
        have k09:Keeps [V.sb] h h9:=(k07.trans k8).m1 k9 (by omega);(conv=>whnf);refine aj.f rfl ?_;(conv=>whnf);refine aj.i (λhcnd=>?_) (λhcnd=>?_)
        ·(conv=>whnf);refine ⟨n-(i+1),by omega,?_⟩;(conv=>whnf);exact ⟨(i+1,next,s8,c8),rfl,by rw [wrapN (x:=(i:Int)+1) (n:=i+1) (by simp) (by omega)],rfl,by simp only;omega,k09,by omega,A9,T9,K8⟩
        ·have zm:IntKind.i64.wrap ((links:Int)+1)=((links+1:Nat):Int):=wrapN (by omega) (by omega);(conv=>whnf);rw [zm];by_cases h8:8<links+1
         ·refine aj.t (by simp;omega) ?_;(conv=>whnf);refine aK.i λh10 s10 k10=>?_;(conv=>whnf);exact stop 11 h9 h10 (by decide) k09 (by omega) ⟨_,A9⟩ k10
         ·refine aj.f (by simp;omega) ?_;(conv=>whnf);refine ak.i (Yv A9 K8) λv h10 k10 hv=>?_;have A10:=A9.on k10;have k010:=k09.bS k10;have z10:=k10.size;rcases hv with rfl|⟨ah,kh,head,p1,zn,rfl,Th,nh⟩
          ·(conv=>whnf);refine aj.t rfl ?_;(conv=>whnf);refine aK.i λh11 s11 k11=>?_;(conv=>whnf);exact stop 15 h10 h11 (by decide) k010 (by omega) ⟨_,A10⟩ k11
          ·(conv=>whnf);refine aj.f rfl ?_;have F3:IntKind.i64.wrap ((i:Int)+1)=((i+1:Nat):Int):=wrapN (by simp) (by omega);have T10:=T9.keep k10;(conv=>whnf);refine dw.i (i+1) n F3 rfl (by omega) T10.hcap ?_;have P:=T10.part (l:=i+1) (r:=n) (by omega) (Nat.le_refl _);have hbr:((bq l).take n).drop (i+1)=bq (l.drop (i+1)):=by
            have:(bq l).length=n:=by rw [fE];omega
            rw [<-this,List.take_length];simp [bq]
           rw [hbr] at P;have hxs:∀ x∈head++l.drop (i+1),x.length<=200:=by
            intro x hx;rcases List.mem_append.1 hx with h|h
            ·have:=zn x h;omega
            ·exact x2 x (List.mem_of_mem_drop h)
           (conv=>whnf);refine ak.i (Mv Th P (by rw [List.length_drop];omega) (λz hz=>by have:=hxs z hz;omega)) λv h11 k11 hv=>?_;obtain ⟨a',c',rfl,T11,n11⟩:=hv;have bl10:=A10.blt V.sb msb;(conv=>whnf);refine ⟨8-(links+1),by show 8-(links+1)<8-links;omega,?_⟩;(conv=>whnf);refine ⟨⟨links+1,head++l.drop (i+1),a',(head++l.drop (i+1)).length,c',s8⟩,rfl,rfl,rfl,by simp only;omega,k010.bS k11,by have:=k11.size;omega,A10.on k11,T11,λb hb=>by have:=n11 b hb;omega,hxs,?_⟩;simp only [List.length_append,List.length_drop];omega
     ·(conv=>whnf);(try refine aV.pass ?_;conv=>whnf);refine aj.t (by simp [hfe]) ?_;(conv=>whnf);refine aK.i λh8 s8 k8=>?_;(conv=>whnf);exact stop fe h7 h8 hfe k07 (by omega) ⟨_,A7⟩ k8
    ·(conv=>whnf);refine aK.i λh7 s7 k7=>?_;(conv=>whnf);exact ⟨k6.m1 k7 (by omega),⟨s6,A6.keep k7 (λb hb=>by simp;exact nb1 b hb)⟩,.inr ⟨at_,cq,rfl,K6⟩⟩
theorem Oj {h:Heap}{V:VL}{M:aS}{X:VS}(A:At h V M X)(path:List UInt8)(hp:path.length<=140737488351232)(follow:Bool) :
 aC Tryz.prog 58 [.pointer (some ⟨V.v,0,none⟩),.string (ba path),.bool follow] h (λv h'=>Keeps [V.sb] h h'/\(∃ s,At h' V M { X with seen:=s })/\G5 X.now v):=by
 have bl:=A.blt;have msb:V.sb∈V.blocks:=by simp [VL.blocks]
 refine aG aH Tryz.func58 rfl ok58 (by simp [Tryz.f58]) ?_;(conv=>whnf);refine aL.i λb1 h1 e1 s1 o1 k1=>?_;have nb1:∀ b∈V.blocks,b≠b1:=λb hb=>by have:=bl b hb;omega
 (conv=>whnf);refine aj.f rfl ?_;(conv=>whnf);refine ak.i (uS path hp h1) λv h2 k2 hv=>?_;have k02:=k1.trans k2;have z1:=k1.size;have z2:=k2.size;cases hpp:bC path with
 | none=>
  rw [hpp] at hv;have hv:v=.tuple #[.slice none 0 0,.int .i64 3]:=hv;subst hv;(conv=>whnf);refine aj.t rfl ?_;(conv=>whnf);refine aK.i λh3 s3 k3=>?_;(conv=>whnf);exact ⟨(k02.mono (by simp)).m1 k3 (by omega),⟨X.seen,(A.on k02).keep k3 (λb hb=>by simp;exact nb1 b hb)⟩,.inl ⟨3,by decide,rfl⟩⟩
 | some l=>
  rw [hpp] at hv;obtain ⟨a,c,rfl,T2,n2⟩:=hv;obtain ⟨p1,p2,p3,p4⟩:=jX hpp;(conv=>whnf);refine aj.f rfl ?_;(conv=>whnf);refine ak.m (Yr (A.on k02) follow T2 (λb hb=>by have:=n2 b hb;have:=bl V.sb msb;omega) p1 (sU hpp)) (by simp [au,aZ];exact λe=>nb1 V.sb msb e.symm) λv h3 k3 hv=>?_;obtain ⟨⟨s,A3⟩,hW⟩:=hv;rcases hW with ⟨e,he,rfl⟩|⟨n,c,rfl,K⟩
  ·(conv=>whnf);refine aK.i λh4 s4 k4=>?_;(conv=>whnf);exact ⟨((k02.mono (by simp)).trans k3).m1 k4 (by omega),⟨s,A3.keep k4 (λb hb=>by simp;exact nb1 b hb)⟩,.inl ⟨e,he,rfl⟩⟩
  ·(conv=>whnf);refine aK.i λh4 s4 k4=>?_;(conv=>whnf);exact ⟨((k02.mono (by simp)).trans k3).m1 k4 (by omega),⟨s,A3.keep k4 (λb hb=>by simp;exact nb1 b hb)⟩,.inr ⟨n,c,rfl,K⟩⟩
theorem O9 {h:Heap}{V:VL}{M:aS}{X:VS}(A:At h V M X)(path:List UInt8)(hp:path.length<=140737488351232) :
 aC Tryz.prog 19 [.pointer (some ⟨V.v,0,none⟩),.string (ba path)] h (λv h'=>Keeps [V.sb] h h'/\(∃ s,At h' V M { X with seen:=s })/\∃ a b c e:Int,v=.tuple #[.agg #[.int .i64 0,.int .i64 a,.int .i64 b,.int .i64 c],.int .i64 e]):=by
 have bl:=A.blt;have msb:V.sb∈V.blocks:=by simp [VL.blocks]
 have q2:=bl V.sb msb;refine aG aH Tryz.func19 rfl ok19 (by simp [Tryz.f19]) ?_;(conv=>whnf);refine aL.i λb1 h1 e1 s1 o1 k1=>?_;have z1:=k1.size;(conv=>whnf);refine ak.m (Oj (A.on k1) path hp false) (λy hy hx=>by
  simp [au,aZ] at hy hx;omega) λv h2 k2 hv=>?_
 obtain ⟨⟨s,A2⟩,hW⟩:=hv;have z2:=k2.size;rcases hW with ⟨e,he,rfl⟩|⟨n,c,rfl,K⟩
 all_goals
  (conv=>whnf)
  refine aL.i λb3 h3 e3 s3 o3 k3=>?_
  (conv=>whnf)
  refine aK.i λh4 s4 k4=>?_;have k24:Keeps [] h2 h4:=k3.new1 k4 (by omega);have z3:=k3.size;have z4:=k4.size;have A4:=A2.on k24;have kk4:Keeps [V.sb] h h4:=(k1.mono (by simp)).trans (k2.bS k24)
 ·(conv=>whnf);refine aj.t (by simp [he]) ?_;(conv=>whnf);refine aK.i λh5 s5 k5=>?_;(conv=>whnf);exact ⟨kk4.m1 k5 (by omega),⟨s,A4.keep k5 (λb hb=>by have:=bl b hb;simp;omega)⟩,0,0,0,e,rfl⟩
 ·(conv=>whnf);refine aj.f rfl ?_;(conv=>whnf);refine aK.i λh5 s5 k5=>?_;(conv=>whnf);exact ⟨kk4.m1 k5 (by omega),⟨s,A4.keep k5 (λb hb=>by have:=bl b hb;simp;omega)⟩,c.kind,c.links,c.size,0,rfl⟩
theorem Pb {h:Heap}{V:VL}{M:aS}{X:VS}(A:At h V M X)(path:List UInt8)(hp:path.length<=140737488351232) :
 aC Tryz.prog 20 [.pointer (some ⟨V.v,0,none⟩),.string (ba path)] h (λv h'=>Keeps [V.sb] h h'/\(∃ s,At h' V M { X with seen:=s })/\∃ (a:Option Addr) (n c:Nat) (e:Int),v=.tuple #[.slice a n c,.int .i64 e]):=by
 have bl:=A.blt;have msb:V.sb∈V.blocks:=by simp [VL.blocks]
 have q2:=bl V.sb msb;refine aG aH Tryz.func20 rfl ok20 (by simp [Tryz.f20]) ?_;(conv=>whnf);refine ak.m (Oj A path hp true) (by simp [au]) λv h1 k1 hv=>?_;obtain ⟨⟨s,A1⟩,hW⟩:=hv;have z1:=k1.size;rcases hW with ⟨e,he,rfl⟩|⟨n,c,rfl,K⟩
 ·(conv=>whnf);refine aL.i λb3 h3 e3 s3 o3 k3=>?_;(conv=>whnf);refine aK.i λh4 s4 k4=>?_;have k14:Keeps [] h1 h4:=k3.new1 k4 (by omega);(conv=>whnf);refine aj.t (by simp [he]) ?_;(conv=>whnf);exact ⟨k1.bS k14,⟨s,A1.on k14⟩,none,0,0,e,rfl⟩
 ·(conv=>whnf);refine aL.i λb3 h3 e3 s3 o3 k3=>?_;(conv=>whnf);refine aK.i λh4 s4 k4=>?_;have k14:Keeps [] h1 h4:=k3.new1 k4 (by omega);have z3:=k3.size;have z4:=k4.size;have A4:=A1.on k14;have kk4:Keeps [V.sb] h h4:=k1.bS k14;(conv=>whnf);refine aj.f rfl ?_;(conv=>whnf);refine ak.i (DY A4 c K.ok) λv h5 k5 hv=>?_;have hlen:=DL ({ X with seen:=s }:VS).now c;have hv':∃ (a:Option Addr) (cc:Nat) (l:List aF) (e:Int),v=.tuple #[.slice a l.length cc,.int .i64 e]/\Own h5 93 2 a l.length cc (bV l)/\(∀ y∈ay a,h4.size<=y)/\(∀ e∈l,e.ok)/\l.length<=105:=by
   unfold um at hv;split at hv
   ·obtain ⟨a,cc,rfl,O5,n5,ok5⟩:=hv;exact ⟨a,cc,_,0,rfl,O5,n5,ok5,by omega⟩
   ·exact ⟨none,0,[],_,hv,.inl ⟨rfl,rfl,rfl,rfl⟩,λb hb=>(by cases hb),λe he=>(by cases he),Nat.zero_le _⟩
  clear hv;obtain ⟨a,cc,l,e,rfl,O5,n5,ok5,l5⟩:=hv';have z5:=k5.size;have A5:=A4.on k5;have kk5:=kk4.bS k5;have S5:=kr O5 ok5 (by omega);(conv=>whnf);refine bP.on [8,10,29,30,31] [] (λq:Nat×Option Addr×Nat=>[(8,.v (.int .i64 e)),(10,.v (.slice q.2.1 q.1 q.2.2)),(29,.v (.slice a l.length cc)),(30,.v (.int .i64 (l.length:Int))),(31,.v (.int .i64 (q.1:Int)))]) (λ_=>[])
   (λq h'=>q.1<=l.length/\Keeps [] h5 h'/\Own h' 9 1 q.2.1 q.1 q.2.2 ((bq ((fH l).take q.1)).map λx=>.string x)/\(∀ b∈ay q.2.1,h5.size<=b)) (λq=>l.length-q.1) (0,none,0) ?_ ?_
  ·(conv=>whnf);exact ⟨(0,none,0),rfl,rfl,rfl,Nat.zero_le _,Keeps.refl _ _,.inl ⟨rfl,rfl,rfl,rfl⟩,λb hb=>(by cases hb)⟩
  ·rintro ⟨i,a6,c6⟩ h6 ⟨hi,k6,O6,n6⟩;simp only at hi O6 n6;have z6:=k6.size;(conv=>whnf);refine aj.i (λhd=>?_) (λhd=>?_)
   ·have hi1:i<l.length:=by simpa using hd
    obtain ⟨b7,o7,hb7,_,⟨rfl,hok⟩,hc7⟩:=(S5.keep k6).at_ i hi1;have hnl:i<(fH l).length:=by rw [pR];exact hi1
    have htl:((fH l).take i).length=i:=by rw [List.length_take];omega
    have hnx:(fH l).take (i+1)=(fH l).take i++[(l[i]'hi1).name]:=by
     rw [List.take_succ_eq_append_getElem hnl];simp [fH]
    (conv=>whnf);refine aX.i i rfl hi1 hb7 ?_;(conv=>whnf);refine fq.i (vs:=(l[i]'hi1).cells) rfl (λj hj=>hc7 j hj) ?_;(conv=>whnf);refine aL.i λb8 h8 e8 s8 o8 k8=>?_;(conv=>whnf);refine aK.i λh9 s9 k9=>?_;have z8:=k8.size;have z9:=k9.size;have k69:Keeps [] h6 h9:=k8.new1 k9 (by omega);(conv=>whnf);refine aL.i λb10 h10 e10 s10 o10 k10=>?_;have z10:=k10.size;(conv=>whnf);refine Gr (s:=(l[i]'hi1).name) ((O6.keep k69 (by simp)).keep k10 (by simp)) htl.symm (by omega) (by simp only [Heap.cell?,o10];rfl) (λy hy hx=>?_) ?_
    ·have:=O6.lt y hy;simp [au,aZ] at hx;omega
    intro a11 c11 h11 O11 k11 n11;have ew:IntKind.i64.wrap ((i:Int)+1)=((i+1:Nat):Int):=wrapN (by simp) (by omega);(conv=>whnf);refine ⟨l.length-(i+1),by omega,?_⟩;(conv=>whnf);rw [ew];refine ⟨(i+1,a11,c11),rfl,rfl,rfl,hi1,((k6.trans k69).trans k10).cZ k11 n6,by rw [hnx];exact O11,λb hb=>?_⟩;rcases n11 b hb with h|h
    ·exact n6 b h
    ·omega
   ·have hi1:i=l.length:=by simp at hd;omega
    (conv=>whnf);subst hi1;exact ⟨kk5.bS k6,⟨s,A5.on k6⟩,a6,l.length,c6,e,rfl⟩
end Go.Proofs.YtoociceebodfeaaGreatDoor
