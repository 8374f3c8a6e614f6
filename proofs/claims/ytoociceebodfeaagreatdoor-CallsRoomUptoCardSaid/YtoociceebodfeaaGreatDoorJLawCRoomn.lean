/-
  Joined texts: RooA, RooB, EntB, MemB, MemC, LayA, LaiZ, CalH, NewT, LayB, CalI, CalK, PlyC, PlyD, RooC.
-/
import Derived.Test.YtoociceebodfeaaGreatDoorJLawCRoomm
import Derived.Test.YtoociceebodfeaaGreatDoorJLawCRoomh
import Derived.Test.YtoociceebodfeaaGreatDoorJLawCRoomg
import Derived.Test.YtoociceebodfeaaGreatDoorJLawCRoomi
import Derived.Test.YtoociceebodfeaaGreatDoorJLawCRooml
import Derived.Test.YtoociceebodfeaaGreatDoorJLawCRoomj
import Derived.Test.YtoociceebodfeaaGreatDoorJLawCRoomk
import Derived.Test.YtoociceebodfeaaGreatDoorJLawCRoome
import Derived.Test.YtoociceebodfeaaGreatDoorRows
import Derived.Test.YtoociceebodfeaaGreatDoorJLawCRoomc
set_option linter.all false
set_option maxRecDepth 100000
set_option maxHeartbeats 4000000
namespace Go.Proofs.YtoociceebodfeaaGreatDoor
open Go Go.aK
theorem Gv {α:Type}[DecidableEq α]:∀ {l m:List α},l.Nodup->(∀ x∈l,x∈m)->l.length<=m.length
 | [],_,_,_=>Nat.zero_le _
 | x::l,m,hn,hs=>by
  rw [List.nodup_cons] at hn;have hx:=hs x (by simp);have:=Gv (l:=l) (m:=m.erase x) hn.2 (λy hy=>(List.mem_erase_of_ne (λe:y=x=>hn.1 (e ▸ hy))).2 (hs y (by simp [hy])));rw [List.length_erase_of_mem hx] at this;have:=List.length_pos_of_mem hx;simp only [List.length_cons];omega
theorem filter_lt {p q:Nat->Bool}:∀ {l:List Nat},(∀ j∈l,p j=true->q j=true)->∀ {x:Nat},x∈l->p x=false->q x=true->(l.filter p).length<(l.filter q).length
 | [],_,_,hx,_,_=>by cases hx
 | y::l,h,x,hx,h1,h2=>by
  have hle:∀ {l:List Nat},(∀ j∈l,p j=true->q j=true)->(l.filter p).length<=(l.filter q).length:=by
   intro l
   induction l with
   | nil=>intro _;exact Nat.le_refl _
   | cons z l ih=>
    intro h;have:=ih (λj hj=>h j (by simp [hj]));rw [List.filter_cons,List.filter_cons];by_cases hp:p z=true
    ·rw [if_pos hp,if_pos (h z (by simp) hp)];simp only [List.length_cons];omega
    ·rw [if_neg hp];split
     ·simp only [List.length_cons];omega
     ·exact this
  have hl:=hle (l:=l) (λj hj=>h j (by simp [hj]));rw [List.filter_cons,List.filter_cons];rcases List.mem_cons.1 hx with rfl|hx
  ·rw [if_neg (by rw [h1];decide),if_pos h2];simp only [List.length_cons];omega
  ·have:=filter_lt (l:=l) (λj hj=>h j (by simp [hj])) hx h1 h2;by_cases hp:p y=true
   ·rw [if_pos hp,if_pos (h y (by simp) hp)];simp only [List.length_cons];omega
   ·rw [if_neg hp];split
    ·simp only [List.length_cons];omega
    ·exact this
theorem Oa {T:List aF}{rk:Int->Nat}(hr:∀ i,live T i->(tn T i).kind=2->∀ e∈(tn T i).names,live T e.node/\rk e.node<rk i):∃ Co:Int->Nat,(∀ i,Co i<=T.length)/\∀ i,live T i->(tn T i).kind=2->∀ e∈(tn T i).names,live T e.node/\Co e.node<Co i:=by
 refine ⟨λi=>((List.range T.length).filter λj:Nat=>decide (rk (j:Int)<rk i)).length,λi=>?_,λi hi hk e he=>?_⟩
 ·exact Nat.le_trans (List.length_filter_le _ _) (by simp)
 ·obtain ⟨h1,h2⟩:=hr i hi hk e he;refine ⟨h1,filter_lt (x:=e.node.toNat) (λj _ hj=>?_) ?_ ?_ ?_⟩
  ·have:rk (j:Int)<rk e.node:=by simpa using hj
   simpa using (by omega:rk (j:Int)<rk i)
  ·have:=h1.1.1;have:=h1.1.2;exact List.mem_range.2 (by omega)
  ·rw [Int.toNat_of_nonneg (by have:=h1.1.1;omega)];simp
  ·rw [Int.toNat_of_nonneg (by have:=h1.1.1;omega)];simpa using h2
theorem bP.named {S:FS}{T:List aF}{num:List Int}(W:bP S T num){i:Int}(h:(tn T i).names≠[]):live T i/\(tn T i).kind=2:=by
 by_cases h1:1<=i
 ·by_cases h2:i<T.length
  ·have hin:inT T i:=⟨h1,h2⟩;by_cases h0:(tn T i).kind=0
   ·exact absurd (W.dead i hin h0) h
   ·by_cases hk:(tn T i).kind=2
    ·exact ⟨⟨hin,h0⟩,hk⟩
    ·exact absurd (W.data i ⟨hin,h0⟩ hk).2 h
  ·exfalso;apply h;unfold tn;rw [List.getElem?_eq_none (by omega)];rfl
 ·exfalso;apply h;have:i.toNat=(0:Int).toNat:=by omega
  unfold tn;rw [this];exact W.zero
def Ch (T:List aF):Int->List (List UInt8)->Int->Prop
 | a,[],x=>a=x
 | a,n::l,x=>∃ e r,(tn T a).names=e::r/\e.name=n/\Ch T e.node l x
theorem Ch.snoc {T:List aF}{x:Int}{e:aD}{r:List aD}(he:(tn T x).names=e::r):∀ {l:List (List UInt8)} {a:Int},Ch T a l x->Ch T a (l++[e.name]) e.node
 | [],a,h=>by
  have h:a=x:=h;subst h;exact ⟨e,r,he,rfl,rfl⟩
 | n::l,a,⟨e1,r1,h1,h2,h3⟩=>⟨e1,r1,h1,h2,Ch.snoc he h3⟩
theorem Ch.init {T:List aF}{x:Int}{n:List UInt8}:∀ {l:List (List UInt8)} {a:Int},Ch T a (l++[n]) x->∃ d e r,Ch T a l d/\(tn T d).names=e::r/\e.name=n/\e.node=x
 | [],a,⟨e,r,h1,h2,h3⟩=>⟨a,e,r,rfl,h1,h2,h3⟩
 | m::l,a,⟨e1,r1,h1,h2,h3⟩=>by
  obtain ⟨d,e,r,g1,g2⟩:=Ch.init h3;exact ⟨d,e,r,⟨e1,r1,h1,h2,g1⟩,g2⟩
theorem Ch.walk {T:List aF}{x:Int}(hk:∀ i,(tn T i).names≠[]->(tn T i).kind=2/\strict (tn T i).names):∀ {l:List (List UInt8)} {a:Int} (f k:Nat) (fl:Bool),Ch T a l x->l.length<f->((tn T x).kind≠3\/fl=false)->dQ (aW T) 1 fl f a k l=(x,0)
 | [],a,f+1,k,fl,h,_,_=>by
  have h:a=x:=h;subst h;rfl
 | n::l,a,f+1,k,fl,⟨e,r,h1,h2,h3⟩,hf,hx=>by
  obtain ⟨k2,hs⟩:=hk a (by rw [h1];simp);have hfe:(aW T).find a n=some e.node:=GI.2 ⟨e,(GJ hs).2 ⟨by rw [h1];simp,h2⟩,rfl⟩;rw [wN,if_neg (λh=>h k2),hfe];simp only;have hc:(aW T).kind e.node≠3\/(l=[]/\fl=false):=by
   cases l with
   | nil=>
    have h:e.node=x:=h3;rw [h];rcases hx with hx|hx
    ·exact .inl hx
    ·exact .inr ⟨rfl,hx⟩
   | cons m l=>
    obtain ⟨e1,r1,g1,_⟩:=h3
    left
    show (tn T e.node).kind≠3;rw [(hk e.node (by rw [g1];simp)).1]
    decide
  rw [if_pos hc];exact Ch.walk hk f k fl h3 (by simp only [List.length_cons] at hf;omega) hx
def tot (T:List aF):Nat:=(T.map λx=>x.names.length).sum
theorem Oh (T:List aF)(x:aF):tot (T++[x])=tot T+x.names.length:=by simp [tot]
theorem Cq:∀ (T:List aF) (k:Nat) (hk:k<T.length) (x:aF),tot (T.set k x)+(T[k]'hk).names.length=tot T+x.names.length
 | y::T,0,_,x=>by simp only [tot,List.set_cons_zero,List.map_cons,List.sum_cons,List.getElem_cons_zero];omega
 | y::T,k+1,hk,x=>by
  have:=Cq T k (by simpa using hk) x;simp only [tot,List.set_cons_succ,List.map_cons,List.sum_cons,List.getElem_cons_succ] at this ⊢;omega
theorem zo {T:List aF}{d:Int}(hd:inT T d)(x:aF):tot (bD T d x)+(tn T d).names.length=tot T+x.names.length:=by
 have h1:=hd.1;have h2:=hd.2;have:=Cq T d.toNat (by omega) x;unfold bD tn;rw [List.getElem?_eq_getElem (by omega)];exact this
structure gQ (T:List aF)(N:Nat):Prop where
 few:tot T<=N
 lk:∀ x∈T,x.kind≠0->1<=x.links/\x.links<=255
theorem gQ.up {T:List aF}{N:Nat}(h:gQ T N):gQ T (N+1):=⟨Nat.le_succ_of_le h.few,h.lk⟩
theorem wO {T:List aF}{d:Int}{x:aF}(h:∀ x∈T,x.kind≠0->1<=x.links/\x.links<=255)(hx:x.kind≠0->1<=x.links/\x.links<=255):∀ y∈bD T d x,y.kind≠0->1<=y.links/\y.links<=255:=λy hy=>by
 rcases List.mem_or_eq_of_mem_set hy with hy|rfl
 ·exact h y hy
 ·exact hx
theorem pQ {T:List aF}(h:∀ x∈T,x.kind≠0->1<=x.links/\x.links<=255)(i:Int):(tn T i).kind≠0->1<=(tn T i).links/\(tn T i).links<=255:=by
 unfold tn;cases hx:T[i.toNat]? with
 | none=>exact λh=>absurd rfl h
 | some x=>exact h x (List.mem_of_getElem? hx)
theorem Oi (T:List aF)(d:Int)(x:aF)(hd:(tn T d).names.length<=x.names.length):tot (bD T d x)+(tn T d).names.length<=tot T+x.names.length:=by
 unfold bD tn at *;by_cases h:d.toNat<T.length
 ·have:=Cq T d.toNat h x;rw [List.getElem?_eq_getElem h];exact Nat.le_of_eq this
 ·rw [List.set_eq_of_length_le (by omega)];omega
theorem gQ.ins {T:List aF}{N:Nat}(S:gQ T N){d:Int}(hd:inT T d){y:aF}(hy:y.names.length=(tn T d).names.length+1)(hl:y.kind≠0->1<=y.links/\y.links<=255):gQ (bD T d y) (N+1):=
 ⟨by have:=zo hd y;have:=S.few;omega,wO S.lk hl⟩
theorem gQ.app {T:List aF}{N:Nat}(S:gQ T N){x:aF}(hx:x.names=[])(hl:1<=x.links/\x.links<=255):gQ (T++[x]) N:=
 ⟨by rw [Oh,hx];exact S.few,λy hy=>by
  rcases List.mem_append.1 hy with hy|hy
  ·exact S.lk y hy
  ·obtain rfl:=List.mem_singleton.1 hy;exact λ_=>hl⟩
theorem gQ.same {T:List aF}{N:Nat}(S:gQ T N)(d:Int){y:aF}(hy:y.names.length=(tn T d).names.length)(hl:y.kind≠0->1<=y.links/\y.links<=255):gQ (bD T d y) N:=
 ⟨by have:=Oi T d y (by omega);have:=S.few;omega,wO S.lk hl⟩
theorem lD.rm {T T':List aF}{N:Nat}{path data:List UInt8}{kind:Int}(S:gQ T N)(D:lD T path kind data 0 T'):gQ T' (N+1):=by
 rcases D with ⟨d1,d2⟩|⟨d,nm,nd,Q,⟨_,d2⟩|⟨_,_,rfl⟩⟩
 ·exact absurd d2.symm d1
 ·cases d2
 ·refine gQ.app (S.ins Q.inn (rD _ _) ?_) rfl ⟨show (1:Int)<=1 by decide,show (1:Int)<=255 by decide⟩;exact pQ S.lk d
theorem Oj {x:aF}(h:x.kind≠0->1<=x.links/\x.links<=255):(l9 x).kind≠0->1<=(l9 x).links/\(l9 x).links<=255:=by
 unfold l9;split
 ·exact λh=>absurd rfl h
 ·rename_i hz;intro hk;have:=h hk;have hw:IntKind.i64.wrap (x.links-1)=x.links-1:=zq (by omega);rw [hw] at hz;show 1<=IntKind.i64.wrap (x.links-1)/\IntKind.i64.wrap (x.links-1)<=255;rw [hw];omega
theorem l8.rm {T T':List aF}{N:Nat}(W:ji T){path:List UInt8}{b:Bool}(S:gQ T N)(D:l8 T path b 0 T'):T'.length=T.length/\tot T'+1<=tot T/\gQ T' N:=by
 rcases D with ⟨d1,d2⟩|⟨d,nm,nd,Q,⟨_,d2⟩|⟨_,_,_,d2⟩|⟨_,_,_,d2⟩|⟨_,_,_,_,d2⟩|⟨h0,_,_,_,rfl⟩⟩
 ·exact absurd d2.symm d1
 ·cases d2
 ·cases d2
 ·cases d2
 ·cases d2
 ·obtain ⟨en,hen,_,_,hnn⟩:=Q.there W h0;obtain ⟨_,hkl,_,_⟩:=uW (W.dir d Q.inn Q.kind).2.2 hen;have h1:=zo Q.inn { tn T d with names:=(tn T d).names.eraseIdx (aL (tn T d).names nm) };have h2:({ tn T d with names:=(tn T d).names.eraseIdx (aL (tn T d).names nm) }:aF).names.length=(tn T d).names.length-1:=by
   show ((tn T d).names.eraseIdx _).length=_;rw [List.length_eraseIdx,if_pos hkl]
  generalize hT1:bD T d { tn T d with names:=(tn T d).names.eraseIdx (aL (tn T d).names nm) }=T1 at *;have hn1:inT T1 nd:=by rw [<-hT1];exact (tu _).2 hnn
  have h3:=zo hn1 (l9 (tn T1 nd));have h4:(l9 (tn T1 nd)).names.length<=(tn T1 nd).names.length:=by
   unfold l9;split
   ·exact Nat.zero_le _
   ·exact Nat.le_refl _
  have l1:∀ x∈T1,x.kind≠0->1<=x.links/\x.links<=255:=by rw [<-hT1];exact wO S.lk (λhk=>pQ S.lk d hk)
  have h5:tot (bD T1 nd (l9 (tn T1 nd)))+1<=tot T:=by omega
  refine ⟨by rw [mX,<-hT1,mX],h5,by have:=S.few;omega,wO l1 (Oj (pQ l1 nd))⟩
theorem eZ.rm {T T':List aF}{N:Nat}{c:bY}{r:dw}(W:ji T)(S:gQ T N)(h0:r.err=0)(DD:eZ T c r T'):gQ T' (N+1):=by
 have jH:∀ {e:Int},r=bM e->e=0:=λh=>by rw [h] at h0;exact h0
 have dat:∀ {path:List UInt8} {f:List UInt8->List UInt8×Int},mo T path f 0 T'->gQ T' (N+1):=by
  intro path f D;rcases D with ⟨d1,d2⟩|⟨_,d1,d2⟩|⟨d1,_,_,rfl⟩
  ·exact absurd d2.symm d1
  ·exact absurd d2.symm d1
  ·refine (S.same (tX T path) ?_ ?_).up
   ·rfl
   ·exact pQ S.lk _
 by_cases k4:c.kind=4
 ·obtain ⟨e,he,D⟩:=(rc4 k4).1 DD;rw [jH he] at D;exact D.rm S
 by_cases k5:c.kind=5
 ·obtain ⟨e,he,D⟩:=(rc5 k5).1 DD;rw [jH he] at D;exact D.rm S
 by_cases k6:c.kind=6
 ·obtain ⟨e,he,D⟩:=(rc6 k6).1 DD;rw [jH he] at D;rcases D with ⟨d1,d2⟩|⟨_,_,d2⟩|⟨_,_,⟨d1,d2⟩|⟨d,nm,nd,Q,⟨_,d2⟩|⟨_,_,d2⟩|⟨_,d3,_,hT⟩⟩⟩
  ·exact absurd d2.symm d1
  ·cases d2
  ·exact absurd d2.symm d1
  ·cases d2
  ·cases d2
  ·rw [hT];generalize (aV (aW T) c.path false).1=x at *;have S1:gQ (bD T x { tn T x with links:=IntKind.i64.wrap ((tn T x).links+1) }) N:=by
    refine S.same x ?_ (λhk=>?_)
    ·rfl
    have hl:=pQ S.lk x hk;show 1<=IntKind.i64.wrap ((tn T x).links+1)/\IntKind.i64.wrap ((tn T x).links+1)<=255;rw [zq (by omega)];omega
   refine S1.ins ((tu _).2 Q.inn) ?_ (pQ S.lk d);have hd0:d.toNat<T.length:=by have:=Q.inn.1;have:=Q.inn.2;omega
   have hnm:(tn (bD T x { tn T x with links:=IntKind.i64.wrap ((tn T x).links+1) }) d).names=(tn T d).names:=by
    unfold bD tn;by_cases hxd:x.toNat=d.toNat
    ·rw [hxd,List.getElem?_set_self hd0];rfl
    ·rw [List.getElem?_set_ne hxd]
   rw [hnm];exact rD _ _
 by_cases k7:c.kind=7
 ·obtain ⟨e,he,D⟩:=(rc7 k7).1 DD;rw [jH he] at D;rcases D with ⟨_,d2⟩|⟨d1,D⟩
  ·cases d2
  ·exact D.rm S
 by_cases k8:c.kind=8
 ·obtain ⟨e,he,D⟩:=(rc8 k8).1 DD;rw [jH he] at D;exact (D.rm W S).2.2.up
 by_cases k9:c.kind=9
 ·obtain ⟨e,he,D⟩:=(rc9 k9).1 DD;rw [jH he] at D;exact (D.rm W S).2.2.up
 by_cases k10:c.kind=10
 ·obtain ⟨e,he,D⟩:=(rc10 k10).1 DD;rw [jH he] at D;rcases D with ⟨_,d2⟩|⟨_,_,⟨d1,d2⟩|⟨d,nm,nd,Q,⟨_,d2⟩|⟨_,⟨d1,d2⟩|⟨f,nm2,nd2,Q2,⟨_,_,rfl⟩|⟨_,_,d2⟩|⟨_,_,_,d2⟩|⟨_,_,_,rfl⟩⟩⟩⟩⟩
  ·cases d2
  ·exact absurd d2.symm d1
  ·cases d2
  ·exact absurd d2.symm d1
  ·exact S.up
  ·cases d2
  ·cases d2
  ·have h1:=zo Q.inn { tn T d with names:=(tn T d).names.eraseIdx (aL (tn T d).names nm) };have h2:({ tn T d with names:=(tn T d).names.eraseIdx (aL (tn T d).names nm) }:aF).names.length<=(tn T d).names.length:=(List.eraseIdx_sublist _ _).length_le;have S1:gQ (bD T d { tn T d with names:=(tn T d).names.eraseIdx (aL (tn T d).names nm) }) N:=⟨by have:=S.few;omega,wO S.lk (pQ S.lk d)⟩;exact S1.ins ((tu _).2 Q2.inn) (rD _ _) (pQ S1.lk f)
 by_cases k11:c.kind=11
 ·obtain ⟨e,he,D⟩:=(rc11 k11).1 DD;rw [jH he] at D;exact dat D
 by_cases k13:c.kind=13
 ·obtain ⟨e,he,D⟩:=(rc13 k13).1 DD;rw [jH he] at D;exact dat D
 by_cases k12:c.kind=12
 ·rw [((rc12 k12).1 DD).1];exact S.up
 by_cases k14:c.kind=14
 ·rw [((rc14 k14).1 DD).1];exact S.up
 by_cases k16:c.kind=16
 ·rw [((rc16 k16).1 DD).1];exact S.up
 by_cases k15:c.kind=15
 ·rw [((rc15 k15).1 DD).1];exact S.up
 rw [((rc0 (by omega)).1 DD).1];exact S.up
theorem Gz (l:List (List UInt8))(x:List UInt8):bA (l++[x])=bA l++47::x:=by
 rw [uV,nW];simp [bA]
theorem GA {n:Nat}:∀ {l:List Nat},n∈l->n<=l.sum
 | y::l,h=>by
  simp only [List.sum_cons];rcases List.mem_cons.1 h with rfl|h
  ·omega
  ·have:=GA h;omega
theorem Ob {h:Heap}{z t:Nat}{aT:Option Addr}{cT:Nat}{L:List bU}(H:cO h z t aT cT L){rk:Int->Nat}(hrl:∀ i,rk i<=L.length)(hk:∀ i,(tn (ay L) i).names≠[]->(tn (ay L) i).kind=2)
 (hr:∀ i,live (ay L) i->(tn (ay L) i).kind=2->∀ e∈(tn (ay L) i).names,live (ay L) e.node/\rk e.node<rk i) (hnm:∀ i,∀ e∈(tn (ay L) i).names,di e.name=true) (h1:live (ay L) 1) (hL:L.length<=69) :
 aC Tryz.prog 31 [.pointer (some ⟨t,0,none⟩)] h (λv h'=>Keeps [] h h'/\∃ l x,v=.string (ba (bA l))/\Ch (ay L) 1 l x/\live (ay L) x/\(tn (ay L) x).names=[]/\l.all di=true/\l.length<=69):=by
 refine aH aI Tryz.func31 rfl ok31 (by simp [Tryz.f31]) ?_;(conv=>whnf);refine bO.on [0,3,4,5] [] (λq:Nat×List (List UInt8)×Int=>[(0,.v (.pointer (some ⟨t,0,none⟩))),(3,.v (.int .i64 q.2.2)),(4,.v (.string (ba (bA q.2.1)))),(5,.v (.int .i64 (q.1:Int)))]) (λ_=>[])
  (λq h'=>Keeps [] h h'/\Ch (ay L) 1 q.2.1 q.2.2/\live (ay L) q.2.2/\q.2.1.length=q.1/\rk q.2.2+q.1<=L.length/\q.2.1.all di=true/\(bA q.2.1).length<=q.1*140737488351234) (λq=>70-q.1) (0,[],1) ?_ ?_
 ·(conv=>whnf);exact ⟨(0,[],1),rfl,rfl,rfl,Keeps.refl _ _,rfl,h1,rfl,hrl 1,rfl,Nat.zero_le _⟩
 ·rintro ⟨i,l,x⟩ h2 ⟨k2,C,hx,hl,hb,ha,hjl⟩;simp only at C hx hl hb ha hjl;have H2:=H.keep k2 (by simp);obtain ⟨k,hkk,bT,eD,ek,ek2,cZ,bK,oT,hle,hzb,hcl⟩:=H2.node hx.1;obtain ⟨n1,n2,n3,n4,n5⟩:=H2.jk _ (List.getElem_mem hkk);(conv=>whnf);refine aj.t (by simp;omega) ?_;(conv=>whnf);refine au.o H2.tr rfl ?_;(conv=>whnf);refine aR.i k ek hkk bK ?_;(conv=>whnf);refine au.i (hcl 4 (by decide)) ?_;cases hn:(tn (ay L) x).names with
  | nil=>
   rw [cZ] at hn;(conv=>whnf);refine aj.t (by rw [n1,hn];rfl) ?_;(conv=>whnf);exact ⟨k2,l,x,rfl,C,hx,by rw [cZ];exact hn,ha,by omega⟩
  | cons e r=>
   have hn':=hn;rw [cZ] at hn';have hpos:0<(L[k]'hkk).nd.names.length:=by rw [hn'];simp
   have S:=jU n2 n4 (by omega);obtain ⟨b6,o6,hb6,_,⟨rfl,hok⟩,hc6⟩:=S.at_ 0 hpos;have he0:(L[k]'hkk).nd.names[0]'hpos=e:=by simp [hn']
   rw [he0] at hc6;have hem:e∈(tn (ay L) x).names:=by rw [hn];simp
   have hk2:=hk x (by rw [hn];simp);obtain ⟨hle,GD⟩:=hr x hx hk2 e hem;(conv=>whnf);refine aj.f (by rw [n1,hn'];simp;omega) ?_;(conv=>whnf);refine aR.i 0 rfl (by omega) hb6 ?_;have hes:e.name.length<=140737488351232:=by have:=hok.1;rw [he0] at this;exact this
   (conv=>whnf);refine au.i (hc6 0 (show 0<2 by decide)) ?_;(conv=>whnf);refine dD.i (by rw [dH,dH];simp only [List.length_cons,List.length_nil];omega) ?_;(conv=>whnf);refine dD.i (by rw [rA,rz,dH];simp only [List.length_append,List.length_cons,List.length_nil];omega) ?_;(conv=>whnf);refine aR.i 0 rfl (by omega) hb6 ?_;(conv=>whnf);refine au.i (hc6 1 (show 1<2 by decide)) ?_;(conv=>whnf);refine ⟨70-(i+1),by omega,?_⟩;(conv=>whnf);refine ⟨(i+1,l++[e.name],e.node),rfl,?_,rfl,k2,C.snoc hn,hle,by simp [hl],by simp only;omega,by rw [List.all_append,ha];simp [hnm x e hem],by rw [Gz];simp only [List.length_append,List.length_cons];omega⟩;simp only;rw [wrapN (x:=(i:Int)+1) (n:=i+1) (by simp) (by omega),Gz];rfl
theorem bP.Oc {now:Int->UInt64}{S:FS}{T:List aF}{num:List Int}(W:bP S T num)(I:bI now S)(i:Int):∀ e∈(tn T i).names,di e.name=true:=by
 intro e he;have hk2:=W.named (i:=i) (by rintro h;rw [h] at he;cases he);obtain ⟨hi,hk⟩:=hk2;have hr:=W.bH i hi;obtain ⟨m,D⟩:=(I.node (nu num i) (by omega) hr.2).dir (by rw [(W.kind i hi).1];exact hk);have hg:=D.good (rn num e) (by rw [(W.dir i hi hk).1];exact List.mem_map_of_mem he);exact hg.2.2
theorem Oe {l:List (List UInt8)}(h0:l≠[])(ha:l.all di=true)(hl:(bA l).length<=120):bE (bA l)=some l:=by
 have:=GH ha hl;rw [if_neg h0] at this;exact this
theorem Ck {S:FS}{T:List aF}{num:List Int}(W:bP S T num){l:List (List UInt8)}{x:Int}(C:Ch T 1 l x)(h0:l≠[])(hx:live T x)(ha:l.all di=true)(hl:(bA l).length<=120) :
 aV (aW T) (bA l) false=(x,0)/\∃ d nm,bC (aW T) (bA l)=(d,nm,x,0):=by
 have hp:=Oe h0 ha hl;have h60:=(mg hp).1;have hk:∀ i,(tn T i).names≠[]->(tn T i).kind=2/\strict (tn T i).names:=λi h=>by
  obtain ⟨h1,h2⟩:=W.named h;exact ⟨h2,(W.dir i h1 h2).2.2.1⟩
 refine ⟨?_,?_⟩
 ·unfold aV;rw [hp];exact C.walk hk 600 0 false (by omega) (.inr rfl)
 ·obtain ⟨l',n,rfl⟩:∃ l' n,l=l'++[n]:=⟨l.dropLast,l.getLast h0,(List.dropLast_concat_getLast h0).symm⟩;obtain ⟨d,e,r,C',he,hn,hex⟩:=C.init;have hkd:=hk d (by rw [he];simp);have hw:=C'.walk hk 600 0 true (by simp at h60;omega) (.inl (by rw [hkd.1];decide));have hdl:(l'++[n]).dropLast=l':=by simp
  have hll:(l'++[n]).getLast?.getD []=n:=by simp
  have hP:=Og (F:=aW T) hp h0 (by rw [hdl];exact hw) hkd.1;rw [hll] at hP;have hf:(aW T).find d n=some e.node:=GI.2 ⟨e,(GJ hkd.2).2 ⟨by rw [he];simp,hn⟩,rfl⟩;rw [hf,hex] at hP;exact ⟨d,n,hP⟩
theorem GK {S:FS}{T:List aF}{num:List Int}(W:bP S T num){l:List (List UInt8)}{x:Int}(C:Ch T 1 l x)(h0:l≠[])(hx:live T x)(hn:(tn T x).names=[])(ha:l.all di=true)(hl:(bA l).length<=120){b:Bool}(hb:b=true↔(tn T x).kind=2)
 {e:Int} {T':List aF} (D:l8 T (bA l) b e T'):e=0:=by
 obtain ⟨_,d,nm,hP⟩:=Ck W C h0 hx ha hl;have hx1:=hx.1.1;rcases D with ⟨h,_⟩|⟨d2,nm2,nd,Q,D⟩
 ·rw [hP] at h;exact absurd rfl h
 ·have hnd:nd=x:=by
   have:=Q.is;rw [hP] at this;exact (congrArg (λq=>q.2.2.1) this).symm
  subst hnd;rcases D with ⟨h,_⟩|⟨_,h1,h2,_⟩|⟨_,h1,h2,_⟩|⟨_,_,_,h2,_⟩|⟨_,_,_,he,_⟩
  ·omega
  ·exact absurd (hb.2 h2) (by rw [h1];decide)
  ·exact absurd (hb.1 h1) h2
  ·exact absurd hn h2
  ·exact he
theorem Gy {B:Int->UInt64}{X X1:VS}{S:FS}{T:List aF}{num:List Int}(W:bP S T num)(I:bI X.now S)(hs:zm T){l:List (List UInt8)}{x:Int}(C:Ch T 1 l x)(h0:l≠[])(hx:live T x)(hn:(tn T x).names=[])(ha:l.all di=true)(hl:(bA l).length<=120)
 {c:bY} (hc:(c.kind=8/\(tn T x).kind≠2)\/(c.kind=9/\(tn T x).kind=2)) (hp:c.path=bA l) {r:dw} (R:fH B X S c r X1):r.err=0:=by
 obtain ⟨r',T',D⟩:=GL W.tree c;have hr':r'.err=0:=by
  rcases hc with ⟨hc,hk⟩|⟨hc,hk⟩
  ·obtain ⟨e,rfl,D2⟩:=(rc8 hc).1 D;rw [hp] at D2;exact GK W C h0 hx hn ha hl (b:=false) ⟨λh=>(by cases h),λh=>absurd h hk⟩ D2
  ·obtain ⟨e,rfl,D2⟩:=(rc9 hc).1 D;rw [hp] at D2;exact GK W C h0 hx hn ha hl (b:=true) ⟨λ_=>hk,λ_=>rfl⟩ D2
 obtain ⟨_,_,⟨h9,_⟩|⟨h1,h2,_⟩|⟨_,h2,_⟩⟩:=Cm W I hs R D
 ·exfalso;have no9:∀ {may:aB->Int},(∀ q,may q≠9)->mh X S (bA l) may (.int .i64 9) X1->False:=by
   intro may hm R;obtain ⟨_,_,R⟩:=R;rcases R with ⟨h,hv,_⟩|⟨d,nm,nd,P,⟨_,hv,_⟩|⟨_,_,hv,_⟩|⟨_,_,hv,_⟩⟩
   ·obtain ⟨_,d,nm,hP⟩:=Ck W C h0 hx ha hl;rw [W.rC,hP] at h;exact h rfl
   ·cases hv
   ·simp only [Value.int.injEq] at hv;exact hm _ hv.2.symm
   ·cases hv
  rcases hc with ⟨hc,_⟩|⟨hc,_⟩
  ·obtain ⟨e,he,R⟩:=(vc8 hc).1 R;have:e=9:=(congrArg dw.err (he.symm.trans h9));rw [this,hp] at R;exact no9 (λq=>by unfold oH;split <;> decide) R
  ·obtain ⟨e,he,R⟩:=(vc9 hc).1 R;have:e=9:=(congrArg dw.err (he.symm.trans h9));rw [this,hp] at R;exact no9 (λq=>by unfold oI;split;decide;split <;> decide) R
 ·rw [h1] at h2;exact absurd hr' h2
 ·exact h2
theorem Od {S:FS}{T:List aF}{num:List Int}(W:bP S T num)(hl:∀ x∈T,x.kind≠0->1<=x.links/\x.links<=255)(hn:(tn T 1).names=[]):∀ i,live T i->i=1:=by
 obtain ⟨rk,hr⟩:=W.rank;have key:∀ (n:Nat) (i:Int),live T i->i≠1->(∀ j,live T j->rk j<=rk i+n)->False:=by
  intro n
  induction n with
  | zero=>
   intro i hi h1 hm;have hc:=W.cnt i hi h1;have hp:=(pQ hl i hi.2).1;have:0<refs T i:=by omega
   obtain ⟨e,he,Cn⟩:=zn.1 this;obtain ⟨y,hy,tq⟩:=List.mem_flatMap.1 he;obtain ⟨k,hk,rfl⟩:=List.getElem_of_mem hy;have hty:tn T (k:Int)=T[k]'hk:=by unfold tn;simp [hk]
   have hne:(tn T (k:Int)).names≠[]:=by rw [hty];intro h;rw [h] at tq;cases tq
   obtain ⟨hl,hk2⟩:=W.named hne;have h3:=hr (k:Int) hl hk2 e (by rw [hty];exact tq);have h4:=hm _ hl;rw [Cn] at h3;omega
  | succ n ih=>
   intro i hi h1 hm;have hc:=W.cnt i hi h1;have hp:=(pQ hl i hi.2).1;have:0<refs T i:=by omega
   obtain ⟨e,he,Cn⟩:=zn.1 this;obtain ⟨y,hy,tq⟩:=List.mem_flatMap.1 he;obtain ⟨k,hk,rfl⟩:=List.getElem_of_mem hy;have hty:tn T (k:Int)=T[k]'hk:=by unfold tn;simp [hk]
   have hne:(tn T (k:Int)).names≠[]:=by rw [hty];intro h;rw [h] at tq;cases tq
   obtain ⟨hl,hk2⟩:=W.named hne;have h3:=hr (k:Int) hl hk2 e (by rw [hty];exact tq);rw [Cn] at h3;refine ih (k:Int) hl ?_ (λj hj=>by have:=hm j hj;omega);intro h;rw [h] at hne;exact hne hn
 intro i hi;refine Classical.byContradiction λh1=>?_;have hb:∃ n,∀ j,live T j->rk j<=n:=by
  refine ⟨((List.range T.length).map λj:Nat=>rk (j:Int)).sum,λj hj=>?_⟩;have hj1:=hj.1.1;have hj2:=hj.1.2;have hm:rk j∈(List.range T.length).map λj:Nat=>rk (j:Int):=List.mem_map.2 ⟨j.toNat,List.mem_range.2 (by omega),by rw [Int.toNat_of_nonneg (by omega)]⟩;exact GA hm
 obtain ⟨n,hn⟩:=hb;exact key n i hi h1 (λj hj=>Nat.le_trans (hn j hj) (Nat.le_add_left _ _))
end Go.Proofs.YtoociceebodfeaaGreatDoor
namespace Go.aK
theorem wM {α β:Type}(f:α->β):∀ (l:List α) (j:Nat),(l.map f).eraseIdx j=(l.eraseIdx j).map f
 | [],_=>rfl
 | _::_,0=>rfl
 | x::l,j+1=>by simp [wM f l j]
theorem aQ.del {P:Program}{T kT eT XE ty:TypeId}(hu:P.underlying T=some (.map kT eT))(hk:P.underlying kT=some (.int .i64)){h:Heap}{r:Nat}{m:List (Int×Value)}(o:dB h r m){n:Int}(hn:gL m n≠none){bs:List Nat}(hb:r∉bs)
 {K:Value->Heap->Prop} (H:∀ h' j,j<m.length->(m[j]?).map (·.1)=some n->h'.size=h.size->dB h' r (m.eraseIdx j)->Keeps [r] h h'->K (.tuple #[]) h'):aQ P (Builtin.delete_ #[T,XE] ty ⟨[.map (some r),.int .i64 n]⟩) bs h K:=by
 unfold aQ;intro hlt w hw;subst hw;have hr:=o.lt;obtain ⟨es,cl,h1,h2,h3,h4,h5⟩:=o;obtain ⟨q,h6,h7,h8⟩:=vD es.toList m n 0 h2;obtain ⟨p,rfl⟩:∃ p,q=some p:=by
  cases q with
  | none=>exact absurd (by simpa using h7.symm) hn
  | some p=>exact ⟨p,rfl⟩
 obtain ⟨j,hj1,hj2,hj3⟩:=h8 p rfl;have hj:p.1=j:=by omega
 have hjl:j<es.size:=by simpa using hj2
 have hml:m.length=es.size:=by
  have:=congrArg List.length h2;simpa using this.symm
 have hel:(es.eraseIdxIfInBounds j).toList=es.toList.eraseIdx j:=by
  rw [Array.eraseIdxIfInBounds,dif_pos hjl,Array.toList_eraseIdx]
 refine ⟨.tuple #[],{ w with heap:=w.heap.setIfInBounds r (.map (es.eraseIdxIfInBounds j) cl) },?_,⟨rfl,rfl,rfl⟩,λb hb'=>?_,H _ j (by omega) hj3 (by simp) ⟨es.eraseIdxIfInBounds j,cl,by rw [j4 _ _ _ _ hr,if_pos rfl],?_,?_,?_,?_⟩ (rW _ _ _ hr)⟩
 ·simp only [Builtin.delete_,Sem.run_bind,dJ P T w hu,Result.andThen_ok,qD h1,List.getElem?_toArray,List.getElem?_cons_zero,List.getElem?_cons_succ];rw [tO hk (.inl ⟨_,rfl⟩)];simp only [Result.andThen_ok,tN hk h6 w,hj,Sem.run_bind,rV h1,Sem.run_pure]
 ·show (w.heap.setIfInBounds r _)[b]?=_;rw [j4 _ _ _ _ hr,if_neg (by intro e;subst e;exact hb hb')]
 ·rw [hel,<-wM,h2,wM]
 ·rw [<-wM];exact h3.sublist (List.eraseIdx_sublist _ _)
 ·rw [hel,<-wM];exact h4.sublist (List.eraseIdx_sublist _ _)
 ·intro e he;rw [hel] at he;exact h5 e (List.mem_of_mem_eraseIdx he)
theorem aQ.Xy {P:Program}{T kT eT ty:TypeId}(hu:P.underlying T=some (.map kT eT)){h:Heap}{r:Nat}{m:List (Int×Value)}(o:dB h r m){bs:List Nat}(hb:r∉bs)
 {K:Value->Heap->Prop} (H:∀ h',h'.size=h.size->dB h' r []->Keeps [r] h h'->K (.tuple #[]) h'):aQ P (Builtin.clear_ #[T] ty ⟨[.map (some r)]⟩) bs h K:=by
 unfold aQ;intro hlt w hw;subst hw;have hr:=o.lt;obtain ⟨es,cl,h1,h2,h3,h4,h5⟩:=o;refine ⟨.tuple #[],{ w with heap:=w.heap.setIfInBounds r (.map #[] cl) },?_,⟨rfl,rfl,rfl⟩,λb hb'=>?_,H _ (by simp) ⟨#[],cl,by rw [j4 _ _ _ _ hr,if_pos rfl],rfl,List.nodup_nil,List.nodup_nil,by simp⟩ (rW _ _ _ hr)⟩
 ·simp [Builtin.clear_,Sem.run_bind,dJ P T w hu,qD h1,rV h1]
 ·show (w.heap.setIfInBounds r _)[b]?=_;rw [j4 _ _ _ _ hr,if_neg (by intro e;subst e;exact hb hb')]
end Go.aK
namespace Go.Proofs.YtoociceebodfeaaGreatDoor
open Go Go.aK
def l6 (h:Heap)(L:ML)(M:aU):Prop:=Own h 46 1 L.sa L.len L.cap (M.sure.map wv)
theorem XB {h:Heap}{b off n c:Nat}{ws:List UInt64}(S:Sl h (some ⟨b,off,none⟩) n c ws)(hn:n<=1099511627776):aC Tryz.prog 41 [.slice (some ⟨b,off,none⟩) n c] h (λv h'=>Keeps [] h h'/\∃ a' c',v=.slice a' n c'/\Own h' 46 1 a' n c' (ws.map wv)/\Sl h' a' n c' ws/\∀ x∈aA a',h.size<=x/\x<h'.size):=by
 refine aH aI Tryz.func41 rfl ok41 (by simp [Tryz.f41]) ?_;(conv=>whnf);refine aj.f rfl ?_;(conv=>whnf);refine aP.i λb1 h1 e1 s1 o1 k1=>?_;(conv=>whnf);have hl:=S.hlen;have O:Own h1 46 1 (some ⟨b1,0,none⟩) 0 0 []:=.inr ⟨b1,[],rfl,o1,rfl,rfl,rfl,Nat.le_refl _⟩;refine jN (e:=46) (sz:=1) (aM:=8) (new:=ws.map wv) rfl rfl rfl rfl rfl rfl rfl O (by simp [hl]) ((S.keep k1).cells1) (tL ws) (by omega) (by decide) (by simp [ax]) ?_;intro a2 c2 h2 O2 k2 n2;(conv=>whnf);rw [Nat.zero_add] at O2;have nb:∀ x∈aA a2,h.size<=x/\x<h2.size:=λx hx=>by
  refine ⟨?_,O2.lt x hx⟩;rcases n2 x hx with h|h
  ·simp [aA] at h;omega
  ·omega
 refine ⟨k1.dK k2 (by intro x hx;simp [aA] at hx;omega),a2,c2,by rw [Nat.zero_add],O2,?_,nb⟩;have R:iQ h2 ([]++ws.map wv) ws:=by
  rw [List.nil_append];exact xu h2 ws
 exact O2.sl R rfl (by decide) (by omega)
theorem XC {h:Heap}{b off n c:Nat}{ws:List UInt64}(S:Sl h (some ⟨b,off,none⟩) n c ws)(hn:n<=4096):aC Tryz.prog 82 [.slice (some ⟨b,off,none⟩) n c] h (λv h'=>Keeps [] h h'/\∃ L:ML,v=.pointer (some ⟨L.m,0,none⟩)/\fK h' L ⟨ws,[],[],0,-1⟩/\l6 h' L ⟨ws,[],[],0,-1⟩/\∀ x∈L.blocks,h.size<=x):=by
 refine aH aI Tryz.func82 rfl ok82 (by simp [Tryz.f82]) ?_;(conv=>whnf);have hm:(if (4096:Int)<(n:Int) then (4096:Int) else (n:Int))=(n:Int):=if_neg (by omega);have hl:=S.hlen;refine dn.i 0 n rfl hm (Nat.zero_le _) S.hcap ?_;(conv=>whnf);have S1:=S.part (l:=0) (r:=n) (Nat.zero_le _) (Nat.le_refl _);have e1:∀ s,je (some ⟨b,off,none⟩) c 0 s=some ⟨b,off,none⟩:=λs=>by
  unfold je;split
  ·rfl
  ·simp [Addr.add]
 rw [e1,Nat.sub_zero,Nat.sub_zero,List.drop_zero,hl,List.take_length,<-hl] at S1;rw [e1,Nat.sub_zero,Nat.sub_zero];refine ak.i (XB S1 (by omega)) λv h1 k1 hv=>?_;obtain ⟨a',c',rfl,O2,S2,nb⟩:=hv;(conv=>whnf);refine aP.i λb2 h2 e2 s2 o2 k2=>?_;(conv=>whnf);refine aP.i λb3 h3 e3 s3 o3 k3=>?_;(conv=>whnf);refine aP.i λb4 h4 e4 s4 o4 k4=>?_;(conv=>whnf);have z1:=k1.size;refine ⟨k1.trans (k2.trans (k3.trans k4)),⟨b4,a',n,c',b2,b3⟩,rfl,⟨o4,S2.keep (k2.trans (k3.trans k4)),(dB.new o2).keep (k3.trans k4) (by simp),(dB.new o3).keep k4 (by simp),by show b2≠b3;omega,λx hx=>?_,λx hx=>by have:=nb x hx;omega⟩,O2.keep (k2.trans (k3.trans k4)) (by simp),?_⟩
 ·have:=nb x hx;show x≠b4/\x≠b2/\x≠b3;omega
 ·intro x hx;simp only [ML.blocks,List.mem_cons] at hx;rcases hx with hx|hx|hx|hx
  ·have hx:x=b4:=hx;omega
  ·have hx:x=b2:=hx;omega
  ·have hx:x=b3:=hx;omega
  ·exact (nb x hx).1
theorem WZ (n:Nat)(hp:0<n)(hn:n<=4096)(h:Heap):aC Tryz.prog 37 [.int .i64 (n:Int)] h (λv h'=>Keeps [] h h'/\∃ L:ML,v=.pointer (some ⟨L.m,0,none⟩)/\fK h' L ⟨List.replicate n 0,[],[],0,-1⟩/\l6 h' L ⟨List.replicate n 0,[],[],0,-1⟩/\∀ x∈L.blocks,h.size<=x):=by
 refine aH aI Tryz.func37 rfl ok37 (by simp [Tryz.f37]) ?_;(conv=>whnf);have e1:(if (4096:Int)<(if (n:Int)<0 then 0 else (n:Int)) then (4096:Int) else (if (n:Int)<0 then 0 else (n:Int)))=(n:Int):=by
  rw [if_neg (show ¬ ((n:Int)<0) by omega),if_neg (by omega)]
 have e2:(if (4096:Int)<(if (0:Int)>(n:Int) then 0 else (n:Int)) then (4096:Int) else (if (0:Int)>(n:Int) then 0 else (n:Int)))=(n:Int):=e1;rw [e2];refine aQ.make (n:=n) rfl rfl rfl rfl rfl (by show 8*n<=_;omega) (by omega) λb1 h1 e3 s1 o1 k1=>?_;have rZ:h1[b1]?=some (.cells ⟨(List.replicate n (0:UInt64)).map wv⟩ 46 (0,0)):=by
  rw [o1,List.map_replicate];rfl
 have S1:Sl h1 (some ⟨b1,0,none⟩) n n (List.replicate n (0:UInt64)):=Sl.mD rZ (by simp [One.ok]) (by simp) (by simp;omega);(conv=>whnf);refine ak.i (XC S1 hn) λv h2 k2 hv=>?_;obtain ⟨L,rfl,A2,O2,nb⟩:=hv;(conv=>whnf);exact ⟨k1.trans k2,L,rfl,A2,O2,λx hx=>by have:=nb x hx;omega⟩
def kN (loose way:List (Int×UInt64))(first:Int):Nat->List (Int×UInt64)
 | 0=>way
 | k+1=>match lk loose (first+(k:Int)) with | some v=>gW (kN loose way first k) (first+(k:Int)) v | none=>kN loose way first k
theorem Nz (loose way:List (Int×UInt64))(first:Int):∀ (k:Nat) (x:Int),lk (kN loose way first k) x=if first<=x/\x<first+(k:Int) then (match lk loose x with|some v=>some v|none=>lk way x) else lk way x
 | 0,x=>by rw [if_neg (by omega)];rfl
 | k+1,x=>by
  have ih:=Nz loose way first k x;unfold kN;cases hl:lk loose (first+(k:Int)) with
  | none=>
   simp only;rw [ih];by_cases e:x=first+(k:Int)
   ·subst e;rw [if_neg (by omega),if_pos (by omega),hl]
   ·by_cases h2:first<=x/\x<first+(k:Int)
    ·rw [if_pos h2,if_pos (by omega)]
    ·rw [if_neg h2,if_neg (by omega)]
  | some v=>
   simp only;rw [rY];by_cases e:x=first+(k:Int)
   ·rw [if_pos e,e,if_pos (by omega),hl]
   ·rw [if_neg e,ih];by_cases h2:first<=x/\x<first+(k:Int)
    ·rw [if_pos h2,if_pos (by omega)]
    ·rw [if_neg h2,if_neg (by omega)]
def l7 (i:Int):Int:=i-i.tmod 8
theorem XD {h:Heap}{L:ML}{M:aU}(A:fK h L M)(i:Int)(hi:0<=i/\i<1000000)(h0:(M.call (M.there i)).1=0):aC Tryz.prog 86 [.pointer (some ⟨L.m,0,none⟩),.int .i64 i] h (λv h'=>Keeps [L.m,L.wb] h h'/\v=.int .i64 0/\fK h' L { (M.call (M.there i)).2 with way:=kN (M.call (M.there i)).2.loose (M.call (M.there i)).2.way (l7 i) 8 }):=by
 refine aH aI Tryz.func86 rfl ok86 (by simp [Tryz.f86]) ?_;(conv=>whnf);refine ak.i (Eg A i) λv h1 k1 hv=>?_;subst hv;have A1:=A.on k1;(conv=>whnf);refine ak.m (Eh A1 (M.there i)) (by simp [ax]) λv h2 k2 hv=>?_;obtain ⟨rfl,A2⟩:=hv;generalize (M.call (M.there i)).2=N at A2 ⊢;rw [h0];(conv=>whnf);refine aj.f rfl ?_;have hm8:0<=i.tmod 8/\i.tmod 8<8:=by
  rw [Int.tmod_eq_emod_of_nonneg hi.1];omega
 have ew:IntKind.i64.wrap (i-i.tmod 8)=l7 i:=dO (by omega) (by omega);have hlo:0<=l7 i/\l7 i<1000000:=by
  unfold l7;have:i.tmod 8<=i:=by rw [Int.tmod_eq_emod_of_nonneg hi.1];omega
  omega
 (conv=>whnf);refine dD.i (by decide) ?_;(conv=>whnf);rw [ew];generalize l7 i=q at hlo ⊢;refine bO.on [0,6,7] [] (λk:Nat=>[(0,.v (.pointer (some ⟨L.m,0,none⟩))),(6,.v (.int .i64 q)),(7,.v (.int .i64 (q+(k:Int))))]) (λ_=>[])
  (λk h'=>k<=8/\Keeps [L.m,L.wb] h h'/\fK h' L { N with way:=kN N.loose N.way q k }) (λk=>8-k) 0 ?_ ?_
 ·(conv=>whnf);refine ⟨0,rfl,by simp,rfl,Nat.zero_le _,?_,A2⟩;exact (k1.mono (by simp)).trans (k2.mono (by simp))
 ·rintro k h3 ⟨hk,k3,A3⟩;have e8:IntKind.i64.wrap (q+8)=q+8:=dO (by omega) (by omega);(conv=>whnf);rw [e8];refine aj.i (λhc=>?_) (λhc=>?_)
  ·have hk1:k<8:=by simp at hc;omega
   (conv=>whnf);(try refine aS.pass ?_;conv=>whnf);refine au.o A3.obj rfl ?_;have en:IntKind.i64.wrap (q+(k:Int)+1)=q+((k+1:Nat):Int):=by
    rw [dO (by omega) (by omega)];simp;omega
   cases hl:lk N.loose (q+(k:Int)) with
   | some w=>
    (conv=>whnf);refine gF.is A3.loose (by rw [qL,hl]) ?_;(conv=>whnf);(try refine aS.pass ?_;conv=>whnf);refine aj.t rfl ?_;(conv=>whnf);refine au.o A3.obj rfl ?_;(conv=>whnf);refine aQ.put rfl rfl A3.way (by simp [ax]) λh4 s4 M4 k4=>?_;(conv=>whnf);refine ⟨8-(k+1),by omega,?_⟩;(conv=>whnf);refine ⟨k+1,rfl,by rw [en],rfl,by omega,k3.trans (k4.mono (by simp)),?_⟩;have hfl:kN N.loose N.way q (k+1)=gW (kN N.loose N.way q k) (q+(k:Int)) w:=by
     conv=>lhs;unfold kN
     rw [hl]
    rw [hfl];have a3:=A3.ap3;exact ⟨k4.obj A3.obj (by simpa using a3.2),A3.sure.jF k4 (λb hb=>by simpa using (A3.ap2 b hb).2.2),A3.loose.keep k4 (by simpa using A3.ap1),by rw [<-Aw];exact M4,A3.ap1,A3.ap2,λb hb=>Nat.lt_of_lt_of_le (A3.lt b hb) k4.size⟩
   | none=>
    (conv=>whnf);refine gF.is A3.loose (by rw [qL,hl]) ?_;(conv=>whnf);(try refine aS.pass ?_;conv=>whnf);refine aj.f rfl ?_;(conv=>whnf);refine ⟨8-(k+1),by omega,?_⟩;(conv=>whnf);refine ⟨k+1,rfl,by rw [en],rfl,by omega,k3,?_⟩;have hfl:kN N.loose N.way q (k+1)=kN N.loose N.way q k:=by
     conv=>lhs;unfold kN
     rw [hl]
    rw [hfl];exact A3
  ·have hk1:k=8:=by simp at hc;omega
   subst hk1;(conv=>whnf);exact ⟨k3,rfl,A3⟩
theorem Ny {a:Int}{l1 l2:List Int}:(l1++a::l2).Nodup↔(a::(l1++l2)).Nodup:=List.perm_middle.nodup_iff
theorem Xq {h:Heap}{a:Option Addr}{n c:Nat}{ws:List UInt64}(O:Own h 46 1 a n c (ws.map wv))(hb:ws.length<=281474976710656):Sl h a n c ws:=by
 exact O.sl (α:=UInt64) (xu h ws) rfl (by decide) hb
theorem Xr {l:List (Int×UInt64)}{j:Nat}{n:Int}(hn:(l.map (·.1)).Nodup)(hj:(l[j]?).map (·.1)=some n)(k:Int):lk (l.eraseIdx j) k=if k=n then none else lk l k:=by
 induction l generalizing j with
 | nil=>simp at hj
 | cons p l ih=>
  obtain ⟨a,v⟩:=p;simp only [List.map_cons,List.nodup_cons] at hn;cases j with
  | zero=>
   simp at hj;subst hj;simp only [List.eraseIdx_cons_zero,lk];by_cases e:k=a
   ·rw [if_pos e,e];cases h:lk l a with
    | none=>rfl
    | some w=>
     exfalso;apply hn.1;clear ih hn
     induction l with
     | nil=>cases h
     | cons q l ih=>
      obtain ⟨b,u⟩:=q;simp only [lk] at h;simp only [List.map_cons,List.mem_cons];split at h
      ·rename_i e;exact .inl e
      ·exact .inr (ih h)
   ·rw [if_neg e,if_neg e]
  | succ j=>
   have hj':(l[j]?).map (·.1)=some n:=by simpa using hj
   have hna:n≠a:=by
    rintro rfl;apply hn.1;simp only [Option.map_eq_some_iff] at hj';obtain ⟨q,hq,rfl⟩:=hj';exact List.mem_map.2 ⟨q,List.mem_of_getElem? hq,rfl⟩
   simp only [List.eraseIdx_cons_succ,lk];rw [ih hn.2 hj'];by_cases e:k=a
   ·rw [if_pos e,if_pos e,if_neg (λx=>hna (x.symm.trans e))]
   ·rw [if_neg e,if_neg e]
theorem Xt (l:List (Int×UInt64))(j:Nat):(fF l).eraseIdx j=fF (l.eraseIdx j):=by
 unfold fF;exact wM _ l j
theorem Gq {h:Heap}{r:Nat}{l:List (Int×UInt64)}(o:dB h r (fF l)):(l.map (·.1)).Nodup:=by
 obtain ⟨es,cl,_,_,g,_⟩:=o;have:(fF l).map (·.1)=l.map (·.1):=by simp [fF]
 rw [this] at g;exact g
theorem Xu {l:List (Int×UInt64)}{x:Int}{v:UInt64}(h:lk l x=some v):x∈l.map (·.1):=by
 induction l with
 | nil=>cases h
 | cons p l ih=>
  obtain ⟨a,w⟩:=p;simp only [lk] at h;simp only [List.map_cons,List.mem_cons];split at h
  ·rename_i e;exact .inl e
  ·exact .inr (ih h)
theorem Xv {l:List (Int×UInt64)}(h:fF l=[]):l=[]:=by
 unfold fF at h;exact List.map_eq_nil_iff.1 h
theorem Xw {h:Heap}{L:ML}{M:aU}(A:fK h L M)(O:l6 h L M)(hu:M.fV = -1)(hs:M.sure.length<=1000000)(hw:∀ p∈M.way,lk M.loose p.1=some p.2/\M.there p.1=true):aC Tryz.prog 87 [.pointer (some ⟨L.m,0,none⟩)] h (λv h'=>Keeps L.blocks h h'/\v=.int .i64 0 /\
 ∃ N:aU,fK h' L N/\l6 h' L N/\N.fV = -1/\N.sure.length=M.sure.length/\N.way=[]/\(∀ i,N.read i=M.read i)/\(∀ x,lk N.loose x≠none->lk M.loose x≠none/\lk M.way x=none)):=by
 have hc1:(M.call true).1=0:=by
  unfold aU.call;rw [hu];simp
 have hc2:(M.call true).2={ M with calls:=IntKind.i64.wrap (M.calls+1) }:=by
  unfold aU.call;rw [hu];simp
 refine aH aI Tryz.func87 rfl ok87 (by simp [Tryz.f87]) ?_;(conv=>whnf);refine ak.m (Eh A true) (by simp [ax]) λv h1 k1 hv=>?_;obtain ⟨rfl,A1⟩:=hv;rw [hc1];rw [hc2] at A1;have O1:l6 h1 L { M with calls:=IntKind.i64.wrap (M.calls+1) }:=O.keep k1 (λb hb=>by simp;exact (A.ap2 b hb).1);(conv=>whnf);refine aj.f rfl ?_;(conv=>whnf);refine au.o A1.obj rfl ?_;(conv=>whnf);refine aQ.range rfl A1.way λit hR ei si ki IR=>?_;have AR:=A1.on ki;have OR:l6 hR L { M with calls:=IntKind.i64.wrap (M.calls+1) }:=Own.keep O1 ki (by simp);have bl:=A1.blt;have hwn:=Gq A1.way;generalize hM1:({ M with calls:=IntKind.i64.wrap (M.calls+1) }:aU)=M1 at *;have hread1:∀ i,M1.read i=M.read i:=λi=>by subst hM1;rfl
 have hsure1:M1.sure=M.sure:=by subst hM1;rfl
 have hway1:M1.way=M.way:=by subst hM1;rfl
 have hloose1:M1.loose=M.loose:=by subst hM1;rfl
 have hunt1:M1.fV = -1:=by subst hM1;exact hu
 have zk:∀ b∈L.blocks,b≠it:=λb hb=>by have:=bl b hb;omega
 (conv=>whnf);refine bO.on [0,15] [] (λq:List (Int×UInt64)×aU=>[(0,.v (.pointer (some ⟨L.m,0,none⟩))),(15,.v (.pointer (some ⟨it,0,none⟩)))])
  (λ_=>[]) (λq h'=>Keeps (it::L.blocks) hR h'/\(∃ last,oz h' it L.wb (fF q.1) last)/\fK h' L q.2/\l6 h' L q.2/\q.2.fV = -1/\q.2.sure.length=M.sure.length/\(∀ i,q.2.read i=M.read i)/\(q.1.map (·.1)).Nodup/\(∀ p∈q.1,lk q.2.loose p.1=some p.2/\q.2.there p.1=true)/\(∀ x,lk q.2.loose x≠none->lk M.loose x≠none/\(lk M.way x=none\/x∈q.1.map (·.1)))) (λq=>q.1.length) (M1.way,M1) ?_ ?_
 ·(conv=>whnf);refine ⟨(M1.way,M1),rfl,rfl,rfl,Keeps.refl _ _,⟨none,IR⟩,AR,OR,hunt1,by rw [hsure1],hread1,hwn,λp hp=>?_,λx hx=>?_⟩
  ·rw [hway1] at hp;have:=hw p hp;rw [hloose1];refine ⟨this.1,?_⟩;unfold aU.there;rw [hsure1];exact this.2
  ·rw [hloose1] at hx;refine ⟨hx,?_⟩;rw [hway1];cases hl:lk M.way x with
   | none=>exact .inl rfl
   | some v=>exact .inr (Xu hl)
 ·rintro ⟨R,N⟩ h2 ⟨k2,⟨last,I2⟩,A2,O2,u2,s2,r2,n2,w2,y2⟩;simp only at I2 A2 O2 u2 s2 r2 n2 w2 y2;have Xx:it≠L.wb:=λe=>zk L.wb (by simp [ML.blocks]) e.symm;(conv=>whnf);refine aQ.next I2 (by simp [ax]) Xx (λhR0=>?_) (λR1 p R2 h3 hRR s3 k3 I3=>?_)
  ·(conv=>whnf);refine aj.f rfl ?_;(conv=>whnf);refine au.o A2.obj rfl ?_;(conv=>whnf);refine aQ.Xy rfl A2.way (by simp [ax]) λh3 s3 M3 k3=>?_;(conv=>whnf);have a3:=A2.ap3;refine ⟨?_,rfl,{ N with way:=[] },⟨k3.obj A2.obj (by simpa using a3.2),A2.sure.jF k3 (λb hb=>by simpa using (A2.ap2 b hb).2.2),A2.loose.keep k3 (by simpa using A2.ap1),M3,A2.ap1,A2.ap2,λb hb=>Nat.lt_of_lt_of_le (A2.lt b hb) k3.size⟩,Own.keep O2 k3 (λb hb=>by simpa using (A2.ap2 b hb).2.2),u2,s2,rfl,r2,λx hx=>?_⟩
   rotate_left
   ·obtain ⟨y3,y4⟩:=y2 x hx;refine ⟨y3,?_⟩;rcases y4 with h|h
    ·exact h
    ·have hR1:R=[]:=Xv hR0;rw [hR1] at h;simp at h
   have ka:Keeps L.blocks h hR:=(k1.mono (by simp [ML.blocks])).bW ki;have kb:Keeps L.blocks h h2:=ka.gK k2 (λx hx=>by
    rcases List.mem_cons.1 hx with rfl|hx
    ·right;have:=k1.size;omega
    ·exact .inl hx)
   exact kb.trans (k3.mono (by simp [ML.blocks]))
  ·obtain ⟨m1,q,m2,rfl,rfl,rfl,rfl⟩:=Li hRR;obtain ⟨ql,qt⟩:=w2 q (by simp);(conv=>whnf);refine aj.t rfl ?_;(conv=>whnf);refine aQ.entry I3 ?_;have A3:=A2.keep k3 (λb hb=>by simp;exact zk b hb);have O3:l6 h3 L N:=Own.keep O2 k3 (λb hb=>by simp;exact zk b (by simp [ML.blocks,hb]));(conv=>whnf);refine au.o A3.obj rfl ?_;have hq0:0<=q.1/\q.1<N.sure.length:=by simpa [aU.there] using qt
   have hlen:=A3.sure.hlen;have hO:=O3;rcases hO with ⟨_,h0,_⟩|⟨b,cs,hb,ob,ht,hcl,hll,hcc⟩
   ·omega
   obtain ⟨i,hi⟩:∃ i:Nat,q.1=(i:Int):=⟨q.1.toNat,by omega⟩;have hi1:i<N.sure.length:=by omega
   have Gr:b∈aA L.sa:=by rw [hb];simp [aA]
   have ap:=A2.ap2 b Gr;(conv=>whnf);refine aR.i i (by exact hi) (by omega) hb ?_;(conv=>whnf);refine dM.i ob ?_ (by simp [ax]) λh4 s4 o4 k4=>?_
   ·show 0+i*1+1<=cs.length;omega
   have hset:(cs.set i (wv q.2)).take (N.sure.set i q.2).length=(N.sure.set i q.2).map wv:=by
    rw [List.length_set,List.take_set,List.map_set];rw [List.length_map] at ht;rw [ht]
   have mP:h4[b]?=some (.cells ⟨cs.set i (wv q.2)⟩ 46 (0,0)):=by
    rw [o4];have e:bF (0+i*1) [wv q.2] cs=cs.set i (wv q.2):=by
     rw [show 0+i*1=i by omega,xW _ _ _ (by omega)]
    exact congrArg (λx=>some (Obj.cells ⟨x⟩ 46 (0,0))) e
   have O4:l6 h4 L { N with sure:=N.sure.set i q.2 }:=.inr ⟨b,_,hb,mP,by simpa using hset,by rw [List.length_set];exact hcl,by simpa using hll,hcc⟩;have kb4:∀ x∈L.blocks,x≠b->x∉[b]:=λx _ hx=>by simpa using hx
   have A4:fK h4 L { N with sure:=N.sure.set i q.2 }:=⟨k4.obj A3.obj (by simpa using λe=>ap.1 e.symm),Xq O4 (by rw [List.length_set];omega),A3.loose.keep k4 (by simpa using λe=>ap.2.1 e.symm),A3.way.keep k4 (by simpa using λe=>ap.2.2 e.symm),A3.ap1,A3.ap2,λx hx=>Nat.lt_of_lt_of_le (A3.lt x hx) k4.size⟩;(conv=>whnf);refine au.o A4.obj rfl ?_;(conv=>whnf);refine gF.is A4.loose (by rw [qL,ql]) ?_;(conv=>whnf);(try refine aS.pass ?_;conv=>whnf);refine aj.t (by simp) ?_;(conv=>whnf);refine au.o A4.obj rfl ?_;(conv=>whnf);refine aQ.del rfl rfl A4.loose (n:=q.1) (by rw [qL,ql];simp) (by simp [ax]) λh5 j hj hjn s5 M5 k5=>?_;have Xz:(N.loose[j]?).map (·.1)=some q.1:=by
    have:((fF N.loose)[j]?).map (·.1)=some q.1:=hjn;unfold fF at this;rw [List.getElem?_map,Option.map_map] at this;exact this
   have hln:=Gq A4.loose;rw [Xt] at M5;have a3:=A3.ap3;(conv=>whnf);refine ⟨(m1++m2).length,by simp,?_⟩;(conv=>whnf);have hN5:∀ x,lk (N.loose.eraseIdx j) x=if x=q.1 then none else lk N.loose x:=λx=>Xr hln Xz x;refine ⟨(m1++m2,{ N with sure:=N.sure.set i q.2,loose:=N.loose.eraseIdx j }),rfl,rfl,rfl,?_,⟨some (q.1,wv q.2),?_⟩,⟨k5.obj A4.obj (by simpa using a3.1),A4.sure.jF k5 (λx hx=>by simpa using (A3.ap2 x hx).2.1),M5,A4.way.keep k5 (by simpa using A3.ap1.symm),A3.ap1,A3.ap2,λx hx=>Nat.lt_of_lt_of_le (A4.lt x hx) k5.size⟩,Own.keep O4 k5 (λx hx=>by simpa using (A3.ap2 x hx).2.1),u2,by simp only [List.length_set];exact s2,λx=>?_,?_,λp hp=>?_,λx hx=>?_⟩
   ·exact ((k2.trans (k3.mono (by simp))).trans (k4.mono (by simp;right;simp [ML.blocks,Gr]))).trans (k5.mono (by simp [ML.blocks]))
   ·have:fF m1++fF m2=fF (m1++m2):=List.map_append.symm;have XA:oz h3 it L.wb (fF (m1++m2)) (some (q.1,wv q.2)):=by rw [<-this];exact I3
    refine (XA.keep k4 ?_ (by simpa using λe=>ap.2.2 e.symm)).keep k5 ?_ (by simpa using A3.ap1.symm)
    ·have:=zk b (by simp [ML.blocks,Gr]);simpa using λe=>this e.symm
    ·have:=zk L.lb (by simp [ML.blocks]);simpa using λe=>this e.symm
   ·rw [<-r2 x];unfold aU.read aU.there;simp only [List.length_set];split
    ·rename_i hx;rw [hN5];by_cases e:x=q.1
     ·rw [if_pos e,e,ql,hi];simp [hi1]
     ·rw [if_neg e];have hne:x.toNat≠i:=by
       intro e2;apply e;have:0<=x:=by simp at hx;exact hx.1
       omega
      rw [List.getElem?_set_ne (λe=>hne e.symm)]
    ·rfl
   ·have:(m1++q::m2).map (·.1)=m1.map (·.1)++q.1::m2.map (·.1):=by simp
    rw [this] at n2;rw [List.map_append];exact (List.nodup_cons.1 (Ny.1 n2)).2
   ·have hp':p∈m1++q::m2:=by
     simp only [List.mem_append,List.mem_cons] at hp ⊢;rcases hp with h|h
     ·exact .inl h
     ·exact .inr (.inr h)
    obtain ⟨p1,p2⟩:=w2 p hp';refine ⟨?_,?_⟩
    ·show lk (N.loose.eraseIdx j) p.1=some p.2;have hne:p.1≠q.1:=by
      intro e;have:(m1++q::m2).map (·.1)=m1.map (·.1)++q.1::m2.map (·.1):=by simp
      rw [this] at n2;have hnq:=Ny.1 n2;rw [List.nodup_cons] at hnq;apply hnq.1;rw [<-e,<-List.map_append];exact List.mem_map.2 ⟨p,hp,rfl⟩
     rw [hN5,if_neg hne];exact p1
    ·unfold aU.there at p2 ⊢;simp only [List.length_set];exact p2
   ·have hx:lk (N.loose.eraseIdx j) x≠none:=hx;rw [hN5] at hx;have hne:x≠q.1:=by
     intro e;rw [if_pos e] at hx;exact hx rfl
    rw [if_neg hne] at hx;obtain ⟨y3,y4⟩:=y2 x hx;refine ⟨y3,?_⟩;rcases y4 with h|h
    ·exact .inl h
    ·right
     simp only [List.map_append,List.map_cons,List.mem_append,List.mem_cons] at h ⊢;rcases h with h|h|h
     ·exact .inl h
     ·exact absurd h hne
     ·exact .inr h
def pO:List UInt64:=([7021221306412823411,2824,0,0,0,0,0,0]:List UInt64)++(List.replicate 8 0++(fI (cB 2 1)++List.replicate 2800 0))
theorem Xn:pO.length=2824:=by
 unfold pO;simp [fI]
theorem Xo (h:Heap):aC Tryz.prog 83 [] h (λv h'=>Keeps [] h h'/\∃ b,v=.slice (some ⟨b,0,none⟩) 2824 2824/\h.size<=b/\h'[b]?=some (.cells ⟨pO.map wv⟩ 46 (0,0))):=by
 refine aH aI Tryz.func83 rfl ok83 (by simp [Tryz.f83]) ?_;(conv=>whnf);refine ak.i (DK h) λv h1 k1 hv=>?_;subst hv;(conv=>whnf);refine aQ.make (n:=2824) rfl rfl rfl rfl rfl (by decide) (by decide) λb2 h2 e2 s2 o2 k2=>?_;(conv=>whnf);refine ak.i (QT h2) λv h3 k3 hv=>?_;obtain ⟨b3,rfl,hb3,_,o3⟩:=hv;have z1:=k1.size;have z2:=k2.size;have z3:=k3.size;have Nw:(([7021221306412823411,2824,0,0,0,0,0,0]:List UInt64).map wv).length=8:=rfl;(conv=>whnf);refine aQ.copy (sz:=1) (new:=([7021221306412823411,2824,0,0,0,0,0,0]:List UInt64).map wv) rfl rfl rfl (k3.obj o2 (by simp)) rfl (λj hj=>by simp only [Heap.cell?,o3];simp) (tL _) (by rw [Nw,List.length_replicate];decide) (by simp [ax]) λh4 s4 o4 k4=>?_;have hz:List.replicate 2824 (Value.int .u64 0)=List.replicate 8 (.int .u64 0)++(List.replicate 8 (.int .u64 0)++(List.replicate 8 (.int .u64 0)++List.replicate 2800 (.int .u64 0))):=by
  rw [List.replicate_append_replicate,List.replicate_append_replicate,List.replicate_append_replicate]
 have e4:bF 0 (([7021221306412823411,2824,0,0,0,0,0,0]:List UInt64).map wv) (List.replicate 2824 (.int .u64 0))=(([7021221306412823411,2824,0,0,0,0,0,0]:List UInt64).map wv)++(List.replicate 8 (.int .u64 0)++(List.replicate 8 (.int .u64 0)++List.replicate 2800 (.int .u64 0))):=by
  rw [hz];have:=Al (A:=([7021221306412823411,2824,0,0,0,0,0,0]:List UInt64).map wv) (x:=Value.int .u64 0) (B:=List.replicate 8 (.int .u64 0)++(List.replicate 8 (.int .u64 0)++List.replicate 2800 (.int .u64 0)));rw [Nw] at this;exact this
 rw [e4] at o4;(conv=>whnf);refine ak.i (FO 2 1 h4) λv h5 k5 hv=>?_;rw [if_pos (by decide)] at hv;subst hv;(conv=>whnf);refine aP.i λb6 h6 e6 s6 o6 k6=>?_;(conv=>whnf);refine aN.i λh7 s7 k7=>?_;have k47:Keeps [] h4 h7:=(k5.trans k6).new1 k7 (by have:=k5.size;omega);obtain ⟨fo,fr⟩:=BG (kind:=2) (by decide) 1;(conv=>whnf);refine ak.i (FM (cB 2 1) fo h7) λv h8 k8 hv=>?_;rw [if_pos fr] at hv;obtain ⟨b8,rfl,hb8,o8⟩:=hv;(conv=>whnf);refine ak.i (tQ 1 h8) λv h9 k9 hv=>?_;subst hv;(conv=>whnf);refine dn.i 16 2824 rfl rfl (by decide) (by decide) ?_;(conv=>whnf);have eA:je (some ⟨b2,0,none⟩) 2824 16 1=some ⟨b2,0+16*1,none⟩:=by
  unfold je;rw [if_neg (by omega)];simp [addr_add]
 have Xp:je (some ⟨b2,0,none⟩) 2824 16 Tryz.prog.types[46].size=some ⟨b2,0+16*1,none⟩:=eA;rw [Xp];have k49:=k47.trans (k8.trans k9);have hcw:(fI (cB 2 1)).length=8:=rfl;refine aQ.copy (sz:=1) (new:=(fI (cB 2 1)).map wv) rfl rfl rfl (k49.obj o4 (by simp)) (by rw [List.length_map];rfl) (λj hj=>by simp only [Heap.cell?,k9.obj o8 (by simp)];simp) (tL _) (by simp [hcw]) ?_ λh10 s10 o10 k10=>?_
 ·have:=k3.size;have:=k4.size;have:=k5.size;simp [ax,aZ];omega
 (conv=>whnf);have e10:bF (0+16*1) ((fI (cB 2 1)).map wv) (([7021221306412823411,2824,0,0,0,0,0,0]:List UInt64).map wv++(List.replicate 8 (.int .u64 0)++(List.replicate 8 (.int .u64 0)++List.replicate 2800 (.int .u64 0))))=pO.map wv:=by
  have h1:([7021221306412823411,2824,0,0,0,0,0,0]:List UInt64).map wv++(List.replicate 8 (Value.int .u64 0)++(List.replicate 8 (.int .u64 0)++List.replicate 2800 (.int .u64 0)))=(([7021221306412823411,2824,0,0,0,0,0,0]:List UInt64).map wv++List.replicate 8 (.int .u64 0))++(List.replicate 8 (.int .u64 0)++List.replicate 2800 (.int .u64 0)):=by rw [List.append_assoc]
  rw [h1];have h2:=JP (A:=([7021221306412823411,2824,0,0,0,0,0,0]:List UInt64).map wv++List.replicate 8 (.int .u64 0)) (N:=(fI (cB 2 1)).map wv) (L:=List.replicate 8 (.int .u64 0)++List.replicate 2800 (.int .u64 0));have hl:(([7021221306412823411,2824,0,0,0,0,0,0]:List UInt64).map wv++List.replicate 8 (Value.int .u64 0)).length=0+16*1:=by simp
  rw [hl] at h2;rw [h2];have h3:=Al (A:=(fI (cB 2 1)).map wv) (x:=Value.int .u64 0) (B:=List.replicate 2800 (.int .u64 0));rw [List.length_map,hcw] at h3;rw [h3];unfold pO;simp only [List.map_append,List.map_replicate,List.append_assoc];rfl
 rw [e10] at o10;refine ⟨?_,b2,rfl,by omega,o10⟩;exact ((k1.trans (k2.trans k3)).new1 k4 (by omega)).trans k49 |>.new1 k10 (by omega)
def fw (i:Int):UInt64:=if 0<=i/\i<2824 then pO[i.toNat]?.getD 0 else 0
theorem Xl {i:Int}:fw i=if i=0 then 7021221306412823411 else if i=1 then 2824 else if 16<=i/\i<24 then (fI (cB 2 1))[(i-16).toNat]?.getD 0 else 0:=by
 unfold fw;by_cases h:0<=i/\i<2824
 ·rw [if_pos h];obtain ⟨n,rfl⟩:∃ n:Nat,i=(n:Int):=⟨i.toNat,by omega⟩;rw [Int.toNat_natCast];unfold pO;have hl0:([7021221306412823411,2824,0,0,0,0,0,0]:List UInt64).length=8:=rfl;have hl2:(fI (cB 2 1)).length=8:=rfl;by_cases h8:n<8
  ·rw [List.getElem?_append_left (by rw [hl0];exact h8)];have:n=0\/n=1\/n=2\/n=3\/n=4\/n=5\/n=6\/n=7:=by omega
   rcases this with rfl|rfl|rfl|rfl|rfl|rfl|rfl|rfl <;> rfl
  ·rw [List.getElem?_append_right (by rw [hl0];omega),hl0,if_neg (by omega),if_neg (by omega)];by_cases h16:n<16
   ·rw [List.getElem?_append_left (by simp;omega),if_neg (by omega),List.getElem?_replicate,if_pos (by omega)];rfl
   ·rw [List.getElem?_append_right (by simp;omega),List.length_replicate];by_cases h24:n<24
    ·rw [List.getElem?_append_left (by rw [hl2];omega),if_pos (by omega)]
     congr 2
     omega
    ·rw [List.getElem?_append_right (by rw [hl2];omega),if_neg (by omega),List.getElem?_replicate];split <;> rfl
 ·rw [if_neg h,if_neg (by omega),if_neg (by omega),if_neg (by omega)]
def S0:FS:=⟨λn=>if n=1 then cB 2 1 else fU 0,λ_=>[],λ_=>[]⟩
theorem Gp {k:Int}(h0:0<=k):fw (200+k)=0:=by
 rw [Xl,if_neg (by omega),if_neg (by omega),if_neg (by omega)]
theorem Xm:∀ n:Fin 24,bV fw (8+(n.val:Int)*8) 8=fI (if (n.val:Int)=1 then cB 2 1 else fU 0):=by decide +kernel
theorem fs0:bI fw S0:=by
 have hno:∀ n:Int,0<=n->n<24->∀ x,0<=x->x<96->fw (200+x)≠w64 (n+1):=by
  intro n n0 n1 x x0 x1 e;rw [Gp x0] at e;have h1:(w64 (n+1)).toNat=(n+1).toNat:=by
   unfold w64;rw [UInt64.toNat_ofNat'];omega
  rw [<-e] at h1;have:(0:UInt64).toNat=0:=rfl;omega
 refine ⟨λn n0 n1=>?_,λn n0 n1=>?_,rfl,λk k0 k1=>.inl (Gp k0)⟩
 ·have:=Xm ⟨n.toNat,by omega⟩;simp only [Int.toNat_of_nonneg n0] at this;exact this
 ·by_cases h:n=1
  ·have:S0.C n=cB 2 1:=if_pos h;rw [this];exact Ho (by decide) 1 (hno n n0 n1)
  ·have:S0.C n=fU 0:=if_neg h;rw [this];exact zI 0 (hno n n0 n1)
theorem Xh (s m a n:List Int)(ha:a=[]):bB fw ⟨fw,s,m,a,n⟩ 96=96:=by
 subst ha;unfold bB;rw [List.filter_eq_self.2 (λj hj=>?_),List.length_range];have hj:=List.mem_range.1 hj;unfold gN;have h0:fw (200+(j:Int))=0:=Gp (by omega);simp [h0];omega
structure lZ (S:FS)(K:Int->Int)(NM:Int->List aD)(BY:Int->List UInt8):Prop where
 k:∀ i,(S.C i).kind=K i
 n:∀ i,S.nm i=NM i
 b:∀ i,S.aM i=BY i
def vf (K:Int->Int)(NM:Int->List aD)(BY:Int->List UInt8):Fs:=⟨K,λi name=>(cu (NM i) name).map (·.node),BY⟩
theorem lZ.view {S:FS}{K:Int->Int}{NM:Int->List aD}{BY:Int->List UInt8}(Z:lZ S K NM BY):aX S=vf K NM BY:=by
 have h1:(λi=>(S.C i).kind)=K:=funext Z.k;have h2:S.nm=NM:=funext Z.n;have h3:S.aM=BY:=funext Z.b;unfold aX vf;rw [h1,h2,h3]
theorem lZ.fc {S:FS}{K:Int->Int}{NM:Int->List aD}{BY:Int->List UInt8}(Z:lZ S K NM BY)(h1:K 1=2)(h:∀ n:Fin 24,K (n.val:Int)=2->∀ e∈NM (n.val:Int),0<=e.node/\e.node<24/\K e.node≠0):gm S:=by
 refine ⟨(Z.k 1).trans h1,λn n0 n1 hk e he=>?_⟩;have:=h ⟨n.toNat,by omega⟩;simp only [Int.toNat_of_nonneg n0] at this;rw [Z.n] at he;have:=this ((Z.k n).symm.trans hk) e he;rw [Z.k];exact this
theorem lZ.ns {S:FS}{K:Int->Int}{NM:Int->List aD}{BY:Int->List UInt8}(Z:lZ S K NM BY)(h:∀ n:Fin 24,K (n.val:Int)=2->∀ e∈NM (n.val:Int),e.node≠(n.val:Int)):wF S:=by
 intro n n0 n1 hk e he;have:=h ⟨n.toNat,by omega⟩;simp only [Int.toNat_of_nonneg (show 0<=n by omega)] at this;rw [Z.n] at he;exact this ((Z.k n).symm.trans hk) e he
theorem Nv {B:Int->UInt64}{X X':VS}{S:FS}{K:Int->Int}{NM:Int->List aD}{BY:Int->List UInt8}{path data nm:List UInt8}{kind n1:Int}{v:Value}(Z:lZ S K NM BY)(hp:bC (vf K NM BY) path=(1,nm,0,0))
 (hfree:8<=bB B X 96) (hlen:(NM 1).length<10) (hn:2<=n1/\n1<24/\K n1=0) (hl:∀ k:Fin 24,2<=(k.val:Int)->(k.val:Int)<n1->K (k.val:Int)≠0) (R:lC B X S path kind data v X') :
 v=.int .i64 0/\X'.away=X.away/\X'.bG=X.bG/\bB B X 96<=bB B X' 96+8/\∃ S',bI X'.now S' /\
  lZ S' (λi=>if i=1 then 2 else if i=n1 then kind else K i) (λi=>if i=1 then bJ (NM 1) ⟨nm,n1⟩ else if i=n1 then [] else NM i) (λi=>if i=1 then BY 1 else if i=n1 then data else BY i) /\
  (S'.C n1).links=1/\∀ i,i≠1->i≠n1->S'.C i=S.C i:=by
 obtain ⟨e1,e2,H⟩:=R;have hv:=Z.view;rw [hv] at H;rcases H with ⟨he,_⟩|⟨d,gM,nd,P,H⟩
 ·rw [hp] at he;exact absurd rfl he
 ·have hP:=P.is;rw [hv,hp] at hP;obtain ⟨t1,t2⟩:=Prod.mk.inj hP;obtain ⟨t2,t3⟩:=Prod.mk.inj t2;obtain ⟨t3,_⟩:=Prod.mk.inj t3;subst t1 t2 t3;rcases H with ⟨hnd,_⟩|⟨_,_,hc⟩|⟨_,hv0,hm,hf,n,Mk⟩
  ·exact absurd rfl hnd
  ·exfalso;rcases hc with hc|hc|hc
   ·omega
   ·rw [Z.n] at hc;omega
   ·exact hc n1 hn.1 hn.2.1 ((Z.k n1).trans hn.2.2)
  ·have hne:n=n1:=by
    have h1:=Mk.was;rw [Z.k] at h1;have h2:=Mk.bH;rcases Int.lt_trichotomy n n1 with h|h|h
    ·have:=hl ⟨n.toNat,by omega⟩;simp only [Int.toNat_of_nonneg (show 0<=n by omega)] at this;exact absurd h1 (this h2.1 h)
    ·exact h
    ·exact absurd ((Z.k n1).trans hn.2.2) (Mk.least n1 hn.1 h)
   subst hne;obtain ⟨c2,c1,k1,k2,k3,k4,I⟩:=Mk.fs;have hn1:n≠1:=by have:=hn.1;omega
   refine ⟨hv0,e1,e2,hf,_,I,⟨λi=>?_,λi=>?_,λi=>?_⟩,?_,λi h1 h2=>?_⟩
   ·show (if i=1 then c1 else if i=n then c2 else S.C i).kind=_;by_cases h1:i=1
    ·rw [if_pos h1,if_pos h1];exact k3
    ·rw [if_neg h1,if_neg h1];by_cases h2:i=n
     ·rw [if_pos h2,if_pos h2];exact k1
     ·rw [if_neg h2,if_neg h2];exact Z.k i
   ·show (if i=1 then bJ (S.nm 1) ⟨nm,n⟩ else if i=n then [] else S.nm i)=_;rw [Z.n 1,Z.n i]
   ·show (if i=1 then S.aM 1 else if i=n then data else S.aM i)=_;rw [Z.b 1,Z.b i]
   ·show (if n=1 then c1 else if n=n then c2 else S.C n).links=1;rw [if_neg hn1,if_pos rfl];exact k2
   ·show (if i=1 then c1 else if i=n then c2 else S.C i)=_;rw [if_neg h1,if_neg h2]
def K0 (i:Int):Int:=if i=1 then 2 else 0
def N0 (i:Int):List aD:=[]
def B0 (i:Int):List UInt8:=[]
def K1 (i:Int):Int:=if i=1 then 2 else if i=2 then 1 else K0 i
def N1 (i:Int):List aD:=if i=1 then bJ (N0 1) ⟨[102],2⟩ else if i=2 then [] else N0 i
def B1 (i:Int):List UInt8:=if i=1 then B0 1 else if i=2 then [] else B0 i
def K2 (i:Int):Int:=if i=1 then 2 else if i=3 then 3 else K1 i
def N2 (i:Int):List aD:=if i=1 then bJ (N1 1) ⟨[108],3⟩ else if i=3 then [] else N1 i
def B2 (i:Int):List UInt8:=if i=1 then B1 1 else if i=3 then [47,102] else B1 i
def B3 (i:Int):List UInt8:=if i=2 then [104,105] else B2 i
def K4 (i:Int):Int:=if i=3 then 0 else if i=1 then 2 else K2 i
def N4 (i:Int):List aD:=if i=3 then [] else if i=1 then (N2 1).eraseIdx (aL (N2 1) [108]) else N2 i
def B4 (i:Int):List UInt8:=if i=3 then [] else if i=1 then B3 1 else B3 i
theorem sim0:lZ S0 K0 N0 B0:=⟨λi=>by
 show (if i=1 then cB 2 1 else fU 0).kind=if i=1 then 2 else 0;by_cases h:i=1
 ·rw [if_pos h,if_pos h];rfl
 ·rw [if_neg h,if_neg h];rfl,λ_=>rfl,λ_=>rfl⟩
theorem pl0:bC (vf K0 N0 B0) [47,102]=(1,[102],0,0):=by decide +kernel
theorem pl1:bC (vf K1 N1 B1) [47,108]=(1,[108],0,0):=by decide +kernel
theorem pa2:aV (vf K2 N2 B2) [47,108] true=(2,0):=by decide +kernel
theorem pl3:bC (vf K2 N2 B3) [47,108]=(1,[108],3,0):=by decide +kernel
theorem pa4:aV (vf K4 N4 B4) [47,102] true=(2,0):=by decide +kernel
theorem pb4:aV (vf K4 N4 B4) [47,102] false=(2,0):=by decide +kernel
theorem fc0:∀ n:Fin 24,K0 (n.val:Int)=2->∀ e∈N0 (n.val:Int),0<=e.node/\e.node<24/\K0 e.node≠0:=by decide +kernel
theorem fc1:∀ n:Fin 24,K1 (n.val:Int)=2->∀ e∈N1 (n.val:Int),0<=e.node/\e.node<24/\K1 e.node≠0:=by decide +kernel
theorem fc2:∀ n:Fin 24,K2 (n.val:Int)=2->∀ e∈N2 (n.val:Int),0<=e.node/\e.node<24/\K2 e.node≠0:=by decide +kernel
theorem ns2:∀ n:Fin 24,K2 (n.val:Int)=2->∀ e∈N2 (n.val:Int),e.node≠(n.val:Int):=by decide +kernel
theorem fc4:∀ n:Fin 24,K4 (n.val:Int)=2->∀ e∈N4 (n.val:Int),0<=e.node/\e.node<24/\K4 e.node≠0:=by decide +kernel
theorem Xj {B:Int->UInt64}{X X':VS}{S:FS}{v:Value}(Z:lZ S K2 N2 B2)(hfree:2<=bB B X 96)(R:sN B X S [47,108] 0 [104,105] v X') :
 v=.int .i64 0/\X'.away=X.away/\X'.bG=X.bG/\∃ S',bI X'.now S'/\lZ S' K2 N2 B3/\(S'.C 2).links=(S.C 2).links/\S'.C 3=S.C 3:=by
 obtain ⟨e1,e2,H⟩:=R;have hp:cK S [47,108]=(2,0):=by unfold cK;rw [Z.view];exact pa2
 have hk:(S.C 2).kind=1:=by rw [Z.k];decide +kernel
 have he:fZ S [47,108]=0:=by
  unfold fZ;rw [hp,if_neg (by rintro ⟨_,h⟩;rw [hk] at h;cases h)]
 have hb:S.aM 2=[]:=by rw [Z.b];decide +kernel
 rw [he,hp] at H;simp only [hb] at H;have hr:eY [] 0 [104,105]=([104,105],0):=by decide +kernel
 rw [hr] at H;rcases H with ⟨h,_⟩|⟨_,h,_⟩|⟨_,_,_,h⟩|⟨_,_,hv,_,c',hc1,hc2,I⟩
 ·exact absurd rfl h
 ·exact absurd rfl h
 ·exfalso;have:((0:Int).toNat+[(104:UInt8),105].length+127)/128-(0:Int).toNat/128+1=2:=by decide
  omega
 ·refine ⟨hv,e1,e2,_,I,⟨λi=>?_,λi=>?_,λi=>?_⟩,?_,?_⟩
  ·show (if i=2 then c' else S.C i).kind=_;by_cases h:i=2
   ·rw [if_pos h,h,hc1];exact Z.k 2
   ·rw [if_neg h];exact Z.k i
  ·show (if i=2 then S.nm 2 else S.nm i)=_;by_cases h:i=2
   ·rw [if_pos h,h];exact Z.n 2
   ·rw [if_neg h];exact Z.n i
  ·show (if i=2 then [104,105] else S.aM i)=_;unfold B3;rw [Z.b i]
  ·show (if (2:Int)=2 then c' else S.C 2).links=_;rw [if_pos rfl];exact hc2
  ·show (if (3:Int)=2 then c' else S.C 3)=_;rw [if_neg (by decide)]
theorem Xk {X X':VS}{S:FS}{v:Value}(Z:lZ S K2 N2 B3)(hl:(S.C 3).links=1)(R:mh X S [47,108] oH v X') :
 v=.int .i64 0/\X'.away=X.away/\X'.bG=X.bG/\∃ S',bI X'.now S'/\lZ S' K4 N4 B4/\S'.C 2=S.C 2:=by
 obtain ⟨e1,e2,H⟩:=R;have hv:=Z.view;rw [hv] at H;rcases H with ⟨he,_⟩|⟨d,gM,nd,P,H⟩
 ·rw [pl3] at he;exact absurd rfl he
 ·have hP:=P.is;rw [hv,pl3] at hP;obtain ⟨t1,t2⟩:=Prod.mk.inj hP;obtain ⟨t2,t3⟩:=Prod.mk.inj t2;obtain ⟨t3,_⟩:=Prod.mk.inj t3;subst t1 t2 t3;have hk:(S.C 3).kind=3:=by rw [Z.k];decide +kernel
  have hm:oH (S.C 3)=0:=by
   unfold oH;rw [hk,if_neg (by decide)]
  rcases H with ⟨h,_⟩|⟨_,h,_⟩|⟨_,_,hv0,_,c1,k1,_,⟨h,_⟩|⟨_,vv,I⟩⟩
  ·cases h
  ·exact absurd hm h
  ·omega
  ·refine ⟨hv0,e1,e2,_,I,⟨λi=>?_,λi=>?_,λi=>?_⟩,?_⟩
   ·show (if i=3 then fU vv else if i=1 then c1 else S.C i).kind=_;unfold K4;by_cases h3:i=3
    ·rw [if_pos h3,if_pos h3];rfl
    ·rw [if_neg h3,if_neg h3];by_cases h1:i=1
     ·rw [if_pos h1,if_pos h1];exact k1
     ·rw [if_neg h1,if_neg h1];exact Z.k i
   ·show (if i=3 then [] else if i=1 then (S.nm 1).eraseIdx (aL (S.nm 1) [108]) else S.nm i)=_;unfold N4;rw [Z.n 1,Z.n i]
   ·show (if i=3 then [] else if i=1 then S.aM 1 else S.aM i)=_;unfold B4;rw [Z.b 1,Z.b i]
   ·show (if (2:Int)=3 then fU vv else if (2:Int)=1 then c1 else S.C 2)=_;rw [if_neg (by decide),if_neg (by decide)]
def L0:List bU:=[⟨⟨0,0,0,[],[]⟩,none,0,0⟩,⟨⟨1,2,1,[],[]⟩,none,0,0⟩]
theorem Xc (h:Heap):aC Tryz.prog 40 [] h (λv h'=>Keeps [] h h'/\∃ bT t,v=.pointer (some ⟨t,0,none⟩)/\h.size<=bT/\h.size<=t/\h'[t]?=some (.cells ⟨[.slice (some ⟨bT,0,none⟩) 2 2]⟩ 80 (0,0))/\h'[bT]?=some (.cells ⟨fQ L0⟩ 77 (0,0))):=by
 refine aH aI Tryz.func40 rfl ok40 (by simp [Tryz.f40]) ?_;(conv=>whnf);refine aP.i λb1 h1 e1 s1 o1 k1=>?_;(conv=>whnf);refine aP.i λb2 h2 e2 s2 o2 k2=>?_;(conv=>whnf);exact ⟨k1.trans k2,b1,b2,rfl,by omega,by omega,o2,k2.obj o1 (by simp)⟩
structure sW (B:Int->UInt64)(at_:Nat)(N:aU):Prop where
 u:N.fV = -1
 len:N.sure.length=2824
 read:∀ i,N.read i=if i<at_ then fw i else B i
 way:∀ i,lk N.way i=lk N.loose i
 bH:∀ i,lk N.loose i≠none->0<=i/\i<2824
theorem Gs {N:aU}(hu:N.fV = -1)(t:Bool):N.call t=(if t then 0 else 1,{ N with calls:=IntKind.i64.wrap (N.calls+1) }):=by
 unfold aU.call;rw [hu];cases t <;> rfl
theorem XF {i:Int}(hi:0<=i):l7 i<=i/\i<l7 i+8:=by
 unfold l7;rw [Int.tmod_eq_emod_of_nonneg hi];omega
theorem sW.step {B:Int->UInt64}{a:Nat}{N:aU}(I:sW B a N)(ha:a<2824):∀ (c1 c2:Int),sW B (a+1) { N with calls:=c2,loose:=gW N.loose a (fw a),way:=kN (gW N.loose a (fw a)) N.way (l7 a) 8 }:=by
 intro c1 c2;have hl:=XF (i:=(a:Int)) (by omega);refine ⟨I.u,I.len,λi=>?_,λi=>?_,λi hi=>?_⟩
 ·have hr:=I.read i;unfold aU.read aU.there at hr ⊢;simp only at hr ⊢;rw [rY];by_cases e:i=(a:Int)
  ·rw [if_pos e];have h1:(decide (0<=i)&&decide (i<(N.sure.length:Int)))=true:=by rw [I.len];simp;omega
   rw [if_pos h1,if_pos (by omega),e];rfl
  ·rw [if_neg e,hr];by_cases h2:i<(a:Int)
   ·rw [if_pos h2,if_pos (by omega)]
   ·rw [if_neg h2,if_neg (by omega)]
 ·show lk (kN _ _ _ 8) i=lk (gW _ _ _) i;rw [Nz,rY,I.way i];by_cases h1:l7 (a:Int)<=i/\i<l7 (a:Int)+((8:Nat):Int)
  ·rw [if_pos h1];by_cases e:i=(a:Int)
   ·rw [if_pos e]
   ·rw [if_neg e];cases lk N.loose i <;> rfl
  ·rw [if_neg h1,if_neg (by intro e;apply h1;omega)]
 ·have hi':lk (gW N.loose (a:Int) (fw (a:Int))) i≠none:=hi;rw [rY] at hi';by_cases e:i=(a:Int)
  ·omega
  ·rw [if_neg e] at hi';exact I.bH i hi'
theorem sW.skip {B:Int->UInt64}{a:Nat}{N:aU}(I:sW B a N)(h:N.read a=fw a):sW B (a+1) N:=by
 refine ⟨I.u,I.len,λi=>?_,I.way,I.bH⟩;by_cases e:i=(a:Int)
 ·rw [if_pos (by omega),e];exact h
 ·rw [I.read i];by_cases h2:i<(a:Int)
  ·rw [if_pos h2,if_pos (by omega)]
  ·rw [if_neg h2,if_neg (by omega)]
theorem XG {l:List (Int×UInt64)}(h:∀ x,lk l x=none):l=[]:=by
 cases l with
 | nil=>rfl
 | cons p l=>
  have:=h p.1;simp [lk] at this
theorem W9 {h:Heap}{L:ML}{M:aU}(A:fK h L M)(O:l6 h L M)(hu:M.fV = -1)(hs:M.sure.length=2824)(hl0:M.loose=[])(hw0:M.way=[]):aC Tryz.prog 38 [.pointer (some ⟨L.m,0,none⟩)] h (λv h'=>Keeps L.blocks h h'/\v=.int .i64 0 /\
 ∃ N:aU,fK h' L N/\N.fV = -1/\N.sure.length=2824/\(∀ i,N.read i=fw i)/\N.loose=[]):=by
 have bl:=A.blt;refine aH aI Tryz.func38 rfl ok38 (by simp [Tryz.f38]) ?_;(conv=>whnf);refine ak.i (Xo h) λv h1 k1 hv=>?_;obtain ⟨b1,rfl,hb1,o1⟩:=hv;(conv=>whnf);refine ak.i (JW (A.on k1)) λv h2 k2 hv=>?_;subst hv;rw [hs];(conv=>whnf);refine aj.f rfl ?_;have I0:sW M.read 0 M:=⟨hu,hs,λi=>by
  by_cases h:i<((0:Nat):Int)
  ·rw [if_pos h];have h1:fw i=0:=by
    unfold fw;rw [if_neg (by omega)]
   have h2:M.there i=false:=by
    unfold aU.there;rw [decide_eq_false (by omega)];rfl
   unfold aU.read;rw [h1,h2];rfl
  ·rw [if_neg h],λi=>by rw [hl0,hw0],λi hi=>by rw [hl0] at hi;exact absurd rfl hi⟩
 have nb1:∀ b∈L.blocks,b≠b1:=λb hb=>by have:=bl b hb;omega
 have k12:=k1.trans k2;have XH:=Xn;(conv=>whnf);refine bO.on [0,13,14,15] [] (λq:Nat×aU=>[(0,.v (.pointer (some ⟨L.m,0,none⟩))),(13,.v (.slice (some ⟨b1,0,none⟩) 2824 2824)),(14,.v (.int .i64 2824)),(15,.v (.int .i64 (q.1:Int)))]) (λ_=>[])
  (λq h'=>q.1<=2824/\Keeps L.blocks h h'/\h'[b1]?=some (.cells ⟨pO.map wv⟩ 46 (0,0))/\fK h' L q.2/\l6 h' L q.2/\sW M.read q.1 q.2) (λq=>2824-q.1) (0,M) ?_ ?_
 ·(conv=>whnf);exact ⟨(0,M),rfl,rfl,rfl,Nat.zero_le _,k12.mono (by simp),k2.obj o1 (by simp),A.on k12,Own.keep O k12 (by simp),I0⟩
 ·rintro ⟨a,N⟩ h3 ⟨ha,k3,o3,A3,O3,I3⟩;simp only at ha A3 O3 I3;(conv=>whnf);refine aj.i (λhc=>?_) (λhc=>?_)
  ·have ha1:a<2824:=by
    have:(a:Int)<2824:=by simpa using hc
    omega
   have hla:(pO[a]'(by omega))=fw (a:Int):=by
    unfold fw;rw [if_pos (by omega),Int.toNat_natCast,List.getElem?_eq_getElem (by omega)];rfl
   have hth:N.there (a:Int)=true:=by unfold aU.there;rw [I3.len];simp;omega
   (conv=>whnf);(try refine aS.pass ?_;conv=>whnf);refine aR.i a rfl ha1 rfl ?_;(conv=>whnf);refine au.o (v:=wv (pO[a]'(by omega))) o3 ?_ ?_
   ·rw [nG];show (pO.map wv)[0+a*1]?=_;rw [show 0+a*1=a by omega];simp [XH,ha1]
   rw [hla];(conv=>whnf);refine ak.i (Av A3 (a:Int)) λv h4 k4 hv=>?_;subst hv;have A4:=A3.on k4;have O4:l6 h4 L N:=Own.keep O3 k4 (by simp);have o4:=k4.obj o3 (by simp);(conv=>whnf);refine aj.i (λhd=>?_) (λhd=>?_)
   ·have he:N.read (a:Int)=fw (a:Int):=by
     have:(((N.read (a:Int)).toNat:Nat):Int)=(((fw (a:Int)).toNat:Nat):Int):=by simpa using hd
     exact UInt64.toNat_inj.1 (by omega)
    (conv=>whnf);refine ⟨2824-(a+1),by omega,?_⟩;(conv=>whnf);exact ⟨(a+1,N),rfl,by rw [wrapN (x:=(a:Int)+1) (n:=a+1) (by simp) (by omega)],rfl,by simp only;omega,k3.bW k4,o4,A4,O4,I3.skip he⟩
   ·have hst:N.store (a:Int) (fw (a:Int))=(0,{ N with calls:=IntKind.i64.wrap (N.calls+1),loose:=gW N.loose (a:Int) (fw (a:Int)) }):=by
     unfold aU.store;rw [Gs I3.u,hth];rfl
    (conv=>whnf);refine ak.m (J7 A4 (a:Int) (fw (a:Int))) (by simp [ax]) λv h5 k5 hv=>?_;rw [hst] at hv;obtain ⟨rfl,A5⟩:=hv;(conv=>whnf);(try refine aS.pass ?_;conv=>whnf);refine aj.t rfl ?_;have I5:=I3.step ha1;generalize hN5:({ N with calls:=IntKind.i64.wrap (N.calls+1),loose:=gW N.loose (a:Int) (fw (a:Int)) }:aU)=N5 at A5;have hth5:N5.there (a:Int)=true:=by subst hN5;exact hth
    have hu5:N5.fV = -1:=by subst hN5;exact I3.u
    have O5:l6 h5 L N5:=by
     have:l6 h5 L N:=Own.keep O4 k5 (λb hb=>by have:=A4.ap2 b hb;simp;exact ⟨this.1,this.2.1⟩);subst hN5;exact this
    have o5:=k5.obj o4 (by
     have q1:=nb1 L.m (by simp [ML.blocks]);have q2:=nb1 L.lb (by simp [ML.blocks]);simp;exact ⟨λe=>q1 e.symm,λe=>q2 e.symm⟩)
    (conv=>whnf);refine ak.m (XD A5 (a:Int) (by omega) (by rw [Gs hu5,hth5];rfl)) (by simp [ax]) λv h6 k6 hv=>?_;obtain ⟨rfl,A6⟩:=hv;rw [Gs hu5] at A6;(conv=>whnf);refine aj.f rfl ?_;(conv=>whnf);refine ⟨2824-(a+1),by omega,?_⟩;(conv=>whnf);have hN6:({ ({ N5 with calls:=IntKind.i64.wrap (N5.calls+1) }:aU) with way:=kN ({ N5 with calls:=IntKind.i64.wrap (N5.calls+1) }:aU).loose ({ N5 with calls:=IntKind.i64.wrap (N5.calls+1) }:aU).way (l7 (a:Int)) 8 }:aU)={ N with calls:=IntKind.i64.wrap (IntKind.i64.wrap (N.calls+1)+1),loose:=gW N.loose (a:Int) (fw (a:Int)),way:=kN (gW N.loose (a:Int) (fw (a:Int))) N.way (l7 (a:Int)) 8 }:=by subst hN5;rfl
    have XI:fK h6 L { N with calls:=IntKind.i64.wrap (IntKind.i64.wrap (N.calls+1)+1),loose:=gW N.loose (a:Int) (fw (a:Int)),way:=kN (gW N.loose (a:Int) (fw (a:Int))) N.way (l7 (a:Int)) 8 }:=by rw [<-hN6];exact A6
    refine ⟨(a+1,_),rfl,by rw [wrapN (x:=(a:Int)+1) (n:=a+1) (by simp) (by omega)],rfl,by simp only;omega,?_,?_,XI,?_,I5 0 _⟩
    ·exact ((k3.bW k4).trans (k5.mono (by simp [ML.blocks]))).trans (k6.mono (by simp [ML.blocks]))
    ·refine k6.obj o5 ?_;have q1:=nb1 L.m (by simp [ML.blocks]);have q2:=nb1 L.wb (by simp [ML.blocks]);simp;exact ⟨λe=>q1 e.symm,λe=>q2 e.symm⟩
    ·have:l6 h6 L N5:=Own.keep O5 k6 (λb hb=>by have:=A5.ap2 b hb;simp;exact ⟨this.1,this.2.2⟩);subst hN5;exact this
  ·have ha1:a=2824:=by
    have:¬ ((a:Int)<2824):=by simpa using hc
    omega
   subst ha1;have XJ:=Gq A3.way;(conv=>whnf);refine ak.m (Xw A3 O3 I3.u (by rw [I3.len];decide) (λp hp=>?_)) (by simp [ax]) λv h4 k4 hv=>?_
   ·have h1:=wu XJ hp;rw [I3.way] at h1;have h2:=I3.bH p.1 (by rw [h1];simp);refine ⟨h1,?_⟩;unfold aU.there;rw [I3.len];simp;omega
   obtain ⟨rfl,N',A4,_,u4,l4,_,r4,y4⟩:=hv;(conv=>whnf);refine ⟨k3.trans k4,rfl,N',A4,u4,by rw [l4,I3.len],λi=>?_,XG λx=>?_⟩
   rotate_left
   ·apply Classical.byContradiction;intro hx;obtain ⟨q1,q2⟩:=y4 x hx;rw [I3.way] at q2;exact q1 q2
   rw [r4,I3.read];by_cases h:i<((2824:Nat):Int)
   ·rw [if_pos h]
   ·rw [if_neg h];have h1:fw i=0:=by
     unfold fw;rw [if_neg (by omega)]
    have h2:M.there i=false:=by
     unfold aU.there;rw [hs,decide_eq_false (show ¬ (i<((2824:Nat):Int)) from h)];simp
    unfold aU.read;rw [h1,h2];rfl
theorem Gx (h:Heap):aC Tryz.prog 11 [] h (λv h'=>Keeps [] h h'/\∃ (w t bT:Nat) (V:VL) (N:aU),v=.pointer (some ⟨w,0,none⟩) /\
 h'[w]?=some (.cells ⟨[.pointer (some ⟨V.mem.m,0,none⟩),.pointer (some ⟨V.v,0,none⟩),.pointer (some ⟨t,0,none⟩)]⟩ 31 (0,0))/\h'[t]?=some (.cells ⟨[.slice (some ⟨bT,0,none⟩) 2 2]⟩ 80 (0,0))/\h'[bT]?=some (.cells ⟨fQ L0⟩ 77 (0,0)) /\
 At h' V N ⟨fw,[],[],[],[]⟩/\N.read=fw/\N.fV = -1/\N.sure.length=2824/\N.loose=[]/\V.ab=none/\V.jV=none/\(∀ b∈V.blocks,h.size<=b/\b<bT/\b<t/\b<w)):=by
 refine aH aI Tryz.func11 rfl ok11 (by simp [Tryz.f11]) ?_;(conv=>whnf);refine ak.i (WZ 2824 (by decide) (by decide) h) λv h1 k1 hv=>?_;obtain ⟨ML1,rfl,A1,O1,n1⟩:=hv;have z1:=k1.size;(conv=>whnf);refine ak.m (W9 A1 O1 rfl rfl rfl rfl) (by simp [ax]) λv h2 k2 hv=>?_;obtain ⟨rfl,N,A2,hu,hs,hr,hlo⟩:=hv;have z2:=k2.size;(conv=>whnf);refine aj.f rfl ?_;(conv=>whnf);refine ak.i (Rw A2) λv h3 k3 hv=>?_;rw [if_pos hs] at hv;obtain ⟨V,rfl,Nu,hab,jE,Xa,A3⟩:=hv;have z3:=k3.size;have hr2:N.read=fw:=funext hr;rw [hr2] at A3;(conv=>whnf);refine ak.i (Xc h3) λv h4 k4 hv=>?_;obtain ⟨bT,t,rfl,Gj,ht,Xd,Xe⟩:=hv;have z4:=k4.size;(conv=>whnf);refine aP.i λw h5 e5 s5 o5 k5=>?_;have k35:Keeps [] h3 h5:=k4.trans k5;have A5:=A3.on k35;have Xf:∀ b∈V.blocks,b<h3.size:=A3.blt;have Xg:∀ b∈V.blocks,h.size<=b:=by
  intro b hb;have hb2:b∈[V.v,V.ob,V.sb,V.mb]\/b∈ML1.blocks:=by
   unfold VL.blocks at hb;rw [Nu,hab,jE] at hb;simp only [List.mem_cons,List.mem_append,Option.toList,List.not_mem_nil,or_false] at hb ⊢;rcases hb with h|h|h|h|h <;> simp [h]
  rcases hb2 with h|h
  ·have:=Xa b h;omega
  ·exact n1 b h
 have k05:Keeps [] h h5:=(k1.dK k2 (λb hb=>n1 b hb)).trans (k3.trans k35);(conv=>whnf);refine au.o o5 rfl ?_;(conv=>whnf);refine aj.f rfl ?_;(conv=>whnf);refine ⟨k05,w,t,bT,V,N,rfl,?_,k5.obj Xd (by simp),k5.obj Xe (by simp),A5,hr2,hu,hs,hlo,hab,jE,λb hb=>⟨Xg b hb,?_⟩⟩
 ·rw [Nu];exact o5
 ·have:=Xf b hb;omega
theorem NV (h:Heap):aC Tryz.prog 10 [] h (λv h'=>Keeps [] h h'/\v=.bool true):=by
 refine aH aI Tryz.func10 rfl ok10 (by simp [Tryz.f10]) ?_;(conv=>whnf);refine ak.i (Gx h) λv h1 k1 hv=>?_;obtain ⟨w,t,bT,V,N,rfl,o1,_,_,A1,hr,hu,hs,hlo,hab,jE,hV⟩:=hv;have Yq:=hV V.ob (by simp [VL.blocks]);have Yr:=hV V.sb (by simp [VL.blocks]);have Yt:=hV V.mb (by simp [VL.blocks]);have hf0:bB N.read ⟨fw,[],[],[],[]⟩ 96=96:=by rw [hr];exact Xh _ _ _ _ rfl
 (conv=>whnf);refine au.o o1 rfl ?_;(conv=>whnf);refine aj.t rfl ?_;(conv=>whnf);refine ak.m (FX A1 fs0 (sim0.fc rfl fc0) rfl [47,102] (by decide) (kind:=1) (.inl rfl)) (by simp [ax]) λv h2 k2 hv=>?_;obtain ⟨X2,A2,R2⟩:=hv;obtain ⟨rfl,a2,n2,f2,S1,I2,Z2,l2,c2⟩:=Nv (n1:=2) sim0 pl0 (by omega) (by decide) (by decide) (by decide +kernel) R2;have o2:=k2.obj o1 (by simp;omega);have Z2:lZ S1 K1 N1 B1:=Z2;(conv=>whnf);refine au.o o2 rfl ?_;(conv=>whnf);refine aj.t rfl ?_;(conv=>whnf);refine ak.m (Ml A2 I2 (Z2.fc rfl fc1) n2 [47,108] [47,102] (by decide) (by decide)) (by simp [ax]) λv h3 k3 hv=>?_;obtain ⟨X3,A3,R3⟩:=hv;have R3:lC N.read X2 S1 [47,108] 3 [47,102] v X3:=by
  rcases R3 with ⟨hpn,_⟩|⟨_,R3⟩
  ·exact absurd hpn (by decide +kernel)
  ·exact R3
 obtain ⟨rfl,a3,n3,f3,S2,I3,Z3,l3,c3⟩:=Nv (n1:=3) Z2 pl1 (by omega) (by decide +kernel) (by decide +kernel) (by decide +kernel) R3;have o3:=k3.obj o2 (by simp;omega);have Z3:lZ S2 K2 N2 B2:=Z3;(conv=>whnf);refine au.o o3 rfl ?_;(conv=>whnf);refine aj.t rfl ?_;(conv=>whnf);refine ak.m (Mr A3 I3 (Z3.fc rfl fc2) [47,108] (by decide) 0 [104,105]) (by simp [ax]) λv h4 k4 hv=>?_;obtain ⟨X4,A4,R4⟩:=hv;obtain ⟨rfl,a4,n4,S3,I4,Z4,l4,c4⟩:=Xj Z3 (by omega) R4;have o4:=k4.obj o3 (by simp;omega);(conv=>whnf);refine au.o o4 rfl ?_;(conv=>whnf);refine aj.t rfl ?_;(conv=>whnf);refine ak.m (Mq A4 I4 (Z4.fc rfl fc2) (Z4.ns ns2) [47,108] (by decide)) (by simp [ax]) λv h5 k5 hv=>?_;obtain ⟨X5,A5,R5⟩:=hv;obtain ⟨rfl,a5,n5,S4,I5,Z5,c5⟩:=Xk Z4 (by rw [c4];exact l3) R5;have o5:=k5.obj o4 (by simp;omega);(conv=>whnf);refine aj.f rfl ?_;have hp5:cK S4 [47,102]=(2,0):=by unfold cK;rw [Z5.view];exact pa4
 have hk5:(S4.C 2).kind=1:=by rw [Z5.k];decide +kernel
 have he5:fZ S4 [47,102]=0:=by
  unfold fZ;rw [hp5,if_neg (by rintro ⟨_,h⟩;rw [hk5] at h;cases h)]
 have hb5:S4.aM 2=[104,105]:=by rw [Z5.b];decide +kernel
 have hr5:ja [104,105] 0 9=([104,105],0):=by decide +kernel
 have hq5:aV (aX S4) [47,102] false=(2,0):=by rw [Z5.view];exact pb4
 have hl5:(S4.C 2).links=1:=by rw [c5,l4,c3 2 (by decide) (by decide)];exact l2
 have hs5:(S4.C 2).size=2:=by
  obtain ⟨m,F⟩:=(I5.node 2 (by decide) (by decide)).file (.inl hk5);rw [F.size,hb5];rfl
 (conv=>whnf);refine au.o o5 rfl ?_;(conv=>whnf);refine ak.m (Cs A5 I5 (Z5.fc rfl fc4) [47,102] (by decide) 0 9) (by simp [ax]) λv h6 k6 hv=>?_;obtain ⟨⟨s6,A6⟩,hv⟩:=hv;rw [he5,if_pos rfl,hp5] at hv;simp only [hb5] at hv;rw [hr5] at hv;subst hv;have o6:=k6.obj o5 (by simp;omega);(conv=>whnf);refine au.o o6 rfl ?_;(conv=>whnf);refine ak.m (Ms A6 I5 (Z5.fc rfl fc4) [47,102] (by decide)) (by simp [ax]) λv h7 k7 hv=>?_;obtain ⟨⟨s7,A7⟩,hv⟩:=hv;rw [hq5,if_pos rfl] at hv;simp only [hl5,hs5] at hv;subst hv;(conv=>whnf);refine aP.i λb8 h8 e8 s8 o8 k8=>?_;(conv=>whnf);refine aN.i λh9 s9 k9=>?_;(conv=>whnf);have z1:=k1.size;have z2:=k2.size;have z3:=k3.size;have z4:=k4.size;have z5:=k5.size;have z6:=k6.size;have z7:=k7.size;have sub:∀ {a b:Heap},Keeps [V.ob,V.sb,V.mb] a b->∀ x∈[V.ob,V.sb,V.mb],h.size<=x:=λ_ x hx=>by
  simp at hx;omega
 have k05:Keeps [] h h5:=(((k1.dK k2 (sub k2)).dK k3 (sub k3)).dK k4 (sub k4)).dK k5 (sub k5);have k07:Keeps [] h h7:=(k05.dK k6 (λx hx=>by simp at hx;omega)).dK k7 (λx hx=>by simp at hx;omega);refine ⟨k07.trans (k8.new1 k9 (by omega)),?_⟩;have hs:((ba [104,105]).toList==(ByteArray.mk #[104,105]).toList)=true:=by
  have h1:((ba [104,105]).toList==(ba [104,105]).toList)=true:=beq_self_eq_true _;exact h1
 rw [hs];rfl
instance:Rp bY where
 n:=6
 iH _ vs x:=vs=x.cells/\x.ok
 len h:=by rw [h.1];rfl
 keep _ h:=h
instance:Flat bY:=⟨λh=>h⟩
section
variable {H:Type} {enc:TypeId×Value->H} {W:World} {sp:Nat->Bool} {held:Bool}
theorem WW:Opens enc Tryz.prog W sp held 43 bY:=by
 intro fuel cs x h hw;obtain ⟨hl,f',hp⟩:=SG Tryz.underlying43 h hw;obtain ⟨a,b,c,d,e,f,rfl⟩:∃ a b c d e f,cs=[a,b,c,d,e,f]:=by
  match cs,hl with
  | [a,b,c,d,e,f],_=>exact ⟨a,b,c,d,e,f,rfl⟩
 obtain ⟨y0,h0,w0⟩:=hp _ (List.mem_cons_self);obtain ⟨y1,h1,w1⟩:=hp _ (List.mem_cons_of_mem _ List.mem_cons_self);obtain ⟨y2,h2,w2⟩:=hp _ (List.mem_cons_of_mem _ (List.mem_cons_of_mem _ List.mem_cons_self));obtain ⟨y3,h3,w3⟩:=hp _ (List.mem_cons_of_mem _ (List.mem_cons_of_mem _ (List.mem_cons_of_mem _ List.mem_cons_self)));obtain ⟨y4,h4,w4⟩:=hp _ (List.mem_cons_of_mem _ (List.mem_cons_of_mem _ (List.mem_cons_of_mem _ (List.mem_cons_of_mem _ List.mem_cons_self))));obtain ⟨y5,h5,w5⟩:=hp _ (List.mem_cons_of_mem _ (List.mem_cons_of_mem _ (List.mem_cons_of_mem _ (List.mem_cons_of_mem _ (List.mem_cons_of_mem _ List.mem_cons_self)))));obtain ⟨n,e0,g0⟩:=Fg (W:=W) Tryz.underlying3 f' _ _ h0 w0;obtain ⟨s,e1,g1⟩:=Ff (W:=W) Tryz.underlying9 f' _ _ h1 w1;obtain ⟨t,e2,g2⟩:=Ff (W:=W) Tryz.underlying9 f' _ _ h2 w2;obtain ⟨u,e3,g3⟩:=Ff (W:=W) Tryz.underlying9 f' _ _ h3 w3;obtain ⟨m,e4,g4⟩:=Fg (W:=W) Tryz.underlying3 f' _ _ h4 w4;obtain ⟨k,e5,g5⟩:=Fg (W:=W) Tryz.underlying3 f' _ _ h5 w5;cases e0;cases e1;cases e2;cases e3;cases e4;cases e5;obtain ⟨l1,rfl⟩:∃ l:List UInt8,s=⟨l.toArray⟩:=⟨s.data.toList,rfl⟩;obtain ⟨l2,rfl⟩:∃ l:List UInt8,t=⟨l.toArray⟩:=⟨t.data.toList,rfl⟩;obtain ⟨l3,rfl⟩:∃ l:List UInt8,u=⟨l.toArray⟩:=⟨u.data.toList,rfl⟩;exact ⟨⟨n,l1,l2,l3,m,k⟩,rfl,g0,by have:=g1;unfold nM at this;rwa [dH] at this,by have:=g2;unfold nM at this;rwa [dH] at this,by have:=g3;unfold nM at this;rwa [dH] at this,g4,g5⟩
end
theorem tn0 (i:Int)(hi:inT (ay L0) i):i=1:=by
 have h1:=hi.1;have h2:i<2:=hi.2;omega
theorem rel0:bP S0 (ay L0) [0,1]:=by
 have l1:∀ i,live (ay L0) i->i=1:=λi hi=>tn0 i hi.1;refine ⟨rfl,by decide,⟨rfl,rfl⟩,λi hi=>?_,λi j hi hj _=>by rw [l1 i hi,l1 j hj],λi hi=>?_,λi hi=>?_,λi hi _=>?_,λi hi h=>?_,λi hi h=>?_,rfl,λn n0 n24 hk=>?_,λi hi h=>absurd (l1 i hi) h,rfl,⟨λ_=>0,λi hi _ e he=>?_⟩⟩
 ·rw [l1 i hi];decide
 ·rw [l1 i hi];exact ⟨rfl,by decide,by decide⟩
 ·rw [l1 i hi];rfl
 ·rw [l1 i hi];exact ⟨rfl,λe he=>(by cases he),List.Pairwise.nil,rfl⟩
 ·rw [l1 i hi] at h;exact absurd rfl h
 ·rw [tn0 i hi];rfl
 ·refine ⟨1,⟨⟨by decide,by decide⟩,by decide⟩,?_⟩;show (1:Int)=n;have hk':(if n=1 then cB 2 1 else fU 0).kind≠0:=hk;by_cases h1:n=1
  ·exact h1.symm
  ·rw [if_neg h1] at hk';exact absurd rfl hk'
 ·rw [l1 i hi] at he;cases he
theorem sml0:iE (ay L0) 0:=⟨by decide,λx hx=>by
 have:x=⟨0,0,0,[],[]⟩\/x=⟨1,2,1,[],[]⟩:=by simpa [ay,L0] using hx
 rcases this with rfl|rfl
 ·exact ⟨Nat.zero_le _,λh=>by cases h⟩
 ·exact ⟨Nat.zero_le _,λh=>by cases h⟩⟩
theorem NY {h:Heap}{a:Option Addr}{n c:Nat}{xs:List bY}(S:Sl h a n c xs):aC Tryz.prog 13 [.slice a n c] h (λv h'=>Keeps [] h h'/\∃ c',v=.slice a (min n 60) c'/\Sl h' a (min n 60) c' (xs.take 60)):=by
 have hl:=S.hlen;have hc:=S.hcap;refine aH aI Tryz.func13 rfl ok13 (by simp [Tryz.f13]) ?_;(conv=>whnf);refine dn.i 0 (min n 60) rfl (by split <;> omega) (Nat.zero_le _) (by omega) ?_;(conv=>whnf);have P:=S.part (l:=0) (r:=min n 60) (Nat.zero_le _) (by omega);rw [List.drop_zero] at P;have e:xs.take (min n 60)=xs.take 60:=by
  rw [hl,<-List.take_take];exact List.take_of_length_le (by rw [List.length_take];omega)
 rw [e,kW] at P;refine ⟨Keeps.refl _ _,_,?_,P⟩;rw [kW];rfl
theorem NW {h0 h:Heap}(hb:h0.size<=h.size){w t bT:Nat}{V:VL}{N:aU}
 (hw:h[w]?=some (.cells ⟨[.pointer (some ⟨V.mem.m,0,none⟩),.pointer (some ⟨V.v,0,none⟩),.pointer (some ⟨t,0,none⟩)]⟩ 31 (0,0))) (ht:h[t]?=some (.cells ⟨[.slice (some ⟨bT,0,none⟩) 2 2]⟩ 80 (0,0))) (hT:h[bT]?=some (.cells ⟨fQ L0⟩ 77 (0,0)))
 (A:At h V N ⟨fw,[],[],[],[]⟩) (hu:N.fV = -1) (hs:N.sure.length=2824) (hab:V.ab=none) (jE:V.jV=none) (hV:∀ b∈V.blocks,h0.size<=b/\b<bT/\b<t/\b<w) (hw0:h0.size<=w) :
 kP h h0.size w V N ⟨fw,[],[],[],[]⟩ S0 (min bT t) t (some ⟨bT,0,none⟩) 2 L0 [0,1] 0:=by
 refine ⟨hw,A,fs0,rel0,sml0,⟨ht,.inr ⟨bT,_,rfl,hT,rfl,rfl,rfl,Nat.le_refl _⟩,λx hx=>?_,by omega,λb hb=>?_⟩,⟨hab,jE⟩,⟨hu,hs⟩,⟨hw0,λb hb=>(hV b hb).1⟩,λhx=>by have:=(hV w hx).2.2.2;omega⟩
 ·have:x=⟨⟨0,0,0,[],[]⟩,none,0,0⟩\/x=⟨⟨1,2,1,[],[]⟩,none,0,0⟩:=by simpa [L0] using hx
  rcases this with rfl|rfl
  ·exact ⟨rfl,.inl ⟨rfl,rfl,rfl,rfl⟩,λb hb=>(by cases hb),λe he=>(by cases he),Nat.zero_le _⟩
  ·exact ⟨rfl,.inl ⟨rfl,rfl,rfl,rfl⟩,λb hb=>(by cases hb),λe he=>(by cases he),Nat.zero_le _⟩
 ·have:b=bT:=by simpa [aA] using hb
  omega
theorem _root_.Go.aK.Sl.NZ {h:Heap}{a:Option Addr}{n c:Nat}{xs:List bY}(S:Sl h a n c xs)(hn:0<n):∀ b∈aA a,b<h.size:=by
 have hl:=S.hlen;obtain ⟨b,o,hb,cs,⟨rfl,_⟩,hc⟩:=S.at_ 0 (by omega);intro x hx;rw [hb] at hx;simp [aA] at hx;subst hx;exact xQ (hc 0 (by simp [bY.cells]))
theorem kP.on {h h':Heap}{b0 w:Nat}{V:VL}{M:aU}{X:VS}{S:FS}{z t:Nat}{aT:Option Addr}{cT:Nat}{L:List bU}{num:List Int}{N:Nat}(P:kP h b0 w V M X S z t aT cT L num N)(k:Keeps [] h h'):kP h' b0 w V M X S z t aT cT L num N:=
 ⟨k.obj P.obj (by simp),P.at_.on k,P.fs,P.rel,P.gZ,P.tree.keep k (by simp),P.ab,P.calm,P.new,P.apart⟩
theorem Cg {H:Type}:∀ {l:List (DataW H)} {d:DataW H},d∈l->Rows.uptoBulk d<=Rows.uptoBulkAll l
 | x::r,d,h=>by
  simp only [Rows.uptoBulkAll];rcases List.mem_cons.1 h with rfl|h
  ·omega
  ·have:=Cg h;omega
section
variable {H:Type} {enc:TypeId×Value->H} {W:World} {sp:Nat->Bool} {held:Bool}
theorem ND:Opens enc Tryz.prog W sp held 22 (List bY):=SF Tryz.underlying22 (by kernel_rfl) (by decide) (of_decide_eq_true (by kernel_rfl)) WW
theorem Nt {fuel:Nat}{s:ByteArray}{x:DataW H×List MemPlace}(h:DataW.trod enc Tryz.prog W 0 sp held fuel 9 [.string s]=some x):s.data.toList.length<=Rows.uptoBulk x.1:=by
 obtain ⟨s',h1,h2,_⟩:=DataW.trod_string Tryz.underlying9 h;have:s=s':=by simpa using h1
 subst this;rw [h2];simp only [Rows.uptoBulk];omega
theorem WX {fuel:Nat}{c:bY}{x:DataW H×List MemPlace}(h:DataW.trod enc Tryz.prog W 0 sp held fuel 43 c.cells=some x):c.path.length<=Rows.uptoBulk x.1/\c.path2.length<=Rows.uptoBulk x.1:=by
 obtain ⟨xs,n,rfl,rfl,_,hl,hf⟩:=DataW.trod_struct Tryz.underlying43 h;have hl:xs.length=6:=hl;have h1:=hf 1 _ rfl;have h2:=hf 2 _ rfl;have g1:xs[1]?=some (xs[1]'(by omega)):=List.getElem?_eq_getElem _;have g2:xs[2]?=some (xs[2]'(by omega)):=List.getElem?_eq_getElem _;rw [g1] at h1;rw [g2] at h2;have b1:=Nt (s:=ba c.path) h1;have b2:=Nt (s:=ba c.path2) h2;have m1:=Cg (List.mem_map_of_mem (f:=(·.1)) (List.getElem_mem (show 1<xs.length by omega)));have m2:=Cg (List.mem_map_of_mem (f:=(·.1)) (List.getElem_mem (show 2<xs.length by omega)));have e1:(ba c.path).data.toList.length=c.path.length:=by unfold ba;simp
 have e2:(ba c.path2).data.toList.length=c.path2.length:=by unfold ba;simp
 simp only [Rows.uptoBulk];omega
theorem NG {a:Option Addr}{n c:Nat}{d:DataW H}{p:List MemPlace}(h:DataW.Trod enc Tryz.prog W 0 sp held 22 (.slice a n c) d p){L:List bY}(S:Sl W.heap a n c L)(hb:Rows.uptoBulk d<=1048576):∀ x∈L,x.path.length<=1048576/\x.path2.length<=1048576:=by
 obtain ⟨fuel,hf⟩:=h;have hcs:(Value.slice a n c).cells.toList=[.slice a n c]:=by simp [Value.cells]
 rw [hcs] at hf;have hl:=S.hlen;rcases DataW.trod_slice Tryz.underlying22 hf with ⟨h1,_⟩|⟨ad,len,cap,elems,rest,m,_,h1,h2,_,_,_,he,hel,_⟩
 ·have:n=0:=by simp at h1;exact h1.2.1
  intro x hx;have:L=[]:=List.eq_nil_of_length_eq_zero (by omega);subst this;cases hx
 ·have e1:a=some ad/\n=len/\c=cap:=by simpa using h1
  obtain ⟨rfl,rfl,rfl⟩:=e1;have hd:d=.slice (elems.map (·.1)) (rest.map (·.1)):=congrArg Prod.fst h2;rw [hd] at hb;simp only [Rows.uptoBulk] at hb;intro x hx;obtain ⟨i,hi,rfl⟩:=List.getElem_of_mem hx;have hi1:i<elems.length:=by omega
  have g:=hel i (by omega);rw [List.getElem?_eq_getElem hi1] at g;have hn6:Tryz.prog.cellsOf 43=6:=by kernel_rfl
  rw [hn6] at g;cases hcell:W.cells? 0 (ad.add (i*6)) 6 with
  | none=>rw [hcell] at g;cases g
  | some cs=>
   rw [hcell] at g;have g:DataW.trod enc Tryz.prog W 0 sp held m 43 cs=some (elems[i]'hi1):=g;obtain ⟨b,off,q1,q2,q3⟩:=Fe hcell (by decide);obtain ⟨b',off',hb',cs',⟨rfl,_⟩,hc'⟩:=S.at_ i hi;have hadd:ad=⟨b',off',none⟩:=Option.some.inj hb';rw [hadd,addr_add] at q1;have eb:b'=b/\off'+i*6=off:=by
    have:=q1;simp only [Addr.mk.injEq,and_true] at this;exact this
   obtain ⟨rfl,rfl⟩:=eb;have WY:cs=(L[i]'hi).cells:=by
    apply List.ext_getElem?;intro j;by_cases hj:j<6
    ·have a1:=q3 j (by omega);have a2:=hc' j (by simpa [bY.cells] using hj);rw [<-a1];exact a2
    ·rw [List.getElem?_eq_none (by omega),List.getElem?_eq_none (by simp [bY.cells];omega)]
   rw [WY] at g;have hcl:=WX g;have hm:=Cg (List.mem_map_of_mem (f:=(·.1)) (List.getElem_mem hi1));omega
end
theorem NT {X:VS}{S:FS}(I:bI X.now S)(ha:X.away=[])(h1:∀ n,0<=n->n<24->n≠1->(S.C n).kind=0)(hk:(S.C 1).kind=2):74<=bB X.now X 96/\bB X.now X 96<=96:=by
 refine ⟨?_,Nat.le_trans (List.length_filter_le _ _) (by simp)⟩;obtain ⟨m,D⟩:=(I.node 1 (by decide) (by decide)).dir hk;have hU:(gI (S.C 1).more m).length<=22:=by
  unfold gI;have:=List.length_filter_le eu ((S.C 1).more::m);have hm:=D.wk.len;simp only [List.length_cons] at this;omega
 have hn:=Gv (l:=List.range 96) (m:=(List.range 96).filter (λi:Nat=>gN X.now X (i:Int))++(gI (S.C 1).more m).map Int.toNat) List.nodup_range (λi hi=>by
  have hi96:=List.mem_range.1 hi;by_cases hf:gN X.now X (i:Int)=true
  ·exact List.mem_append_left _ (List.mem_filter.2 ⟨hi,hf⟩)
  ·refine List.mem_append_right _ (List.mem_map.2 ⟨(i:Int),?_,by simp⟩);have hnz:X.now (200+(i:Int))≠0:=λh=>hf (by
    unfold gN;rw [h,ha];simp;omega)
   rcases I.own (i:Int) (by omega) (by omega) with h|⟨n,n0,n24,hw⟩
   ·exact absurd h hnz
   ·by_cases hn1:n=1
    ·subst hn1;exact (D.wk.own (i:Int) (by omega) (by omega)).2 hw
    ·exact absurd hw (((I.node n n0 n24).free (h1 n n0 n24 hn1)).2 (i:Int) (by omega) (by omega)))
 rw [List.length_range,List.length_append,List.length_map] at hn;unfold bB;omega
theorem rm0:gQ (ay L0) 0:=⟨by decide,λx hx=>by
 have:x=⟨0,0,0,[],[]⟩\/x=⟨1,2,1,[],[]⟩:=by simpa [ay,L0] using hx
 rcases this with rfl|rfl
 ·exact λh=>absurd rfl h
 ·exact λ_=>⟨by decide,by decide⟩⟩
theorem NU {T T':List aF}{N:Nat}{c:bY}{r:dw}(W:ji T)(S:gQ T N)(h:(r.err≠0/\T'=T)\/(r.err=0/\eZ T c r T')):gQ T' (N+1):=by
 rcases h with ⟨_,rfl⟩|⟨h0,D⟩
 ·exact S.up
 ·exact D.rm W S h0
theorem l8.gZ {T T':List aF}{N:Nat}{path:List UInt8}{b:Bool}(S:iE T N)(D:l8 T path b 0 T'):iE T' N:=by
 rcases D with ⟨d1,d2⟩|⟨d,nm,nd,Q,⟨_,d2⟩|⟨_,_,_,d2⟩|⟨_,_,_,d2⟩|⟨_,_,_,_,d2⟩|⟨_,_,_,_,rfl⟩⟩
 ·exact absurd d2.symm d1
 ·cases d2
 ·cases d2
 ·cases d2
 ·cases d2
 ·have S1:=S.bD d (x:={ tn T d with names:=(tn T d).names.eraseIdx (aL (tn T d).names nm) }) ⟨Nat.le_trans (List.eraseIdx_sublist (tn T d).names _).length_le (S.tn d).1,(S.tn d).2⟩;refine S1.bD nd ?_;unfold l9;split
  ·exact ⟨Nat.zero_le _,λh=>by cases h⟩
  ·exact ⟨(S1.tn nd).1,(S1.tn nd).2⟩
theorem Gw {T T':List aF}{c:bY}{r:dw}(hc:c.kind=8\/c.kind=9)(h0:r.err=0)(D:eZ T c r T'):∃ b,l8 T c.path b 0 T':=by
 rcases hc with hc|hc
 ·obtain ⟨e,rfl,D2⟩:=(rc8 hc).1 D;have h0:e=0:=h0;subst h0;exact ⟨_,D2⟩
 ·obtain ⟨e,rfl,D2⟩:=(rc9 hc).1 D;have h0:e=0:=h0;subst h0;exact ⟨_,D2⟩
theorem NF {h:Heap}{a:Option Addr}{n c:Nat}{W:List bY}(SW:Sl h a n c W)(hp:∀ x∈W,x.path.length<=1048576/\x.path2.length<=1048576):aC Tryz.prog 9 [.slice a n c] h (λv h'=>Keeps [] h h'/\v=.bool true):=by
 refine aH aI Tryz.func9 rfl ok9 (by simp [Tryz.f9]) ?_;(conv=>whnf);refine ak.i (NV h) λv h1 k1 hv=>?_;subst hv;(conv=>whnf);refine aj.f rfl ?_;(conv=>whnf);refine ak.i (Gx h1) λv h2 k2 hv=>?_;obtain ⟨w,t,bT,V,N,rfl,hw,ht,hT,A,hr,hu,hs,hlo,hab,jE,hV⟩:=hv;have k02:=k1.trans k2;have z1:=k1.size;have z2:=k2.size;have hw1:h.size<=w:=by have:=hV V.v (by simp [VL.blocks]);omega
 have P0:=NW (h0:=h) (by omega) hw ht hT A hu hs hab jE (λb hb=>by have:=hV b hb;omega) hw1;(conv=>whnf);refine aj.f rfl ?_;(conv=>whnf);refine ak.i (NY ((SW).keep k02)) λv h3 k3 hv=>?_;obtain ⟨c3,rfl,S3⟩:=hv;have kh3:=k02.trans k3;have hm3:min n 60<=60:=Nat.min_le_right _ _;have hb3:0<min n 60->∀ b∈aA a,b<h.size:=λhp=>(SW).NZ (by omega);have hp3:∀ x∈W.take 60,x.path.length<=1048576/\x.path2.length<=1048576:=λx hx=>hp x (List.mem_of_mem_take hx);generalize min n 60=n3 at *;generalize W.take 60=W at *;have hl3:=S3.hlen;(conv=>whnf);refine bO.on [0,3,4] [] (λi:Nat=>[(0,.v (.slice a n3 c3)),(3,.v (.pointer (some ⟨w,0,none⟩))),(4,.v (.int .i64 (i:Int)))]) (λ_=>[])
  (λi h'=>i<=n3/\Keeps [] h h'/\Sl h' a n3 c3 W/\∃ V M X S z t aT cT L num,kP h' h.size w V M X S z t aT cT L num i/\X.now=M.read/\gQ (ay L) i) (λi=>n3-i) 0 ?_ ?_
 ·(conv=>whnf);exact ⟨0,rfl,rfl,rfl,Nat.zero_le _,kh3,S3,V,N,⟨fw,[],[],[],[]⟩,S0,min bT t,t,some ⟨bT,0,none⟩,2,L0,[0,1],P0.on k3,hr.symm,rm0⟩
 ·rintro i h4 ⟨hi,k4,S4,V4,M4,X4,FS4,z4,t4,aT4,cT4,L4,num4,P4,hn4,rm4⟩;have hz4:=k4.size;(conv=>whnf);refine aj.i (λhd=>?_) (λhd=>?_)
  ·have hi1:i<W.length:=by simp at hd;omega
   obtain ⟨b5,o5,hb5,_,⟨rfl,hok⟩,hc5⟩:=S4.at_ i hi1;have hem:=List.getElem_mem hi1;have hps:=hp3 _ hem;have hnew:∀ x∈[w,V4.ob,V4.sb,V4.mb,V4.v,V4.mem.m,V4.mem.lb],h.size<=x:=λx hx=>by
    rcases List.mem_cons.1 hx with rfl|hx
    ·exact P4.new.1
    ·refine P4.new.2 x ?_;simp only [List.mem_cons,List.not_mem_nil,or_false] at hx;rcases hx with rfl|rfl|rfl|rfl|rfl|rfl <;> simp [VL.blocks,ML.blocks]
   (conv=>whnf);refine aR.i i rfl (by omega) hb5 ?_;(conv=>whnf);refine fq.i (vs:=(W[i]'hi1).cells) rfl (λj hj=>hc5 j hj) ?_;(conv=>whnf);refine ak.m (Ci P4 hz4 hn4 (by omega) (W[i]'hi1) hok hps.1 hps.2) (by simp [ax]) λv h6 k6 hv=>?_;obtain ⟨rfl,V6,M6,X6,FS6,z6,t6,aT6,cT6,L6,num6,P6,hn6,r6,X16,RV6,hT⟩:=hv;have k06:Keeps [] h h6:=k4.dK k6 hnew;(conv=>whnf);refine aj.f rfl ?_;(conv=>whnf);refine ⟨n3-(i+1),by omega,?_⟩;(conv=>whnf);refine ⟨i+1,rfl,by rw [wrapN (n:=i+1) (by simp) (by omega)],rfl,by omega,k06,S4.jF k6 (λb hb hx=>by have:=hb3 (by omega) b hb;have:=hnew b hx;omega),V6,M6,X6,FS6,z6,t6,aT6,cT6,L6,num6,P6,hn6,NU P4.rel.tree rm4 hT⟩
  ·have hN4:i=n3:=by simp at hd;omega
   have hN60:i<=60:=by omega
   have htot:=rm4.few;(conv=>whnf);refine aS.pass ?_;(conv=>whnf);refine bO.on [3,5] [] (λr:Nat=>[(3,.v (.pointer (some ⟨w,0,none⟩))),(5,.v (.int .i64 (r:Int)))]) (λ_=>[])
    (λr h'=>Keeps [] h h'/\∃ V M X S z t aT cT L num N,kP h' h.size w V M X S z t aT cT L num N/\X.now=M.read/\N<=60/\gQ (ay L) N/\tot (ay L)+r<=60) (λr=>200-r) 0 ?_ ?_
   ·(conv=>whnf);exact ⟨0,rfl,rfl,rfl,k4,V4,M4,X4,FS4,z4,t4,aT4,cT4,L4,num4,i,P4,hn4,hN60,rm4,by omega⟩
   ·rintro r h5 ⟨k5,V5,M5,X5,FS5,z5,t5,aT5,cT5,L5,num5,N5,P5,hn5,hN5,rm5,ht5⟩;have hz5:=k5.size;have W5:=P5.rel;have I5:=P5.fs;have hlen5:=P5.gZ.len;rw [jG] at hlen5;obtain ⟨rk0,hr0⟩:=W5.rank;obtain ⟨rk,hrl,hr⟩:=Oa (T:=ay L5) (rk:=rk0) (λi hi hk e he=>⟨(W5.dir i hi hk).2.1 e he,hr0 i hi hk e he⟩);rw [jG] at hrl;have tok:=W5.Cj I5 P5.gZ (by omega);(conv=>whnf);refine aj.t (by simp;omega) ?_;(conv=>whnf);refine au.o P5.obj rfl ?_;(conv=>whnf);refine ak.i (Ob P5.tree hrl (λi h=>(W5.named h).2) hr (W5.Oc I5) W5.live1 (by omega)) λv h6 k6 hv=>?_;obtain ⟨l,x,rfl,C,hx,hxn,ha,hl69⟩:=hv;have P6:=P5.on k6;have k06:=k5.trans k6;by_cases hl0:l=[]
    ·subst hl0;have hx1:1=x:=C;subst hx1;have hroot:=Od W5 rm5.lk hxn;have hfree:=NT (X:=X5) (S:=FS5) I5 (by have:=P6.at_.away;rw [P6.ab.1] at this;exact this) (λn n0 n24 hn=>Classical.byContradiction λhk=>by
      obtain ⟨j,hj,hjn⟩:=W5.all n n0 n24 hk;rw [hroot j hj,W5.root.1] at hjn;exact hn hjn.symm) (by have:=(W5.kind 1 W5.live1).1;rw [W5.root.1,W5.root.2] at this;exact this)
     (conv=>whnf);refine aj.t (by simp [bA,sZ,ba]) ?_;(conv=>whnf);refine au.o P6.obj rfl ?_;(conv=>whnf);refine ak.i (free_spec P6.at_) λv h7 k7 hv=>?_;subst hv;(conv=>whnf);refine ⟨k06.trans k7,?_⟩;rw [<-hn5];have h1:((bB X5.now X5 96:Nat):Int)<=96:=by omega
     have h2:(74:Int)<=((bB X5.now X5 96:Nat):Int):=by omega
     simp [h1,h2]
    ·have hjl:bA l≠[]:=by
      cases l with
      | nil=>exact absurd rfl hl0
      | cons y l=>rw [nW];simp
     (conv=>whnf);refine aj.f (by simpa [sZ,ba] using hjl) ?_;(conv=>whnf);refine aj.i (λhlong=>?_) (λhlong=>?_)
     ·(conv=>whnf);exact ⟨k06,rfl⟩
     ·have hl:(bA l).length<=120:=by simp [rz] at hlong;omega
      obtain ⟨hpa,_⟩:=Ck W5 C hl0 hx ha hl;have hz6:=k6.size;(conv=>whnf);refine aP.i λb7 h7 e7 s7 o7 k7=>?_;(conv=>whnf);refine aN.i λh8 s8 k8=>?_;have k68:Keeps [] h6 h8:=k7.new1 k8 (by omega);have P8:=P6.on k68;have hz8:=k68.size;(conv=>whnf);refine au.o P8.obj rfl ?_;(conv=>whnf);refine ak.i (uU P8.tree tok.w tok.dl (bA l) (by omega) false) λv h9 k9 hv=>?_;rw [hpa] at hv;subst hv;have P9:=P8.on k9;obtain ⟨k,hk,bT,eD,ek,ek2,cZ,bK,oT,hle,hzb,hcl⟩:=P9.tree.node hx.1;(conv=>whnf);refine aj.f rfl ?_;(conv=>whnf);refine aS.pass ?_;(conv=>whnf);refine au.o P9.obj rfl ?_;(conv=>whnf);refine au.o P9.tree.tr rfl ?_;(conv=>whnf);refine aR.i k ek hk bK ?_;(conv=>whnf);refine au.i (hcl 1 (by decide)) ?_;have hz9:=k9.size;have k09:=(k06.trans k68).trans k9;have hkx:(tn (ay L5) x).kind=(L5[k]'hk).nd.kind:=by rw [cZ]
      have hok:∀ kd:Int,inI64 kd->(⟨kd,bA l,[],[],0,0⟩:bY).ok:=λkd h=>⟨h,by show (bA l).length<=_;omega,Nat.zero_le _,Nat.zero_le _,(by unfold inI64;show _<=(0:Int)/\(0:Int)<=_;omega),(by unfold inI64;show _<=(0:Int)/\(0:Int)<=_;omega)⟩;have hnew:∀ y∈[w,V5.ob,V5.sb,V5.mb,V5.v,V5.mem.m,V5.mem.lb],h.size<=y:=λy hy=>by
       rcases List.mem_cons.1 hy with rfl|hy
       ·exact P5.new.1
       ·refine P5.new.2 y ?_;simp only [List.mem_cons,List.not_mem_nil,or_false] at hy;rcases hy with rfl|rfl|rfl|rfl|rfl|rfl <;> simp [VL.blocks,ML.blocks]
      have hlow:∀ y∈[w,V5.ob,V5.sb,V5.mb,V5.v,V5.mem.m,V5.mem.lb],y<h5.size:=λy hy=>by
       rcases List.mem_cons.1 hy with rfl|hy
       ·exact eU P5.obj
       ·refine P5.at_.blt y ?_;simp only [List.mem_cons,List.not_mem_nil,or_false] at hy;rcases hy with rfl|rfl|rfl|rfl|rfl|rfl <;> simp [VL.blocks,ML.blocks]
      (conv=>whnf);refine aj.i (λhc=>?_) (λhc=>?_)
      ·(conv=>whnf);refine aN.i λh10 s10 k10=>?_;have k910:Keeps [] h6 h10:=(k68.trans k9).new1 k10 (by omega);have P10:=P6.on k910;have k010:=k06.trans k910;(conv=>whnf);refine au.o P10.obj rfl ?_;(conv=>whnf);refine au.o P10.tree.tr rfl ?_;(conv=>whnf);refine ak.m (Ci P10 (by have:=k010.size;omega) hn5 (by omega) ⟨9,bA l,[],[],0,0⟩ (hok 9 (by unfold inI64;omega)) (by show (bA l).length<=1048576;omega) (Nat.zero_le _)) (λy hy hx=>by
        have:=hnew y hx;have:=hlow y hx;simp [ax,aZ] at hy;omega) λv h11 k11 hv=>?_
       obtain ⟨rfl,V11,M11,X11,FS11,z11,t11,aT11,cT11,L11,num11,P11,hn11,r11,X1,RV,hT⟩:=hv;have h0:=Gy W5 I5 P5.gZ.short C hl0 hx hxn ha hl (.inr ⟨rfl,by rw [hkx];simpa using hc⟩) rfl RV;rcases hT with ⟨h,_⟩|⟨_,D⟩
       ·exact absurd h0 h
       ·obtain ⟨b,DR⟩:=Gw (.inr rfl) h0 D;obtain ⟨hlen,htot,rm11⟩:=DR.rm W5.tree rm5;rw [jG,jG] at hlen;have sm11:=DR.gZ P5.gZ;(conv=>whnf);refine au.o P11.obj rfl ?_;(conv=>whnf);refine au.o P11.tree.tr rfl ?_;(conv=>whnf);refine aj.f (by simp [hlen]) ?_;(conv=>whnf);refine ⟨200-(r+1),by omega,?_⟩;(conv=>whnf);exact ⟨r+1,rfl,by rw [wrapN (n:=r+1) (by simp) (by omega)],rfl,k010.dK k11 hnew,V11,M11,X11,FS11,z11,t11,aT11,cT11,L11,num11,N5,⟨P11.obj,P11.at_,P11.fs,P11.rel,sm11,P11.tree,P11.ab,P11.calm,P11.new,P11.apart⟩,hn11,hN5,rm11,by omega⟩
      ·(conv=>whnf);refine au.o P9.obj rfl ?_;(conv=>whnf);refine au.o P9.tree.tr rfl ?_;(conv=>whnf);refine ak.m (Ci P9 (by have:=k09.size;omega) hn5 (by omega) ⟨8,bA l,[],[],0,0⟩ (hok 8 (by unfold inI64;omega)) (by show (bA l).length<=1048576;omega) (Nat.zero_le _)) (λy hy hx=>by
        have:=hnew y hx;have:=hlow y hx;simp [ax,aZ] at hy;omega) λv h11 k11 hv=>?_
       obtain ⟨rfl,V11,M11,X11,FS11,z11,t11,aT11,cT11,L11,num11,P11,hn11,r11,X1,RV,hT⟩:=hv;have h0:=Gy W5 I5 P5.gZ.short C hl0 hx hxn ha hl (.inl ⟨rfl,λh=>by rw [hkx] at h;simp [h] at hc⟩) rfl RV;rcases hT with ⟨h,_⟩|⟨_,D⟩
       ·exact absurd h0 h
       ·obtain ⟨b,DR⟩:=Gw (.inl rfl) h0 D;obtain ⟨hlen,htot,rm11⟩:=DR.rm W5.tree rm5;rw [jG,jG] at hlen;have sm11:=DR.gZ P5.gZ;(conv=>whnf);refine au.o P11.obj rfl ?_;(conv=>whnf);refine au.o P11.tree.tr rfl ?_;(conv=>whnf);refine aj.f (by simp [hlen]) ?_;(conv=>whnf);refine ⟨200-(r+1),by omega,?_⟩;(conv=>whnf);exact ⟨r+1,rfl,by rw [wrapN (n:=r+1) (by simp) (by omega)],rfl,k09.dK k11 hnew,V11,M11,X11,FS11,z11,t11,aT11,cT11,L11,num11,N5,⟨P11.obj,P11.at_,P11.fs,P11.rel,sm11,P11.tree,P11.ab,P11.calm,P11.new,P11.apart⟩,hn11,hN5,rm11,by omega⟩
end Go.Proofs.YtoociceebodfeaaGreatDoor
