/-
  Joined texts: TreF, TreG, TreM, FileP, TreN, TreO, CalJ, TolA, TreQ, TreR, SrtL, SrtK, SrtM, SeeA.
-/
import Derived.Test.YtoociceebodfeaaGreatDoorJLawCRenamej
import Derived.Test.YtoociceebodfeaaGreatDoorJLawCRenameh
import Derived.Test.YtoociceebodfeaaGreatDoorJLawCRenamei
import Derived.Shelf.SlLaysZI
import Derived.Shelf.SlLaysM
import Derived.Test.YtoociceebodfeaaGreatDoorProg
import Derived.Shelf.SlIterI.Nil
import Derived.Test.YtoociceebodfeaaGreatDoorJLawCRenamec
import Derived.Shelf.SortM.Plain
import Derived.Shelf.SortM.SortNone
import Derived.Test.YtoociceebodfeaaGreatDoorJLawCRenamed
set_option linter.all false
set_option maxRecDepth 100000
set_option maxHeartbeats 4000000
namespace Go.Proofs.YtoociceebodfeaaGreatDoor
open Go Go.aN
theorem sO:∀ (k:Nat) (w cs:List Value) (m:Nat),k+w.length<=m->(bF k w cs).take m=bF k w (cs.take m)
 | 0,[],l,m,_=>by simp [bF]
 | 0,v::w,[],m,_=>by simp [bF]
 | 0,v::w,x::l,m,h=>by
  obtain ⟨m',rfl⟩:∃ m',m=m'+1:=⟨m-1,by simp at h;omega⟩;have ih:=sO 0 w l m' (by simp at h;omega);simp only [bF,List.take_succ_cons,ih]
 | n+1,w,[],m,_=>by simp [bF]
 | n+1,w,x::l,m,h=>by
  obtain ⟨m',rfl⟩:∃ m',m=m'+1:=⟨m-1,by omega⟩;have ih:=sO n w l m' (by omega);simp only [bF,List.take_succ_cons,ih]
theorem zK:∀ (k:Nat) (w cs:List Value),(bF k w cs).length=cs.length
 | 0,[],l=>by simp [bF]
 | 0,v::w,[]=>by simp [bF]
 | 0,v::w,x::l=>by simp [bF,zK 0 w l]
 | n+1,w,[]=>rfl
 | n+1,w,x::l=>by simp [bF,zK n w l]
theorem NP:∀ (L:List bY) (i:Nat) (hi:i<L.length) (x:bY),bF (i*5) x.cells (gm L)=gm (L.set i x)
 | y::L,0,_,x=>by
  unfold gm;rw [List.set_cons_zero,List.flatMap_cons,List.flatMap_cons,Nat.zero_mul];generalize List.flatMap bY.cells L=r;obtain ⟨⟨y1,y2,y3,y4,y5⟩,y6,y7,y8⟩:=y;simp [bY.cells,bF]
 | y::L,i+1,hi,x=>by
  have ih:=NP L i (by simpa using hi) x;unfold gm at ih ⊢;rw [List.set_cons_succ,List.flatMap_cons,List.flatMap_cons,<-ih,show (i+1)*5=i*5+5 by omega];rfl
theorem Xo {h h':Heap}{e:TypeId}{sz:Nat}{b n c:Nat}{l:List Value}(O:Own h e sz (some ⟨b,0,none⟩) n c l){k:Nat}{w:List Value}(hk:k+w.length<=l.length){cs:List Value}(o:h[b]?=some (.cells ⟨cs⟩ e (0,0)))(o':h'[b]?=some (.cells ⟨bF k w cs⟩ e (0,0))):Own h' e sz (some ⟨b,0,none⟩) n c (bF k w l):=by
 rcases O with ⟨h0,_⟩|⟨b',cs',hb,ob,ht,h1,h2,h3⟩
 ·cases h0
 ·cases hb;rw [o] at ob;cases ob;refine .inr ⟨b,_,rfl,o',?_,by rw [zK];exact h1,by rw [zK];exact h2,h3⟩;rw [zK,sO _ _ _ _ hk,ht]
theorem dh.Xn {h h':Heap}{z t:Nat}{aT:Option Addr}{cT:Nat}{L:List bY}(H:dh h z t aT cT L){k:Nat}(hk:k<L.length){bT:Nat}(bO:aT=some ⟨bT,0,none⟩){eZ:List Value}(o:h[bT]?=some (.cells ⟨eZ⟩ 77 (0,0)))(kk:Keeps [bT] h h')(x:bY)
 (o':h'[bT]?=some (.cells ⟨bF (k*5) x.cells eZ⟩ 77 (0,0))) (hx:Gz h z x):dh h' z t aT cT (L.set k x):=by
 have ht:t≠bT:=rH H.tr o (by decide);have O':=Xo (bO ▸ H.own) (k:=k*5) (w:=x.cells) (by rw [ol];show k*5+5<=_;omega) o o';rw [NP L k hk x,<-bO] at O';have nk:∀ y:bY,Own h 93 2 y.a y.n y.c (bV y.nd.names)->Own h' 93 2 y.a y.n y.c (bV y.nd.names):=λy oy=>oy.keep kk (λb hb hx=>by
  obtain ⟨cs,oc⟩:=oJ oy b hb;have:=rH oc o (by decide);simp at hx;exact this hx)
 refine ⟨by rw [List.length_set];exact kk.obj H.tr (by simpa using ht),by rw [List.length_set];exact O',λy hy=>?_,H.zt⟩;rcases List.mem_or_eq_of_mem_set hy with hy|rfl
 ·obtain ⟨n1,n2,n3,n4,n5⟩:=H.jH y hy;exact ⟨n1,nk y n2,n3,n4,n5⟩
 ·exact ⟨hx.1,nk y hx.2.1,hx.2.2⟩
theorem tF {T:List aD}(W:jq T){path:List UInt8}{follow:Bool}(h0:(aR (aO T) path follow).2=0):inT T (aR (aO T) path follow).1:=by
 have hin1:inT T 1:=by have:=W.two;exact ⟨by omega,by omega⟩
 unfold aR at h0 ⊢;cases hp:bC path with
 | none=>rw [hp] at h0;cases h0
 | some l=>
  rw [hp] at h0;exact ((qE W.alike (root:=1) (follow:=follow) hin1 600 1 0 l hin1).2 h0).2
theorem dh.node {h:Heap}{z t:Nat}{aT:Option Addr}{cT:Nat}{L:List bY}(H:dh h z t aT cT L){i:Int}(hi:inT (aB L) i):∃ (k:Nat) (hk:k<L.length) (bT:Nat) (eZ:List Value),i=(k:Int)/\i.toNat=k/\tn (aB L) i=(L[k]'hk).nd/\aT=some ⟨bT,0,none⟩/\h[bT]?=some (.cells ⟨eZ⟩ 77 (0,0))/\L.length*5<=eZ.length/\z<=bT/\∀ j,j<5->Heap.cell? h bT (0+k*5+j)=((L[k]'hk).cells)[j]?:=by
 have h1:=hi.1;have h2:=hi.2;rw [nZ] at h2;have hk:i.toNat<L.length:=by omega
 obtain ⟨bT,eZ,q1,q2,q3,q4,q5⟩:=H.blk hk;refine ⟨i.toNat,hk,bT,eZ,by omega,rfl,?_,q1,q2,q3,q4,q5⟩;have:=vk hk;rw [Int.toNat_of_nonneg (by omega)] at this;exact this
def vB (T:List aD)(old name:List UInt8)(e:Int)(T':List aD):Prop:=
 ((aR (aO T) old false).2≠0/\e=(aR (aO T) old false).2) \/
 ((aR (aO T) old false).2=0/\(tn T (aR (aO T) old false).1).kind=2/\e=7) \/
 ((
  aR (aO T) old false).2=0/\(tn T (aR (aO T) old false).1).kind≠2 /\
  (
   ((bB (aO T) name).2.2.2≠0/\e=(bB (aO T) name).2.2.2) \/
   ∃ d nm nd,nA T name d nm nd/\((nd≠0/\e=5)\/(nd=0/\255<=(tn T (aR (aO T) old false).1).links/\e=10) \/
    (nd=0/\(tn T (aR (aO T) old false).1).links<255/\e=0/\T'=bJ (bJ T (aR (aO T) old false).1 { tn T (aR (aO T) old false).1 with links:=IntKind.i64.wrap ((tn T (aR (aO T) old false).1).links+1) }) d { tn T d with names:=bD (tn T d).names ⟨nm,(aR (aO T) old false).1⟩ }))))
theorem WW {h:Heap}{z t:Nat}{aT:Option Addr}{cT:Nat}{L:List bY}(H:dh h z t aT cT L)(hz:z<=h.size)(W:mg L)(old name:List UInt8)(ho:old.length<=1048576)(hp:name.length<=1048576) :
 aC Tryz.prog 46 [.pointer (some ⟨t,0,none⟩),.string (ba old),.string (ba name)] h (λv h'=>Keeps (t::ay aT) h h'/\∃ e:Int,v=.int .i64 e/\∃ dY d9 L',dh h' z t dY d9 L'/\vB (aB L) old name e (aB L')):=by
 have hlen:=W.len;have m0:∀ x∈([]:List Nat),x∈t::ay aT:=by simp
 refine aG aH Tryz.func46 rfl ok46 (by simp [Tryz.f46]) ?_;(conv=>whnf);refine ak.i (zI H W.w W.dl old ho false) λv h1 k1 hv=>?_;subst hv;have z1:=k1.size;have H1:=H.keep k1 (by simp);by_cases h0:(aR (aO (aB L)) old false).2=0
 ·have hin:=tF W.w h0;unfold vB;generalize aR (aO (aB L)) old false=p at h0 hin ⊢;obtain ⟨x,px⟩:=p;simp only at h0 hin;subst h0;simp only;(conv=>whnf);refine aj.f rfl ?_;obtain ⟨k,hk,bT,eZ,ek,ek2,dx,bO,oT,hle,hzb,hcl⟩:=H1.node hin;(conv=>whnf);refine ax.o H1.tr rfl ?_;(conv=>whnf);refine aX.i k ek hk bO ?_;(conv=>whnf);refine ax.i (hcl 1 (by decide)) ?_;by_cases hk2:(L[k]'hk).nd.kind=2
  ·(conv=>whnf);refine aj.t (by simp [hk2]) ?_;(conv=>whnf);exact ⟨k1.mono m0,7,rfl,aT,cT,L,H1,.inr (.inl ⟨trivial,by rw [dx];exact hk2,rfl⟩)⟩
  ·(conv=>whnf);refine aj.f (by simp [hk2]) ?_;(conv=>whnf);refine ak.i (zJ H1 W.w W.dl name hp) λv h2 k2 hv=>?_;subst hv;have z2:=k2.size;have H2:=H1.keep k2 (by simp);have k02:=k1.trans k2;unfold wW;by_cases hp0:(bB (aO (aB L)) name).2.2.2=0
   ·obtain ⟨d,nm,nd,P⟩:=pY W.w hp0;rw [P.is];(conv=>whnf);refine aj.f rfl ?_;by_cases hnd:nd=0
    ·subst hnd;(conv=>whnf);refine aj.f rfl ?_;obtain ⟨k',hk',GH,CJ,wT,wU,om,qB,CK,hle',ND,hcl'⟩:=H2.node hin;have:k'=k:=by omega
     subst this;rw [bO] at qB;cases qB;(conv=>whnf);refine ax.o H2.tr rfl ?_;(conv=>whnf);refine aX.i k' ek hk bO ?_;(conv=>whnf);refine ax.i (hcl' 2 (by decide)) ?_;by_cases h255:255<=(L[k']'hk).nd.links
     ·(conv=>whnf);refine aj.t (by simp;exact h255) ?_;(conv=>whnf);exact ⟨k02.mono m0,10,rfl,aT,cT,L,H2,.inr (.inr ⟨trivial,by rw [dx];exact hk2,.inr ⟨d,nm,0,P,.inr (.inl ⟨rfl,by rw [dx];exact h255,rfl⟩)⟩⟩)⟩
     ·(conv=>whnf);refine aj.f (by simp;omega) ?_;(conv=>whnf);refine ax.o H2.tr rfl ?_;(conv=>whnf);refine aX.i k' ek hk bO ?_;(conv=>whnf);refine ax.i (hcl' 2 (by decide)) ?_;(conv=>whnf);refine aX.i k' ek hk bO ?_;(conv=>whnf);refine dN.i CK ?_ (by simp [au]) λh3 s3 o3 k3=>?_
      ·show 0+k'*5+2+1<=CJ.length;omega
      have z3:=k3.size;have nQ:h3[bT]?=some (.cells ⟨bF (k'*5+2) [.int .i64 (IntKind.i64.wrap ((L[k']'hk).nd.links+1))] CJ⟩ 77 (0,0)):=by
       have:0+k'*5+2=k'*5+2:=by omega
       rw [<-this];exact o3
      have H3:=H2.set hk bO CK k3 (j:=2) (by decide) nQ ⟨{ (L[k']'hk).nd with links:=IntKind.i64.wrap ((L[k']'hk).nd.links+1) },(L[k']'hk).a,(L[k']'hk).n,(L[k']'hk).c⟩ rfl (by obtain ⟨n1,n2,n3,n4,n5⟩:=H2.jH _ (List.getElem_mem hk);exact ⟨n1,n2,n3,n4,n5⟩);have k03:Keeps (t::ay aT) h h3:=(k02.mono m0).gQ k3 (λy hy=>by
       have:y=bT:=by simpa using hy
       left;rw [bO];simp [ay,this])
      generalize hx:(⟨{ (L[k']'hk).nd with links:=IntKind.i64.wrap ((L[k']'hk).nd.links+1) },(L[k']'hk).a,(L[k']'hk).n,(L[k']'hk).c⟩:bY)=X at H3;have hd:=P.inn;have hd1:=hd.1;have hd2:=hd.2;rw [nZ] at hd2;have e1:d=((d.toNat:Nat):Int):=by omega
      have hkd:d.toNat<L.length:=by omega
      have rJ:tn (aB L) d=(L[d.toNat]'hkd).nd:=by have:=vk hkd;rw [<-e1] at this;exact this
      have hne:k'≠d.toNat:=by
       intro e;have hpk:=P.kind;rw [rJ] at hpk;apply hk2;simp only [e];exact hpk
      have hkd3:d.toNat<(L.set k' X).length:=by rw [List.length_set];exact hkd
      have eL:((L.set k' X)[d.toNat]'hkd3)=L[d.toNat]'hkd:=List.getElem_set_ne hne _;have hpn:=P.wQ W.w;rw [rJ] at hpn;have ad:=GJ H3 (by omega) hkd3 (by rw [List.length_set];omega) P.len P.name (by rw [eL];exact hpn) (x:=x) ⟨by omega,by omega⟩ (by rw [eL];exact W.few _ (List.getElem_mem hkd));rw [eL,<-e1] at ad;(conv=>whnf);refine ak.m ad (by simp [au]) λv h5 k5 hv=>?_;obtain ⟨rfl,a5,c5,H5⟩:=hv;(conv=>whnf);refine ⟨k03.gQ k5 (λy hy=>.inl (by simp [hy])),0,rfl,aT,cT,_,H5,.inr (.inr ⟨trivial,by rw [dx];exact hk2,.inr ⟨d,nm,0,P,.inr (.inr ⟨rfl,by rw [dx];omega,rfl,?_⟩)⟩⟩)⟩;rw [oK,oK,<-hx];unfold bJ;rw [dx,rJ,ek2]
    ·(conv=>whnf);refine aj.t (by simp [hnd]) ?_;(conv=>whnf);exact ⟨k02.mono m0,5,rfl,aT,cT,L,H2,.inr (.inr ⟨trivial,by rw [dx];exact hk2,.inr ⟨d,nm,nd,P,.inl ⟨hnd,rfl⟩⟩⟩)⟩
   ·(conv=>whnf);refine aj.t (by simp [hp0]) ?_;(conv=>whnf);exact ⟨k02.mono m0,_,rfl,aT,cT,L,H2,.inr (.inr ⟨trivial,by rw [dx];exact hk2,.inl ⟨hp0,rfl⟩⟩)⟩
 ·(conv=>whnf);refine aj.t (by simp [h0]) ?_;(conv=>whnf);exact ⟨k1.mono m0,_,rfl,aT,cT,L,H1,.inl ⟨h0,rfl⟩⟩
def tK (x:aD):aD:=if IntKind.i64.wrap (x.links-1)=0 then ⟨0,0,0,[],[]⟩ else { x with links:=IntKind.i64.wrap (x.links-1) }
def qC (T:List aD)(path:List UInt8)(isDir:Bool)(e:Int)(T':List aD):Prop:=
 ((bB (aO T) path).2.2.2≠0/\e=(bB (aO T) path).2.2.2) \/
 ∃ d nm nd,nA T path d nm nd/\((nd=0/\e=4)\/(nd≠0/\isDir=false/\(tn T nd).kind=2/\e=7)\/(nd≠0/\isDir=true/\(tn T nd).kind≠2/\e=6) \/
  (nd≠0/\isDir=true/\(tn T nd).kind=2/\(tn T nd).names≠[]/\e=8) \/
  (nd≠0/\(isDir=true↔(tn T nd).kind=2)/\(isDir=true->(tn T nd).names=[])/\e=0 /\
   T'=bJ (bJ T d { tn T d with names:=(tn T d).names.eraseIdx (aP (tn T d).names nm) }) nd (tK (tn (bJ T d { tn T d with names:=(tn T d).names.eraseIdx (aP (tn T d).names nm) }) nd))))
theorem NC {h:Heap}{z t:Nat}{aT:Option Addr}{cT:Nat}{L:List bY}(H:dh h z t aT cT L)(hz:z<=h.size)(W:mg L)(path:List UInt8)(hp:path.length<=1048576)(isDir:Bool) :
 aC Tryz.prog 48 [.pointer (some ⟨t,0,none⟩),.string (ba path),.bool isDir] h (λv h'=>Keeps (t::ay aT) h h'/\∃ e:Int,v=.int .i64 e/\∃ dY d9 L',dh h' z t dY d9 L'/\qC (aB L) path isDir e (aB L')):=by
 have hlen:=W.len;have m0:∀ x∈([]:List Nat),x∈t::ay aT:=by simp
 refine aG aH Tryz.func48 rfl ok48 (by simp [Tryz.f48]) ?_;(conv=>whnf);refine ak.i (zJ H W.w W.dl path hp) λv h1 k1 hv=>?_;subst hv;have z1:=k1.size;have H1:=H.keep k1 (by simp);unfold wW;by_cases h0:(bB (aO (aB L)) path).2.2.2=0
 ·obtain ⟨d,nm,nd,P⟩:=pY W.w h0;rw [P.is];(conv=>whnf);refine aj.f rfl ?_;by_cases hnd:nd=0
  ·subst hnd;(conv=>whnf);refine aj.t rfl ?_;(conv=>whnf);exact ⟨k1.mono m0,4,rfl,aT,cT,L,H1,.inr ⟨d,nm,0,P,.inl ⟨rfl,rfl⟩⟩⟩
  ·(conv=>whnf);refine aj.f (by simp [hnd]) ?_;obtain ⟨en,hen,hen1,hen2,hin⟩:=P.there W.w hnd;obtain ⟨hpt,hkl,hkn,_⟩:=vz (W.w.dir d P.inn P.kind).2.2 hen;obtain ⟨k,hk,bT,eZ,ek,ek2,dx,bO,oT,hle,hzb,hcl⟩:=H1.node hin;obtain ⟨n1,n2,n3,n4,n5⟩:=H1.jH _ (List.getElem_mem hk);cases isDir
   case' false=>
    (conv=>whnf);refine ax.o H1.tr rfl ?_;(conv=>whnf);refine aX.i k ek hk bO ?_;(conv=>whnf);refine ax.i (hcl 1 (by decide)) ?_;(conv=>whnf);refine aj.i (λhc=>?_) (λhc=>?_)
   case' false.refine_1=>
    (conv=>whnf);refine ⟨k1.mono m0,7,rfl,aT,cT,L,H1,.inr ⟨d,nm,nd,P,.inr (.inl ⟨hnd,rfl,by rw [dx];simpa using hc,rfl⟩)⟩⟩
   case' true=>
    (conv=>whnf);refine ax.o H1.tr rfl ?_;(conv=>whnf);refine aX.i k ek hk bO ?_;(conv=>whnf);refine ax.i (hcl 1 (by decide)) ?_;(conv=>whnf);refine aj.f (by simp) ?_;(conv=>whnf);refine ax.o H1.tr rfl ?_;(conv=>whnf);refine aX.i k ek hk bO ?_;(conv=>whnf);refine ax.i (hcl 1 (by decide)) ?_;(conv=>whnf);refine aj.i (λhc=>?_) (λhc=>?_)
   case' true.refine_1=>
    (conv=>whnf);refine ⟨k1.mono m0,6,rfl,aT,cT,L,H1,.inr ⟨d,nm,nd,P,.inr (.inr (.inl ⟨hnd,rfl,by rw [dx];simpa using hc,rfl⟩))⟩⟩
   case' true.refine_2=>
    (conv=>whnf);refine ax.o H1.tr rfl ?_;(conv=>whnf);refine aX.i k ek hk bO ?_;(conv=>whnf);refine ax.i (hcl 4 (by decide)) ?_;(conv=>whnf);refine aj.i (λhd=>?_) (λhd=>?_)
   case' true.refine_2.refine_1=>
    (conv=>whnf);refine ⟨k1.mono m0,8,rfl,aT,cT,L,H1,.inr ⟨d,nm,nd,P,.inr (.inr (.inr (.inl ⟨hnd,rfl,by rw [dx];simpa using hc,?_,rfl⟩)))⟩⟩;rw [dx];intro he;rw [n1,he] at hd;simp at hd
   case' false.refine_2=>
    (conv=>whnf);refine ax.o H1.tr rfl ?_;(conv=>whnf);refine aX.i k ek hk bO ?_;(conv=>whnf);refine ax.i (hcl 1 (by decide)) ?_;(conv=>whnf);refine aj.f (by simp) ?_;(conv=>whnf);refine ax.o H1.tr rfl ?_;(conv=>whnf);refine aX.i k ek hk bO ?_;(conv=>whnf);refine ax.i (hcl 4 (by decide)) ?_;(conv=>whnf);refine aj.f (by simp) ?_;have hiff:(false=true↔(L[k]'hk).nd.kind=2):=⟨λh=>(by cases h),λh=>(by simp [h] at hc)⟩;have hemp:false=true->(L[k]'hk).nd.names=[]:=λh=>(by cases h)
   case' true.refine_2.refine_2=>
    have hiff:(true=true↔(L[k]'hk).nd.kind=2):=⟨λ_=>by simpa using hc,λ_=>rfl⟩;have hemp:true=true->(L[k]'hk).nd.names=[]:=λ_=>(by rw [n1] at hd;simpa using hd)
   all_goals
    have hd:=P.inn;have hd1:=hd.1;have hd2:=hd.2;rw [nZ] at hd2;have e1:d=((d.toNat:Nat):Int):=by omega
    have hkd:d.toNat<L.length:=by omega
    have rJ:tn (aB L) d=(L[d.toNat]'hkd).nd:=by have:=vk hkd;rw [<-e1] at this;exact this
    have ad:=NH H1 (by omega) hkd P.len (by rw [<-rJ];exact hpt);rw [<-e1] at ad;(conv=>whnf);refine ak.m ad (by simp [au]) λv h2 k2 hv=>?_;obtain ⟨rfl,a2,c2,H2⟩:=hv;have z2:=k2.size;have hT2:aB (L.set d.toNat ⟨{ (L[d.toNat]'hkd).nd with names:=(L[d.toNat]'hkd).nd.names.eraseIdx (aP (L[d.toNat]'hkd).nd.names nm) },a2,((L[d.toNat]'hkd).nd.names.eraseIdx (aP (L[d.toNat]'hkd).nd.names nm)).length,c2⟩)=bJ (aB L) d { tn (aB L) d with names:=(tn (aB L) d).names.eraseIdx (aP (tn (aB L) d).names nm) }:=by
     rw [oK,rJ];rfl
    generalize L.set d.toNat ⟨{ (L[d.toNat]'hkd).nd with names:=(L[d.toNat]'hkd).nd.names.eraseIdx (aP (L[d.toNat]'hkd).nd.names nm) },a2,((L[d.toNat]'hkd).nd.names.eraseIdx (aP (L[d.toNat]'hkd).nd.names nm)).length,c2⟩=L2 at H2 hT2;have hin2:inT (aB L2) nd:=by rw [hT2];exact (xh _).2 hin
    obtain ⟨q,hq,bQ,NJ,eq,eq2,NK,NN,oQ,Za,Zb,Xl⟩:=H2.node hin2;rw [bO] at NN;cases NN;(conv=>whnf);refine ax.o H2.tr rfl ?_;(conv=>whnf);refine aX.i q eq hq bO ?_;(conv=>whnf);refine ax.i (Xl 2 (by decide)) ?_;(conv=>whnf);refine aX.i q eq hq bO ?_;(conv=>whnf);refine dN.i oQ ?_ (by simp [au]) λh3 s3 o3 k3=>?_
    ·show 0+q*5+2+1<=NJ.length;omega
    have z3:=k3.size;have nQ:h3[bT]?=some (.cells ⟨bF (q*5+2) [.int .i64 (IntKind.i64.wrap ((L2[q]'hq).nd.links-1))] NJ⟩ 77 (0,0)):=by
     have:0+q*5+2=q*5+2:=by omega
     rw [<-this];exact o3
    have H3:=H2.set hq bO oQ k3 (j:=2) (by decide) nQ ⟨{ (L2[q]'hq).nd with links:=IntKind.i64.wrap ((L2[q]'hq).nd.links-1) },(L2[q]'hq).a,(L2[q]'hq).n,(L2[q]'hq).c⟩ rfl (by obtain ⟨n1,n2,n3,n4,n5⟩:=H2.jH _ (List.getElem_mem hq);exact ⟨n1,n2,n3,n4,n5⟩);have GK:bT∈t::ay aT:=by rw [bO];simp [ay]
    have k02:Keeps (t::ay aT) h h2:=(k1.mono m0).trans (k2.mono (by intro x hx;simp [hx]));have k03:Keeps (t::ay aT) h h3:=k02.gQ k3 (λy hy=>by
     have:y=bT:=by simpa using hy
     left;rw [this];exact GK)
    generalize hx:(⟨{ (L2[q]'hq).nd with links:=IntKind.i64.wrap ((L2[q]'hq).nd.links-1) },(L2[q]'hq).a,(L2[q]'hq).n,(L2[q]'hq).c⟩:bY)=X at H3;have hq3:q<(L2.set q X).length:=by rw [List.length_set];exact hq
    have eX:(L2.set q X)[q]'hq3=X:=List.getElem_set_self _;obtain ⟨b4,cs4,ha4,o4,hle4,_,hcl4⟩:=H3.blk hq3;rw [bO] at ha4;cases ha4;rw [eX] at hcl4;have Xm:X.nd.links=IntKind.i64.wrap ((tn (aB L2) nd).links-1):=by rw [<-hx,NK]
    have hc2:X.cells[2]?=some (.int .i64 (IntKind.i64.wrap ((tn (aB L2) nd).links-1))):=by rw [<-Xm];rfl
    (conv=>whnf);(try refine aV.pass ?_;conv=>whnf);refine ax.o H3.tr rfl ?_;(conv=>whnf);refine aX.i q eq hq3 bO ?_;(conv=>whnf);refine ax.i ((hcl4 2 (by decide)).trans hc2) ?_;(conv=>whnf);refine aj.i (λhw=>?_) (λhw=>?_)
    ·have hw0:IntKind.i64.wrap ((tn (aB L2) nd).links-1)=0:=by simpa using hw
     (conv=>whnf);refine ax.o H3.tr rfl ?_;(conv=>whnf);refine aX.i q eq hq3 bO ?_;(conv=>whnf);refine dN.i o4 ?_ (by simp [au]) λh5 s5 o5 k5=>?_
     ·show 0+q*5+5<=cs4.length;rw [List.length_set] at hle4;omega
     (conv=>whnf);have yx:h5[bT]?=some (.cells ⟨bF (q*5) (bY.cells ⟨⟨0,0,0,[],[]⟩,none,0,0⟩) cs4⟩ 77 (0,0)):=by
      have:0+q*5=q*5:=by omega
      rw [<-this];exact o5
     have H5:=H3.Xn hq3 bO o4 k5 ⟨⟨0,0,0,[],[]⟩,none,0,0⟩ yx ⟨rfl,.inl ⟨rfl,rfl,rfl,rfl⟩,λb hb=>(by cases hb),λe he=>(by cases he),Nat.zero_le _⟩;refine ⟨k03.gQ k5 (λy hy=>by
      have:y=bT:=by simpa using hy
      left;rw [this];exact GK),0,rfl,aT,cT,_,H5,.inr ⟨d,nm,nd,P,.inr (.inr (.inr (.inr ⟨hnd,by rw [dx];exact hiff,by rw [dx];exact hemp,rfl,?_⟩)))⟩⟩
     rw [oK,oK,List.set_set,<-hT2];unfold bJ tK;rw [if_pos hw0,eq2]
    ·have hw0:IntKind.i64.wrap ((tn (aB L2) nd).links-1)≠0:=by simpa using hw
     (conv=>whnf);refine ⟨k03,0,rfl,aT,cT,_,H3,.inr ⟨d,nm,nd,P,.inr (.inr (.inr (.inr ⟨hnd,by rw [dx];exact hiff,by rw [dx];exact hemp,rfl,?_⟩)))⟩⟩;rw [oK,<-hT2,<-hx];unfold bJ tK;rw [if_neg hw0,eq2,NK]
 ·(conv=>whnf);refine aj.t (by simp [h0]) ?_;(conv=>whnf);exact ⟨k1.mono m0,_,rfl,aT,cT,L,H1,.inl ⟨h0,rfl⟩⟩
inductive fF (T:List aD) (y:Int):Int->Prop
 | refl:fF T y y
 | head {x:Int} {e:aF}:(tn T x).kind=2->e∈(tn T x).names->fF T y e.node->fF T y x
theorem Xk {T:List aD}{y x:Int}(hne:y≠x):fF T y x↔(tn T x).kind=2/\∃ e∈(tn T x).names,fF T y e.node:=
 ⟨λh=>by cases h with
  | refl=>exact absurd rfl hne
  | head h1 h2 h3=>exact ⟨h1,_,h2,h3⟩,λ⟨h1,e,h2,h3⟩=>.head h1 h2 h3⟩
theorem fF.dir {T:List aD}{y x:Int}(hy:(tn T y).kind=2)(h:fF T y x):(tn T x).kind=2:=by
 cases h with
 | refl=>exact hy
 | head h1 _ _=>exact h1
def zw (T:List aD)(rk:Int->Nat):Prop:=∀ x,inT T x->(tn T x).kind=2->∀ e∈(tn T x).names,rk e.node<rk x
theorem NE {z t:Nat}{aT:Option Addr}{cT:Nat}{L:List bY}(W:jq (aB L)){rk:Int->Nat}(hr:zw (aB L) rk){y:Int}(hy:(tn (aB L) y).kind=2):∀ (n:Nat) (of:Int) (h:Heap),rk of<n->inT (aB L) of->(tn (aB L) of).kind=2->dh h z t aT cT L ->
 aC Tryz.prog 96 [.pointer (some ⟨t,0,none⟩),.int .i64 y,.int .i64 of] h (λv h'=>Keeps [] h h'/\∃ b:Bool,v=.bool b/\(b=true↔fF (aB L) y of))
 | 0,_,_,hn,_,_,_=>by omega
 | n+1,of,h,hn,hof,hko,H=>by
  refine aG aH Tryz.func96 rfl ok96 (by simp [Tryz.f96]) ?_;(conv=>whnf);by_cases hdo:y=of
  ·subst hdo;refine aj.t (by simp) ?_;(conv=>whnf);exact ⟨Keeps.refl _ _,true,rfl,λ_=>.refl,λ_=>rfl⟩
  ·refine aj.f (by simp [hdo]) ?_;obtain ⟨k,hk,bT,eZ,ek,ek2,dx,bO,oT,hle,hzb,hcl⟩:=H.node hof;obtain ⟨n1,n2,n3,n4,n5⟩:=H.jH _ (List.getElem_mem hk);have S:=kr n2 n4 (by omega);obtain ⟨_,NF,_⟩:=W.dir of hof hko;rw [dx] at NF;(conv=>whnf);refine ax.o H.tr rfl ?_;(conv=>whnf);refine aX.i k ek hk bO ?_;(conv=>whnf);refine ax.i (hcl 4 (by decide)) ?_;(conv=>whnf);refine bP.on [0,1,7,8] [] (λi:Nat=>[(0,.v (.pointer (some ⟨t,0,none⟩))),(1,.v (.int .i64 y)),(7,.v (.slice (L[k]'hk).a (L[k]'hk).n (L[k]'hk).c)),(8,.v (.int .i64 (i:Int)))]) (λ_=>[])
    (λi h'=>i<=(L[k]'hk).nd.names.length/\Keeps [] h h'/\∀ e∈(L[k]'hk).nd.names.take i,¬ fF (aB L) y e.node) (λi=>(L[k]'hk).nd.names.length-i) 0 ?_ ?_
   ·(conv=>whnf);exact ⟨0,rfl,rfl,rfl,Nat.zero_le _,Keeps.refl _ _,by simp⟩
   ·rintro i h5 ⟨hi,k5,n5'⟩;(conv=>whnf);refine aj.i (λhd=>?_) (λhd=>?_)
    ·have hi1:i<(L[k]'hk).nd.names.length:=by rw [n1] at hd;simp at hd;omega
     have H5:=H.keep k5 (by simp);have S5:=S.keep k5;obtain ⟨b6,o6,hb6,_,⟨rfl,hok⟩,hc6⟩:=S5.at_ i hi1;have hem:=List.getElem_mem hi1;have hin:=NF _ hem;have zP:=hr of hof hko _ (by rw [dx];exact hem);obtain ⟨k',hk',GH,CJ,wT,wU,om,qB,CK,hle',ND,hcl'⟩:=H5.node hin;(conv=>whnf);refine ax.o H5.tr rfl ?_;(conv=>whnf);refine aX.i i rfl (by omega) hb6 ?_;(conv=>whnf);refine ax.i (hc6 1 (show 1<2 by decide)) ?_;(conv=>whnf);refine aX.i k' wT hk' qB ?_;(conv=>whnf);refine ax.i (hcl' 1 (by decide)) ?_;(conv=>whnf);refine aX.i i rfl (by omega) hb6 ?_;(conv=>whnf);refine ax.i (hc6 1 (show 1<2 by decide)) ?_;have NG:¬ fF (aB L) y ((L[k]'hk).nd.names[i]'hi1).node->∀ e∈(L[k]'hk).nd.names.take (i+1),¬ fF (aB L) y e.node:=by
      intro hnb e he;rw [List.take_succ_eq_append_getElem hi1,List.mem_append] at he;rcases he with he|he
      ·exact n5' e he
      ·obtain rfl:=List.mem_singleton.1 he;exact hnb
     (conv=>whnf);refine aj.i (λhc=>?_) (λhc=>?_)
     ·have hk2:(tn (aB L) ((L[k]'hk).nd.names[i]'hi1).node).kind=2:=by rw [om];simpa using hc
      (conv=>whnf);refine ak.i (NE W hr hy n _ h5 (by omega) hin hk2 H5) λv h6 k6 hv=>?_;obtain ⟨b,rfl,hb⟩:=hv;cases b with
      | true=>
       (conv=>whnf);refine aj.t (by rw [hc];rfl) ?_;(conv=>whnf);exact ⟨k5.trans k6,true,rfl,λ_=>.head hko (by rw [dx];exact hem) (hb.1 rfl),λ_=>rfl⟩
      | false=>
       (conv=>whnf);refine aj.f (by simp) ?_;(conv=>whnf);refine ⟨(L[k]'hk).nd.names.length-(i+1),by omega,?_⟩;(conv=>whnf);refine ⟨i+1,rfl,by rw [wrapN (x:=(i:Int)+1) (n:=i+1) (by simp) (by omega)],rfl,hi1,k5.trans k6,NG λhbe=>by have:=hb.2 hbe;cases this⟩
     ·(conv=>whnf);refine aj.f (by rw [hc];rfl) ?_;(conv=>whnf);refine ⟨(L[k]'hk).nd.names.length-(i+1),by omega,?_⟩;(conv=>whnf);refine ⟨i+1,rfl,by rw [wrapN (x:=(i:Int)+1) (n:=i+1) (by simp) (by omega)],rfl,hi1,k5,NG λhbe=>?_⟩;have:=hbe.dir hy;rw [om] at this;rw [this] at hc;cases hc
    ·have hi1:i=(L[k]'hk).nd.names.length:=by rw [n1] at hd;simp at hd;omega
     (conv=>whnf);refine ⟨k5,false,rfl,λh=>(by cases h),λh=>?_⟩;obtain ⟨_,e,he,hbe⟩:=(Xk hdo).1 h;rw [dx] at he;exact absurd hbe (n5' e (by rw [hi1,List.take_length];exact he))
def lM (T:List aD)(old name:List UInt8)(e:Int)(T':List aD):Prop:=
 ((bC old=none\/bC name=none)/\e=3) \/
 (
  bC old≠none/\bC name≠none/\(((bB (aO T) old).2.2.2≠0/\e=(bB (aO T) old).2.2.2) \/
  ∃ d nm nd,nA T old d nm nd/\((nd=0/\e=4)\/(nd≠0 /\
   (
    ((bB (aO T) name).2.2.2≠0/\e=(bB (aO T) name).2.2.2) \/
    ∃ f nm2 nd2,nA T name f nm2 nd2/\((nd2=nd/\e=0/\T'=T)\/(nd2≠nd/\((tn T nd).kind=2/\fF T f nd)/\e=1)\/(nd2≠nd/\¬ ((tn T nd).kind=2/\fF T f nd)/\nd2≠0/\e=5) \/
     (nd2=0/\¬ ((tn T nd).kind=2/\fF T f nd)/\e=0 /\
      T'=bJ (bJ T d { tn T d with names:=(tn T d).names.eraseIdx (aP (tn T d).names nm) }) f { tn (bJ T d { tn T d with names:=(tn T d).names.eraseIdx (aP (tn T d).names nm) }) f with names:=bD (tn (bJ T d { tn T d with names:=(tn T d).names.eraseIdx (aP (tn T d).names nm) }) f).names ⟨nm2,nd⟩ })))))))
theorem M8 {l:List aF}{nm:List UInt8}(h:bR l nm=none)(k:Nat):bR (l.eraseIdx k) nm=none:=by
 unfold bR at h ⊢;rw [List.find?_eq_none] at h ⊢;exact λe he=>h e (List.mem_of_mem_eraseIdx he)
theorem WY {h:Heap}{z t:Nat}{aT:Option Addr}{cT:Nat}{L:List bY}(H:dh h z t aT cT L)(hz:z<=h.size)(W:mg L){rk:Int->Nat}(hr:zw (aB L) rk)(old name:List UInt8)(ho:old.length<=1048576)(hp:name.length<=1048576) :
 aC Tryz.prog 49 [.pointer (some ⟨t,0,none⟩),.string (ba old),.string (ba name)] h (λv h'=>Keeps (t::ay aT) h h'/\∃ e:Int,v=.int .i64 e/\∃ dY d9 L',dh h' z t dY d9 L'/\lM (aB L) old name e (aB L')):=by
 have hlen:=W.len;have m0:∀ x∈([]:List Nat),x∈t::ay aT:=by simp
 refine aG aH Tryz.func49 rfl ok49 (by simp [Tryz.f49]) ?_;(conv=>whnf);refine ak.i (vg old ho h) λv h1 k1 hv=>?_;have z1:=k1.size;have H1:=H.keep k1 (by simp);cases hp1:bC old with
 | none=>
  rw [hp1] at hv;have hv:v=.tuple #[.slice none 0 0,.int .i64 3]:=hv;subst hv;(conv=>whnf);refine ak.i (vg name hp h1) λv h2 k2 hv=>?_;have H2:=H1.keep k2 (by simp);have hv:∃ s:Value,∃ e:Int,v=.tuple #[s,.int .i64 e]:=by
   cases hp2:bC name with
   | none=>rw [hp2] at hv;exact ⟨_,_,hv⟩
   | some l=>
    rw [hp2] at hv;obtain ⟨a,c,rfl,T,n1⟩:=hv;exact ⟨_,_,rfl⟩
  obtain ⟨s,e,rfl⟩:=hv;(conv=>whnf);refine aj.t rfl ?_;(conv=>whnf);exact ⟨(k1.trans k2).mono m0,3,rfl,aT,cT,L,H2,.inl ⟨.inl hp1,rfl⟩⟩
 | some l1=>
  rw [hp1] at hv;obtain ⟨a,c,rfl,T,n1⟩:=hv;(conv=>whnf);refine ak.i (vg name hp h1) λv h2 k2 hv=>?_;have H2:=H1.keep k2 (by simp);have z2:=k2.size;cases hp2:bC name with
  | none=>
   rw [hp2] at hv;have hv:v=.tuple #[.slice none 0 0,.int .i64 3]:=hv;subst hv;(conv=>whnf);refine aj.t rfl ?_;(conv=>whnf);exact ⟨(k1.trans k2).mono m0,3,rfl,aT,cT,L,H2,.inl ⟨.inr hp2,rfl⟩⟩
  | some l2=>
   rw [hp2] at hv;obtain ⟨a2,c2,rfl,T2,n2⟩:=hv;have np1:bC old≠none:=by rw [hp1];simp
   have np2:bC name≠none:=by rw [hp2];simp
   (conv=>whnf);refine aj.f rfl ?_;(conv=>whnf);refine ak.i (zJ H2 W.w W.dl old ho) λv h3 k3 hv=>?_;subst hv;have H3:=H2.keep k3 (by simp);have z3:=k3.size;have k03:=(k1.trans k2).trans k3;unfold wW;by_cases h0:(bB (aO (aB L)) old).2.2.2=0
   ·obtain ⟨d,nm,nd,P⟩:=pY W.w h0;rw [P.is];(conv=>whnf);refine aj.f rfl ?_;by_cases hnd:nd=0
    ·subst hnd;(conv=>whnf);refine aj.t rfl ?_;(conv=>whnf);exact ⟨k03.mono m0,4,rfl,aT,cT,L,H3,.inr ⟨np1,np2,.inr ⟨d,nm,0,P,.inl ⟨rfl,rfl⟩⟩⟩⟩
    ·(conv=>whnf);refine aj.f (by simp [hnd]) ?_;(conv=>whnf);refine ak.i (zJ H3 W.w W.dl name hp) λv h4 k4 hv=>?_;subst hv;have H4:=H3.keep k4 (by simp);have z4:=k4.size;have k04:=k03.trans k4;unfold wW;by_cases hq4:(bB (aO (aB L)) name).2.2.2=0
     ·obtain ⟨f,nm2,nd2,P2⟩:=pY W.w hq4;rw [P2.is];(conv=>whnf);refine aj.f rfl ?_;by_cases hnn:nd2=nd
      ·(conv=>whnf);refine aj.t (by simp [hnn]) ?_;(conv=>whnf);exact ⟨k04.mono m0,0,rfl,aT,cT,L,H4,.inr ⟨np1,np2,.inr ⟨d,nm,nd,P,.inr ⟨hnd,.inr ⟨f,nm2,nd2,P2,.inl ⟨hnn,rfl,rfl⟩⟩⟩⟩⟩⟩
      ·(conv=>whnf);refine aj.f (by simp [hnn]) ?_;obtain ⟨en,hen,hen1,hen2,hin⟩:=P.there W.w hnd;obtain ⟨hpt,hkl,hkn,_⟩:=vz (W.w.dir d P.inn P.kind).2.2 hen;obtain ⟨k,hk,bT,eZ,ek,ek2,dx,bO,oT,hle,hzb,hcl⟩:=H4.node hin;(conv=>whnf);refine ax.o H4.tr rfl ?_;(conv=>whnf);refine aX.i k ek hk bO ?_;(conv=>whnf);refine ax.i (hcl 1 (by decide)) ?_;(conv=>whnf);refine aj.i (λhc=>?_) (λhc=>?_)
       case' refine_1=>
        have hkd:(tn (aB L) nd).kind=2:=by rw [dx];simpa using hc
        (conv=>whnf);refine ak.i (NE W.w hr P2.kind _ nd _ (Nat.lt_succ_self _) hin hkd H4) λv h5 k5 hv=>?_;obtain ⟨b,rfl,hb⟩:=hv;have H5:=H4.keep k5 (by simp);have k05:=k04.trans k5;have hB:b=true↔((tn (aB L) nd).kind=2/\fF (aB L) f nd):=⟨λh=>⟨hkd,hb.1 h⟩,λh=>hb.2 h.2⟩;cases b
       case' refine_1.true=>
        (conv=>whnf);refine aj.t (by rw [hc];rfl) ?_;(conv=>whnf);refine ⟨k05.mono m0,1,rfl,aT,cT,L,H5,.inr ⟨np1,np2,.inr ⟨d,nm,nd,P,.inr ⟨hnd,.inr ⟨f,nm2,nd2,P2,.inr (.inl ⟨hnn,hB.1 rfl,rfl⟩)⟩⟩⟩⟩⟩
       case' refine_1.false=>
        (conv=>whnf);refine aj.f (by simp) ?_;have hnb:¬ ((tn (aB L) nd).kind=2/\fF (aB L) f nd):=λh=>by have:=hB.2 h;cases this
       case' refine_2=>
        (conv=>whnf);refine aj.f (by rw [hc];rfl) ?_;have hnb:¬ ((tn (aB L) nd).kind=2/\fF (aB L) f nd):=λh=>by rw [dx] at h;rw [h.1] at hc;cases hc
        have H5:=H4;have k05:=k04
       all_goals
        have z5:=k05.size;by_cases hn2:nd2=0
        ·subst hn2;(conv=>whnf);refine aj.f rfl ?_;have hd:=P.inn;have hd1:=hd.1;have hd2:=hd.2;rw [nZ] at hd2;have e1:d=((d.toNat:Nat):Int):=by omega
         have hkd:d.toNat<L.length:=by omega
         have rJ:tn (aB L) d=(L[d.toNat]'hkd).nd:=by have:=vk hkd;rw [<-e1] at this;exact this
         have ad:=NH H5 (by omega) hkd P.len (by rw [<-rJ];exact hpt);rw [<-e1] at ad;(conv=>whnf);refine ak.m ad (by simp [au]) λv h6 k6 hv=>?_;obtain ⟨rfl,a6,c6,H6⟩:=hv;have z6:=k6.size;have hT6:aB (L.set d.toNat ⟨{ (L[d.toNat]'hkd).nd with names:=(L[d.toNat]'hkd).nd.names.eraseIdx (aP (L[d.toNat]'hkd).nd.names nm) },a6,((L[d.toNat]'hkd).nd.names.eraseIdx (aP (L[d.toNat]'hkd).nd.names nm)).length,c6⟩)=bJ (aB L) d { tn (aB L) d with names:=(tn (aB L) d).names.eraseIdx (aP (tn (aB L) d).names nm) }:=by
          rw [oK,rJ];rfl
         have few6:∀ x∈L.set d.toNat ⟨{ (L[d.toNat]'hkd).nd with names:=(L[d.toNat]'hkd).nd.names.eraseIdx (aP (L[d.toNat]'hkd).nd.names nm) },a6,((L[d.toNat]'hkd).nd.names.eraseIdx (aP (L[d.toNat]'hkd).nd.names nm)).length,c6⟩,x.nd.names.length<105:=by
          intro x hx;rcases List.mem_or_eq_of_mem_set hx with hx|rfl
          ·exact W.few x hx
          ·have q1:=W.few _ (List.getElem_mem hkd);have q2:=(List.eraseIdx_sublist (L[d.toNat]'hkd).nd.names (aP (L[d.toNat]'hkd).nd.names nm)).length_le;show ((L[d.toNat]'hkd).nd.names.eraseIdx (aP (L[d.toNat]'hkd).nd.names nm)).length<105;omega
         have len6:(L.set d.toNat ⟨{ (L[d.toNat]'hkd).nd with names:=(L[d.toNat]'hkd).nd.names.eraseIdx (aP (L[d.toNat]'hkd).nd.names nm) },a6,((L[d.toNat]'hkd).nd.names.eraseIdx (aP (L[d.toNat]'hkd).nd.names nm)).length,c6⟩).length=L.length:=List.length_set;generalize L.set d.toNat ⟨{ (L[d.toNat]'hkd).nd with names:=(L[d.toNat]'hkd).nd.names.eraseIdx (aP (L[d.toNat]'hkd).nd.names nm) },a6,((L[d.toNat]'hkd).nd.names.eraseIdx (aP (L[d.toNat]'hkd).nd.names nm)).length,c6⟩=L2 at H6 hT6 few6 len6;have hf:=P2.inn;have hf1:=hf.1;have hf2:=hf.2;rw [nZ] at hf2;have f1:f=((f.toNat:Nat):Int):=by omega
         have kF:f.toNat<L2.length:=by omega
         have NI:tn (aB L2) f=(L2[f.toNat]'kF).nd:=by have:=vk kF;rw [<-f1] at this;exact this
         have hpn:dA (L2[f.toNat]'kF).nd.names nm2=false:=by
          rw [<-NI,hT6,lQ P.inn _ (by omega)];by_cases pQ:f=d
          ·subst pQ;rw [if_pos rfl];exact xu (tN (W.w.dir _ P2.inn P2.kind).2.2 _) (M8 (P2.new W.w) _)
          ·rw [if_neg pQ];exact P2.wQ W.w
         have hnr:=hin.1;have hnr2:=hin.2;rw [nZ] at hnr2;have af:=GJ H6 (by omega) kF (by omega) P2.len P2.name hpn (x:=nd) ⟨by omega,by omega⟩ (few6 _ (List.getElem_mem kF));rw [<-f1] at af;(conv=>whnf);refine ak.m af (by simp [au]) λv h7 k7 hv=>?_;obtain ⟨rfl,a7,c7,H7⟩:=hv;(conv=>whnf);refine ⟨((k05.mono m0).trans (k6.mono (by intro x hx;simp [hx]))).trans (k7.mono (by intro x hx;simp [hx])),0,rfl,aT,cT,_,H7,.inr ⟨np1,np2,.inr ⟨d,nm,nd,P,.inr ⟨hnd,.inr ⟨f,nm2,0,P2,.inr (.inr (.inr ⟨rfl,hnb,rfl,?_⟩))⟩⟩⟩⟩⟩;rw [oK,<-hT6,NI];rfl
        ·(conv=>whnf);refine aj.t (by simp [hn2]) ?_;(conv=>whnf);refine ⟨k05.mono m0,5,rfl,aT,cT,L,H5,.inr ⟨np1,np2,.inr ⟨d,nm,nd,P,.inr ⟨hnd,.inr ⟨f,nm2,nd2,P2,.inr (.inr (.inl ⟨hnn,hnb,hn2,rfl⟩))⟩⟩⟩⟩⟩
     ·(conv=>whnf);refine aj.t (by simp [hq4]) ?_;(conv=>whnf);exact ⟨k04.mono m0,_,rfl,aT,cT,L,H4,.inr ⟨np1,np2,.inr ⟨d,nm,nd,P,.inr ⟨hnd,.inl ⟨hq4,rfl⟩⟩⟩⟩⟩
   ·(conv=>whnf);refine aj.t (by simp [h0]) ?_;(conv=>whnf);exact ⟨k03.mono m0,_,rfl,aT,cT,L,H3,.inr ⟨np1,np2,.inl ⟨h0,rfl⟩⟩⟩
theorem ba_eq (x y:List UInt8):((ByteArray.mk x.toArray).toList==(ByteArray.mk y.toArray).toList)=decide (x=y):=by
 rw [yg];refine decide_eq_decide.2 ⟨λe=>?_,λe=>by rw [e]⟩;have:=congrArg (λb:ByteArray=>b.data.toList) e;simpa using this
theorem NZ (n:Nat)(hn:n<=1000000)(h:Heap):aC Tryz.prog 148 [.int .i64 (n:Int)] h (λv h'=>Keeps [] h h'/\v=.string ⟨(zeros n).toArray⟩):=by
 refine aG aH Tryz.func148 rfl ok148 (by simp [Tryz.f148]) ?_;(conv=>whnf);refine aW.make (n:=n) rfl rfl rfl rfl rfl (by show 1*n<=_;omega) (by omega) λb1 h1 e1 s1 o1 k1=>?_;(conv=>whnf);refine aW.textOf (l:=zeros n) rfl rfl rfl (by simp [zeros]) (λj hj=>?_) ?_
 ·have hj':j<n:=by simpa [zeros] using hj
  simp only [Heap.cell?,o1,Nat.zero_add];simp [zeros,hj']
 (conv=>whnf);exact ⟨k1,rfl⟩
theorem Xg (s:List UInt8)(hs:s.length<=2688)(at_ n:Int)(h:Heap):aC Tryz.prog 100 [.string ⟨s.toArray⟩,.int .i64 at_,.int .i64 n] h (λv h'=>Keeps [] h h'/\v=.tuple #[.string ⟨(jd s at_ n).1.toArray⟩,.int .i64 (jd s at_ n).2]):=by
 have hb:=kz s;refine aG aH Tryz.func100 rfl ok100 (by simp [Tryz.f100]) ?_;(conv=>whnf);refine aj.i (λhc=>?_) (λhc=>?_)
 ·have h1:at_<0\/n<0\/4096<n:=by simp [dm] at hc;omega
  (conv=>whnf);unfold jd;rw [if_pos h1];exact ⟨Keeps.refl _ _,rfl⟩
 ·have h1:¬ (at_<0\/n<0\/4096<n):=by simp [dm] at hc;omega
  (conv=>whnf);refine aj.i (λhd=>?_) (λhd=>?_)
  ·have h2:(s.length:Int)<=at_:=by
    have:at_>=((ByteArray.mk s.toArray).size:Int):=by simpa using hd
    rw [hb] at this;exact this
   (conv=>whnf);unfold jd;rw [if_neg h1,if_pos h2];exact ⟨Keeps.refl _ _,rfl⟩
  ·have h2:¬ (s.length:Int)<=at_:=by
    have:¬ at_>=((ByteArray.mk s.toArray).size:Int):=by simpa using hd
    rw [hb] at this;exact this
   (conv=>whnf);refine dw.i at_.toNat (min (s.length:Int) (at_+n)).toNat (by omega) (by rw [hb,dR (by omega) (by omega)];split <;> omega) (by omega) (by rw [hb];omega) ?_;(conv=>whnf);refine ⟨Keeps.refl _ _,?_⟩;unfold jd;rw [if_neg h1,if_neg h2,qR]
theorem Xj (s:List UInt8)(hs:s.length<=2688)(size:Int)(h:Heap):aC Tryz.prog 99 [.string ⟨s.toArray⟩,.int .i64 size] h (λv h'=>Keeps [] h h'/\v=.tuple #[.string ⟨(ic s size).1.toArray⟩,.int .i64 (ic s size).2]):=by
 have hb:=kz s;refine aG aH Tryz.func99 rfl ok99 (by simp [Tryz.f99]) ?_;(conv=>whnf);refine aj.i (λhc=>?_) (λhc=>?_)
 ·have h1:size<0:=by simpa using hc
  (conv=>whnf);unfold ic;rw [if_pos h1];exact ⟨Keeps.refl _ _,rfl⟩
 ·have h1:¬ size<0:=by simpa using hc
  (conv=>whnf);refine aj.i (λhd=>?_) (λhd=>?_)
  ·have h2:2688<size:=by simp at hd;omega
   (conv=>whnf);unfold ic;rw [if_neg h1,if_pos h2];exact ⟨Keeps.refl _ _,rfl⟩
  ·have h2:¬ 2688<size:=by simp at hd;omega
   (conv=>whnf);refine aj.i (λhe=>?_) (λhe=>?_)
   ·have h3:size<=(s.length:Int):=by
     have:size<=((ByteArray.mk s.toArray).size:Int):=by simpa using he
     rw [hb] at this;exact this
    (conv=>whnf);refine dw.i 0 size.toNat rfl (by omega) (Nat.zero_le _) (by rw [hb];omega) ?_;(conv=>whnf);refine ⟨Keeps.refl _ _,?_⟩;unfold ic;rw [if_neg h1,if_neg h2,if_pos h3,qR];rfl
   ·have h3:¬ size<=(s.length:Int):=by
     have:¬ size<=((ByteArray.mk s.toArray).size:Int):=by simpa using he
     rw [hb] at this;exact this
    have hw:IntKind.i64.wrap (size-((ByteArray.mk s.toArray).size:Int))=((size.toNat-s.length:Nat):Int):=by
     rw [hb,wrapN (n:=size.toNat-s.length) (by omega) (by omega)]
    (conv=>whnf);rw [hw];refine ak.i (NZ (size.toNat-s.length) (by omega) h) λv h1 k1 hv=>?_;subst hv;(conv=>whnf);refine dL.i (by rw [kz,kz];simp [zeros];omega) ?_;(conv=>whnf);refine ⟨k1,?_⟩;unfold ic;rw [if_neg (by omega),if_neg h2,if_neg h3,uD]
theorem Xh (s:List UInt8)(hs:s.length<=2688)(at_:Int)(data:List UInt8)(hdl:data.length<=140737488351232)(h:Heap):aC Tryz.prog 98 [.string ⟨s.toArray⟩,.int .i64 at_,.string ⟨data.toArray⟩] h (λv h'=>Keeps [] h h'/\v=.tuple #[.string ⟨(fu s at_ data).1.toArray⟩,.int .i64 (fu s at_ data).2]):=by
 have hb:=kz s;have hbd:=kz data;refine aG aH Tryz.func98 rfl ok98 (by simp [Tryz.f98]) ?_;(conv=>whnf);refine aj.i (λhc=>?_) (λhc=>?_)
 ·have h1:at_<0\/400<data.length:=by
   simp [dm] at hc;rcases hc with h|h
   ·exact .inl h
   ·right
    have:(400:Int)<((ByteArray.mk data.toArray).size:Int):=h;rw [hbd] at this;omega
  (conv=>whnf);unfold fu;rw [if_pos h1];exact ⟨Keeps.refl _ _,rfl⟩
 ·have h1':¬ (at_<0\/400<data.length):=by
   simp [dm] at hc;rintro (h|h)
   ·omega
   ·have h':=hc.2;have:((ByteArray.mk data.toArray).size:Int)<=400:=h';rw [hbd] at this;omega
  (conv=>whnf);refine aj.i (λhd=>?_) (λhd=>?_)
  ·have h2:data=[]:=by
    have:=ba_eq data [];rw [show ((ByteArray.mk data.toArray).toList==(ByteArray.mk ([]:List UInt8).toArray).toList)=true from hd] at this;simpa using this.symm
   (conv=>whnf);unfold fu;rw [if_neg h1',if_pos h2];exact ⟨Keeps.refl _ _,rfl⟩
  ·have h2:¬ data=[]:=by
    have:=ba_eq data [];rw [show ((ByteArray.mk data.toArray).toList==(ByteArray.mk ([]:List UInt8).toArray).toList)=false from hd] at this;simpa using this.symm
   have hw:IntKind.i64.wrap (2688-((ByteArray.mk data.toArray).size:Int))=2688-(data.length:Int):=by
    rw [hbd,dR (by omega) (by omega)]
   (conv=>whnf);refine aj.i (λhe=>?_) (λhe=>?_)
   ·have h3:2688-(data.length:Int)<at_:=by rw [hw] at he;simpa using he
    (conv=>whnf);unfold fu;rw [if_neg h1',if_neg h2,if_pos h3];exact ⟨Keeps.refl _ _,rfl⟩
   ·have h3:¬ 2688-(data.length:Int)<at_:=by rw [hw] at he;simpa using he
    obtain ⟨a,rfl⟩:∃ a:Nat,at_=(a:Int):=⟨at_.toNat,by omega⟩;have hadd:IntKind.i64.wrap ((a:Int)+((ByteArray.mk data.toArray).size:Int))=((a+data.length:Nat):Int):=by
     rw [hbd,wrapN (n:=a+data.length) (by simp) (by omega)]
    (conv=>whnf);refine aV.pass ?_;(conv=>whnf);refine aj.i (λhf=>?c1) (λhf=>?c2)
    case' c1=>
     have h4:s.length<a+data.length:=by
      rw [hadd,hb] at hf;have:(s.length:Int)<((a+data.length:Nat):Int):=by simpa using hf
      omega
     have hw2:IntKind.i64.wrap (IntKind.i64.wrap ((a:Int)+((ByteArray.mk data.toArray).size:Int))-((ByteArray.mk s.toArray).size:Int))=((a+data.length-s.length:Nat):Int):=by
      rw [hadd,hb,wrapN (n:=a+data.length-s.length) (by omega) (by omega)]
     (conv=>whnf);rw [hw2];refine ak.i (NZ (a+data.length-s.length) (by omega) h) λv h1 k1 hv=>?_;subst hv;(conv=>whnf);refine dL.i (by rw [kz,kz];simp [zeros];omega) ?_;have hs1:(ByteArray.mk s.toArray++⟨(zeros (a+data.length-s.length)).toArray⟩)=⟨(s++zeros (a+data.length-s.length)).toArray⟩:=uD _ _;rw [hs1]
    case' c2=>
     have h4:¬ s.length<a+data.length:=by
      rw [hadd,hb] at hf;have:¬ (s.length:Int)<((a+data.length:Nat):Int):=by simpa using hf
      omega
     obtain ⟨h1,rfl⟩:∃ x,x=h:=⟨_,rfl⟩;have k1:Keeps [] h1 h1:=Keeps.refl _ _;have hs1:s=s++zeros (a+data.length-s.length):=by
      rw [show a+data.length-s.length=0 by omega];simp [zeros]
     rw [show (ByteArray.mk s.toArray)=⟨(s++zeros (a+data.length-s.length)).toArray⟩ from congrArg (λl:List UInt8=>ByteArray.mk l.toArray) hs1]
    all_goals
     obtain ⟨w,GQ⟩:∃ w,w=s++zeros (a+data.length-s.length):=⟨_,rfl⟩;rw [<-GQ];have hwl:a+data.length<=w.length/\w.length<=2688:=by
      rw [GQ,List.length_append];simp only [zeros,List.length_replicate];omega
     have hbw:=kz w;(conv=>whnf);refine dw.i 0 a rfl rfl (Nat.zero_le _) (by rw [hbw];omega) ?_;rw [qR];(conv=>whnf);refine dL.i (by rw [kz,kz,List.length_drop,List.length_take];omega) ?_;rw [uD];(conv=>whnf);refine dw.i (a+data.length) w.length hadd (by rw [hbw]) hwl.1 (by rw [hbw];omega) ?_;rw [qR];(conv=>whnf);refine dL.i (by rw [kz,kz,List.length_append,List.length_drop,List.length_take,List.length_drop,List.length_take];omega) ?_;(conv=>whnf);refine ⟨k1,?_⟩;rw [uD];unfold fu;rw [if_neg h1',if_neg h2,if_neg h3,Int.toNat_natCast,<-GQ,List.take_of_length_le (Nat.le_refl w.length),List.drop_zero]
def tE (T:List aD)(path:List UInt8):Int:=if (aR (aO T) path true).2=0/\(tn T (aR (aO T) path true).1).kind=2 then 7 else (aR (aO T) path true).2
def tX (T:List aD)(path:List UInt8):Int:=(aR (aO T) path true).1
theorem Ct {T:List aD}{path:List UInt8}(h:tE T path=0):(aR (aO T) path true).2=0/\(tn T (tX T path)).kind≠2:=by
 unfold tE at h;split at h
 ·cases h
 ·rename_i hn;exact ⟨h,λhk=>hn ⟨h,hk⟩⟩
theorem GI {h:Heap}{z t:Nat}{aT:Option Addr}{cT:Nat}{L:List bY}(H:dh h z t aT cT L)(W:mg L)(path:List UInt8)(hp:path.length<=1048576) :
 aC Tryz.prog 97 [.pointer (some ⟨t,0,none⟩),.string (ba path)] h (λv h'=>Keeps [] h h'/\∃ x:Int,v=.tuple #[.int .i64 x,.int .i64 (tE (aB L) path)]/\(tE (aB L) path=0->x=tX (aB L) path)):=by
 refine aG aH Tryz.func97 rfl ok97 (by simp [Tryz.f97]) ?_;(conv=>whnf);refine ak.i (zI H W.w W.dl path hp true) λv h1 k1 hv=>?_;subst hv;have H1:=H.keep k1 (by simp);unfold tE tX;by_cases h0:(aR (aO (aB L)) path true).2=0
 ·have hin:=tF W.w h0;generalize aR (aO (aB L)) path true=p at h0 hin ⊢;obtain ⟨x,px⟩:=p;simp only at h0 hin;subst h0;obtain ⟨k,hk,bT,eZ,ek,ek2,dx,bO,oT,hle,hzb,hcl⟩:=H1.node hin;(conv=>whnf);refine ax.o H1.tr rfl ?_;(conv=>whnf);refine aX.i k ek hk bO ?_;(conv=>whnf);refine ax.i (hcl 1 (by decide)) ?_;by_cases hk2:(L[k]'hk).nd.kind=2
  ·(conv=>whnf);refine aj.t (by simp [hk2]) ?_;(conv=>whnf);refine ⟨k1,0,?_,λh=>?_⟩
   ·rw [if_pos ⟨rfl,by rw [dx];exact hk2⟩]
   ·rw [if_pos ⟨rfl,by rw [dx];exact hk2⟩] at h;cases h
  ·(conv=>whnf);refine aj.f (by simp [hk2]) ?_;(conv=>whnf);refine ⟨k1,x,?_,λh=>rfl⟩;rw [if_neg (λh=>hk2 (by rw [<-dx];exact h.2))]
 ·have hne:((aR (aO (aB L)) path true).2==0)=false:=by simp [h0]
  (conv=>whnf);refine ax.o H1.tr rfl ?_;(conv=>whnf);refine aX.u 0 0 0 (λh=>by rw [hne] at h;cases h) ?_;(conv=>whnf);refine ax.u (.int .i64 0) (λh=>by rw [hne] at h;cases h) ?_;(conv=>whnf);refine aj.f (by rw [hne];rfl) ?_;(conv=>whnf);refine ⟨k1,_,?_,λh=>rfl⟩;rw [if_neg (λh=>h0 h.1)]
theorem Xa {h:Heap}{z t:Nat}{aT:Option Addr}{cT:Nat}{L:List bY}(H:dh h z t aT cT L)(W:mg L)(path:List UInt8)(hp:path.length<=1048576)(at_ n:Int) :
 aC Tryz.prog 52 [.pointer (some ⟨t,0,none⟩),.string (ba path),.int .i64 at_,.int .i64 n] h (λv h'=>Keeps [] h h'/\v=(if tE (aB L) path=0 then .tuple #[.string (ba (jd (tn (aB L) (tX (aB L) path)).data at_ n).1),.int .i64 (jd (tn (aB L) (tX (aB L) path)).data at_ n).2] else .tuple #[.string (ba []),.int .i64 (tE (aB L) path)])):=by
 refine aG aH Tryz.func52 rfl ok52 (by simp [Tryz.f52]) ?_;(conv=>whnf);refine ak.i (GI H W path hp) λv h1 k1 hv=>?_;obtain ⟨x,rfl,hx⟩:=hv;have H1:=H.keep k1 (by simp);by_cases h0:tE (aB L) path=0
 ·obtain ⟨e1,e2⟩:=Ct h0;have hin:=tF W.w e1;have hpa:=W.pa path true e1;have hx0:=hx h0;subst hx0;rw [if_pos h0,h0];obtain ⟨k,hk,bT,eZ,ek,ek2,dx,bO,oT,hle,hzb,hcl⟩:=H1.node hin;(conv=>whnf);refine aj.f rfl ?_;(conv=>whnf);refine ax.o H1.tr rfl ?_;(conv=>whnf);refine aX.i k ek hk bO ?_;(conv=>whnf);refine ax.i (hcl 3 (by decide)) ?_;(conv=>whnf);refine ak.i (Xg (L[k]'hk).nd.data (by rw [<-dx];exact hpa) at_ n h1) λv h2 k2 hv=>?_;subst hv;(conv=>whnf);refine ⟨k1.trans k2,?_⟩;have:tn (aB L) (tX (aB L) path)=(L[k]'hk).nd:=dx;rw [this];rfl
 ·rw [if_neg h0];(conv=>whnf);refine aj.t (by simp [h0]) ?_;(conv=>whnf);exact ⟨k1,rfl⟩
def mD (T:List aD)(path:List UInt8)(r:List UInt8->List UInt8×Int)(e:Int)(T':List aD):Prop:=
 (tE T path≠0/\e=tE T path)\/(tE T path=0/\(r (tn T (tX T path)).data).2≠0/\e=(r (tn T (tX T path)).data).2) \/
 (tE T path=0/\(r (tn T (tX T path)).data).2=0/\e=0/\T'=bJ T (tX T path) { tn T (tX T path) with data:=(r (tn T (tX T path)).data).1 })
theorem WZ {h:Heap}{z t:Nat}{aT:Option Addr}{cT:Nat}{L:List bY}(H:dh h z t aT cT L)(W:mg L)(path:List UInt8)(hp:path.length<=1048576)(at_:Int)(data:List UInt8)(hd:data.length<=140737488351232) :
 aC Tryz.prog 50 [.pointer (some ⟨t,0,none⟩),.string (ba path),.int .i64 at_,.string (ba data)] h (λv h'=>Keeps (t::ay aT) h h'/\∃ e:Int,v=.int .i64 e/\∃ dY d9 L',dh h' z t dY d9 L'/\mD (aB L) path (λs=>fu s at_ data) e (aB L')):=by
 have m0:∀ x∈([]:List Nat),x∈t::ay aT:=by simp
 refine aG aH Tryz.func50 rfl ok50 (by simp [Tryz.f50]) ?_;(conv=>whnf);refine ak.i (GI H W path hp) λv h1 k1 hv=>?_;obtain ⟨x,rfl,hx⟩:=hv;have H1:=H.keep k1 (by simp);by_cases h0:tE (aB L) path=0
 ·obtain ⟨e1,e2⟩:=Ct h0;have hin:=tF W.w e1;have hpa:=W.pa path true e1;have hx0:=hx h0;subst hx0;rw [h0];obtain ⟨k,hk,bT,eZ,ek,ek2,dx,bO,oT,hle,hzb,hcl⟩:=H1.node hin;have om:tn (aB L) (tX (aB L) path)=(L[k]'hk).nd:=dx;have wU:(tX (aB L) path).toNat=k:=ek2;(conv=>whnf);refine aj.f rfl ?_;(conv=>whnf);refine ax.o H1.tr rfl ?_;(conv=>whnf);refine aX.i k ek hk bO ?_;(conv=>whnf);refine ax.i (hcl 3 (by decide)) ?_;(conv=>whnf);refine ak.i (Xh (L[k]'hk).nd.data (by rw [<-dx];exact hpa) at_ data hd h1) λv h2 k2 hv=>?_;subst hv;have H2:=H1.keep k2 (by simp);have oT2:=k2.obj oT (by simp);unfold mD;rw [om];simp only;generalize fu (L[k]'hk).nd.data at_ data=r at *;obtain ⟨s,e⟩:=r;simp only;(conv=>whnf);(try refine aV.pass ?_;conv=>whnf);refine aj.i (λhc=>?_) (λhc=>?_)
  ·have he:e=0:=by simpa using hc
   subst he;(conv=>whnf);refine ax.o H2.tr rfl ?_;(conv=>whnf);refine aX.i k ek hk bO ?_;(conv=>whnf);refine dN.i oT2 ?_ (by simp [au]) λh3 s3 o3 k3=>?_
   ·show 0+k*5+3+1<=eZ.length;omega
   have nQ:h3[bT]?=some (.cells ⟨bF (k*5+3) [.string (ba s)] eZ⟩ 77 (0,0)):=by
    have:0+k*5+3=k*5+3:=by omega
    rw [<-this];exact o3
   have H3:=H2.set hk bO oT2 k3 (j:=3) (by decide) nQ ⟨{ (L[k]'hk).nd with data:=s },(L[k]'hk).a,(L[k]'hk).n,(L[k]'hk).c⟩ rfl (by obtain ⟨n1,n2,n3,n4,n5⟩:=H2.jH _ (List.getElem_mem hk);exact ⟨n1,n2,n3,n4,n5⟩);(conv=>whnf);refine ⟨((k1.trans k2).mono m0).gQ k3 (λy hy=>by
    have:y=bT:=by simpa using hy
    left;rw [bO];simp [ay,this]),0,rfl,aT,cT,_,H3,.inr (.inr ⟨h0,rfl,rfl,?_⟩)⟩
   rw [oK];unfold bJ;rw [wU]
  ·have he:e≠0:=by simpa using hc
   (conv=>whnf);exact ⟨(k1.trans k2).mono m0,e,rfl,aT,cT,L,H2,.inr (.inl ⟨h0,he,rfl⟩)⟩
 ·(conv=>whnf);refine aj.t (by simp [h0]) ?_;(conv=>whnf);exact ⟨k1.mono m0,_,rfl,aT,cT,L,H1,.inl ⟨h0,rfl⟩⟩
theorem W9 {h:Heap}{z t:Nat}{aT:Option Addr}{cT:Nat}{L:List bY}(H:dh h z t aT cT L)(W:mg L)(path:List UInt8)(hp:path.length<=1048576)(size:Int) :
 aC Tryz.prog 51 [.pointer (some ⟨t,0,none⟩),.string (ba path),.int .i64 size] h (λv h'=>Keeps (t::ay aT) h h'/\∃ e:Int,v=.int .i64 e/\∃ dY d9 L',dh h' z t dY d9 L'/\mD (aB L) path (λs=>ic s size) e (aB L')):=by
 have m0:∀ x∈([]:List Nat),x∈t::ay aT:=by simp
 refine aG aH Tryz.func51 rfl ok51 (by simp [Tryz.f51]) ?_;(conv=>whnf);refine ak.i (GI H W path hp) λv h1 k1 hv=>?_;obtain ⟨x,rfl,hx⟩:=hv;have H1:=H.keep k1 (by simp);by_cases h0:tE (aB L) path=0
 ·obtain ⟨e1,e2⟩:=Ct h0;have hin:=tF W.w e1;have hpa:=W.pa path true e1;have hx0:=hx h0;subst hx0;rw [h0];obtain ⟨k,hk,bT,eZ,ek,ek2,dx,bO,oT,hle,hzb,hcl⟩:=H1.node hin;have om:tn (aB L) (tX (aB L) path)=(L[k]'hk).nd:=dx;have wU:(tX (aB L) path).toNat=k:=ek2;(conv=>whnf);refine aj.f rfl ?_;(conv=>whnf);refine ax.o H1.tr rfl ?_;(conv=>whnf);refine aX.i k ek hk bO ?_;(conv=>whnf);refine ax.i (hcl 3 (by decide)) ?_;(conv=>whnf);refine ak.i (Xj (L[k]'hk).nd.data (by rw [<-dx];exact hpa) size h1) λv h2 k2 hv=>?_;subst hv;have H2:=H1.keep k2 (by simp);have oT2:=k2.obj oT (by simp);unfold mD;rw [om];simp only;generalize ic (L[k]'hk).nd.data size=r at *;obtain ⟨s,e⟩:=r;simp only;(conv=>whnf);(try refine aV.pass ?_;conv=>whnf);refine aj.i (λhc=>?_) (λhc=>?_)
  ·have he:e=0:=by simpa using hc
   subst he;(conv=>whnf);refine ax.o H2.tr rfl ?_;(conv=>whnf);refine aX.i k ek hk bO ?_;(conv=>whnf);refine dN.i oT2 ?_ (by simp [au]) λh3 s3 o3 k3=>?_
   ·show 0+k*5+3+1<=eZ.length;omega
   have nQ:h3[bT]?=some (.cells ⟨bF (k*5+3) [.string (ba s)] eZ⟩ 77 (0,0)):=by
    have:0+k*5+3=k*5+3:=by omega
    rw [<-this];exact o3
   have H3:=H2.set hk bO oT2 k3 (j:=3) (by decide) nQ ⟨{ (L[k]'hk).nd with data:=s },(L[k]'hk).a,(L[k]'hk).n,(L[k]'hk).c⟩ rfl (by obtain ⟨n1,n2,n3,n4,n5⟩:=H2.jH _ (List.getElem_mem hk);exact ⟨n1,n2,n3,n4,n5⟩);(conv=>whnf);refine ⟨((k1.trans k2).mono m0).gQ k3 (λy hy=>by
    have:y=bT:=by simpa using hy
    left;rw [bO];simp [ay,this]),0,rfl,aT,cT,_,H3,.inr (.inr ⟨h0,rfl,rfl,?_⟩)⟩
   rw [oK];unfold bJ;rw [wU]
  ·have he:e≠0:=by simpa using hc
   (conv=>whnf);exact ⟨(k1.trans k2).mono m0,e,rfl,aT,cT,L,H2,.inr (.inl ⟨h0,he,rfl⟩)⟩
 ·(conv=>whnf);refine aj.t (by simp [h0]) ?_;(conv=>whnf);exact ⟨k1.mono m0,_,rfl,aT,cT,L,H1,.inl ⟨h0,rfl⟩⟩
theorem Xc {h:Heap}{z t:Nat}{aT:Option Addr}{cT:Nat}{L:List bY}(H:dh h z t aT cT L)(W:mg L)(path:List UInt8)(hp:path.length<=1048576) :
 aC Tryz.prog 53 [.pointer (some ⟨t,0,none⟩),.string (ba path)] h (λv h'=>Keeps [] h h'/\v=(if (aR (aO (aB L)) path false).2=0 then .tuple #[.agg #[.int .i64 0,.int .i64 (tn (aB L) (aR (aO (aB L)) path false).1).kind,.int .i64 (tn (aB L) (aR (aO (aB L)) path false).1).links,.int .i64 ((((tn (aB L) (aR (aO (aB L)) path false).1).data.length+(tn (aB L) (aR (aO (aB L)) path false).1).names.length:Nat):Int))],.int .i64 0] else .tuple #[.agg #[.int .i64 0,.int .i64 0,.int .i64 0,.int .i64 0],.int .i64 (aR (aO (aB L)) path false).2])):=by
 refine aG aH Tryz.func53 rfl ok53 (by simp [Tryz.f53]) ?_;(conv=>whnf);refine aL.i λb0 h0 e0 s0 o0 k0=>?_;(conv=>whnf);refine ak.i (zI (H.keep k0 (by simp)) W.w W.dl path hp false) λv h1 k1 hv=>?_;subst hv;have k01:=k0.trans k1;have H1:=H.keep k01 (by simp);have o1:=k1.obj o0 (by simp);by_cases h0:(aR (aO (aB L)) path false).2=0
 ·have hin:=tF W.w h0;have hpa:=W.pa path false h0;rw [if_pos h0];generalize aR (aO (aB L)) path false=p at h0 hin hpa ⊢;obtain ⟨x,px⟩:=p;simp only at h0 hin hpa ⊢;subst h0;obtain ⟨k,hk,bT,eZ,ek,ek2,dx,bO,oT,hle,hzb,hcl⟩:=H1.node hin;obtain ⟨n1,n2,n3,n4,n5⟩:=H1.jH _ (List.getElem_mem hk);rw [dx] at hpa ⊢;(conv=>whnf);refine aj.f rfl ?_;(conv=>whnf);refine ax.o H1.tr rfl ?_;(conv=>whnf);refine aX.i k ek hk bO ?_;(conv=>whnf);refine fq.i (vs:=(L[k]'hk).cells) rfl (λj hj=>hcl j hj) ?_;(conv=>whnf);refine aL.i λb2 h2 e2 s2 o2 k2=>?_;(conv=>whnf);refine aK.i λh3 s3 k3=>?_;(conv=>whnf);refine aK.i λh4 s4 k4=>?_;(conv=>whnf);have z0:=k0.size;have z1:=k1.size;have z2:=k2.size;have z3:=k3.size;refine ⟨((k01.trans k2).new1 k3 (by omega)).new1 k4 (by omega),?_⟩;have hlen:(ba (L[k]'hk).nd.data).size=(L[k]'hk).nd.data.length:=wV _;have ew:IntKind.i64.wrap (((ba (L[k]'hk).nd.data).size:Int)+((L[k]'hk).n:Int))=((((L[k]'hk).nd.data.length+(L[k]'hk).nd.names.length:Nat):Int)):=by
   rw [hlen,n1];exact wrapN (by omega) (by omega)
  show Value.tuple #[.agg #[.int .i64 0,.int .i64 _,.int .i64 _,.int .i64 (IntKind.i64.wrap (((ba (L[k]'hk).nd.data).size:Int)+((L[k]'hk).n:Int)))],.int .i64 0]=_;rw [ew]
 ·rw [if_neg h0];(conv=>whnf);refine aj.t (by simp [h0]) ?_;(conv=>whnf);refine aK.i λh2 s2 k2=>?_;(conv=>whnf);have z0:=k0.size;have z1:=k1.size;exact ⟨k01.new1 k2 (by omega),rfl⟩
theorem Xd {h:Heap}{z t:Nat}{aT:Option Addr}{cT:Nat}{L:List bY}(H:dh h z t aT cT L)(W:mg L)(path:List UInt8)(hp:path.length<=1048576) :
 aC Tryz.prog 54 [.pointer (some ⟨t,0,none⟩),.string (ba path)] h (λv h'=>Keeps [] h h'/\v=(if (aR (aO (aB L)) path false).2=0 then (if (tn (aB L) (aR (aO (aB L)) path false).1).kind=3 then .tuple #[.string (ba (tn (aB L) (aR (aO (aB L)) path false).1).data),.int .i64 0] else .tuple #[.string (ba []),.int .i64 1]) else .tuple #[.string (ba []),.int .i64 (aR (aO (aB L)) path false).2])):=by
 refine aG aH Tryz.func54 rfl ok54 (by simp [Tryz.f54]) ?_;(conv=>whnf);refine ak.i (zI H W.w W.dl path hp false) λv h1 k1 hv=>?_;subst hv;have H1:=H.keep k1 (by simp);by_cases h0:(aR (aO (aB L)) path false).2=0
 ·have hin:=tF W.w h0;rw [if_pos h0];generalize aR (aO (aB L)) path false=p at h0 hin ⊢;obtain ⟨x,px⟩:=p;simp only at h0 hin ⊢;subst h0;obtain ⟨k,hk,bT,eZ,ek,ek2,dx,bO,oT,hle,hzb,hcl⟩:=H1.node hin;rw [dx];(conv=>whnf);refine aj.f rfl ?_;(conv=>whnf);refine ax.o H1.tr rfl ?_;(conv=>whnf);refine aX.i k ek hk bO ?_;(conv=>whnf);refine ax.i (hcl 1 (by decide)) ?_;by_cases h3:(L[k]'hk).nd.kind=3
  ·rw [if_pos h3];(conv=>whnf);refine aj.f (by simp [h3]) ?_;(conv=>whnf);refine ax.o H1.tr rfl ?_;(conv=>whnf);refine aX.i k ek hk bO ?_;(conv=>whnf);refine ax.i (hcl 3 (by decide)) ?_;(conv=>whnf);exact ⟨k1,rfl⟩
  ·rw [if_neg h3];(conv=>whnf);refine aj.t (by simp [h3]) ?_;(conv=>whnf);exact ⟨k1,rfl⟩
 ·rw [if_neg h0];(conv=>whnf);refine aj.t (by simp [h0]) ?_;(conv=>whnf);exact ⟨k1,rfl⟩
def fH (l:List aF):List (List UInt8):=l.map (·.name)
theorem pR (l:List aF):(fH l).length=l.length:=by simp [fH]
def Ng (h h':Heap)(l:List (List UInt8))(v:Value)(e:Int):Prop:=∃ a c,v=.tuple #[.slice a l.length c,.int .i64 e]/\Own h' 9 1 a l.length c ((bq l).map λx=>.string x)/\∀ b∈ay a,h.size<=b
def lE (T:List aD)(path:List UInt8):Int:=if (aR (aO T) path true).2=0/\(tn T (aR (aO T) path true).1).kind≠2 then 6 else (aR (aO T) path true).2
theorem Gr {h:Heap}{a:Option Addr}{n c:Nat}{l:List (List UInt8)}(O:Own h 9 1 a n c ((bq l).map λx=>.string x))(hn:n=l.length)(hb:n<=10000){s:List UInt8}{b:Nat}(o:Heap.cell? h b 0=some (.string (ba s))){bs:List Nat}(hbs:∀ z∈ay a,z∉bs){ty:TypeId}{c2:Nat}{K:Value->Heap->Prop}
 (H:∀ a' c' h',Own h' 9 1 a' (n+1) c' ((bq (l++[s])).map λx=>.string x)->Keeps (ay a) h h'->(∀ z∈ay a',z∈ay a\/h.size<=z)->K (.slice a' (n+1) c') h') :
 aW Tryz.prog (Builtin.append_ #[52,52] ty ⟨[.slice a n c,.slice (some ⟨b,0,none⟩) 1 c2]⟩) bs h K:=by
 refine jO (e:=9) (sz:=1) (aQ:=16) (new:=[.string (ba s)]) rfl rfl rfl rfl rfl rfl rfl O rfl (λj hj=>?_) rfl (by omega) (by decide) hbs ?_
 ·have hj0:j=0:=by simpa using hj
  subst hj0;exact o
 intro a' c' h' O' k' n';refine H a' c' h' ?_ k' n';have:bq (l++[s])=bq l++[ba s]:=by simp [bq]
 rw [this,List.map_append];exact O'
theorem Xe {h:Heap}{z t:Nat}{aT:Option Addr}{cT:Nat}{L:List bY}(H:dh h z t aT cT L)(W:mg L)(path:List UInt8)(hp:path.length<=1048576) :
 aC Tryz.prog 55 [.pointer (some ⟨t,0,none⟩),.string (ba path)] h (λv h'=>Keeps [] h h'/\Ng h h' (if lE (aB L) path=0 then fH (tn (aB L) (tX (aB L) path)).names else []) v (lE (aB L) path)):=by
 refine aG aH Tryz.func55 rfl ok55 (by simp [Tryz.f55]) ?_;(conv=>whnf);refine ak.i (zI H W.w W.dl path hp true) λv h1 k1 hv=>?_;subst hv;have z1:=k1.size;have H1:=H.keep k1 (by simp);by_cases h0:(aR (aO (aB L)) path true).2=0
 ·have hin:=tF W.w h0;obtain ⟨k,hk,bT,eZ,ek,ek2,dx,bO,oT,hle,hzb,hcl⟩:=H1.node hin;obtain ⟨n1,n2,n3,n4,n5⟩:=H1.jH _ (List.getElem_mem hk);have S:=kr n2 n4 (by omega);(conv=>whnf);(try refine aV.pass ?_;conv=>whnf);refine ax.o H1.tr rfl ?_;(conv=>whnf);refine aX.i k ek hk bO ?_;(conv=>whnf);refine ax.i (hcl 1 (by decide)) ?_;by_cases hk2:(L[k]'hk).nd.kind=2
  ·have hl:lE (aB L) path=0:=by unfold lE;rw [if_neg (λh=>h.2 (by rw [dx];exact hk2))];exact h0
   have hN:(if lE (aB L) path=0 then fH (tn (aB L) (tX (aB L) path)).names else [])=fH (L[k]'hk).nd.names:=by rw [if_pos hl];unfold tX;rw [dx]
   rw [hN,hl];(conv=>whnf);refine aj.f (by simp [hk2]) ?_;(conv=>whnf);refine aj.f (by simp [h0]) ?_;(conv=>whnf);refine bP.on [0,6,8,9] [] (λq:Nat×Option Addr×Nat=>[(0,.v (.pointer (some ⟨t,0,none⟩))),(6,.v (.int .i64 (aR (aO (aB L)) path true).1)),(8,.v (.slice q.2.1 q.1 q.2.2)),(9,.v (.int .i64 (q.1:Int)))]) (λ_=>[])
    (λq h'=>q.1<=(L[k]'hk).nd.names.length/\Keeps [] h h'/\Own h' 9 1 q.2.1 q.1 q.2.2 ((bq ((fH (L[k]'hk).nd.names).take q.1)).map λx=>.string x)/\(∀ b∈ay q.2.1,h.size<=b)) (λq=>(L[k]'hk).nd.names.length-q.1) (0,none,0) ?_ ?_
   ·(conv=>whnf);exact ⟨(0,none,0),rfl,rfl,rfl,Nat.zero_le _,k1,.inl ⟨rfl,rfl,rfl,rfl⟩,λb hb=>(by cases hb)⟩
   ·rintro ⟨i,a,c⟩ h2 ⟨hi,k2,O2,nb2⟩;simp only at hi O2 nb2;have H2:=H.keep k2 (by simp);obtain ⟨k',hk',GH,CJ,wT,wU,om,qB,CK,hle',ND,hcl'⟩:=H2.node hin;have:k'=k:=by omega
    subst this;rw [bO] at qB;cases qB;obtain ⟨m1,m2,m3,m4,m5⟩:=H2.jH _ (List.getElem_mem hk);have S2:=kr m2 m4 (by omega);(conv=>whnf);refine ax.o H2.tr rfl ?_;(conv=>whnf);refine aX.i k' ek hk bO ?_;(conv=>whnf);refine ax.i (hcl' 4 (by decide)) ?_;(conv=>whnf);refine aj.i (λhd=>?_) (λhd=>?_)
    ·have hi1:i<(L[k']'hk).nd.names.length:=by rw [m1] at hd;simp at hd;omega
     obtain ⟨b6,o6,hb6,_,⟨rfl,hok⟩,hc6⟩:=S2.at_ i hi1;have hnl:i<(fH (L[k']'hk).nd.names).length:=by rw [pR];exact hi1
     have htl:((fH (L[k']'hk).nd.names).take i).length=i:=by rw [List.length_take];omega
     have hnx:(fH (L[k']'hk).nd.names).take (i+1)=(fH (L[k']'hk).nd.names).take i++[((L[k']'hk).nd.names[i]'hi1).name]:=by
      rw [List.take_succ_eq_append_getElem hnl];simp [fH]
     (conv=>whnf);refine ax.o H2.tr rfl ?_;(conv=>whnf);refine aX.i k' ek hk bO ?_;(conv=>whnf);refine ax.i (hcl' 4 (by decide)) ?_;(conv=>whnf);refine aX.i i rfl (by omega) hb6 ?_;(conv=>whnf);refine ax.i (hc6 0 (show 0<2 by decide)) ?_;(conv=>whnf);refine aL.i λb3 h3 e3 s3 o3 k3=>?_;(conv=>whnf);refine Gr (s:=((L[k']'hk).nd.names[i]'hi1).name) (O2.keep k3 (by simp)) htl.symm (by omega) (by simp only [Heap.cell?,o3];rfl) (by simp [au]) ?_;intro a4 c4 h4 O4 k4 n4;have ew:IntKind.i64.wrap ((i:Int)+1)=((i+1:Nat):Int):=wrapN (by simp) (by omega);have z2:=k2.size;have z3:=k3.size;(conv=>whnf);refine ⟨(L[k']'hk).nd.names.length-(i+1),by omega,?_⟩;(conv=>whnf);rw [ew];refine ⟨(i+1,a4,c4),rfl,rfl,rfl,hi1,(k2.trans k3).cZ k4 nb2,by rw [hnx];exact O4,λb hb=>?_⟩;rcases n4 b hb with h|h
     ·exact nb2 b h
     ·omega
    ·have hi1:i=(L[k']'hk).nd.names.length:=by rw [m1] at hd;simp at hd;omega
     (conv=>whnf);have ht:(fH (L[k']'hk).nd.names).take i=fH (L[k']'hk).nd.names:=by rw [hi1,<-pR,List.take_length]
     rw [ht,hi1,<-pR] at O2;exact ⟨k2,a,c,by rw [pR,hi1],O2,nb2⟩
  ·have hl:lE (aB L) path=6:=by unfold lE;rw [if_pos ⟨h0,by rw [dx];exact hk2⟩]
   rw [hl,if_neg (by decide)];(conv=>whnf);refine aj.t (by simp [hk2,h0]) ?_;(conv=>whnf);refine aj.t rfl ?_;(conv=>whnf);exact ⟨k1,none,0,rfl,.inl ⟨rfl,rfl,rfl,rfl⟩,λb hb=>(by cases hb)⟩
 ·have hne:((aR (aO (aB L)) path true).2==0)=false:=by simp [h0]
  have hl:lE (aB L) path=(aR (aO (aB L)) path true).2:=by unfold lE;rw [if_neg (λh=>h0 h.1)]
  have hN:(if lE (aB L) path=0 then fH (tn (aB L) (tX (aB L) path)).names else [])=[]:=by rw [if_neg (by rw [hl];exact h0)]
  rw [hN,hl];(conv=>whnf);(try refine aV.pass ?_;conv=>whnf);refine ax.o H1.tr rfl ?_;(conv=>whnf);refine aX.u 0 0 0 (λh=>by rw [hne] at h;cases h) ?_;(conv=>whnf);refine ax.u (.int .i64 0) (λh=>by rw [hne] at h;cases h) ?_;(conv=>whnf);refine aj.f (by rw [hne];rfl) ?_;(conv=>whnf);refine aj.t (by simp [h0]) ?_;(conv=>whnf);exact ⟨k1,none,0,rfl,.inl ⟨rfl,rfl,rfl,rfl⟩,λb hb=>(by cases hb)⟩
structure cK where
 kind:Int
 path:List UInt8
 path2:List UInt8
 data:List UInt8
 at_:Int
 n:Int
def cK.cells (c:cK):List Value:=[.int .i64 c.kind,.string (ba c.path),.string (ba c.path2),.string (ba c.data),.int .i64 c.at_,.int .i64 c.n]
def cK.ok (c:cK):Prop:=inI64 c.kind/\c.path.length<=140737488351232/\c.path2.length<=140737488351232/\c.data.length<=140737488351232/\inI64 c.at_/\inI64 c.n
structure dz where
 err:Int
 data:List UInt8
 k:Int
 l:Int
 s:Int
 names:List (List UInt8)
def bI (e:Int):dz:=⟨e,[],0,0,0,[]⟩
def kU (l:List (List UInt8)):List aF:=l.map λx=>⟨x,0⟩
theorem Nz (l:List (List UInt8)):(kU l).length=l.length:=by simp [kU]
def zu (e:Int)(d:List UInt8)(k l s:Int)(a:Option Addr)(n c:Nat):Value:=.agg #[.int .i64 e,.int .i64 0,.string (ba d),.int .i64 0,.int .i64 k,.int .i64 l,.int .i64 s,.slice a n c]
def gq (r:dz):Prop:=(∀ x∈r.names,x.length<=140737488351232)/\r.names.length<=105
theorem gq.nil {r:dz}(h:r.names=[]):gq r:=⟨λx hx=>(by rw [h] at hx;cases hx),by rw [h];exact Nat.zero_le _⟩
def eF (h h':Heap)(r:dz)(v:Value):Prop:=∃ a c,v=zu r.err r.data r.k r.l r.s a r.names.length c/\Own h' 93 2 a r.names.length c (bV (kU r.names))/\(∀ b∈ay a,h.size<=b)
theorem eF.err (h h':Heap)(e:Int):eF h h' (bI e) (zu e [] 0 0 0 none 0 0):=⟨none,0,rfl,.inl ⟨rfl,rfl,rfl,rfl⟩,λb hb=>(by cases hb)⟩
theorem eF.flat (h h':Heap)(e:Int)(d:List UInt8)(k l s:Int):eF h h' ⟨e,d,k,l,s,[]⟩ (zu e d k l s none 0 0):=⟨none,0,rfl,.inl ⟨rfl,rfl,rfl,rfl⟩,λb hb=>(by cases hb)⟩
def nC (T:List aD)(c:cK):dz:=if tE T c.path=0 then ⟨(jd (tn T (tX T c.path)).data c.at_ c.n).2,(jd (tn T (tX T c.path)).data c.at_ c.n).1,0,0,0,[]⟩ else bI (tE T c.path)
def iU (T:List aD)(c:cK):dz:=if (aR (aO T) c.path false).2=0 then ⟨0,[],(tn T (aR (aO T) c.path false).1).kind,(tn T (aR (aO T) c.path false).1).links,(((tn T (aR (aO T) c.path false).1).data.length+(tn T (aR (aO T) c.path false).1).names.length:Nat):Int),[]⟩ else bI (aR (aO T) c.path false).2
def nD (T:List aD)(c:cK):dz:=if (aR (aO T) c.path false).2=0 then (if (tn T (aR (aO T) c.path false).1).kind=3 then ⟨0,(tn T (aR (aO T) c.path false).1).data,0,0,0,[]⟩ else bI 1) else bI (aR (aO T) c.path false).2
def pX (T:List aD)(c:cK):dz:=⟨lE T c.path,[],0,0,0,if lE T c.path=0 then fH (tn T (tX T c.path)).names else []⟩
def fw (T:List aD)(c:cK)(r:dz)(T':List aD):Prop:=
 if c.kind=4 then ∃ e,r=bI e/\mE T c.path 1 [] e T' else
 if c.kind=5 then ∃ e,r=bI e/\mE T c.path 2 [] e T' else
 if c.kind=6 then ∃ e,r=bI e/\vB T c.path c.path2 e T' else
 if c.kind=7 then ∃ e,r=bI e/\((bC c.path2=none/\e=3)\/(bC c.path2≠none/\mE T c.path 3 c.path2 e T')) else
 if c.kind=8 then ∃ e,r=bI e/\qC T c.path false e T' else
 if c.kind=9 then ∃ e,r=bI e/\qC T c.path true e T' else
 if c.kind=10 then ∃ e,r=bI e/\lM T c.path c.path2 e T' else
 if c.kind=11 then ∃ e,r=bI e/\mD T c.path (λs=>fu s c.at_ c.data) e T' else
 if c.kind=13 then ∃ e,r=bI e/\mD T c.path (λs=>ic s c.at_) e T' else
 if c.kind=12 then T'=T/\r=nC T c else
 if c.kind=14 then T'=T/\r=iU T c else
 if c.kind=16 then T'=T/\r=nD T c else
 if c.kind=15 then T'=T/\r=pX T c else
 T'=T/\r=bI 1
theorem rc4 {T:List aD}{c:cK}{r:dz}{T':List aD}(h:c.kind=4):fw T c r T'↔∃ e,r=bI e/\mE T c.path 1 [] e T':=by simp [fw,h]
theorem rc5 {T:List aD}{c:cK}{r:dz}{T':List aD}(h:c.kind=5):fw T c r T'↔∃ e,r=bI e/\mE T c.path 2 [] e T':=by simp [fw,h]
theorem rc6 {T:List aD}{c:cK}{r:dz}{T':List aD}(h:c.kind=6):fw T c r T'↔∃ e,r=bI e/\vB T c.path c.path2 e T':=by simp [fw,h]
theorem rc7 {T:List aD}{c:cK}{r:dz}{T':List aD}(h:c.kind=7):fw T c r T'↔∃ e,r=bI e/\((bC c.path2=none/\e=3)\/(bC c.path2≠none/\mE T c.path 3 c.path2 e T')):=by simp [fw,h]
theorem rc8 {T:List aD}{c:cK}{r:dz}{T':List aD}(h:c.kind=8):fw T c r T'↔∃ e,r=bI e/\qC T c.path false e T':=by simp [fw,h]
theorem rc9 {T:List aD}{c:cK}{r:dz}{T':List aD}(h:c.kind=9):fw T c r T'↔∃ e,r=bI e/\qC T c.path true e T':=by simp [fw,h]
theorem rc10 {T:List aD}{c:cK}{r:dz}{T':List aD}(h:c.kind=10):fw T c r T'↔∃ e,r=bI e/\lM T c.path c.path2 e T':=by simp [fw,h]
theorem rc11 {T:List aD}{c:cK}{r:dz}{T':List aD}(h:c.kind=11):fw T c r T'↔∃ e,r=bI e/\mD T c.path (λs=>fu s c.at_ c.data) e T':=by simp [fw,h]
theorem rc13 {T:List aD}{c:cK}{r:dz}{T':List aD}(h:c.kind=13):fw T c r T'↔∃ e,r=bI e/\mD T c.path (λs=>ic s c.at_) e T':=by simp [fw,h]
theorem rc12 {T:List aD}{c:cK}{r:dz}{T':List aD}(h:c.kind=12):fw T c r T'↔T'=T/\r=nC T c:=by simp [fw,h]
theorem rc14 {T:List aD}{c:cK}{r:dz}{T':List aD}(h:c.kind=14):fw T c r T'↔T'=T/\r=iU T c:=by simp [fw,h]
theorem rc16 {T:List aD}{c:cK}{r:dz}{T':List aD}(h:c.kind=16):fw T c r T'↔T'=T/\r=nD T c:=by simp [fw,h]
theorem rc15 {T:List aD}{c:cK}{r:dz}{T':List aD}(h:c.kind=15):fw T c r T'↔T'=T/\r=pX T c:=by simp [fw,h]
theorem rc0 {T:List aD}{c:cK}{r:dz}{T':List aD}(h:c.kind<4\/16<c.kind):fw T c r T'↔(T'=T/\r=bI 1):=by
 unfold fw;rw [if_neg (show ¬ c.kind=4 by omega)];rw [if_neg (show ¬ c.kind=5 by omega)];rw [if_neg (show ¬ c.kind=6 by omega)];rw [if_neg (show ¬ c.kind=7 by omega)];rw [if_neg (show ¬ c.kind=8 by omega)];rw [if_neg (show ¬ c.kind=9 by omega)];rw [if_neg (show ¬ c.kind=10 by omega)];rw [if_neg (show ¬ c.kind=11 by omega)];rw [if_neg (show ¬ c.kind=13 by omega)];rw [if_neg (show ¬ c.kind=12 by omega)];rw [if_neg (show ¬ c.kind=14 by omega)];rw [if_neg (show ¬ c.kind=16 by omega)];rw [if_neg (show ¬ c.kind=15 by omega)]
theorem dh.Xf {h:Heap}{z t:Nat}{aT:Option Addr}{cT:Nat}{L:List bY}(H:dh h z t aT cT L)(i:Int):(tn (aB L) i).names.length<=105/\∀ e∈(tn (aB L) i).names,e.ok:=by
 unfold tn aB;rw [List.getElem?_map];cases hx:L[i.toNat]? with
 | none=>exact ⟨Nat.zero_le _,λe he=>(by cases he)⟩
 | some x=>
  obtain ⟨_,_,_,n4,n5⟩:=H.jH x (List.mem_of_getElem? hx);exact ⟨n5,n4⟩
theorem Nf {h:Heap}{a:Option Addr}{n c:Nat}{l:List (List UInt8)}(O:Own h 93 2 a n c (bV (kU l)))(hn:n=l.length)(hb:n<=10000){s:List UInt8}{b:Nat}(o:∀ j,j<2->Heap.cell? h b j=[.string (ba s),.int .i64 0][j]?){bs:List Nat}(hbs:∀ z∈ay a,z∉bs){ty:TypeId}{c2:Nat}{K:Value->Heap->Prop}
 (H:∀ a' c' h',Own h' 93 2 a' (n+1) c' (bV (kU (l++[s])))->Keeps (ay a) h h'->(∀ z∈ay a',z∈ay a\/h.size<=z)->K (.slice a' (n+1) c') h') :
 aW Tryz.prog (Builtin.append_ #[38,38] ty ⟨[.slice a n c,.slice (some ⟨b,0,none⟩) 1 c2]⟩) bs h K:=by
 refine jO (e:=93) (sz:=2) (aQ:=24) (new:=[.string (ba s),.int .i64 0]) rfl rfl rfl rfl rfl rfl rfl O rfl (λj hj=>?_) rfl (by omega) (by decide) hbs ?_
 ·rw [Nat.zero_add];exact o j hj
 intro a' c' h' O' k' n';refine H a' c' h' ?_ k' n';have:kU (l++[s])=kU l++[⟨s,0⟩]:=by simp [kU]
 rw [this,Aw];exact O'
theorem dh.Cr {F:List Nat}{h h':Heap}{z t:Nat}{aT:Option Addr}{cT:Nat}{L:List bY}(H:dh h z t aT cT L)(k:Keeps F h h')(hF:∀ x∈F,∀ cs T fz,h[x]?=some (.cells cs T fz)->T≠80/\T≠77/\T≠93):dh h' z t aT cT L:=by
 exact ⟨k.obj H.tr (λhx=>(hF _ hx _ _ _ H.tr).1 rfl),H.own.keep k (λb hb hx=>by
  obtain ⟨cs,oc⟩:=oJ H.own b hb;exact (hF _ hx _ _ _ oc).2.1 rfl),λx hx=>by
  obtain ⟨n1,n2,n3,n4,n5⟩:=H.jH x hx;exact ⟨n1,n2.keep k (λb hb hx=>by
   obtain ⟨cs,oc⟩:=oJ n2 b hb;exact (hF _ hx _ _ _ oc).2.2 rfl),n3,n4,n5⟩,H.zt⟩
theorem dh.jm {b:Nat}{h h':Heap}{z t:Nat}{aT:Option Addr}{cT:Nat}{L:List bY}(H:dh h z t aT cT L)(k:Keeps [b] h h'){cs:Array Value}{T:TypeId}{fz:Nat×Nat}(o:h[b]?=some (.cells cs T fz))(hT:T≠80/\T≠77/\T≠93):dh h' z t aT cT L:=
 H.Cr k (λx hx cs' T' wI o'=>by
  have:x=b:=by simpa using hx
  subst this;rw [o] at o';cases o';exact hT)
theorem VJ {h:Heap}{z t:Nat}{aT:Option Addr}{cT:Nat}{L:List bY}(H:dh h z t aT cT L)(hz:z<=h.size)(W:mg L){rk:Int->Nat}(hr:zw (aB L) rk)(c:cK)(hc:c.ok)(hp:c.path.length<=1048576)(hp2:c.path2.length<=1048576) :
 aC Tryz.prog 16 [.pointer (some ⟨t,0,none⟩),.agg ⟨c.cells⟩] h (λv h'=>Keeps (t::ay aT) h h'/\∃ r,eF h h' r v/\gq r/\∃ dY d9 L',dh h' z t dY d9 L'/\fw (aB L) c r (aB L')):=by
 have m0:∀ x∈([]:List Nat),x∈t::ay aT:=by simp
 have hlt:∀ y∈t::ay aT,y<h.size:=λy hy=>by
  rcases List.mem_cons.1 hy with rfl|hy
  ·exact eU H.tr
  ·exact H.own.lt y hy
 refine aG aH Tryz.func16 rfl ok16 (by simp [Tryz.f16]) ?_;(conv=>whnf);refine aL.i λb1 h1 e1 s1 o1 k1=>?_;(conv=>whnf);refine aL.i λb2 h2 e2 s2 o2 k2=>?_;have z1:=k1.size;have z2:=k2.size;have k12:=k1.trans k2;have kk2:Keeps (t::ay aT) h h2:=k12.mono m0;have H2:=H.keep k12 (by simp);have hz2:z<=h2.size:=by omega
 have nb2:b2∉t::ay aT:=λhx=>by have:=hlt _ hx;omega
 have nb:∀ y,y=b1\/y=b2->y∉t::ay aT:=λy hy hx=>by have:=hlt _ hx;omega
 (conv=>whnf);(try refine aV.pass ?_;conv=>whnf);refine aj.i (λhd=>?_) (λhd4=>?_)
 ·have hk:c.kind=4:=by simpa using hd
  (conv=>whnf);refine ak.m (NA H2 hz2 W c.path hp (.inl rfl)) (λy hy=>nb y (by simpa [au,aZ] using hy)) λv h3 k3 hv=>?_;obtain ⟨e,rfl,dY,d9,L',H3,R⟩:=hv;have z3:=k3.size;have o3:=k3.obj o2 nb2;(conv=>whnf);refine aK.i λh4 s4 k4=>?_;(conv=>whnf);exact ⟨(kk2.trans k3).m1 k4 (by omega),bI e,eF.err _ _ e,gq.nil rfl,dY,d9,L',H3.jm k4 o3 (by decide),(rc4 hk).2 ⟨e,rfl,R⟩⟩
 ·skip;(conv=>whnf);(try refine aV.pass ?_;conv=>whnf);refine aj.i (λhd=>?_) (λhd5=>?_)
  ·have hk:c.kind=5:=by simpa using hd
   (conv=>whnf);refine ak.m (NA H2 hz2 W c.path hp (.inr rfl)) (λy hy=>nb y (by simpa [au,aZ] using hy)) λv h3 k3 hv=>?_;obtain ⟨e,rfl,dY,d9,L',H3,R⟩:=hv;have z3:=k3.size;have o3:=k3.obj o2 nb2;(conv=>whnf);refine aK.i λh4 s4 k4=>?_;(conv=>whnf);exact ⟨(kk2.trans k3).m1 k4 (by omega),bI e,eF.err _ _ e,gq.nil rfl,dY,d9,L',H3.jm k4 o3 (by decide),(rc5 hk).2 ⟨e,rfl,R⟩⟩
  ·skip;(conv=>whnf);(try refine aV.pass ?_;conv=>whnf);refine aj.i (λhd=>?_) (λhd6=>?_)
   ·have hk:c.kind=6:=by simpa using hd
    (conv=>whnf);refine ak.m (WW H2 hz2 W c.path c.path2 hp hp2) (λy hy=>nb y (by simpa [au,aZ] using hy)) λv h3 k3 hv=>?_;obtain ⟨e,rfl,dY,d9,L',H3,R⟩:=hv;have z3:=k3.size;have o3:=k3.obj o2 nb2;(conv=>whnf);refine aK.i λh4 s4 k4=>?_;(conv=>whnf);exact ⟨(kk2.trans k3).m1 k4 (by omega),bI e,eF.err _ _ e,gq.nil rfl,dY,d9,L',H3.jm k4 o3 (by decide),(rc6 hk).2 ⟨e,rfl,R⟩⟩
   ·skip;(conv=>whnf);(try refine aV.pass ?_;conv=>whnf);refine aj.i (λhd=>?_) (λhd7=>?_)
    ·have hk:c.kind=7:=by simpa using hd
     (conv=>whnf);refine ak.m (WX H2 hz2 W c.path c.path2 hp hp2) (λy hy=>nb y (by simpa [au,aZ] using hy)) λv h3 k3 hv=>?_;obtain ⟨e,rfl,dY,d9,L',H3,R⟩:=hv;have z3:=k3.size;have o3:=k3.obj o2 nb2;(conv=>whnf);refine aK.i λh4 s4 k4=>?_;(conv=>whnf);exact ⟨(kk2.trans k3).m1 k4 (by omega),bI e,eF.err _ _ e,gq.nil rfl,dY,d9,L',H3.jm k4 o3 (by decide),(rc7 hk).2 ⟨e,rfl,R⟩⟩
    ·skip;(conv=>whnf);(try refine aV.pass ?_;conv=>whnf);refine aj.i (λhd=>?_) (λhd8=>?_)
     ·have hk:c.kind=8:=by simpa using hd
      (conv=>whnf);refine ak.m (NC H2 hz2 W c.path hp false) (λy hy=>nb y (by simpa [au,aZ] using hy)) λv h3 k3 hv=>?_;obtain ⟨e,rfl,dY,d9,L',H3,R⟩:=hv;have z3:=k3.size;have o3:=k3.obj o2 nb2;(conv=>whnf);refine aK.i λh4 s4 k4=>?_;(conv=>whnf);exact ⟨(kk2.trans k3).m1 k4 (by omega),bI e,eF.err _ _ e,gq.nil rfl,dY,d9,L',H3.jm k4 o3 (by decide),(rc8 hk).2 ⟨e,rfl,R⟩⟩
     ·skip;(conv=>whnf);(try refine aV.pass ?_;conv=>whnf);refine aj.i (λhd=>?_) (λhd9=>?_)
      ·have hk:c.kind=9:=by simpa using hd
       (conv=>whnf);refine ak.m (NC H2 hz2 W c.path hp true) (λy hy=>nb y (by simpa [au,aZ] using hy)) λv h3 k3 hv=>?_;obtain ⟨e,rfl,dY,d9,L',H3,R⟩:=hv;have z3:=k3.size;have o3:=k3.obj o2 nb2;(conv=>whnf);refine aK.i λh4 s4 k4=>?_;(conv=>whnf);exact ⟨(kk2.trans k3).m1 k4 (by omega),bI e,eF.err _ _ e,gq.nil rfl,dY,d9,L',H3.jm k4 o3 (by decide),(rc9 hk).2 ⟨e,rfl,R⟩⟩
      ·skip;(conv=>whnf);(try refine aV.pass ?_;conv=>whnf);refine aj.i (λhd=>?_) (λhd10=>?_)
       ·have hk:c.kind=10:=by simpa using hd
        (conv=>whnf);refine ak.m (WY H2 hz2 W hr c.path c.path2 hp hp2) (λy hy=>nb y (by simpa [au,aZ] using hy)) λv h3 k3 hv=>?_;obtain ⟨e,rfl,dY,d9,L',H3,R⟩:=hv;have z3:=k3.size;have o3:=k3.obj o2 nb2;(conv=>whnf);refine aK.i λh4 s4 k4=>?_;(conv=>whnf);exact ⟨(kk2.trans k3).m1 k4 (by omega),bI e,eF.err _ _ e,gq.nil rfl,dY,d9,L',H3.jm k4 o3 (by decide),(rc10 hk).2 ⟨e,rfl,R⟩⟩
       ·skip;(conv=>whnf);(try refine aV.pass ?_;conv=>whnf);refine aj.i (λhd=>?_) (λhd11=>?_)
        ·have hk:c.kind=11:=by simpa using hd
         (conv=>whnf);refine ak.m (WZ H2 W c.path hp c.at_ c.data hc.2.2.2.1) (λy hy=>nb y (by simpa [au,aZ] using hy)) λv h3 k3 hv=>?_;obtain ⟨e,rfl,dY,d9,L',H3,R⟩:=hv;have z3:=k3.size;have o3:=k3.obj o2 nb2;(conv=>whnf);refine aK.i λh4 s4 k4=>?_;(conv=>whnf);exact ⟨(kk2.trans k3).m1 k4 (by omega),bI e,eF.err _ _ e,gq.nil rfl,dY,d9,L',H3.jm k4 o3 (by decide),(rc11 hk).2 ⟨e,rfl,R⟩⟩
        ·skip;(conv=>whnf);(try refine aV.pass ?_;conv=>whnf);refine aj.i (λhd=>?_) (λhd13=>?_)
         ·have hk:c.kind=13:=by simpa using hd
          (conv=>whnf);refine ak.m (W9 H2 W c.path hp c.at_) (λy hy=>nb y (by simpa [au,aZ] using hy)) λv h3 k3 hv=>?_;obtain ⟨e,rfl,dY,d9,L',H3,R⟩:=hv;have z3:=k3.size;have o3:=k3.obj o2 nb2;(conv=>whnf);refine aK.i λh4 s4 k4=>?_;(conv=>whnf);exact ⟨(kk2.trans k3).m1 k4 (by omega),bI e,eF.err _ _ e,gq.nil rfl,dY,d9,L',H3.jm k4 o3 (by decide),(rc13 hk).2 ⟨e,rfl,R⟩⟩
         ·skip;(conv=>whnf);(try refine aV.pass ?_;conv=>whnf);refine aj.i (λhd=>?_) (λhd12=>?_)
          ·have hk:c.kind=12:=by simpa using hd
           (conv=>whnf);refine ak.i (Xa H2 W c.path hp c.at_ c.n) λv h3 k3 hv=>?_;have z3:=k3.size;have o3:=k3.obj o2 (by simp);have H3:=H2.keep k3 (by simp);have kk3:Keeps (t::ay aT) h h3:=kk2.trans (k3.mono m0);have hv:v=.tuple #[.string (ba (nC (aB L) c).data),.int .i64 (nC (aB L) c).err]/\nC (aB L) c=⟨(nC (aB L) c).err,(nC (aB L) c).data,0,0,0,[]⟩:=by
            unfold nC;split at hv
            ·rename_i h0;rw [if_pos h0];exact ⟨hv,rfl⟩
            ·rename_i h0;rw [if_neg h0];exact ⟨hv,rfl⟩
           obtain ⟨rfl,hq⟩:=hv;generalize hQ:nC (aB L) c=q at hq;(conv=>whnf);refine aK.i λh4 s4 k4=>?_;(conv=>whnf);refine ⟨kk3.m1 k4 (by omega),q,?_,gq.nil (by rw [hq]),aT,cT,L,H3.jm k4 o3 (by decide),(rc12 hk).2 ⟨rfl,hQ.symm⟩⟩;rw [hq];exact eF.flat _ _ _ _ 0 0 0
          ·skip;(conv=>whnf);(try refine aV.pass ?_;conv=>whnf);refine aj.i (λhd=>?_) (λhd14=>?_)
           ·have hk:c.kind=14:=by simpa using hd
            (conv=>whnf);refine ak.i (Xc H2 W c.path hp) λv h3 k3 hv=>?_;have z3:=k3.size;have o3:=k3.obj o2 (by simp);have H3:=H2.keep k3 (by simp);have kk3:Keeps (t::ay aT) h h3:=kk2.trans (k3.mono m0);have hv:v=.tuple #[.agg #[.int .i64 0,.int .i64 (iU (aB L) c).k,.int .i64 (iU (aB L) c).l,.int .i64 (iU (aB L) c).s],.int .i64 (iU (aB L) c).err]/\iU (aB L) c=⟨(iU (aB L) c).err,[],(iU (aB L) c).k,(iU (aB L) c).l,(iU (aB L) c).s,[]⟩:=by
             unfold iU;split at hv
             ·rename_i h0;rw [if_pos h0];exact ⟨hv,rfl⟩
             ·rename_i h0;rw [if_neg h0];exact ⟨hv,rfl⟩
            obtain ⟨rfl,hq⟩:=hv;generalize hQ:iU (aB L) c=q at hq;(conv=>whnf);refine aL.i λb5 h5 e5 s5 o5 k5=>?_;(conv=>whnf);refine aK.i λh6 s6 k6=>?_;have k36:Keeps [] h3 h6:=k5.new1 k6 (by omega);have z36:=k36.size;have o6:=k36.obj o3 (by simp);(conv=>whnf);refine aK.i λh7 s7 k7=>?_;(conv=>whnf);refine ⟨(kk3.trans (k36.mono m0)).m1 k7 (by omega),q,?_,gq.nil (by rw [hq]),aT,cT,L,(H3.keep k36 (by simp)).jm k7 o6 (by decide),(rc14 hk).2 ⟨rfl,hQ.symm⟩⟩;rw [hq];exact eF.flat _ _ _ _ _ _ _
           ·skip;(conv=>whnf);(try refine aV.pass ?_;conv=>whnf);refine aj.i (λhd=>?_) (λhd16=>?_)
            ·have hk:c.kind=16:=by simpa using hd
             (conv=>whnf);refine ak.i (Xd H2 W c.path hp) λv h3 k3 hv=>?_;have z3:=k3.size;have o3:=k3.obj o2 (by simp);have H3:=H2.keep k3 (by simp);have kk3:Keeps (t::ay aT) h h3:=kk2.trans (k3.mono m0);have hv:v=.tuple #[.string (ba (nD (aB L) c).data),.int .i64 (nD (aB L) c).err]/\nD (aB L) c=⟨(nD (aB L) c).err,(nD (aB L) c).data,0,0,0,[]⟩:=by
              unfold nD;split at hv
              ·rename_i h0;rw [if_pos h0];split at hv
               ·rename_i h1;rw [if_pos h1];exact ⟨hv,rfl⟩
               ·rename_i h1;rw [if_neg h1];exact ⟨hv,rfl⟩
              ·rename_i h0;rw [if_neg h0];exact ⟨hv,rfl⟩
             obtain ⟨rfl,hq⟩:=hv;generalize hQ:nD (aB L) c=q at hq;(conv=>whnf);refine aK.i λh4 s4 k4=>?_;(conv=>whnf);refine ⟨kk3.m1 k4 (by omega),q,?_,gq.nil (by rw [hq]),aT,cT,L,H3.jm k4 o3 (by decide),(rc16 hk).2 ⟨rfl,hQ.symm⟩⟩;rw [hq];exact eF.flat _ _ _ _ 0 0 0
            ·skip;(conv=>whnf);(try refine aV.pass ?_;conv=>whnf);refine aj.i (λhd=>?_) (λhd15=>?_)
             ·have hk:c.kind=15:=by simpa using hd
              (conv=>whnf);refine ak.i (Xe H2 W c.path hp) λv h3 k3 hv=>?_;have z3:=k3.size;have o3:=k3.obj o2 (by simp);have H3:=H2.keep k3 (by simp);have kk3:Keeps (t::ay aT) h h3:=kk2.trans (k3.mono m0);have hL:pX (aB L) c=⟨lE (aB L) c.path,[],0,0,0,if lE (aB L) c.path=0 then fH (tn (aB L) (tX (aB L) c.path)).names else []⟩:=rfl;generalize hE:lE (aB L) c.path=e at hL hv;have hnl:(∀ x∈(if e=0 then fH (tn (aB L) (tX (aB L) c.path)).names else []),x.length<=140737488351232)/\(if e=0 then fH (tn (aB L) (tX (aB L) c.path)).names else []).length<=105:=by
               obtain ⟨q1,q2⟩:=H.Xf (tX (aB L) c.path);split
               ·refine ⟨λx hx=>?_,by rw [pR];exact q1⟩;obtain ⟨y,hy,rfl⟩:=List.mem_map.1 hx;exact (q2 y hy).1
               ·exact ⟨λx hx=>(by cases hx),Nat.zero_le _⟩
              generalize Y9:(if e=0 then fH (tn (aB L) (tX (aB L) c.path)).names else [])=l at hL hnl hv;obtain ⟨a3,c3,rfl,O3,n3⟩:=hv;obtain ⟨hnl,hl105⟩:=hnl;have S3:=Cu O3 (by omega) hnl;(conv=>whnf);refine aL.i λb5 h5 e5 s5 o5 k5=>?_;(conv=>whnf);refine aK.i λh6 s6 k6=>?_;have k36:Keeps [] h3 h6:=k5.new1 k6 (by omega);have z36:=k36.size;have o6:=k36.obj o3 (by simp);(conv=>whnf);refine bP.on [4,11,13,14] [4,13] (λq:Nat×Option Addr×Nat=>[(4,.lp 4 0),(11,.v (.slice a3 l.length c3)),(13,.lp 13 0),(14,.v (.int .i64 (q.1:Int)))]) (λq=>[(4,b2,[.int .i64 0,.int .i64 0,.string ⟨#[]⟩,.int .i64 0,.int .i64 0,.int .i64 0,.int .i64 0,.slice none 0 0]),(13,b5,[.int .i64 e,.int .i64 0,.string ⟨#[]⟩,.int .i64 0,.int .i64 0,.int .i64 0,.int .i64 0,.slice q.2.1 q.1 q.2.2])]) (λq h7=>q.1<=l.length/\Keeps [] h3 h7/\h6.size<=h7.size/\Own h7 93 2 q.2.1 q.1 q.2.2 (bV (kU (l.take q.1)))/\∀ b∈ay q.2.1,h6.size<=b) (λq=>l.length-q.1) (0,none,0) ?_ ?_
              ·(conv=>whnf);exact ⟨(0,none,0),rfl,rfl,rfl,Nat.zero_le _,k36,Nat.le_refl _,.inl ⟨rfl,rfl,rfl,rfl⟩,λb hb=>(by cases hb)⟩
              ·rintro ⟨i,a7,c7⟩ h7 ⟨hi,k7,z7,O7,n7⟩;simp only at hi O7 n7;(conv=>whnf);refine aj.i (λhi1=>?_) (λhi1=>?_)
               ·have hi1:i<l.length:=by simpa using hi1
                obtain ⟨b8,o8,hb8,_,hc8⟩:=(S3.keep k7).at1 i (by rw [fE];exact hi1);have e8:(bq l)[i]'(by rw [fE];exact hi1)=ba (l[i]'hi1):=by simp [bq]
                rw [e8] at hc8;(conv=>whnf);refine aX.i i rfl hi1 hb8 ?_;(conv=>whnf);refine ax.i hc8 ?_;(conv=>whnf);refine aL.i λb9 h9 e9 s9 o9 k9=>?_;(conv=>whnf);refine Nf (s:=l[i]'hi1) (l:=l.take i) (O7.keep k9 (by simp)) (by rw [List.length_take];omega) (by omega) (λj hj=>?_) (λy hy hx=>?_) ?_
                ·simp only [Heap.cell?,o9];have:j=0\/j=1:=by omega
                 rcases this with rfl|rfl <;> rfl
                ·have:=n7 y hy;simp [au,aZ] at hx;omega
                ·intro a10 c10 h10 O10 k10 n10;have z9:=k9.size;have ew:IntKind.i64.wrap ((i:Int)+1)=((i+1:Nat):Int):=wrapN (by simp) (by omega);have ht:l.take (i+1)=l.take i++[l[i]'hi1]:=List.take_succ_eq_append_getElem hi1;have z10:=k10.size;(conv=>whnf);refine aK.i λh11 s11 k11=>?_;(conv=>whnf);refine ⟨l.length-(i+1),by omega,?_⟩;(conv=>whnf);rw [ew];have z11:=k11.size;have zG:∀ b∈ay a10,h6.size<=b:=λb hb=>by
                  rcases n10 b hb with h|h
                  ·exact n7 b h
                  ·omega
                 refine ⟨(i+1,a10,c10),rfl,rfl,rfl,hi1,(((k7.trans k9).cZ k10 (λb hb=>by have:=n7 b hb;omega)).new1 k11 (by omega)),by omega,?_,zG⟩;simp only;rw [ht];exact O10.keep k11 (λb hb hx=>by have:=zG b hb;simp at hx;omega)
               ·have hi1:i=l.length:=by simp at hi1;omega
                rw [hi1,List.take_length] at O7;subst hi1;(conv=>whnf);refine aK.i λh8 s8 k8=>?_;(conv=>whnf);exact ⟨(kk3.trans (k7.mono m0)).m1 k8 (by omega),_,⟨a7,c7,rfl,O7.keep k8 (λb hb hx=>by have:=n7 b hb;simp at hx;omega),λb hb=>by have:=n7 b hb;omega⟩,⟨hnl,hl105⟩,aT,cT,L,(H3.keep k7 (by simp)).jm k8 (k7.obj o3 (by simp)) (by decide),(rc15 hk).2 ⟨rfl,hL.symm⟩⟩
             ·skip;(conv=>whnf);(try refine aV.pass ?_;conv=>whnf);refine aK.i λh4 s4 k4=>?_;(conv=>whnf);have hn4:c.kind≠4:=by simpa using hd4
              have hn5:c.kind≠5:=by simpa using hd5
              have hn6:c.kind≠6:=by simpa using hd6
              have hn7:c.kind≠7:=by simpa using hd7
              have hn8:c.kind≠8:=by simpa using hd8
              have hn9:c.kind≠9:=by simpa using hd9
              have hn10:c.kind≠10:=by simpa using hd10
              have hn11:c.kind≠11:=by simpa using hd11
              have hn13:c.kind≠13:=by simpa using hd13
              have hn12:c.kind≠12:=by simpa using hd12
              have hn14:c.kind≠14:=by simpa using hd14
              have hn16:c.kind≠16:=by simpa using hd16
              have hn15:c.kind≠15:=by simpa using hd15
              exact ⟨(kk2).m1 k4 (by omega),bI 1,eF.err _ _ 1,gq.nil rfl,aT,cT,L,H2.jm k4 o2 (by decide),(rc0 (by omega)).2 ⟨rfl,rfl⟩⟩
theorem Nv:∀ L:List bY,gV (gm L)=true
 | []=>rfl
 | x::L=>Nv L
theorem VH {h:Heap}{z t:Nat}{aT:Option Addr}{cT:Nat}{L:List bY}(H:dh h z t aT cT L)(h2:2<=L.length)(hlen:L.length<=100000) :
 aC Tryz.prog 14 [.pointer (some ⟨t,0,none⟩)] h (λv h'=>Keeps [] h h'/\∃ t' dY d9 L',v=.pointer (some ⟨t',0,none⟩)/\dh h' h.size t' dY d9 L'/\aB L'=aB L):=by
 obtain ⟨bT,eZ,bO,oT,hle,hzb,hcl⟩:=H.blk (k:=0) (by omega);refine aG aH Tryz.func14 rfl ok14 (by simp [Tryz.f14]) ?_;(conv=>whnf);refine ax.o H.tr rfl ?_;have hn:(gm L).length=L.length*5:=ol L;have htk:eZ.take (gm L).length=gm L:=by
  obtain ⟨b',cs',ha',o',_,ht',_⟩:=u7 H.own (k:=0) (by rw [ol];omega);rw [bO] at ha';cases ha';rw [oT] at o';cases o';exact ht'
 (conv=>whnf);rw [bO];refine jO (e:=77) (sz:=5) (aQ:=64) (new:=gm L) (l:=[]) rfl rfl rfl rfl rfl rfl rfl (.inl ⟨rfl,rfl,rfl,rfl⟩) hn ?_ (Nv L) (by omega) (by decide) (by simp [ay]) ?_
 ·intro j hj;unfold Heap.cell?;rw [oT];have:(gm L)[j]?=(eZ.take (gm L).length)[j]?:=by rw [htk]
  rw [this,List.getElem?_take,if_pos hj,Nat.zero_add];simp
 intro a1 c1 h1 O1 k1 n1;have k1:Keeps [] h h1:=k1;have n1:∀ b∈ay a1,h.size<=b:=λb hb=>by
  rcases n1 b hb with h|h
  ·simp [ay] at h
  ·exact h
 rw [List.nil_append,Nat.zero_add] at O1;have z1:=k1.size;(conv=>whnf);rw [Nat.zero_add];refine aL.i λt2 h2 e2 s2 o2 k2=>?_;have z2:=k2.size;have O2:=O1.keep k2 (by simp);(conv=>whnf);refine bP.on [3,4] [] (λq:Nat×List bY=>[(3,.v (.pointer (some ⟨t2,0,none⟩))),(4,.v (.int .i64 (q.1:Int)))]) (λ_=>[])
  (λq h5=>q.1<=L.length/\Keeps [] h h5/\h5[t2]?=some (.cells ⟨[.slice a1 L.length c1]⟩ 80 (0,0))/\q.2.length=L.length/\aB q.2=aB L/\Own h5 77 5 a1 L.length c1 (gm q.2)/\(∀ (j:Nat) (hj:j<q.2.length),j<q.1->Gz h5 h.size (q.2[j]'hj))/\∀ j,q.1<=j->q.2[j]?=L[j]?) (λq=>L.length-q.1) (0,L) ?_ ?_
 ·(conv=>whnf);exact ⟨(0,L),rfl,rfl,rfl,Nat.zero_le _,k1.trans k2,o2,rfl,rfl,O2,λj hj h=>(by omega),λ_ _=>rfl⟩
 ·rintro ⟨i,Lc⟩ h5 ⟨hi,k5,o5,l5,d5,O5,m5,r5⟩;simp only at hi l5 d5 O5 m5 r5;have H5:=H.keep k5 (by simp);(conv=>whnf);refine ax.o o5 rfl ?_;(conv=>whnf);refine aj.i (λhd=>?_) (λhd=>?_)
  ·have hi1:i<L.length:=by simpa using hd
   have Cz:i<Lc.length:=by omega
   have hge:Lc[i]'Cz=L[i]'hi1:=by
    have:=r5 i (Nat.le_refl _);rw [List.getElem?_eq_getElem Cz,List.getElem?_eq_getElem hi1] at this;exact Option.some.inj this
   obtain ⟨bN,Nw,ve,oN,Ny,Y8,WO⟩:=u7 O5 (k:=i*5+4) (by rw [ol];omega);rw [CB Lc i 4 Cz (by decide),hge] at Ny;obtain ⟨m1,m2,m3,m4,m6⟩:=H5.jH _ (List.getElem_mem hi1);have S:=kr m2 m4 (by omega);(conv=>whnf);refine ax.o o5 rfl ?_;(conv=>whnf);refine aX.i i rfl hi1 ve ?_;(conv=>whnf);refine ax.i (by rw [Nat.zero_add];exact Ny) ?_;(conv=>whnf);refine gI.i ?_ ?_
   case' refine_1=>skip
   case' refine_2=>skip
   all_goals
    first
     | ((conv=>whnf);refine oH (pK h5) S (by omega) (by simp [ay]) ?_)
     | ((conv=>whnf);refine ax.o o5 rfl ?_;(conv=>whnf);refine oH (pK h5) S (by omega) (by simp [ay]) ?_)
     | ((conv=>whnf);refine ax.o o5 rfl ?_;(conv=>whnf);refine aX.i i rfl hi1 ve ?_;(conv=>whnf);refine oH (pK h5) S (by omega) (by simp [ay]) ?_)
    intro a6 c6 h6 O6 k6 n6;have k6:Keeps [] h5 h6:=k6;have n6:∀ b∈ay a6,h5.size<=b:=λb hb=>by
     rcases n6 b hb with h|h
     ·simp [ay] at h
     ·exact h
    have oN6:=k6.obj oN (by simp);have o6:=k6.obj o5 (by simp);have z5:=k5.size
    first
     | ((conv=>whnf);refine dN.i oN6 ?_ (by simp [au]) λh7 s7 o7 k7=>?_)
     | ((conv=>whnf);refine aX.i i rfl hi1 ve ?_;(conv=>whnf);refine dN.i oN6 ?_ (by simp [au]) λh7 s7 o7 k7=>?_)
     | ((conv=>whnf);refine ax.o o6 rfl ?_;(conv=>whnf);refine dN.i oN6 ?_ (by simp [au]) λh7 s7 o7 k7=>?_)
     | ((conv=>whnf);refine ax.o o6 rfl ?_;(conv=>whnf);refine aX.i i rfl hi1 ve ?_;(conv=>whnf);refine dN.i oN6 ?_ (by simp [au]) λh7 s7 o7 k7=>?_)
    ·rw [ol] at WO;show 0+i*5+4+1<=Nw.length;omega
    rw [Nat.zero_add] at O6;have WQ:h7[bN]?=some (.cells ⟨bF (i*5+4) [.slice a6 (L[i]'hi1).n c6] Nw⟩ 77 (0,0)):=by
     have:0+i*5+4=i*5+4:=by omega
     rw [<-this,<-Nat.zero_add (L[i]'hi1).n];exact o7
    have WU:=O5.keep k6 (by simp);have O7:=GA (ve ▸ WU) (k:=i*5+4) (by rw [ol];omega) oN6 WQ;rw [GD Lc i Cz 4 (by decide) (.slice a6 (L[i]'hi1).n c6) ⟨(L[i]'hi1).nd,a6,(L[i]'hi1).n,c6⟩ (by rw [hge];rfl),<-ve] at O7;have z6:=k6.size;have hbN:h.size<=bN:=n1 bN (by rw [ve];simp [ay]);have hbN5:bN<h5.size:=eU oN;have k67:Keeps [bN] h5 h7:=(k6.mono (by simp)).trans k7;have hne:t2≠bN:=rH o5 oN (by decide);have ew:IntKind.i64.wrap ((i:Int)+1)=((i+1:Nat):Int):=wrapN (by simp) (by omega);(conv=>whnf);refine ⟨L.length-(i+1),by omega,?_⟩;(conv=>whnf);rw [ew];refine ⟨(i+1,Lc.set i ⟨(L[i]'hi1).nd,a6,(L[i]'hi1).n,c6⟩),rfl,rfl,rfl,hi1,k5.new1 k67 hbN,k67.obj o5 (by simpa using hne),by rw [List.length_set];exact l5,?_,O7,λj hj hji=>?_,λj hj=>?_⟩
    ·rw [oK,d5];have hg:(L[i]'hi1).nd=(aB L)[i]'(by rw [nZ];exact hi1):=by simp [aB]
     simp only [hg];exact List.set_getElem_self _
    ·simp only at hji ⊢;by_cases hji2:j=i
     ·subst hji2;rw [List.getElem_set_self];exact ⟨m1,O6.keep k7 (λb hb hx=>by have:=n6 b hb;simp at hx;omega),λb hb=>by have:=n6 b hb;omega,m4,m6⟩
     ·rw [List.getElem_set_ne (by omega)];obtain ⟨q1,q2,q3,q4,q5⟩:=m5 j (by simpa using hj) (by omega);exact ⟨q1,q2.keep k67 (λb hb hx=>by
       obtain ⟨cs,oc⟩:=oJ q2 b hb;have:b=bN:=by simpa using hx
       exact rH oc oN (by decide) this),q3,q4,q5⟩
    ·simp only at hj;rw [List.getElem?_set_ne (by omega)];exact r5 j (by omega)
  ·have hi1:i=L.length:=by simp at hd;omega
   (conv=>whnf);refine ⟨k5,t2,a1,c1,Lc,rfl,⟨by rw [l5];exact o5,by rw [l5];exact O5,λx hx=>?_,by omega,n1⟩,d5⟩;obtain ⟨j,hj,rfl⟩:=List.getElem_of_mem hx;exact m5 j hj (by omega)
theorem WV {l l':List (List UInt8)}:kU l=kU l'↔l=l':=by
 constructor
 ·intro h;have h2:=congrArg (List.map (·.name)) h;have e:∀ x:List (List UInt8),(kU x).map (·.name)=x:=λx=>by unfold kU;rw [List.map_map];exact List.map_id x
  rwa [e,e] at h2
 ·intro h;rw [h]
theorem zN (a b c d a' b' c' d':Int):mP Tryz.prog 10000 37 (.agg #[.int .i64 a,.int .i64 b,.int .i64 c,.int .i64 d]) (.agg #[.int .i64 a',.int .i64 b',.int .i64 c',.int .i64 d'])=some (decide (a=a'/\b=b'/\c=c'/\d=d')):=by
 have h:mP Tryz.prog 10000 37 (.agg #[.int .i64 a,.int .i64 b,.int .i64 c,.int .i64 d]) (.agg #[.int .i64 a',.int .i64 b',.int .i64 c',.int .i64 d'])=some ((a==a')&&((b==b')&&((c==c')&&((d==d')&&true)))):=by kernel_rfl
 rw [h]
 congr 1
 rw [Bool.eq_iff_iff];simp
theorem Gj {h h0 h0':Heap}{r r':dz}{v v':Value}(A:eF h0 h r v)(B:eF h0' h r' v')(hl:r.names.length<=1000)(hl':r'.names.length<=1000)(hn:∀ x∈r.names,x.length<=140737488351232)(hn':∀ x∈r'.names,x.length<=140737488351232) :
 aC Tryz.prog 17 [v,v'] h (λv h'=>Keeps [] h h'/\∃ b:Bool,v=.bool b/\(b=true↔r=r')):=by
 obtain ⟨a,c,rfl,O,_⟩:=A;obtain ⟨a',c',rfl,O',_⟩:=B;have ok:∀ {l:List (List UInt8)},(∀ x∈l,x.length<=140737488351232)->∀ e∈kU l,e.ok:=by
  intro l hl e he;obtain ⟨x,hx,rfl⟩:=List.mem_map.1 he;exact ⟨hl x hx,(show (-9223372036854775808:Int)<=0 by decide),(show (0:Int)<=9223372036854775807 by decide)⟩
 have S:=kr O (ok hn) (by rw [Nz];omega);have S':=kr O' (ok hn') (by rw [Nz];omega);unfold zu;refine aG aH Tryz.func17 rfl ok17 (by simp [Tryz.f17]) ?_;(conv=>whnf);refine aL.i λb1 h1 e1 s1 o1 k1=>?_;(conv=>whnf);refine aL.i λb2 h2 e2 s2 o2 k2=>?_;(conv=>whnf);refine gJ.w9 (by kernel_rfl) (zN 0 r.k r.l r.s 0 r'.k r'.l r'.s) ?_;have k12:=k1.trans k2;have hC:(bif bif bif r.err==r'.err then (0:Int)==0 else false then (ba r.data).toList==(ba r'.data).toList else false then decide ((0:Int)=0/\r.k=r'.k/\r.l=r'.l/\r.s=r'.s) else false)=decide (r.err=r'.err/\r.data=r'.data/\r.k=r'.k/\r.l=r'.l/\r.s=r'.s):=by
  have hb:((ba r.data).toList==(ba r'.data).toList)=decide (r.data=r'.data):=by
   rw [Bool.eq_iff_iff];unfold ba;rw [iZ]
  rw [hb,Bool.eq_iff_iff];by_cases q1:r.err=r'.err
  ·by_cases q2:r.data=r'.data
   ·simp [q1,q2]
   ·simp [q1,q2]
  ·simp [q1]
 (conv=>whnf);refine aj.i (λhc=>?_) (λhc=>?_)
 ·(conv=>whnf);refine ak.i (UG (S.keep k12) (S'.keep k12) (by omega)) λv h3 k3 hv=>?_;subst hv;(conv=>whnf);refine ⟨k12.trans k3,_,rfl,?_⟩;rw [hC] at hc ⊢;have hc':=of_decide_eq_true hc;rw [hc];show decide (kU r.names=kU r'.names)=true↔r=r';rw [decide_eq_true_iff,WV];obtain ⟨x1,x2,x3,x4,x5,x6⟩:=r;obtain ⟨y1,y2,y3,y4,y5,y6⟩:=r';simp only [dz.mk.injEq] at hc' ⊢;exact ⟨λh=>⟨hc'.1,hc'.2.1,hc'.2.2.1,hc'.2.2.2.1,hc'.2.2.2.2,h⟩,λh=>h.2.2.2.2.2⟩
 ·(conv=>whnf);refine ⟨k12,_,rfl,?_⟩;rw [hC] at hc ⊢;have hc':=of_decide_eq_false hc;rw [hc];refine ⟨λh=>(by cases h),λh=>?_⟩;subst h;exact absurd ⟨rfl,rfl,rfl,rfl,rfl⟩ hc'
end Go.Proofs.YtoociceebodfeaaGreatDoor
namespace Go.Proofs.YtoociceebodfeaaGreatDoor
open Go Go.Shelf
def Np:Go.Shelf.Ren:=⟨fun|7=>126|10=>199|n=>n,fun|23=>119|26=>3|3=>4|28=>197|0=>0|27=>196|33=>131|4=>4|n=>n,λn=>n⟩
theorem Nn:SlLaysZI.n7 Tryz.prog Np:={
 mixed:=by kernel_rfl,
 f7:=⟨Tryz.f126.name,by decide,Tryz.func126.trans (congrArg some (by kernel_rfl))⟩,
 f10:=⟨Tryz.f199.name,by decide,Tryz.func199.trans (congrArg some (by kernel_rfl))⟩,
 t0:=Tryz.underlying0,
 a0:=Tryz.isAgg0,
 z0:=Tryz.sizeOf0,
 v0:=Tryz.zeroValue0,
 t4:=Tryz.underlying4,
 a4:=Tryz.isAgg4,
 z4:=Tryz.sizeOf4,
 v4:=Tryz.zeroValue4,
 t23:=Tryz.underlying119,
 a23:=Tryz.isAgg119,
 z23:=Tryz.sizeOf119,
 v23:=Tryz.zeroValue119,
 t26:=Tryz.underlying3,
 a26:=Tryz.isAgg3,
 z26:=Tryz.sizeOf3,
 v26:=Tryz.zeroValue3,
 t27:=Tryz.underlying196,
 a27:=Tryz.isAgg196,
 z27:=Tryz.sizeOf196,
 v27:=Tryz.zeroValue196,
 t28:=Tryz.underlying197,
 a28:=Tryz.isAgg197,
 z28:=Tryz.sizeOf197,
 v28:=Tryz.zeroValue197,
 t33:=Tryz.underlying131,
 a33:=Tryz.isAgg131,
 z33:=Tryz.sizeOf131,
 v33:=Tryz.zeroValue131 }
def WC:Go.Shelf.Ren:=⟨fun|6=>125|8=>197|9=>198|11=>243|13=>118|12=>244|23=>191|24=>192|14=>272|15=>273|16=>274|17=>275|18=>276|19=>277|20=>278|21=>279|22=>280|25=>294|26=>238|27=>239|28=>295|29=>296|30=>297|31=>303|n=>n,fun|26=>3|28=>197|24=>70|0=>0|3=>3|37=>183|48=>258|50=>46|4=>4|40=>252|39=>251|45=>200|5=>5|9=>9|51=>294|55=>298|57=>324|58=>325|33=>131|n=>n,λn=>n⟩
theorem WB:SlLaysZI.n6 Tryz.prog WC:={
 mixed:=by kernel_rfl,
 f6:=⟨Tryz.f125.name,by decide,Tryz.func125.trans (congrArg some (by kernel_rfl))⟩,
 f8:=⟨Tryz.f197.name,by decide,Tryz.func197.trans (congrArg some (by kernel_rfl))⟩,
 f11:=⟨Tryz.f243.name,by decide,Tryz.func243.trans (congrArg some (by kernel_rfl))⟩,
 t0:=Tryz.underlying0,
 a0:=Tryz.isAgg0,
 z0:=Tryz.sizeOf0,
 v0:=Tryz.zeroValue0,
 t24:=Tryz.underlying70,
 a24:=Tryz.isAgg70,
 z24:=Tryz.sizeOf70,
 v24:=Tryz.zeroValue70,
 t26:=Tryz.underlying3,
 a26:=Tryz.isAgg3,
 z26:=Tryz.sizeOf3,
 v26:=Tryz.zeroValue3,
 t28:=Tryz.underlying197,
 a28:=Tryz.isAgg197,
 z28:=Tryz.sizeOf197,
 v28:=Tryz.zeroValue197,
 i26:=by kernel_rfl }
def WE:Go.Shelf.Ren:=⟨fun|5=>198|8=>118|7=>244|19=>191|20=>192|10=>272|11=>273|12=>274|13=>275|14=>276|15=>277|16=>278|17=>279|18=>280|30=>294|31=>238|32=>239|33=>295|34=>296|35=>297|40=>303|n=>n,fun|23=>70|25=>3|3=>3|32=>183|22=>70|0=>0|44=>258|46=>46|4=>4|36=>252|35=>251|41=>200|5=>5|9=>9|53=>294|57=>298|63=>324|64=>325|n=>n,λn=>n⟩
theorem Nl:SlLaysM.n5 Tryz.prog WE:={
 mixed:=by kernel_rfl,
 f5:=⟨Tryz.f198.name,by decide,Tryz.func198.trans (congrArg some (by kernel_rfl))⟩,
 f7:=⟨Tryz.f244.name,by decide,Tryz.func244.trans (congrArg some (by kernel_rfl))⟩,
 f8:=Tryz.func118.trans (congrArg some (by kernel_rfl)),
 f10:=⟨Tryz.f272.name,by decide,Tryz.func272.trans (congrArg some (by kernel_rfl))⟩,
 f11:=⟨Tryz.f273.name,by decide,Tryz.func273.trans (congrArg some (by kernel_rfl))⟩,
 f12:=⟨Tryz.f274.name,by decide,Tryz.func274.trans (congrArg some (by kernel_rfl))⟩,
 f13:=⟨Tryz.f275.name,by decide,Tryz.func275.trans (congrArg some (by kernel_rfl))⟩,
 f14:=⟨Tryz.f276.name,by decide,Tryz.func276.trans (congrArg some (by kernel_rfl))⟩,
 f15:=⟨Tryz.f277.name,by decide,Tryz.func277.trans (congrArg some (by kernel_rfl))⟩,
 f16:=⟨Tryz.f278.name,by decide,Tryz.func278.trans (congrArg some (by kernel_rfl))⟩,
 f17:=⟨Tryz.f279.name,by decide,Tryz.func279.trans (congrArg some (by kernel_rfl))⟩,
 f18:=⟨Tryz.f280.name,by decide,Tryz.func280.trans (congrArg some (by kernel_rfl))⟩,
 f19:=Tryz.func191.trans (congrArg some (by kernel_rfl)),
 f20:=Tryz.func192.trans (congrArg some (by kernel_rfl)),
 f30:=⟨Tryz.f294.name,by decide,Tryz.func294.trans (congrArg some (by kernel_rfl))⟩,
 f31:=Tryz.func238.trans (congrArg some (by kernel_rfl)),
 f32:=Tryz.func239.trans (congrArg some (by kernel_rfl)),
 f33:=⟨Tryz.f295.name,by decide,Tryz.func295.trans (congrArg some (by kernel_rfl))⟩,
 f34:=⟨Tryz.f296.name,by decide,Tryz.func296.trans (congrArg some (by kernel_rfl))⟩,
 f35:=⟨Tryz.f297.name,by decide,Tryz.func297.trans (congrArg some (by kernel_rfl))⟩,
 f40:=⟨Tryz.f303.name,by decide,Tryz.func303.trans (congrArg some (by kernel_rfl))⟩,
 t0:=Tryz.underlying0,
 a0:=Tryz.isAgg0,
 z0:=Tryz.sizeOf0,
 v0:=Tryz.zeroValue0,
 t3:=Tryz.underlying3,
 a3:=Tryz.isAgg3,
 z3:=Tryz.sizeOf3,
 v3:=Tryz.zeroValue3,
 t4:=Tryz.underlying4,
 a4:=Tryz.isAgg4,
 z4:=Tryz.sizeOf4,
 v4:=Tryz.zeroValue4,
 t5:=Tryz.underlying5,
 a5:=Tryz.isAgg5,
 z5:=Tryz.sizeOf5,
 v5:=Tryz.zeroValue5,
 t9:=Tryz.underlying9,
 a9:=Tryz.isAgg9,
 z9:=Tryz.sizeOf9,
 v9:=Tryz.zeroValue9,
 t22:=Tryz.underlying70,
 a22:=Tryz.isAgg70,
 z22:=Tryz.sizeOf70,
 v22:=Tryz.zeroValue70,
 t23:=Tryz.underlying70,
 a23:=Tryz.isAgg70,
 z23:=Tryz.sizeOf70,
 v23:=Tryz.zeroValue70,
 t25:=Tryz.underlying3,
 a25:=Tryz.isAgg3,
 z25:=Tryz.sizeOf3,
 v25:=Tryz.zeroValue3,
 t32:=Tryz.underlying183,
 a32:=Tryz.isAgg183,
 z32:=Tryz.sizeOf183,
 v32:=Tryz.zeroValue183,
 t35:=Tryz.underlying251,
 a35:=Tryz.isAgg251,
 z35:=Tryz.sizeOf251,
 v35:=Tryz.zeroValue251,
 t36:=Tryz.underlying252,
 a36:=Tryz.isAgg252,
 z36:=Tryz.sizeOf252,
 v36:=Tryz.zeroValue252,
 t41:=Tryz.underlying200,
 a41:=Tryz.isAgg200,
 z41:=Tryz.sizeOf200,
 v41:=Tryz.zeroValue200,
 t44:=Tryz.underlying258,
 a44:=Tryz.isAgg258,
 z44:=Tryz.sizeOf258,
 v44:=Tryz.zeroValue258,
 t46:=Tryz.underlying46,
 a46:=Tryz.isAgg46,
 z46:=Tryz.sizeOf46,
 v46:=Tryz.zeroValue46,
 t53:=Tryz.underlying294,
 a53:=Tryz.isAgg294,
 z53:=Tryz.sizeOf294,
 v53:=Tryz.zeroValue294,
 t57:=Tryz.underlying298,
 a57:=Tryz.isAgg298,
 z57:=Tryz.sizeOf298,
 v57:=Tryz.zeroValue298,
 t63:=Tryz.underlying324,
 a63:=Tryz.isAgg324,
 z63:=Tryz.sizeOf324,
 v63:=Tryz.zeroValue324,
 t64:=Tryz.underlying325,
 a64:=Tryz.isAgg325,
 z64:=Tryz.sizeOf325,
 v64:=Tryz.zeroValue325 }
end Go.Proofs.YtoociceebodfeaaGreatDoor
namespace Go.Proofs.YtoociceebodfeaaGreatDoor
open Go Go.aN Go.RowKit Go.Maps Go.Sort Go.Shelf Go.WideElems
def tC (_:Value):Option (DataW Unit×List MemPlace):=some (.nil,[])
theorem Wz {P:Program}{k:TypeId}(hk:P.underlying k=some (.int .i64)){w:World}{r:Nat}{xs:List (Int×Value)}(M:dF w.heap r xs)(hr:∀ p∈xs,(Lit.int .i64 p.1).wf=true)(hlen:xs.length<=1000000) :
 ∃ D:DataW Unit,w.ownsMap P k tC r xs.length D/\(intKeys D).Perm (xs.map (·.1))/\Maps.size D=xs.length:=by
 obtain ⟨es,cl,h1,h2,h3,h4,h5⟩:=M;have hl:es.size=xs.length:=by
  have:=congrArg List.length h2;simpa using this
 have hkeys:es.toList.map (·.key)=xs.map λp=>Value.int .i64 p.1:=by
  have:=congrArg (List.map (·.1)) h2;simpa [List.map_map,Function.comp_def] using this
 have hrg:∀ e:MapEntry,rg P k tC e=((keyOf P k e.key).map λkey=>(key,DataW.nil (H:=Unit))).getD (.bool false,.nil):=by
  intro e;unfold rg WideElems.rd tC;cases keyOf P k e.key <;> rfl
 have hmap:es.toList.map (rg P k tC)=xs.map λ(p:Int×Value)=>(Lit.int .i64 p.1,DataW.nil (H:=Unit)):=by
  have e1:es.toList.map (rg P k tC)=(es.toList.map (·.key)).map λv=>((keyOf P k v).map λkey=>(key,DataW.nil (H:=Unit))).getD (.bool false,.nil):=by
   rw [List.map_map];exact List.map_congr_left λe _=>hrg e
  rw [e1,hkeys,List.map_map];refine List.map_congr_left λp hp=>?_;simp only [Function.comp_def];rw [keyOf_int_mk hk (hr p hp)];rfl
 refine ⟨.map ((es.toList.map (rg P k tC)).foldr DataW.insert []),⟨es,cl,h1,⟨?_,⟨h5,h4,?_⟩,λe he=>?_⟩,by omega,rfl⟩,?_,?_⟩
 ·have:(1000000:Nat)<=maxLen:=by decide
  omega
 ·rw [hkeys];have h6:xs.map (λp=>Value.int .i64 p.1)=(xs.map (·.1)).map λa=>Value.int .i64 a:=by rw [List.map_map];rfl
  rw [h6];unfold List.Nodup;rw [List.pairwise_map];exact h3.imp λhne e=>hne (by injection e)
 ·have hm:e.key∈es.toList.map (·.key):=List.mem_map.2 ⟨e,he,rfl⟩;rw [hkeys] at hm;obtain ⟨p,hp,hpe⟩:=List.mem_map.1 hm;refine ⟨(.int .i64 p.1,.nil),?_⟩;unfold WideElems.rd tC;rw [<-hpe,keyOf_int_mk hk (hr p hp)];rfl
 ·show (List.map (λp:Lit×DataW Unit=>Go.intOf p.1) _).Perm _;have hp:=(WideShapes.sorted_perm (es.toList.map (rg P k tC))).map λp:Lit×DataW Unit=>Go.intOf p.1;refine hp.trans ?_;rw [hmap,List.map_map];have:(List.map ((λp:Lit×DataW Unit=>Go.intOf p.1) ∘ λp:Int×Value=>(Lit.int .i64 p.1,DataW.nil)) xs)=xs.map (·.1):=List.map_congr_left λp _=>rfl;rw [this]
 ·rw [Maps.size_eq,length_sorted,hmap,List.length_map]
theorem Wy {w:World}{base:Nat}{e:TypeId}{v:Value}{n:Nat}{xs:List Value}(h:w.ownsRow base e 1 v n xs):∃ a c,v=.slice a n c/\Own w.heap e 1 a n c xs/\∀ b∈ay a,base<=b:=by
 obtain ⟨hx,⟨rfl,rfl⟩|⟨g,cap,cur,rfl,hg,ho,hn,_,hs,ht⟩⟩:=h
 ·exact ⟨none,0,rfl,.inl ⟨rfl,rfl,rfl,List.eq_nil_of_length_eq_zero (by omega)⟩,by simp [ay]⟩
 ·refine ⟨some ⟨g,0,none⟩,cap,rfl,.inr ⟨g,cur.toList,rfl,ho,by rw [hx];exact ht,by simpa using hs,hx,hn⟩,?_⟩;intro b hb;have:b=g:=by simpa [ay] using hb
  omega
theorem Wv (ρ:Ren)(hρ:ρ.f 9=198)(m:Nat):AnyZI.SortsIn Tryz.prog ρ Fence.wide m:=
 ⟨λblk off cap ss W hH hblk hsz=>callsIn_wide.2 (by rw [hρ];exact AnyM.slices_Sort_int Nl blk off cap ss W hH hblk hsz),
  λp cap W=>callsIn_wide.2 (by rw [hρ];exact AnyM.slices_Sort_int_none Nl p cap W)⟩
theorem Wt (r:Nat)(h:Heap):aC Tryz.prog 126 [.map (some r)] h (λv h'=>v=.func (.func 199) #[] #[.pointer (some ⟨h.size,0,none⟩)]/\h'=h.push (.cells #[.map (some r)] 119 (0,0))):=by
 intro w hw;subst hw;refine (callsIn_wide.1 (AnyZI.keys_in Nn Fence.wide 5 trivial rfl (some r) w)).mono λe w' ⟨he,hw⟩=>?_;subst he hw;exact ⟨_,rfl,⟨rfl,rfl,rfl⟩,rfl,rfl⟩
theorem Ww {x:Int}(h:inI64 x):(Lit.int .i64 x).wf=true:=by
 have h1:IntKind.i64.min<=x:=h.1;have h2:x<=IntKind.i64.max:=h.2;show (decide (IntKind.i64.min<=x)&&decide (x<=IntKind.i64.max))=true;rw [decide_eq_true h1,decide_eq_true h2];rfl
theorem Wx {h:Heap}{xs:List (Int×Value)}{f:Nat}{lb:List Value}{w:World}(hw:w.heap=h){e:TypeId}
 (hr:∀ p∈xs,inI64 p.1) {D:DataW Unit} (hD:(intKeys D).Perm (xs.map (·.1))) (hlen:xs.length<=1000000)
 (c:Calls Tryz.prog f ⟨lb⟩ w λe' w'=>∃ (v:Value) (ss:List Int),e'=.returned v/\ss.Perm (intKeys D)/\w'.ownsRow w.heap.size e 1 v ss.length ((ss.mergeSort (λx y=>decide (x<=y))).map encZ)/\(v=.slice none 0 0↔ss=[])/\Below w.heap.size w w') :
 Calls Tryz.prog f ⟨lb⟩ w λe w'=>∃ v,e=.returned v/\dG w w'/\Keeps [] h w'.heap/\∃ a c l,v=.slice a l.length c/\Sl w'.heap a l.length c l/\l.Perm (xs.map (·.1)):=by
 subst hw;refine c.mono ?_;rintro e' w' ⟨v,ss,rfl,hS,hrow,_,hb⟩;obtain ⟨a,c,rfl,O,_⟩:=Wy hrow;have hp:=(List.mergeSort_perm ss (λx y=>decide (x<=y)));have hpx:(ss.mergeSort (λx y=>decide (x<=y))).Perm (xs.map (·.1)):=hp.trans (hS.trans hD);have hll:ss.length=(ss.mergeSort (λx y=>decide (x<=y))).length:=hp.length_eq.symm;have hlx:=hpx.length_eq;rw [List.length_map] at hlx;rw [hll] at O;refine ⟨_,rfl,⟨hb.os,hb.output,hb.tape⟩,⟨hb.size,λx hx _=>hb.block x hx⟩,a,c,ss.mergeSort (λx y=>decide (x<=y)),by rw [hll],?_,hpx⟩;refine O.sl (Ev _ _ λx hx=>?_) rfl (by decide) (by omega);obtain ⟨p,hp,rfl⟩:=List.mem_map.1 (hpx.mem_iff.1 hx);exact hr p hp
theorem Wu {h:Heap}{b r:Nat}{T:TypeId}{xs:List (Int×Value)}(o:h[b]?=some (.cells #[.map (some r)] T (0,0)))(M:dF h r xs)(hr:∀ p∈xs,inI64 p.1)(hlen:xs.length<=1000000) :
 aC Tryz.prog 125 [.func (.func 199) #[] #[.pointer (some ⟨b,0,none⟩)]] h (λv h'=>Keeps [] h h'/\∃ a c l,v=.slice a l.length c/\Sl h' a l.length c l/\l.Perm (xs.map (·.1))):=by
 intro w hw;subst hw;obtain ⟨D,hown,hp,hs⟩:=Wz Tryz.underlying3 M (λp hp=>Ww (hr p hp)) hlen;have hbl:=eU o;have hcell:w.cell? ⟨b,0,none⟩=some (.map (some r)):=by simp [World.cell?,o]
 have hseq:SeqGives Fence.wide 2 Tryz.prog 199 #[.pointer (some ⟨b,0,none⟩)] encZ (λss=>ss.Perm (intKeys D)) (Maps.size D) w:=
  AnyZI.keys_gives (ρ:=Np) { Nn with } Fence.wide _ trivial rfl (by omega) b r xs.length D w hbl hcell hown
 have cS:=AnyZI.sorted_in WB Fence.wide 5 trivial trivial trivial trivial rfl (by omega) (Wv _ rfl _) (enters_of Tryz.func198 (by kernel_rfl) rfl) 199 #[.pointer (some ⟨b,0,none⟩)] trivial (enters_of Tryz.func199 (by kernel_rfl) rfl) _ _ (by rw [hs];exact Nat.le_trans hlen (by decide)) (by rw [hs];omega) w hseq;exact Wx rfl hr hp hlen (callsIn_wide.1 cS)
end Go.Proofs.YtoociceebodfeaaGreatDoor
namespace Go.Proofs.YtoociceebodfeaaGreatDoor
open Go Go.aN
theorem Gx (s:List Int):(lF s).map (·.1)=s:=by
 unfold lF;rw [List.map_map]
 conv=>rhs;rw [<-List.map_id s]
 rfl
theorem Ws {h:Heap}{r:Nat}{s:List Int}(M:dF h r (lF s))(hs:∀ x∈s,0<=x/\x<24):aC Tryz.prog 74 [.map (some r)] h (λv h'=>Keeps [] h h'/\∃ a c l,v=.slice a l.length c/\Sl h' a l.length c l/\l.Perm s):=by
 have hn:s.Nodup:=by
  obtain ⟨es,cl,_,_,g,_⟩:=M;rw [Gx] at g;exact g
 have hlen:s.length<=24:=by
  have h1:s ⊆ (List.range 24).map λ(i:Nat)=>(i:Int):=λx hx=>by
   have:=hs x hx;exact List.mem_map.2 ⟨x.toNat,by simp;omega,by omega⟩
  have:=hn.length_le_of_subset h1;simpa using this
 have hr:∀ p∈lF s,inI64 p.1:=λp hp=>by
  have:p.1∈s:=by rw [<-Gx s];exact List.mem_map.2 ⟨p,hp,rfl⟩
  have:=hs _ this;unfold inI64;omega
 refine aG aH Tryz.func74 rfl ok74 (by simp [Tryz.f74]) ?_;(conv=>whnf);refine ak.i ((Wt r h).mono (R':=λv h'=>Keeps [] h h'/\v=.func (.func 199) #[] #[.pointer (some ⟨h.size,0,none⟩)]/\h'=h.push (.cells #[.map (some r)] 119 (0,0))) λv h' ⟨hv,hh⟩=>⟨by rw [hh];exact sD _ _,hv,hh⟩) λv h1 k1 hv=>?_;obtain ⟨rfl,hh⟩:=hv;have o1:h1[h.size]?=some (.cells #[.map (some r)] 119 (0,0)):=by rw [hh];simp
 (conv=>whnf);refine ak.i (Wu o1 (M.keep k1 (by simp)) hr (by unfold lF;rw [List.length_map];omega)) λv h2 k2 hv=>?_;obtain ⟨a,c,l,rfl,S2,p2⟩:=hv;(conv=>whnf);rw [Gx] at p2;exact ⟨k1.trans k2,a,c,l,rfl,S2,p2⟩
theorem Wq {h:Heap}{V:VL}{M:aS}{X:VS}(A:At h V M X):aC Tryz.prog 28 [.pointer (some ⟨V.v,0,none⟩)] h (λv h'=>Keeps [] h h'/\∃ a c l,v=.slice a l.length c/\Sl h' a l.length c l/\l.Perm X.mine):=by
 refine aG aH Tryz.func28 rfl ok28 (by simp [Tryz.f28]) ?_;(conv=>whnf);refine aj.f rfl ?_;(conv=>whnf);refine ax.o A.obj rfl ?_;(conv=>whnf);refine ak.i (Ws A.mine λx hx=>A.bH x (List.mem_append_right _ hx)) λv h1 k1 hv=>?_;(conv=>whnf);exact ⟨k1,hv⟩
end Go.Proofs.YtoociceebodfeaaGreatDoor
