/-
  Joined texts: TreM, FileP, TreN, TreO, CalJ, TolA, TreQ, TreR, SrtL, SrtK, SrtM, SeeA, CalA, CalB, CalC.
-/
import Derived.Test.YtoociceebodfeaaGreatDoorJLawCOwnj
import Derived.Test.YtoociceebodfeaaGreatDoorJLawCOwnh
import Derived.Test.YtoociceebodfeaaGreatDoorJLawCOwni
import Derived.Shelf.SlLaysZI
import Derived.Shelf.SlLaysM
import Derived.Test.YtoociceebodfeaaGreatDoorProg
import Derived.Shelf.SlIterI.Nil
import Derived.Test.YtoociceebodfeaaGreatDoorJLawCOwnc
import Derived.Shelf.SortM.Plain
import Derived.Shelf.SortM.SortNone
import Derived.Test.YtoociceebodfeaaGreatDoorJLawCOwnd
import Derived.Test.YtoociceebodfeaaGreatDoorJLawCOwng
set_option linter.all false
set_option maxRecDepth 100000
set_option maxHeartbeats 4000000
namespace Go.Proofs.YtoociceebodfeaaGreatDoor
open Go Go.aK
inductive iJ (T:List aS) (y:Int):Int->Prop
 | refl:iJ T y y
 | head {x:Int} {e:aF}:(tn T x).kind=2->e∈(tn T x).names->iJ T y e.node->iJ T y x
theorem U7 {T:List aS}{y x:Int}(hne:y≠x):iJ T y x↔(tn T x).kind=2/\∃ e∈(tn T x).names,iJ T y e.node:=
 ⟨λh=>by cases h with
  | refl=>exact absurd rfl hne
  | head h1 h2 h3=>exact ⟨h1,_,h2,h3⟩,λ⟨h1,e,h2,h3⟩=>.head h1 h2 h3⟩
theorem iJ.dir {T:List aS}{y x:Int}(hy:(tn T y).kind=2)(h:iJ T y x):(tn T x).kind=2:=by
 cases h with
 | refl=>exact hy
 | head h1 _ _=>exact h1
def wh (T:List aS)(rk:Int->Nat):Prop:=∀ x,inT T x->(tn T x).kind=2->∀ e∈(tn T x).names,rk e.node<rk x
theorem LF {z t:Nat}{aT:Option Addr}{cT:Nat}{L:List bV}(W:nC (aC L)){rk:Int->Nat}(hr:wh (aC L) rk){y:Int}(hy:(tn (aC L) y).kind=2):∀ (n:Nat) (of:Int) (h:Heap),rk of<n->inT (aC L) of->(tn (aC L) of).kind=2->cZ h z t aT cT L ->
 aD Tryz.prog 96 [.pointer (some ⟨t,0,none⟩),.int .i64 y,.int .i64 of] h (λv h'=>Keeps [] h h'/\∃ b:Bool,v=.bool b/\(b=true↔iJ (aC L) y of))
 | 0,_,_,hn,_,_,_=>by omega
 | n+1,of,h,hn,hof,hko,H=>by
  refine aH aI Tryz.func96 rfl ok96 (by simp [Tryz.f96]) ?_;(conv=>whnf);by_cases hdo:y=of
  ·subst hdo;refine ak.t (by simp) ?_;(conv=>whnf);exact ⟨Keeps.refl _ _,true,rfl,λ_=>.refl,λ_=>rfl⟩
  ·refine ak.f (by simp [hdo]) ?_;obtain ⟨k,hk,bT,eU,ek,ek2,dn,bL,oT,hle,hzb,hcl⟩:=H.node hof;obtain ⟨n1,n2,n3,n4,n5⟩:=H.jy _ (List.getElem_mem hk);have S:=jX n2 n4 (by omega);obtain ⟨_,LG,_⟩:=W.dir of hof hko;rw [dn] at LG;(conv=>whnf);refine ax.o H.tr rfl ?_;(conv=>whnf);refine aQ.i k ek hk bL ?_;(conv=>whnf);refine ax.i (hcl 4 (by decide)) ?_;(conv=>whnf);refine bP.on [0,1,7,8] [] (λi:Nat=>[(0,.v (.pointer (some ⟨t,0,none⟩))),(1,.v (.int .i64 y)),(7,.v (.slice (L[k]'hk).a (L[k]'hk).n (L[k]'hk).c)),(8,.v (.int .i64 (i:Int)))]) (λ_=>[])
    (λi h'=>i<=(L[k]'hk).nd.names.length/\Keeps [] h h'/\∀ e∈(L[k]'hk).nd.names.take i,¬ iJ (aC L) y e.node) (λi=>(L[k]'hk).nd.names.length-i) 0 ?_ ?_
   ·(conv=>whnf);exact ⟨0,rfl,rfl,rfl,Nat.zero_le _,Keeps.refl _ _,by simp⟩
   ·rintro i h5 ⟨hi,k5,n5'⟩;(conv=>whnf);refine ak.i (λhd=>?_) (λhd=>?_)
    ·have hi1:i<(L[k]'hk).nd.names.length:=by rw [n1] at hd;simp at hd;omega
     have H5:=H.keep k5 (by simp);have S5:=S.keep k5;obtain ⟨b6,o6,hb6,_,⟨rfl,hok⟩,hc6⟩:=S5.at_ i hi1;have hem:=List.getElem_mem hi1;have hin:=LG _ hem;have U8:=hr of hof hko _ (by rw [dn];exact hem);obtain ⟨k',hk',FH,BD,vS,vT,nA,pV,BF,hle',LD,hcl'⟩:=H5.node hin;(conv=>whnf);refine ax.o H5.tr rfl ?_;(conv=>whnf);refine aQ.i i rfl (by omega) hb6 ?_;(conv=>whnf);refine ax.i (hc6 1 (show 1<2 by decide)) ?_;(conv=>whnf);refine aQ.i k' vS hk' pV ?_;(conv=>whnf);refine ax.i (hcl' 1 (by decide)) ?_;(conv=>whnf);refine aQ.i i rfl (by omega) hb6 ?_;(conv=>whnf);refine ax.i (hc6 1 (show 1<2 by decide)) ?_;have LH:¬ iJ (aC L) y ((L[k]'hk).nd.names[i]'hi1).node->∀ e∈(L[k]'hk).nd.names.take (i+1),¬ iJ (aC L) y e.node:=by
      intro hnb e he;rw [List.take_succ_eq_append_getElem hi1,List.mem_append] at he;rcases he with he|he
      ·exact n5' e he
      ·obtain rfl:=List.mem_singleton.1 he;exact hnb
     (conv=>whnf);refine ak.i (λhc=>?_) (λhc=>?_)
     ·have hk2:(tn (aC L) ((L[k]'hk).nd.names[i]'hi1).node).kind=2:=by rw [nA];simpa using hc
      (conv=>whnf);refine au.i (LF W hr hy n _ h5 (by omega) hin hk2 H5) λv h6 k6 hv=>?_;obtain ⟨b,rfl,hb⟩:=hv;cases b with
      | true=>
       (conv=>whnf);refine ak.t (by rw [hc];rfl) ?_;(conv=>whnf);exact ⟨k5.trans k6,true,rfl,λ_=>.head hko (by rw [dn];exact hem) (hb.1 rfl),λ_=>rfl⟩
      | false=>
       (conv=>whnf);refine ak.f (by simp) ?_;(conv=>whnf);refine ⟨(L[k]'hk).nd.names.length-(i+1),by omega,?_⟩;(conv=>whnf);refine ⟨i+1,rfl,by rw [wrapN (x:=(i:Int)+1) (n:=i+1) (by simp) (by omega)],rfl,hi1,k5.trans k6,LH λhbe=>by have:=hb.2 hbe;cases this⟩
     ·(conv=>whnf);refine ak.f (by rw [hc];rfl) ?_;(conv=>whnf);refine ⟨(L[k]'hk).nd.names.length-(i+1),by omega,?_⟩;(conv=>whnf);refine ⟨i+1,rfl,by rw [wrapN (x:=(i:Int)+1) (n:=i+1) (by simp) (by omega)],rfl,hi1,k5,LH λhbe=>?_⟩;have:=hbe.dir hy;rw [nA] at this;rw [this] at hc;cases hc
    ·have hi1:i=(L[k]'hk).nd.names.length:=by rw [n1] at hd;simp at hd;omega
     (conv=>whnf);refine ⟨k5,false,rfl,λh=>(by cases h),λh=>?_⟩;obtain ⟨_,e,he,hbe⟩:=(U7 hdo).1 h;rw [dn] at he;exact absurd hbe (n5' e (by rw [hi1,List.take_length];exact he))
def zh (T:List aS)(old name:List UInt8)(e:Int)(T':List aS):Prop:=
 ((bH old=none\/bH name=none)/\e=3) \/
 (
  bH old≠none/\bH name≠none/\(((bD (aY T) old).2.2.2≠0/\e=(bD (aY T) old).2.2.2) \/
  ∃ d nm nd,lV T old d nm nd/\((nd=0/\e=4)\/(nd≠0 /\
   (
    ((bD (aY T) name).2.2.2≠0/\e=(bD (aY T) name).2.2.2) \/
    ∃ f nm2 nd2,lV T name f nm2 nd2/\((nd2=nd/\e=0/\T'=T)\/(nd2≠nd/\((tn T nd).kind=2/\iJ T f nd)/\e=1)\/(nd2≠nd/\¬ ((tn T nd).kind=2/\iJ T f nd)/\nd2≠0/\e=5) \/
     (nd2=0/\¬ ((tn T nd).kind=2/\iJ T f nd)/\e=0 /\
      T'=bM (bM T d { tn T d with names:=(tn T d).names.eraseIdx (aO (tn T d).names nm) }) f { tn (bM T d { tn T d with names:=(tn T d).names.eraseIdx (aO (tn T d).names nm) }) f with names:=bF (tn (bM T d { tn T d with names:=(tn T d).names.eraseIdx (aO (tn T d).names nm) }) f).names ⟨nm2,nd⟩ })))))))
theorem Gl {l:List aF}{nm:List UInt8}(h:cK l nm=none)(k:Nat):cK (l.eraseIdx k) nm=none:=by
 unfold cK at h ⊢;rw [List.find?_eq_none] at h ⊢;exact λe he=>h e (List.mem_of_mem_eraseIdx he)
theorem UW {h:Heap}{z t:Nat}{aT:Option Addr}{cT:Nat}{L:List bV}(H:cZ h z t aT cT L)(hz:z<=h.size)(W:kV L){rk:Int->Nat}(hr:wh (aC L) rk)(old name:List UInt8)(ho:old.length<=1048576)(hp:name.length<=1048576) :
 aD Tryz.prog 49 [.pointer (some ⟨t,0,none⟩),.string (ba old),.string (ba name)] h (λv h'=>Keeps (t::ay aT) h h'/\∃ e:Int,v=.int .i64 e/\∃ d9 eF L',cZ h' z t d9 eF L'/\zh (aC L) old name e (aC L')):=by
 have hlen:=W.len;have m0:∀ x∈([]:List Nat),x∈t::ay aT:=by simp
 refine aH aI Tryz.func49 rfl ok49 (by simp [Tryz.f49]) ?_;(conv=>whnf);refine au.i (uF old ho h) λv h1 k1 hv=>?_;have z1:=k1.size;have H1:=H.keep k1 (by simp);cases hp1:bH old with
 | none=>
  rw [hp1] at hv;have hv:v=.tuple #[.slice none 0 0,.int .i64 3]:=hv;subst hv;(conv=>whnf);refine au.i (uF name hp h1) λv h2 k2 hv=>?_;have H2:=H1.keep k2 (by simp);have hv:∃ s:Value,∃ e:Int,v=.tuple #[s,.int .i64 e]:=by
   cases hp2:bH name with
   | none=>rw [hp2] at hv;exact ⟨_,_,hv⟩
   | some l=>
    rw [hp2] at hv;obtain ⟨a,c,rfl,T,n1⟩:=hv;exact ⟨_,_,rfl⟩
  obtain ⟨s,e,rfl⟩:=hv;(conv=>whnf);refine ak.t rfl ?_;(conv=>whnf);exact ⟨(k1.trans k2).mono m0,3,rfl,aT,cT,L,H2,.inl ⟨.inl hp1,rfl⟩⟩
 | some l1=>
  rw [hp1] at hv;obtain ⟨a,c,rfl,T,n1⟩:=hv;(conv=>whnf);refine au.i (uF name hp h1) λv h2 k2 hv=>?_;have H2:=H1.keep k2 (by simp);have z2:=k2.size;cases hp2:bH name with
  | none=>
   rw [hp2] at hv;have hv:v=.tuple #[.slice none 0 0,.int .i64 3]:=hv;subst hv;(conv=>whnf);refine ak.t rfl ?_;(conv=>whnf);exact ⟨(k1.trans k2).mono m0,3,rfl,aT,cT,L,H2,.inl ⟨.inr hp2,rfl⟩⟩
  | some l2=>
   rw [hp2] at hv;obtain ⟨a2,c2,rfl,T2,n2⟩:=hv;have np1:bH old≠none:=by rw [hp1];simp
   have np2:bH name≠none:=by rw [hp2];simp
   (conv=>whnf);refine ak.f rfl ?_;(conv=>whnf);refine au.i (yP H2 W.w W.dl old ho) λv h3 k3 hv=>?_;subst hv;have H3:=H2.keep k3 (by simp);have z3:=k3.size;have k03:=(k1.trans k2).trans k3;unfold vV;by_cases h0:(bD (aY (aC L)) old).2.2.2=0
   ·obtain ⟨d,nm,nd,P⟩:=yQ W.w h0;rw [P.is];(conv=>whnf);refine ak.f rfl ?_;by_cases hnd:nd=0
    ·subst hnd;(conv=>whnf);refine ak.t rfl ?_;(conv=>whnf);exact ⟨k03.mono m0,4,rfl,aT,cT,L,H3,.inr ⟨np1,np2,.inr ⟨d,nm,0,P,.inl ⟨rfl,rfl⟩⟩⟩⟩
    ·(conv=>whnf);refine ak.f (by simp [hnd]) ?_;(conv=>whnf);refine au.i (yP H3 W.w W.dl name hp) λv h4 k4 hv=>?_;subst hv;have H4:=H3.keep k4 (by simp);have z4:=k4.size;have k04:=k03.trans k4;unfold vV;by_cases hq4:(bD (aY (aC L)) name).2.2.2=0
     ·obtain ⟨f,nm2,nd2,P2⟩:=yQ W.w hq4;rw [P2.is];(conv=>whnf);refine ak.f rfl ?_;by_cases hnn:nd2=nd
      ·(conv=>whnf);refine ak.t (by simp [hnn]) ?_;(conv=>whnf);exact ⟨k04.mono m0,0,rfl,aT,cT,L,H4,.inr ⟨np1,np2,.inr ⟨d,nm,nd,P,.inr ⟨hnd,.inr ⟨f,nm2,nd2,P2,.inl ⟨hnn,rfl,rfl⟩⟩⟩⟩⟩⟩
      ·(conv=>whnf);refine ak.f (by simp [hnn]) ?_;obtain ⟨en,hen,hen1,hen2,hin⟩:=P.there W.w hnd;obtain ⟨hpt,hkl,hkn,_⟩:=wG (W.w.dir d P.inn P.kind).2.2 hen;obtain ⟨k,hk,bT,eU,ek,ek2,dn,bL,oT,hle,hzb,hcl⟩:=H4.node hin;(conv=>whnf);refine ax.o H4.tr rfl ?_;(conv=>whnf);refine aQ.i k ek hk bL ?_;(conv=>whnf);refine ax.i (hcl 1 (by decide)) ?_;(conv=>whnf);refine ak.i (λhc=>?_) (λhc=>?_)
       case' refine_1=>
        have hkd:(tn (aC L) nd).kind=2:=by rw [dn];simpa using hc
        (conv=>whnf);refine au.i (LF W.w hr P2.kind _ nd _ (Nat.lt_succ_self _) hin hkd H4) λv h5 k5 hv=>?_;obtain ⟨b,rfl,hb⟩:=hv;have H5:=H4.keep k5 (by simp);have k05:=k04.trans k5;have hB:b=true↔((tn (aC L) nd).kind=2/\iJ (aC L) f nd):=⟨λh=>⟨hkd,hb.1 h⟩,λh=>hb.2 h.2⟩;cases b
       case' refine_1.true=>
        (conv=>whnf);refine ak.t (by rw [hc];rfl) ?_;(conv=>whnf);refine ⟨k05.mono m0,1,rfl,aT,cT,L,H5,.inr ⟨np1,np2,.inr ⟨d,nm,nd,P,.inr ⟨hnd,.inr ⟨f,nm2,nd2,P2,.inr (.inl ⟨hnn,hB.1 rfl,rfl⟩)⟩⟩⟩⟩⟩
       case' refine_1.false=>
        (conv=>whnf);refine ak.f (by simp) ?_;have hnb:¬ ((tn (aC L) nd).kind=2/\iJ (aC L) f nd):=λh=>by have:=hB.2 h;cases this
       case' refine_2=>
        (conv=>whnf);refine ak.f (by rw [hc];rfl) ?_;have hnb:¬ ((tn (aC L) nd).kind=2/\iJ (aC L) f nd):=λh=>by rw [dn] at h;rw [h.1] at hc;cases hc
        have H5:=H4;have k05:=k04
       all_goals
        have z5:=k05.size;by_cases hn2:nd2=0
        ·subst hn2;(conv=>whnf);refine ak.f rfl ?_;have hd:=P.inn;have hd1:=hd.1;have hd2:=hd.2;rw [mD] at hd2;have e1:d=((d.toNat:Nat):Int):=by omega
         have hkd:d.toNat<L.length:=by omega
         have qP:tn (aC L) d=(L[d.toNat]'hkd).nd:=by have:=uG hkd;rw [<-e1] at this;exact this
         have ad:=LJ H5 (by omega) hkd P.len (by rw [<-qP];exact hpt);rw [<-e1] at ad;(conv=>whnf);refine au.m ad (by simp [aA]) λv h6 k6 hv=>?_;obtain ⟨rfl,a6,c6,H6⟩:=hv;have z6:=k6.size;have hT6:aC (L.set d.toNat ⟨{ (L[d.toNat]'hkd).nd with names:=(L[d.toNat]'hkd).nd.names.eraseIdx (aO (L[d.toNat]'hkd).nd.names nm) },a6,((L[d.toNat]'hkd).nd.names.eraseIdx (aO (L[d.toNat]'hkd).nd.names nm)).length,c6⟩)=bM (aC L) d { tn (aC L) d with names:=(tn (aC L) d).names.eraseIdx (aO (tn (aC L) d).names nm) }:=by
          rw [nV,qP];rfl
         have few6:∀ x∈L.set d.toNat ⟨{ (L[d.toNat]'hkd).nd with names:=(L[d.toNat]'hkd).nd.names.eraseIdx (aO (L[d.toNat]'hkd).nd.names nm) },a6,((L[d.toNat]'hkd).nd.names.eraseIdx (aO (L[d.toNat]'hkd).nd.names nm)).length,c6⟩,x.nd.names.length<105:=by
          intro x hx;rcases List.mem_or_eq_of_mem_set hx with hx|rfl
          ·exact W.few x hx
          ·have q1:=W.few _ (List.getElem_mem hkd);have q2:=(List.eraseIdx_sublist (L[d.toNat]'hkd).nd.names (aO (L[d.toNat]'hkd).nd.names nm)).length_le;show ((L[d.toNat]'hkd).nd.names.eraseIdx (aO (L[d.toNat]'hkd).nd.names nm)).length<105;omega
         have len6:(L.set d.toNat ⟨{ (L[d.toNat]'hkd).nd with names:=(L[d.toNat]'hkd).nd.names.eraseIdx (aO (L[d.toNat]'hkd).nd.names nm) },a6,((L[d.toNat]'hkd).nd.names.eraseIdx (aO (L[d.toNat]'hkd).nd.names nm)).length,c6⟩).length=L.length:=List.length_set;generalize L.set d.toNat ⟨{ (L[d.toNat]'hkd).nd with names:=(L[d.toNat]'hkd).nd.names.eraseIdx (aO (L[d.toNat]'hkd).nd.names nm) },a6,((L[d.toNat]'hkd).nd.names.eraseIdx (aO (L[d.toNat]'hkd).nd.names nm)).length,c6⟩=L2 at H6 hT6 few6 len6;have hf:=P2.inn;have hf1:=hf.1;have hf2:=hf.2;rw [mD] at hf2;have f1:f=((f.toNat:Nat):Int):=by omega
         have jY:f.toNat<L2.length:=by omega
         have LK:tn (aC L2) f=(L2[f.toNat]'jY).nd:=by have:=uG jY;rw [<-f1] at this;exact this
         have hpn:dx (L2[f.toNat]'jY).nd.names nm2=false:=by
          rw [<-LK,hT6,nK P.inn _ (by omega)];by_cases ol:f=d
          ·subst ol;rw [if_pos rfl];exact zk (wI (W.w.dir _ P2.inn P2.kind).2.2 _) (Gl (P2.new W.w) _)
          ·rw [if_neg ol];exact P2.uJ W.w
         have hnr:=hin.1;have hnr2:=hin.2;rw [mD] at hnr2;have af:=FJ H6 (by omega) jY (by omega) P2.len P2.name hpn (x:=nd) ⟨by omega,by omega⟩ (few6 _ (List.getElem_mem jY));rw [<-f1] at af;(conv=>whnf);refine au.m af (by simp [aA]) λv h7 k7 hv=>?_;obtain ⟨rfl,a7,c7,H7⟩:=hv;(conv=>whnf);refine ⟨((k05.mono m0).trans (k6.mono (by intro x hx;simp [hx]))).trans (k7.mono (by intro x hx;simp [hx])),0,rfl,aT,cT,_,H7,.inr ⟨np1,np2,.inr ⟨d,nm,nd,P,.inr ⟨hnd,.inr ⟨f,nm2,0,P2,.inr (.inr (.inr ⟨rfl,hnb,rfl,?_⟩))⟩⟩⟩⟩⟩;rw [nV,<-hT6,LK];rfl
        ·(conv=>whnf);refine ak.t (by simp [hn2]) ?_;(conv=>whnf);refine ⟨k05.mono m0,5,rfl,aT,cT,L,H5,.inr ⟨np1,np2,.inr ⟨d,nm,nd,P,.inr ⟨hnd,.inr ⟨f,nm2,nd2,P2,.inr (.inr (.inl ⟨hnn,hnb,hn2,rfl⟩))⟩⟩⟩⟩⟩
     ·(conv=>whnf);refine ak.t (by simp [hq4]) ?_;(conv=>whnf);exact ⟨k04.mono m0,_,rfl,aT,cT,L,H4,.inr ⟨np1,np2,.inr ⟨d,nm,nd,P,.inr ⟨hnd,.inl ⟨hq4,rfl⟩⟩⟩⟩⟩
   ·(conv=>whnf);refine ak.t (by simp [h0]) ?_;(conv=>whnf);exact ⟨k03.mono m0,_,rfl,aT,cT,L,H3,.inr ⟨np1,np2,.inl ⟨h0,rfl⟩⟩⟩
theorem ba_eq (x y:List UInt8):((ByteArray.mk x.toArray).toList==(ByteArray.mk y.toArray).toList)=decide (x=y):=by
 rw [xH];refine decide_eq_decide.2 ⟨λe=>?_,λe=>by rw [e]⟩;have:=congrArg (λb:ByteArray=>b.data.toList) e;simpa using this
theorem Mh (n:Nat)(hn:n<=1000000)(h:Heap):aD Tryz.prog 148 [.int .i64 (n:Int)] h (λv h'=>Keeps [] h h'/\v=.string ⟨(zeros n).toArray⟩):=by
 refine aH aI Tryz.func148 rfl ok148 (by simp [Tryz.f148]) ?_;(conv=>whnf);refine aP.make (n:=n) rfl rfl rfl rfl rfl (by show 1*n<=_;omega) (by omega) λb1 h1 e1 s1 o1 k1=>?_;(conv=>whnf);refine aP.textOf (l:=zeros n) rfl rfl rfl (by simp [zeros]) (λj hj=>?_) ?_
 ·have hj':j<n:=by simpa [zeros] using hj
  simp only [Heap.cell?,o1,Nat.zero_add];simp [zeros,hj']
 (conv=>whnf);exact ⟨k1,rfl⟩
theorem U4 (s:List UInt8)(hs:s.length<=2688)(at_ n:Int)(h:Heap):aD Tryz.prog 100 [.string ⟨s.toArray⟩,.int .i64 at_,.int .i64 n] h (λv h'=>Keeps [] h h'/\v=.tuple #[.string ⟨(iO s at_ n).1.toArray⟩,.int .i64 (iO s at_ n).2]):=by
 have hb:=jR s;refine aH aI Tryz.func100 rfl ok100 (by simp [Tryz.f100]) ?_;(conv=>whnf);refine ak.i (λhc=>?_) (λhc=>?_)
 ·have h1:at_<0\/n<0\/4096<n:=by simp [di] at hc;omega
  (conv=>whnf);unfold iO;rw [if_pos h1];exact ⟨Keeps.refl _ _,rfl⟩
 ·have h1:¬ (at_<0\/n<0\/4096<n):=by simp [di] at hc;omega
  (conv=>whnf);refine ak.i (λhd=>?_) (λhd=>?_)
  ·have h2:(s.length:Int)<=at_:=by
    have:at_>=((ByteArray.mk s.toArray).size:Int):=by simpa using hd
    rw [hb] at this;exact this
   (conv=>whnf);unfold iO;rw [if_neg h1,if_pos h2];exact ⟨Keeps.refl _ _,rfl⟩
  ·have h2:¬ (s.length:Int)<=at_:=by
    have:¬ at_>=((ByteArray.mk s.toArray).size:Int):=by simpa using hd
    rw [hb] at this;exact this
   (conv=>whnf);refine dm.i at_.toNat (min (s.length:Int) (at_+n)).toNat (by omega) (by rw [hb,dQ (by omega) (by omega)];split <;> omega) (by omega) (by rw [hb];omega) ?_;(conv=>whnf);refine ⟨Keeps.refl _ _,?_⟩;unfold iO;rw [if_neg h1,if_neg h2,qD]
theorem U6 (s:List UInt8)(hs:s.length<=2688)(size:Int)(h:Heap):aD Tryz.prog 99 [.string ⟨s.toArray⟩,.int .i64 size] h (λv h'=>Keeps [] h h'/\v=.tuple #[.string ⟨(iw s size).1.toArray⟩,.int .i64 (iw s size).2]):=by
 have hb:=jR s;refine aH aI Tryz.func99 rfl ok99 (by simp [Tryz.f99]) ?_;(conv=>whnf);refine ak.i (λhc=>?_) (λhc=>?_)
 ·have h1:size<0:=by simpa using hc
  (conv=>whnf);unfold iw;rw [if_pos h1];exact ⟨Keeps.refl _ _,rfl⟩
 ·have h1:¬ size<0:=by simpa using hc
  (conv=>whnf);refine ak.i (λhd=>?_) (λhd=>?_)
  ·have h2:2688<size:=by simp at hd;omega
   (conv=>whnf);unfold iw;rw [if_neg h1,if_pos h2];exact ⟨Keeps.refl _ _,rfl⟩
  ·have h2:¬ 2688<size:=by simp at hd;omega
   (conv=>whnf);refine ak.i (λhe=>?_) (λhe=>?_)
   ·have h3:size<=(s.length:Int):=by
     have:size<=((ByteArray.mk s.toArray).size:Int):=by simpa using he
     rw [hb] at this;exact this
    (conv=>whnf);refine dm.i 0 size.toNat rfl (by omega) (Nat.zero_le _) (by rw [hb];omega) ?_;(conv=>whnf);refine ⟨Keeps.refl _ _,?_⟩;unfold iw;rw [if_neg h1,if_neg h2,if_pos h3,qD];rfl
   ·have h3:¬ size<=(s.length:Int):=by
     have:¬ size<=((ByteArray.mk s.toArray).size:Int):=by simpa using he
     rw [hb] at this;exact this
    have hw:IntKind.i64.wrap (size-((ByteArray.mk s.toArray).size:Int))=((size.toNat-s.length:Nat):Int):=by
     rw [hb,wrapN (n:=size.toNat-s.length) (by omega) (by omega)]
    (conv=>whnf);rw [hw];refine au.i (Mh (size.toNat-s.length) (by omega) h) λv h1 k1 hv=>?_;subst hv;(conv=>whnf);refine dH.i (by rw [jR,jR];simp [zeros];omega) ?_;(conv=>whnf);refine ⟨k1,?_⟩;unfold iw;rw [if_neg (by omega),if_neg h2,if_neg h3,uh]
theorem U5 (s:List UInt8)(hs:s.length<=2688)(at_:Int)(data:List UInt8)(hdl:data.length<=140737488351232)(h:Heap):aD Tryz.prog 98 [.string ⟨s.toArray⟩,.int .i64 at_,.string ⟨data.toArray⟩] h (λv h'=>Keeps [] h h'/\v=.tuple #[.string ⟨(fq s at_ data).1.toArray⟩,.int .i64 (fq s at_ data).2]):=by
 have hb:=jR s;have hbd:=jR data;refine aH aI Tryz.func98 rfl ok98 (by simp [Tryz.f98]) ?_;(conv=>whnf);refine ak.i (λhc=>?_) (λhc=>?_)
 ·have h1:at_<0\/400<data.length:=by
   simp [di] at hc;rcases hc with h|h
   ·exact .inl h
   ·right
    have:(400:Int)<((ByteArray.mk data.toArray).size:Int):=h;rw [hbd] at this;omega
  (conv=>whnf);unfold fq;rw [if_pos h1];exact ⟨Keeps.refl _ _,rfl⟩
 ·have h1':¬ (at_<0\/400<data.length):=by
   simp [di] at hc;rintro (h|h)
   ·omega
   ·have h':=hc.2;have:((ByteArray.mk data.toArray).size:Int)<=400:=h';rw [hbd] at this;omega
  (conv=>whnf);refine ak.i (λhd=>?_) (λhd=>?_)
  ·have h2:data=[]:=by
    have:=ba_eq data [];rw [show ((ByteArray.mk data.toArray).toList==(ByteArray.mk ([]:List UInt8).toArray).toList)=true from hd] at this;simpa using this.symm
   (conv=>whnf);unfold fq;rw [if_neg h1',if_pos h2];exact ⟨Keeps.refl _ _,rfl⟩
  ·have h2:¬ data=[]:=by
    have:=ba_eq data [];rw [show ((ByteArray.mk data.toArray).toList==(ByteArray.mk ([]:List UInt8).toArray).toList)=false from hd] at this;simpa using this.symm
   have hw:IntKind.i64.wrap (2688-((ByteArray.mk data.toArray).size:Int))=2688-(data.length:Int):=by
    rw [hbd,dQ (by omega) (by omega)]
   (conv=>whnf);refine ak.i (λhe=>?_) (λhe=>?_)
   ·have h3:2688-(data.length:Int)<at_:=by rw [hw] at he;simpa using he
    (conv=>whnf);unfold fq;rw [if_neg h1',if_neg h2,if_pos h3];exact ⟨Keeps.refl _ _,rfl⟩
   ·have h3:¬ 2688-(data.length:Int)<at_:=by rw [hw] at he;simpa using he
    obtain ⟨a,rfl⟩:∃ a:Nat,at_=(a:Int):=⟨at_.toNat,by omega⟩;have hadd:IntKind.i64.wrap ((a:Int)+((ByteArray.mk data.toArray).size:Int))=((a+data.length:Nat):Int):=by
     rw [hbd,wrapN (n:=a+data.length) (by simp) (by omega)]
    (conv=>whnf);refine aU.pass ?_;(conv=>whnf);refine ak.i (λhf=>?c1) (λhf=>?c2)
    case' c1=>
     have h4:s.length<a+data.length:=by
      rw [hadd,hb] at hf;have:(s.length:Int)<((a+data.length:Nat):Int):=by simpa using hf
      omega
     have hw2:IntKind.i64.wrap (IntKind.i64.wrap ((a:Int)+((ByteArray.mk data.toArray).size:Int))-((ByteArray.mk s.toArray).size:Int))=((a+data.length-s.length:Nat):Int):=by
      rw [hadd,hb,wrapN (n:=a+data.length-s.length) (by omega) (by omega)]
     (conv=>whnf);rw [hw2];refine au.i (Mh (a+data.length-s.length) (by omega) h) λv h1 k1 hv=>?_;subst hv;(conv=>whnf);refine dH.i (by rw [jR,jR];simp [zeros];omega) ?_;have hs1:(ByteArray.mk s.toArray++⟨(zeros (a+data.length-s.length)).toArray⟩)=⟨(s++zeros (a+data.length-s.length)).toArray⟩:=uh _ _;rw [hs1]
    case' c2=>
     have h4:¬ s.length<a+data.length:=by
      rw [hadd,hb] at hf;have:¬ (s.length:Int)<((a+data.length:Nat):Int):=by simpa using hf
      omega
     obtain ⟨h1,rfl⟩:∃ x,x=h:=⟨_,rfl⟩;have k1:Keeps [] h1 h1:=Keeps.refl _ _;have hs1:s=s++zeros (a+data.length-s.length):=by
      rw [show a+data.length-s.length=0 by omega];simp [zeros]
     rw [show (ByteArray.mk s.toArray)=⟨(s++zeros (a+data.length-s.length)).toArray⟩ from congrArg (λl:List UInt8=>ByteArray.mk l.toArray) hs1]
    all_goals
     obtain ⟨w,FP⟩:∃ w,w=s++zeros (a+data.length-s.length):=⟨_,rfl⟩;rw [<-FP];have hwl:a+data.length<=w.length/\w.length<=2688:=by
      rw [FP,List.length_append];simp only [zeros,List.length_replicate];omega
     have hbw:=jR w;(conv=>whnf);refine dm.i 0 a rfl rfl (Nat.zero_le _) (by rw [hbw];omega) ?_;rw [qD];(conv=>whnf);refine dH.i (by rw [jR,jR,List.length_drop,List.length_take];omega) ?_;rw [uh];(conv=>whnf);refine dm.i (a+data.length) w.length hadd (by rw [hbw]) hwl.1 (by rw [hbw];omega) ?_;rw [qD];(conv=>whnf);refine dH.i (by rw [jR,jR,List.length_append,List.length_drop,List.length_take,List.length_drop,List.length_take];omega) ?_;(conv=>whnf);refine ⟨k1,?_⟩;rw [uh];unfold fq;rw [if_neg h1',if_neg h2,if_neg h3,Int.toNat_natCast,<-FP,List.take_of_length_le (Nat.le_refl w.length),List.drop_zero]
def tE (T:List aS)(path:List UInt8):Int:=if (aW (aY T) path true).2=0/\(tn T (aW (aY T) path true).1).kind=2 then 7 else (aW (aY T) path true).2
def tX (T:List aS)(path:List UInt8):Int:=(aW (aY T) path true).1
theorem ze {T:List aS}{path:List UInt8}(h:tE T path=0):(aW (aY T) path true).2=0/\(tn T (tX T path)).kind≠2:=by
 unfold tE at h;split at h
 ·cases h
 ·rename_i hn;exact ⟨h,λhk=>hn ⟨h,hk⟩⟩
theorem FI {h:Heap}{z t:Nat}{aT:Option Addr}{cT:Nat}{L:List bV}(H:cZ h z t aT cT L)(W:kV L)(path:List UInt8)(hp:path.length<=1048576) :
 aD Tryz.prog 97 [.pointer (some ⟨t,0,none⟩),.string (ba path)] h (λv h'=>Keeps [] h h'/\∃ x:Int,v=.tuple #[.int .i64 x,.int .i64 (tE (aC L) path)]/\(tE (aC L) path=0->x=tX (aC L) path)):=by
 refine aH aI Tryz.func97 rfl ok97 (by simp [Tryz.f97]) ?_;(conv=>whnf);refine au.i (yO H W.w W.dl path hp true) λv h1 k1 hv=>?_;subst hv;have H1:=H.keep k1 (by simp);unfold tE tX;by_cases h0:(aW (aY (aC L)) path true).2=0
 ·have hin:=su W.w h0;generalize aW (aY (aC L)) path true=p at h0 hin ⊢;obtain ⟨x,px⟩:=p;simp only at h0 hin;subst h0;obtain ⟨k,hk,bT,eU,ek,ek2,dn,bL,oT,hle,hzb,hcl⟩:=H1.node hin;(conv=>whnf);refine ax.o H1.tr rfl ?_;(conv=>whnf);refine aQ.i k ek hk bL ?_;(conv=>whnf);refine ax.i (hcl 1 (by decide)) ?_;by_cases hk2:(L[k]'hk).nd.kind=2
  ·(conv=>whnf);refine ak.t (by simp [hk2]) ?_;(conv=>whnf);refine ⟨k1,0,?_,λh=>?_⟩
   ·rw [if_pos ⟨rfl,by rw [dn];exact hk2⟩]
   ·rw [if_pos ⟨rfl,by rw [dn];exact hk2⟩] at h;cases h
  ·(conv=>whnf);refine ak.f (by simp [hk2]) ?_;(conv=>whnf);refine ⟨k1,x,?_,λh=>rfl⟩;rw [if_neg (λh=>hk2 (by rw [<-dn];exact h.2))]
 ·have hne:((aW (aY (aC L)) path true).2==0)=false:=by simp [h0]
  (conv=>whnf);refine ax.o H1.tr rfl ?_;(conv=>whnf);refine aQ.u 0 0 0 (λh=>by rw [hne] at h;cases h) ?_;(conv=>whnf);refine ax.u (.int .i64 0) (λh=>by rw [hne] at h;cases h) ?_;(conv=>whnf);refine ak.f (by rw [hne];rfl) ?_;(conv=>whnf);refine ⟨k1,_,?_,λh=>rfl⟩;rw [if_neg (λh=>h0 h.1)]
theorem UZ {h:Heap}{z t:Nat}{aT:Option Addr}{cT:Nat}{L:List bV}(H:cZ h z t aT cT L)(W:kV L)(path:List UInt8)(hp:path.length<=1048576)(at_ n:Int) :
 aD Tryz.prog 52 [.pointer (some ⟨t,0,none⟩),.string (ba path),.int .i64 at_,.int .i64 n] h (λv h'=>Keeps [] h h'/\v=(if tE (aC L) path=0 then .tuple #[.string (ba (iO (tn (aC L) (tX (aC L) path)).data at_ n).1),.int .i64 (iO (tn (aC L) (tX (aC L) path)).data at_ n).2] else .tuple #[.string (ba []),.int .i64 (tE (aC L) path)])):=by
 refine aH aI Tryz.func52 rfl ok52 (by simp [Tryz.f52]) ?_;(conv=>whnf);refine au.i (FI H W path hp) λv h1 k1 hv=>?_;obtain ⟨x,rfl,hx⟩:=hv;have H1:=H.keep k1 (by simp);by_cases h0:tE (aC L) path=0
 ·obtain ⟨e1,e2⟩:=ze h0;have hin:=su W.w e1;have hpa:=W.pa path true e1;have hx0:=hx h0;subst hx0;rw [if_pos h0,h0];obtain ⟨k,hk,bT,eU,ek,ek2,dn,bL,oT,hle,hzb,hcl⟩:=H1.node hin;(conv=>whnf);refine ak.f rfl ?_;(conv=>whnf);refine ax.o H1.tr rfl ?_;(conv=>whnf);refine aQ.i k ek hk bL ?_;(conv=>whnf);refine ax.i (hcl 3 (by decide)) ?_;(conv=>whnf);refine au.i (U4 (L[k]'hk).nd.data (by rw [<-dn];exact hpa) at_ n h1) λv h2 k2 hv=>?_;subst hv;(conv=>whnf);refine ⟨k1.trans k2,?_⟩;have:tn (aC L) (tX (aC L) path)=(L[k]'hk).nd:=dn;rw [this];rfl
 ·rw [if_neg h0];(conv=>whnf);refine ak.t (by simp [h0]) ?_;(conv=>whnf);exact ⟨k1,rfl⟩
def nH (T:List aS)(path:List UInt8)(r:List UInt8->List UInt8×Int)(e:Int)(T':List aS):Prop:=
 (tE T path≠0/\e=tE T path)\/(tE T path=0/\(r (tn T (tX T path)).data).2≠0/\e=(r (tn T (tX T path)).data).2) \/
 (tE T path=0/\(r (tn T (tX T path)).data).2=0/\e=0/\T'=bM T (tX T path) { tn T (tX T path) with data:=(r (tn T (tX T path)).data).1 })
theorem UX {h:Heap}{z t:Nat}{aT:Option Addr}{cT:Nat}{L:List bV}(H:cZ h z t aT cT L)(W:kV L)(path:List UInt8)(hp:path.length<=1048576)(at_:Int)(data:List UInt8)(hd:data.length<=140737488351232) :
 aD Tryz.prog 50 [.pointer (some ⟨t,0,none⟩),.string (ba path),.int .i64 at_,.string (ba data)] h (λv h'=>Keeps (t::ay aT) h h'/\∃ e:Int,v=.int .i64 e/\∃ d9 eF L',cZ h' z t d9 eF L'/\nH (aC L) path (λs=>fq s at_ data) e (aC L')):=by
 have m0:∀ x∈([]:List Nat),x∈t::ay aT:=by simp
 refine aH aI Tryz.func50 rfl ok50 (by simp [Tryz.f50]) ?_;(conv=>whnf);refine au.i (FI H W path hp) λv h1 k1 hv=>?_;obtain ⟨x,rfl,hx⟩:=hv;have H1:=H.keep k1 (by simp);by_cases h0:tE (aC L) path=0
 ·obtain ⟨e1,e2⟩:=ze h0;have hin:=su W.w e1;have hpa:=W.pa path true e1;have hx0:=hx h0;subst hx0;rw [h0];obtain ⟨k,hk,bT,eU,ek,ek2,dn,bL,oT,hle,hzb,hcl⟩:=H1.node hin;have nA:tn (aC L) (tX (aC L) path)=(L[k]'hk).nd:=dn;have vT:(tX (aC L) path).toNat=k:=ek2;(conv=>whnf);refine ak.f rfl ?_;(conv=>whnf);refine ax.o H1.tr rfl ?_;(conv=>whnf);refine aQ.i k ek hk bL ?_;(conv=>whnf);refine ax.i (hcl 3 (by decide)) ?_;(conv=>whnf);refine au.i (U5 (L[k]'hk).nd.data (by rw [<-dn];exact hpa) at_ data hd h1) λv h2 k2 hv=>?_;subst hv;have H2:=H1.keep k2 (by simp);have oT2:=k2.obj oT (by simp);unfold nH;rw [nA];simp only;generalize fq (L[k]'hk).nd.data at_ data=r at *;obtain ⟨s,e⟩:=r;simp only;(conv=>whnf);(try refine aU.pass ?_;conv=>whnf);refine ak.i (λhc=>?_) (λhc=>?_)
  ·have he:e=0:=by simpa using hc
   subst he;(conv=>whnf);refine ax.o H2.tr rfl ?_;(conv=>whnf);refine aQ.i k ek hk bL ?_;(conv=>whnf);refine dO.i oT2 ?_ (by simp [aA]) λh3 s3 o3 k3=>?_
   ·show 0+k*5+3+1<=eU.length;omega
   have mO:h3[bT]?=some (.cells ⟨bC (k*5+3) [.string (ba s)] eU⟩ 77 (0,0)):=by
    have:0+k*5+3=k*5+3:=by omega
    rw [<-this];exact o3
   have H3:=H2.set hk bL oT2 k3 (j:=3) (by decide) mO ⟨{ (L[k]'hk).nd with data:=s },(L[k]'hk).a,(L[k]'hk).n,(L[k]'hk).c⟩ rfl (by obtain ⟨n1,n2,n3,n4,n5⟩:=H2.jy _ (List.getElem_mem hk);exact ⟨n1,n2,n3,n4,n5⟩);(conv=>whnf);refine ⟨((k1.trans k2).mono m0).gL k3 (λy hy=>by
    have:y=bT:=by simpa using hy
    left;rw [bL];simp [ay,this]),0,rfl,aT,cT,_,H3,.inr (.inr ⟨h0,rfl,rfl,?_⟩)⟩
   rw [nV];unfold bM;rw [vT]
  ·have he:e≠0:=by simpa using hc
   (conv=>whnf);exact ⟨(k1.trans k2).mono m0,e,rfl,aT,cT,L,H2,.inr (.inl ⟨h0,he,rfl⟩)⟩
 ·(conv=>whnf);refine ak.t (by simp [h0]) ?_;(conv=>whnf);exact ⟨k1.mono m0,_,rfl,aT,cT,L,H1,.inl ⟨h0,rfl⟩⟩
theorem UY {h:Heap}{z t:Nat}{aT:Option Addr}{cT:Nat}{L:List bV}(H:cZ h z t aT cT L)(W:kV L)(path:List UInt8)(hp:path.length<=1048576)(size:Int) :
 aD Tryz.prog 51 [.pointer (some ⟨t,0,none⟩),.string (ba path),.int .i64 size] h (λv h'=>Keeps (t::ay aT) h h'/\∃ e:Int,v=.int .i64 e/\∃ d9 eF L',cZ h' z t d9 eF L'/\nH (aC L) path (λs=>iw s size) e (aC L')):=by
 have m0:∀ x∈([]:List Nat),x∈t::ay aT:=by simp
 refine aH aI Tryz.func51 rfl ok51 (by simp [Tryz.f51]) ?_;(conv=>whnf);refine au.i (FI H W path hp) λv h1 k1 hv=>?_;obtain ⟨x,rfl,hx⟩:=hv;have H1:=H.keep k1 (by simp);by_cases h0:tE (aC L) path=0
 ·obtain ⟨e1,e2⟩:=ze h0;have hin:=su W.w e1;have hpa:=W.pa path true e1;have hx0:=hx h0;subst hx0;rw [h0];obtain ⟨k,hk,bT,eU,ek,ek2,dn,bL,oT,hle,hzb,hcl⟩:=H1.node hin;have nA:tn (aC L) (tX (aC L) path)=(L[k]'hk).nd:=dn;have vT:(tX (aC L) path).toNat=k:=ek2;(conv=>whnf);refine ak.f rfl ?_;(conv=>whnf);refine ax.o H1.tr rfl ?_;(conv=>whnf);refine aQ.i k ek hk bL ?_;(conv=>whnf);refine ax.i (hcl 3 (by decide)) ?_;(conv=>whnf);refine au.i (U6 (L[k]'hk).nd.data (by rw [<-dn];exact hpa) size h1) λv h2 k2 hv=>?_;subst hv;have H2:=H1.keep k2 (by simp);have oT2:=k2.obj oT (by simp);unfold nH;rw [nA];simp only;generalize iw (L[k]'hk).nd.data size=r at *;obtain ⟨s,e⟩:=r;simp only;(conv=>whnf);(try refine aU.pass ?_;conv=>whnf);refine ak.i (λhc=>?_) (λhc=>?_)
  ·have he:e=0:=by simpa using hc
   subst he;(conv=>whnf);refine ax.o H2.tr rfl ?_;(conv=>whnf);refine aQ.i k ek hk bL ?_;(conv=>whnf);refine dO.i oT2 ?_ (by simp [aA]) λh3 s3 o3 k3=>?_
   ·show 0+k*5+3+1<=eU.length;omega
   have mO:h3[bT]?=some (.cells ⟨bC (k*5+3) [.string (ba s)] eU⟩ 77 (0,0)):=by
    have:0+k*5+3=k*5+3:=by omega
    rw [<-this];exact o3
   have H3:=H2.set hk bL oT2 k3 (j:=3) (by decide) mO ⟨{ (L[k]'hk).nd with data:=s },(L[k]'hk).a,(L[k]'hk).n,(L[k]'hk).c⟩ rfl (by obtain ⟨n1,n2,n3,n4,n5⟩:=H2.jy _ (List.getElem_mem hk);exact ⟨n1,n2,n3,n4,n5⟩);(conv=>whnf);refine ⟨((k1.trans k2).mono m0).gL k3 (λy hy=>by
    have:y=bT:=by simpa using hy
    left;rw [bL];simp [ay,this]),0,rfl,aT,cT,_,H3,.inr (.inr ⟨h0,rfl,rfl,?_⟩)⟩
   rw [nV];unfold bM;rw [vT]
  ·have he:e≠0:=by simpa using hc
   (conv=>whnf);exact ⟨(k1.trans k2).mono m0,e,rfl,aT,cT,L,H2,.inr (.inl ⟨h0,he,rfl⟩)⟩
 ·(conv=>whnf);refine ak.t (by simp [h0]) ?_;(conv=>whnf);exact ⟨k1.mono m0,_,rfl,aT,cT,L,H1,.inl ⟨h0,rfl⟩⟩
theorem U0 {h:Heap}{z t:Nat}{aT:Option Addr}{cT:Nat}{L:List bV}(H:cZ h z t aT cT L)(W:kV L)(path:List UInt8)(hp:path.length<=1048576) :
 aD Tryz.prog 53 [.pointer (some ⟨t,0,none⟩),.string (ba path)] h (λv h'=>Keeps [] h h'/\v=(if (aW (aY (aC L)) path false).2=0 then .tuple #[.agg #[.int .i64 0,.int .i64 (tn (aC L) (aW (aY (aC L)) path false).1).kind,.int .i64 (tn (aC L) (aW (aY (aC L)) path false).1).links,.int .i64 ((((tn (aC L) (aW (aY (aC L)) path false).1).data.length+(tn (aC L) (aW (aY (aC L)) path false).1).names.length:Nat):Int))],.int .i64 0] else .tuple #[.agg #[.int .i64 0,.int .i64 0,.int .i64 0,.int .i64 0],.int .i64 (aW (aY (aC L)) path false).2])):=by
 refine aH aI Tryz.func53 rfl ok53 (by simp [Tryz.f53]) ?_;(conv=>whnf);refine aR.i λb0 h0 e0 s0 o0 k0=>?_;(conv=>whnf);refine au.i (yO (H.keep k0 (by simp)) W.w W.dl path hp false) λv h1 k1 hv=>?_;subst hv;have k01:=k0.trans k1;have H1:=H.keep k01 (by simp);have o1:=k1.obj o0 (by simp);by_cases h0:(aW (aY (aC L)) path false).2=0
 ·have hin:=su W.w h0;have hpa:=W.pa path false h0;rw [if_pos h0];generalize aW (aY (aC L)) path false=p at h0 hin hpa ⊢;obtain ⟨x,px⟩:=p;simp only at h0 hin hpa ⊢;subst h0;obtain ⟨k,hk,bT,eU,ek,ek2,dn,bL,oT,hle,hzb,hcl⟩:=H1.node hin;obtain ⟨n1,n2,n3,n4,n5⟩:=H1.jy _ (List.getElem_mem hk);rw [dn] at hpa ⊢;(conv=>whnf);refine ak.f rfl ?_;(conv=>whnf);refine ax.o H1.tr rfl ?_;(conv=>whnf);refine aQ.i k ek hk bL ?_;(conv=>whnf);refine eY.i (vs:=(L[k]'hk).cells) rfl (λj hj=>hcl j hj) ?_;(conv=>whnf);refine aR.i λb2 h2 e2 s2 o2 k2=>?_;(conv=>whnf);refine aN.i λh3 s3 k3=>?_;(conv=>whnf);refine aN.i λh4 s4 k4=>?_;(conv=>whnf);have z0:=k0.size;have z1:=k1.size;have z2:=k2.size;have z3:=k3.size;refine ⟨((k01.trans k2).new1 k3 (by omega)).new1 k4 (by omega),?_⟩;have hlen:(ba (L[k]'hk).nd.data).size=(L[k]'hk).nd.data.length:=vU _;have ew:IntKind.i64.wrap (((ba (L[k]'hk).nd.data).size:Int)+((L[k]'hk).n:Int))=((((L[k]'hk).nd.data.length+(L[k]'hk).nd.names.length:Nat):Int)):=by
   rw [hlen,n1];exact wrapN (by omega) (by omega)
  show Value.tuple #[.agg #[.int .i64 0,.int .i64 _,.int .i64 _,.int .i64 (IntKind.i64.wrap (((ba (L[k]'hk).nd.data).size:Int)+((L[k]'hk).n:Int)))],.int .i64 0]=_;rw [ew]
 ·rw [if_neg h0];(conv=>whnf);refine ak.t (by simp [h0]) ?_;(conv=>whnf);refine aN.i λh2 s2 k2=>?_;(conv=>whnf);have z0:=k0.size;have z1:=k1.size;exact ⟨k01.new1 k2 (by omega),rfl⟩
theorem U1 {h:Heap}{z t:Nat}{aT:Option Addr}{cT:Nat}{L:List bV}(H:cZ h z t aT cT L)(W:kV L)(path:List UInt8)(hp:path.length<=1048576) :
 aD Tryz.prog 54 [.pointer (some ⟨t,0,none⟩),.string (ba path)] h (λv h'=>Keeps [] h h'/\v=(if (aW (aY (aC L)) path false).2=0 then (if (tn (aC L) (aW (aY (aC L)) path false).1).kind=3 then .tuple #[.string (ba (tn (aC L) (aW (aY (aC L)) path false).1).data),.int .i64 0] else .tuple #[.string (ba []),.int .i64 1]) else .tuple #[.string (ba []),.int .i64 (aW (aY (aC L)) path false).2])):=by
 refine aH aI Tryz.func54 rfl ok54 (by simp [Tryz.f54]) ?_;(conv=>whnf);refine au.i (yO H W.w W.dl path hp false) λv h1 k1 hv=>?_;subst hv;have H1:=H.keep k1 (by simp);by_cases h0:(aW (aY (aC L)) path false).2=0
 ·have hin:=su W.w h0;rw [if_pos h0];generalize aW (aY (aC L)) path false=p at h0 hin ⊢;obtain ⟨x,px⟩:=p;simp only at h0 hin ⊢;subst h0;obtain ⟨k,hk,bT,eU,ek,ek2,dn,bL,oT,hle,hzb,hcl⟩:=H1.node hin;rw [dn];(conv=>whnf);refine ak.f rfl ?_;(conv=>whnf);refine ax.o H1.tr rfl ?_;(conv=>whnf);refine aQ.i k ek hk bL ?_;(conv=>whnf);refine ax.i (hcl 1 (by decide)) ?_;by_cases h3:(L[k]'hk).nd.kind=3
  ·rw [if_pos h3];(conv=>whnf);refine ak.f (by simp [h3]) ?_;(conv=>whnf);refine ax.o H1.tr rfl ?_;(conv=>whnf);refine aQ.i k ek hk bL ?_;(conv=>whnf);refine ax.i (hcl 3 (by decide)) ?_;(conv=>whnf);exact ⟨k1,rfl⟩
  ·rw [if_neg h3];(conv=>whnf);refine ak.t (by simp [h3]) ?_;(conv=>whnf);exact ⟨k1,rfl⟩
 ·rw [if_neg h0];(conv=>whnf);refine ak.t (by simp [h0]) ?_;(conv=>whnf);exact ⟨k1,rfl⟩
def fV (l:List aF):List (List UInt8):=l.map (·.name)
theorem pu (l:List aF):(fV l).length=l.length:=by simp [fV]
def Gu (h h':Heap)(l:List (List UInt8))(v:Value)(e:Int):Prop:=∃ a c,v=.tuple #[.slice a l.length c,.int .i64 e]/\Own h' 9 1 a l.length c ((bq l).map λx=>.string x)/\∀ b∈ay a,h.size<=b
def lE (T:List aS)(path:List UInt8):Int:=if (aW (aY T) path true).2=0/\(tn T (aW (aY T) path true).1).kind≠2 then 6 else (aW (aY T) path true).2
theorem Gw {h:Heap}{a:Option Addr}{n c:Nat}{l:List (List UInt8)}(O:Own h 9 1 a n c ((bq l).map λx=>.string x))(hn:n=l.length)(hb:n<=10000){s:List UInt8}{b:Nat}(o:Heap.cell? h b 0=some (.string (ba s))){bs:List Nat}(hbs:∀ z∈ay a,z∉bs){ty:TypeId}{c2:Nat}{K:Value->Heap->Prop}
 (H:∀ a' c' h',Own h' 9 1 a' (n+1) c' ((bq (l++[s])).map λx=>.string x)->Keeps (ay a) h h'->(∀ z∈ay a',z∈ay a\/h.size<=z)->K (.slice a' (n+1) c') h') :
 aP Tryz.prog (Builtin.append_ #[52,52] ty ⟨[.slice a n c,.slice (some ⟨b,0,none⟩) 1 c2]⟩) bs h K:=by
 refine jO (e:=9) (sz:=1) (aL:=16) (new:=[.string (ba s)]) rfl rfl rfl rfl rfl rfl rfl O rfl (λj hj=>?_) rfl (by omega) (by decide) hbs ?_
 ·have hj0:j=0:=by simpa using hj
  subst hj0;exact o
 intro a' c' h' O' k' n';refine H a' c' h' ?_ k' n';have:bq (l++[s])=bq l++[ba s]:=by simp [bq]
 rw [this,List.map_append];exact O'
theorem U2 {h:Heap}{z t:Nat}{aT:Option Addr}{cT:Nat}{L:List bV}(H:cZ h z t aT cT L)(W:kV L)(path:List UInt8)(hp:path.length<=1048576) :
 aD Tryz.prog 55 [.pointer (some ⟨t,0,none⟩),.string (ba path)] h (λv h'=>Keeps [] h h'/\Gu h h' (if lE (aC L) path=0 then fV (tn (aC L) (tX (aC L) path)).names else []) v (lE (aC L) path)):=by
 refine aH aI Tryz.func55 rfl ok55 (by simp [Tryz.f55]) ?_;(conv=>whnf);refine au.i (yO H W.w W.dl path hp true) λv h1 k1 hv=>?_;subst hv;have z1:=k1.size;have H1:=H.keep k1 (by simp);by_cases h0:(aW (aY (aC L)) path true).2=0
 ·have hin:=su W.w h0;obtain ⟨k,hk,bT,eU,ek,ek2,dn,bL,oT,hle,hzb,hcl⟩:=H1.node hin;obtain ⟨n1,n2,n3,n4,n5⟩:=H1.jy _ (List.getElem_mem hk);have S:=jX n2 n4 (by omega);(conv=>whnf);(try refine aU.pass ?_;conv=>whnf);refine ax.o H1.tr rfl ?_;(conv=>whnf);refine aQ.i k ek hk bL ?_;(conv=>whnf);refine ax.i (hcl 1 (by decide)) ?_;by_cases hk2:(L[k]'hk).nd.kind=2
  ·have hl:lE (aC L) path=0:=by unfold lE;rw [if_neg (λh=>h.2 (by rw [dn];exact hk2))];exact h0
   have hN:(if lE (aC L) path=0 then fV (tn (aC L) (tX (aC L) path)).names else [])=fV (L[k]'hk).nd.names:=by rw [if_pos hl];unfold tX;rw [dn]
   rw [hN,hl];(conv=>whnf);refine ak.f (by simp [hk2]) ?_;(conv=>whnf);refine ak.f (by simp [h0]) ?_;(conv=>whnf);refine bP.on [0,6,8,9] [] (λq:Nat×Option Addr×Nat=>[(0,.v (.pointer (some ⟨t,0,none⟩))),(6,.v (.int .i64 (aW (aY (aC L)) path true).1)),(8,.v (.slice q.2.1 q.1 q.2.2)),(9,.v (.int .i64 (q.1:Int)))]) (λ_=>[])
    (λq h'=>q.1<=(L[k]'hk).nd.names.length/\Keeps [] h h'/\Own h' 9 1 q.2.1 q.1 q.2.2 ((bq ((fV (L[k]'hk).nd.names).take q.1)).map λx=>.string x)/\(∀ b∈ay q.2.1,h.size<=b)) (λq=>(L[k]'hk).nd.names.length-q.1) (0,none,0) ?_ ?_
   ·(conv=>whnf);exact ⟨(0,none,0),rfl,rfl,rfl,Nat.zero_le _,k1,.inl ⟨rfl,rfl,rfl,rfl⟩,λb hb=>(by cases hb)⟩
   ·rintro ⟨i,a,c⟩ h2 ⟨hi,k2,O2,nb2⟩;simp only at hi O2 nb2;have H2:=H.keep k2 (by simp);obtain ⟨k',hk',FH,BD,vS,vT,nA,pV,BF,hle',LD,hcl'⟩:=H2.node hin;have:k'=k:=by omega
    subst this;rw [bL] at pV;cases pV;obtain ⟨m1,m2,m3,m4,m5⟩:=H2.jy _ (List.getElem_mem hk);have S2:=jX m2 m4 (by omega);(conv=>whnf);refine ax.o H2.tr rfl ?_;(conv=>whnf);refine aQ.i k' ek hk bL ?_;(conv=>whnf);refine ax.i (hcl' 4 (by decide)) ?_;(conv=>whnf);refine ak.i (λhd=>?_) (λhd=>?_)
    ·have hi1:i<(L[k']'hk).nd.names.length:=by rw [m1] at hd;simp at hd;omega
     obtain ⟨b6,o6,hb6,_,⟨rfl,hok⟩,hc6⟩:=S2.at_ i hi1;have hnl:i<(fV (L[k']'hk).nd.names).length:=by rw [pu];exact hi1
     have htl:((fV (L[k']'hk).nd.names).take i).length=i:=by rw [List.length_take];omega
     have hnx:(fV (L[k']'hk).nd.names).take (i+1)=(fV (L[k']'hk).nd.names).take i++[((L[k']'hk).nd.names[i]'hi1).name]:=by
      rw [List.take_succ_eq_append_getElem hnl];simp [fV]
     (conv=>whnf);refine ax.o H2.tr rfl ?_;(conv=>whnf);refine aQ.i k' ek hk bL ?_;(conv=>whnf);refine ax.i (hcl' 4 (by decide)) ?_;(conv=>whnf);refine aQ.i i rfl (by omega) hb6 ?_;(conv=>whnf);refine ax.i (hc6 0 (show 0<2 by decide)) ?_;(conv=>whnf);refine aR.i λb3 h3 e3 s3 o3 k3=>?_;(conv=>whnf);refine Gw (s:=((L[k']'hk).nd.names[i]'hi1).name) (O2.keep k3 (by simp)) htl.symm (by omega) (by simp only [Heap.cell?,o3];rfl) (by simp [aA]) ?_;intro a4 c4 h4 O4 k4 n4;have ew:IntKind.i64.wrap ((i:Int)+1)=((i+1:Nat):Int):=wrapN (by simp) (by omega);have z2:=k2.size;have z3:=k3.size;(conv=>whnf);refine ⟨(L[k']'hk).nd.names.length-(i+1),by omega,?_⟩;(conv=>whnf);rw [ew];refine ⟨(i+1,a4,c4),rfl,rfl,rfl,hi1,(k2.trans k3).dL k4 nb2,by rw [hnx];exact O4,λb hb=>?_⟩;rcases n4 b hb with h|h
     ·exact nb2 b h
     ·omega
    ·have hi1:i=(L[k']'hk).nd.names.length:=by rw [m1] at hd;simp at hd;omega
     (conv=>whnf);have ht:(fV (L[k']'hk).nd.names).take i=fV (L[k']'hk).nd.names:=by rw [hi1,<-pu,List.take_length]
     rw [ht,hi1,<-pu] at O2;exact ⟨k2,a,c,by rw [pu,hi1],O2,nb2⟩
  ·have hl:lE (aC L) path=6:=by unfold lE;rw [if_pos ⟨h0,by rw [dn];exact hk2⟩]
   rw [hl,if_neg (by decide)];(conv=>whnf);refine ak.t (by simp [hk2,h0]) ?_;(conv=>whnf);refine ak.t rfl ?_;(conv=>whnf);exact ⟨k1,none,0,rfl,.inl ⟨rfl,rfl,rfl,rfl⟩,λb hb=>(by cases hb)⟩
 ·have hne:((aW (aY (aC L)) path true).2==0)=false:=by simp [h0]
  have hl:lE (aC L) path=(aW (aY (aC L)) path true).2:=by unfold lE;rw [if_neg (λh=>h0 h.1)]
  have hN:(if lE (aC L) path=0 then fV (tn (aC L) (tX (aC L) path)).names else [])=[]:=by rw [if_neg (by rw [hl];exact h0)]
  rw [hN,hl];(conv=>whnf);(try refine aU.pass ?_;conv=>whnf);refine ax.o H1.tr rfl ?_;(conv=>whnf);refine aQ.u 0 0 0 (λh=>by rw [hne] at h;cases h) ?_;(conv=>whnf);refine ax.u (.int .i64 0) (λh=>by rw [hne] at h;cases h) ?_;(conv=>whnf);refine ak.f (by rw [hne];rfl) ?_;(conv=>whnf);refine ak.t (by simp [h0]) ?_;(conv=>whnf);exact ⟨k1,none,0,rfl,.inl ⟨rfl,rfl,rfl,rfl⟩,λb hb=>(by cases hb)⟩
structure cO where
 kind:Int
 path:List UInt8
 path2:List UInt8
 data:List UInt8
 at_:Int
 n:Int
def cO.cells (c:cO):List Value:=[.int .i64 c.kind,.string (ba c.path),.string (ba c.path2),.string (ba c.data),.int .i64 c.at_,.int .i64 c.n]
def cO.ok (c:cO):Prop:=inI64 c.kind/\c.path.length<=140737488351232/\c.path2.length<=140737488351232/\c.data.length<=140737488351232/\inI64 c.at_/\inI64 c.n
structure dJ where
 err:Int
 data:List UInt8
 k:Int
 l:Int
 s:Int
 names:List (List UInt8)
def bO (e:Int):dJ:=⟨e,[],0,0,0,[]⟩
def jW (l:List (List UInt8)):List aF:=l.map λx=>⟨x,0⟩
theorem LA (l:List (List UInt8)):(jW l).length=l.length:=by simp [jW]
def wo (e:Int)(d:List UInt8)(k l s:Int)(a:Option Addr)(n c:Nat):Value:=.agg #[.int .i64 e,.int .i64 0,.string (ba d),.int .i64 0,.int .i64 k,.int .i64 l,.int .i64 s,.slice a n c]
def gD (r:dJ):Prop:=(∀ x∈r.names,x.length<=140737488351232)/\r.names.length<=105
theorem gD.nil {r:dJ}(h:r.names=[]):gD r:=⟨λx hx=>(by rw [h] at hx;cases hx),by rw [h];exact Nat.zero_le _⟩
def eO (h h':Heap)(r:dJ)(v:Value):Prop:=∃ a c,v=wo r.err r.data r.k r.l r.s a r.names.length c/\Own h' 93 2 a r.names.length c (bS (jW r.names))/\(∀ b∈ay a,h.size<=b)
theorem eO.err (h h':Heap)(e:Int):eO h h' (bO e) (wo e [] 0 0 0 none 0 0):=⟨none,0,rfl,.inl ⟨rfl,rfl,rfl,rfl⟩,λb hb=>(by cases hb)⟩
theorem eO.flat (h h':Heap)(e:Int)(d:List UInt8)(k l s:Int):eO h h' ⟨e,d,k,l,s,[]⟩ (wo e d k l s none 0 0):=⟨none,0,rfl,.inl ⟨rfl,rfl,rfl,rfl⟩,λb hb=>(by cases hb)⟩
def nY (T:List aS)(c:cO):dJ:=if tE T c.path=0 then ⟨(iO (tn T (tX T c.path)).data c.at_ c.n).2,(iO (tn T (tX T c.path)).data c.at_ c.n).1,0,0,0,[]⟩ else bO (tE T c.path)
def kX (T:List aS)(c:cO):dJ:=if (aW (aY T) c.path false).2=0 then ⟨0,[],(tn T (aW (aY T) c.path false).1).kind,(tn T (aW (aY T) c.path false).1).links,(((tn T (aW (aY T) c.path false).1).data.length+(tn T (aW (aY T) c.path false).1).names.length:Nat):Int),[]⟩ else bO (aW (aY T) c.path false).2
def oh (T:List aS)(c:cO):dJ:=if (aW (aY T) c.path false).2=0 then (if (tn T (aW (aY T) c.path false).1).kind=3 then ⟨0,(tn T (aW (aY T) c.path false).1).data,0,0,0,[]⟩ else bO 1) else bO (aW (aY T) c.path false).2
def wD (T:List aS)(c:cO):dJ:=⟨lE T c.path,[],0,0,0,if lE T c.path=0 then fV (tn T (tX T c.path)).names else []⟩
def fT (T:List aS)(c:cO)(r:dJ)(T':List aS):Prop:=
 if c.kind=4 then ∃ e,r=bO e/\nG T c.path 1 [] e T' else
 if c.kind=5 then ∃ e,r=bO e/\nG T c.path 2 [] e T' else
 if c.kind=6 then ∃ e,r=bO e/\wJ T c.path c.path2 e T' else
 if c.kind=7 then ∃ e,r=bO e/\((bH c.path2=none/\e=3)\/(bH c.path2≠none/\nG T c.path 3 c.path2 e T')) else
 if c.kind=8 then ∃ e,r=bO e/\sH T c.path false e T' else
 if c.kind=9 then ∃ e,r=bO e/\sH T c.path true e T' else
 if c.kind=10 then ∃ e,r=bO e/\zh T c.path c.path2 e T' else
 if c.kind=11 then ∃ e,r=bO e/\nH T c.path (λs=>fq s c.at_ c.data) e T' else
 if c.kind=13 then ∃ e,r=bO e/\nH T c.path (λs=>iw s c.at_) e T' else
 if c.kind=12 then T'=T/\r=nY T c else
 if c.kind=14 then T'=T/\r=kX T c else
 if c.kind=16 then T'=T/\r=oh T c else
 if c.kind=15 then T'=T/\r=wD T c else
 T'=T/\r=bO 1
theorem rc4 {T:List aS}{c:cO}{r:dJ}{T':List aS}(h:c.kind=4):fT T c r T'↔∃ e,r=bO e/\nG T c.path 1 [] e T':=by simp [fT,h]
theorem rc5 {T:List aS}{c:cO}{r:dJ}{T':List aS}(h:c.kind=5):fT T c r T'↔∃ e,r=bO e/\nG T c.path 2 [] e T':=by simp [fT,h]
theorem rc6 {T:List aS}{c:cO}{r:dJ}{T':List aS}(h:c.kind=6):fT T c r T'↔∃ e,r=bO e/\wJ T c.path c.path2 e T':=by simp [fT,h]
theorem rc7 {T:List aS}{c:cO}{r:dJ}{T':List aS}(h:c.kind=7):fT T c r T'↔∃ e,r=bO e/\((bH c.path2=none/\e=3)\/(bH c.path2≠none/\nG T c.path 3 c.path2 e T')):=by simp [fT,h]
theorem rc8 {T:List aS}{c:cO}{r:dJ}{T':List aS}(h:c.kind=8):fT T c r T'↔∃ e,r=bO e/\sH T c.path false e T':=by simp [fT,h]
theorem rc9 {T:List aS}{c:cO}{r:dJ}{T':List aS}(h:c.kind=9):fT T c r T'↔∃ e,r=bO e/\sH T c.path true e T':=by simp [fT,h]
theorem rc10 {T:List aS}{c:cO}{r:dJ}{T':List aS}(h:c.kind=10):fT T c r T'↔∃ e,r=bO e/\zh T c.path c.path2 e T':=by simp [fT,h]
theorem rc11 {T:List aS}{c:cO}{r:dJ}{T':List aS}(h:c.kind=11):fT T c r T'↔∃ e,r=bO e/\nH T c.path (λs=>fq s c.at_ c.data) e T':=by simp [fT,h]
theorem rc13 {T:List aS}{c:cO}{r:dJ}{T':List aS}(h:c.kind=13):fT T c r T'↔∃ e,r=bO e/\nH T c.path (λs=>iw s c.at_) e T':=by simp [fT,h]
theorem rc12 {T:List aS}{c:cO}{r:dJ}{T':List aS}(h:c.kind=12):fT T c r T'↔T'=T/\r=nY T c:=by simp [fT,h]
theorem rc14 {T:List aS}{c:cO}{r:dJ}{T':List aS}(h:c.kind=14):fT T c r T'↔T'=T/\r=kX T c:=by simp [fT,h]
theorem rc16 {T:List aS}{c:cO}{r:dJ}{T':List aS}(h:c.kind=16):fT T c r T'↔T'=T/\r=oh T c:=by simp [fT,h]
theorem rc15 {T:List aS}{c:cO}{r:dJ}{T':List aS}(h:c.kind=15):fT T c r T'↔T'=T/\r=wD T c:=by simp [fT,h]
theorem rc0 {T:List aS}{c:cO}{r:dJ}{T':List aS}(h:c.kind<4\/16<c.kind):fT T c r T'↔(T'=T/\r=bO 1):=by
 unfold fT;rw [if_neg (show ¬ c.kind=4 by omega)];rw [if_neg (show ¬ c.kind=5 by omega)];rw [if_neg (show ¬ c.kind=6 by omega)];rw [if_neg (show ¬ c.kind=7 by omega)];rw [if_neg (show ¬ c.kind=8 by omega)];rw [if_neg (show ¬ c.kind=9 by omega)];rw [if_neg (show ¬ c.kind=10 by omega)];rw [if_neg (show ¬ c.kind=11 by omega)];rw [if_neg (show ¬ c.kind=13 by omega)];rw [if_neg (show ¬ c.kind=12 by omega)];rw [if_neg (show ¬ c.kind=14 by omega)];rw [if_neg (show ¬ c.kind=16 by omega)];rw [if_neg (show ¬ c.kind=15 by omega)]
theorem cZ.U3 {h:Heap}{z t:Nat}{aT:Option Addr}{cT:Nat}{L:List bV}(H:cZ h z t aT cT L)(i:Int):(tn (aC L) i).names.length<=105/\∀ e∈(tn (aC L) i).names,e.ok:=by
 unfold tn aC;rw [List.getElem?_map];cases hx:L[i.toNat]? with
 | none=>exact ⟨Nat.zero_le _,λe he=>(by cases he)⟩
 | some x=>
  obtain ⟨_,_,_,n4,n5⟩:=H.jy x (List.mem_of_getElem? hx);exact ⟨n5,n4⟩
theorem Gt {h:Heap}{a:Option Addr}{n c:Nat}{l:List (List UInt8)}(O:Own h 93 2 a n c (bS (jW l)))(hn:n=l.length)(hb:n<=10000){s:List UInt8}{b:Nat}(o:∀ j,j<2->Heap.cell? h b j=[.string (ba s),.int .i64 0][j]?){bs:List Nat}(hbs:∀ z∈ay a,z∉bs){ty:TypeId}{c2:Nat}{K:Value->Heap->Prop}
 (H:∀ a' c' h',Own h' 93 2 a' (n+1) c' (bS (jW (l++[s])))->Keeps (ay a) h h'->(∀ z∈ay a',z∈ay a\/h.size<=z)->K (.slice a' (n+1) c') h') :
 aP Tryz.prog (Builtin.append_ #[38,38] ty ⟨[.slice a n c,.slice (some ⟨b,0,none⟩) 1 c2]⟩) bs h K:=by
 refine jO (e:=93) (sz:=2) (aL:=24) (new:=[.string (ba s),.int .i64 0]) rfl rfl rfl rfl rfl rfl rfl O rfl (λj hj=>?_) rfl (by omega) (by decide) hbs ?_
 ·rw [Nat.zero_add];exact o j hj
 intro a' c' h' O' k' n';refine H a' c' h' ?_ k' n';have:jW (l++[s])=jW l++[⟨s,0⟩]:=by simp [jW]
 rw [this,Bj];exact O'
theorem cZ.BN {F:List Nat}{h h':Heap}{z t:Nat}{aT:Option Addr}{cT:Nat}{L:List bV}(H:cZ h z t aT cT L)(k:Keeps F h h')(hF:∀ x∈F,∀ cs T fz,h[x]?=some (.cells cs T fz)->T≠80/\T≠77/\T≠93):cZ h' z t aT cT L:=by
 exact ⟨k.obj H.tr (λhx=>(hF _ hx _ _ _ H.tr).1 rfl),H.own.keep k (λb hb hx=>by
  obtain ⟨cs,oc⟩:=nD H.own b hb;exact (hF _ hx _ _ _ oc).2.1 rfl),λx hx=>by
  obtain ⟨n1,n2,n3,n4,n5⟩:=H.jy x hx;exact ⟨n1,n2.keep k (λb hb hx=>by
   obtain ⟨cs,oc⟩:=nD n2 b hb;exact (hF _ hx _ _ _ oc).2.2 rfl),n3,n4,n5⟩,H.zt⟩
theorem cZ.iW {b:Nat}{h h':Heap}{z t:Nat}{aT:Option Addr}{cT:Nat}{L:List bV}(H:cZ h z t aT cT L)(k:Keeps [b] h h'){cs:Array Value}{T:TypeId}{fz:Nat×Nat}(o:h[b]?=some (.cells cs T fz))(hT:T≠80/\T≠77/\T≠93):cZ h' z t aT cT L:=
 H.BN k (λx hx cs' T' uH o'=>by
  have:x=b:=by simpa using hx
  subst this;rw [o] at o';cases o';exact hT)
theorem Nj {h:Heap}{z t:Nat}{aT:Option Addr}{cT:Nat}{L:List bV}(H:cZ h z t aT cT L)(hz:z<=h.size)(W:kV L){rk:Int->Nat}(hr:wh (aC L) rk)(c:cO)(hc:c.ok)(hp:c.path.length<=1048576)(hp2:c.path2.length<=1048576) :
 aD Tryz.prog 16 [.pointer (some ⟨t,0,none⟩),.agg ⟨c.cells⟩] h (λv h'=>Keeps (t::ay aT) h h'/\∃ r,eO h h' r v/\gD r/\∃ d9 eF L',cZ h' z t d9 eF L'/\fT (aC L) c r (aC L')):=by
 have m0:∀ x∈([]:List Nat),x∈t::ay aT:=by simp
 have hlt:∀ y∈t::ay aT,y<h.size:=λy hy=>by
  rcases List.mem_cons.1 hy with rfl|hy
  ·exact eZ H.tr
  ·exact H.own.lt y hy
 refine aH aI Tryz.func16 rfl ok16 (by simp [Tryz.f16]) ?_;(conv=>whnf);refine aR.i λb1 h1 e1 s1 o1 k1=>?_;(conv=>whnf);refine aR.i λb2 h2 e2 s2 o2 k2=>?_;have z1:=k1.size;have z2:=k2.size;have k12:=k1.trans k2;have kk2:Keeps (t::ay aT) h h2:=k12.mono m0;have H2:=H.keep k12 (by simp);have hz2:z<=h2.size:=by omega
 have nb2:b2∉t::ay aT:=λhx=>by have:=hlt _ hx;omega
 have nb:∀ y,y=b1\/y=b2->y∉t::ay aT:=λy hy hx=>by have:=hlt _ hx;omega
 (conv=>whnf);(try refine aU.pass ?_;conv=>whnf);refine ak.i (λhd=>?_) (λhd4=>?_)
 ·have hk:c.kind=4:=by simpa using hd
  (conv=>whnf);refine au.m (LB H2 hz2 W c.path hp (.inl rfl)) (λy hy=>nb y (by simpa [aA,bg] using hy)) λv h3 k3 hv=>?_;obtain ⟨e,rfl,d9,eF,L',H3,R⟩:=hv;have z3:=k3.size;have o3:=k3.obj o2 nb2;(conv=>whnf);refine aN.i λh4 s4 k4=>?_;(conv=>whnf);exact ⟨(kk2.trans k3).m1 k4 (by omega),bO e,eO.err _ _ e,gD.nil rfl,d9,eF,L',H3.iW k4 o3 (by decide),(rc4 hk).2 ⟨e,rfl,R⟩⟩
 ·skip;(conv=>whnf);(try refine aU.pass ?_;conv=>whnf);refine ak.i (λhd=>?_) (λhd5=>?_)
  ·have hk:c.kind=5:=by simpa using hd
   (conv=>whnf);refine au.m (LB H2 hz2 W c.path hp (.inr rfl)) (λy hy=>nb y (by simpa [aA,bg] using hy)) λv h3 k3 hv=>?_;obtain ⟨e,rfl,d9,eF,L',H3,R⟩:=hv;have z3:=k3.size;have o3:=k3.obj o2 nb2;(conv=>whnf);refine aN.i λh4 s4 k4=>?_;(conv=>whnf);exact ⟨(kk2.trans k3).m1 k4 (by omega),bO e,eO.err _ _ e,gD.nil rfl,d9,eF,L',H3.iW k4 o3 (by decide),(rc5 hk).2 ⟨e,rfl,R⟩⟩
  ·skip;(conv=>whnf);(try refine aU.pass ?_;conv=>whnf);refine ak.i (λhd=>?_) (λhd6=>?_)
   ·have hk:c.kind=6:=by simpa using hd
    (conv=>whnf);refine au.m (UR H2 hz2 W c.path c.path2 hp hp2) (λy hy=>nb y (by simpa [aA,bg] using hy)) λv h3 k3 hv=>?_;obtain ⟨e,rfl,d9,eF,L',H3,R⟩:=hv;have z3:=k3.size;have o3:=k3.obj o2 nb2;(conv=>whnf);refine aN.i λh4 s4 k4=>?_;(conv=>whnf);exact ⟨(kk2.trans k3).m1 k4 (by omega),bO e,eO.err _ _ e,gD.nil rfl,d9,eF,L',H3.iW k4 o3 (by decide),(rc6 hk).2 ⟨e,rfl,R⟩⟩
   ·skip;(conv=>whnf);(try refine aU.pass ?_;conv=>whnf);refine ak.i (λhd=>?_) (λhd7=>?_)
    ·have hk:c.kind=7:=by simpa using hd
     (conv=>whnf);refine au.m (UU H2 hz2 W c.path c.path2 hp hp2) (λy hy=>nb y (by simpa [aA,bg] using hy)) λv h3 k3 hv=>?_;obtain ⟨e,rfl,d9,eF,L',H3,R⟩:=hv;have z3:=k3.size;have o3:=k3.obj o2 nb2;(conv=>whnf);refine aN.i λh4 s4 k4=>?_;(conv=>whnf);exact ⟨(kk2.trans k3).m1 k4 (by omega),bO e,eO.err _ _ e,gD.nil rfl,d9,eF,L',H3.iW k4 o3 (by decide),(rc7 hk).2 ⟨e,rfl,R⟩⟩
    ·skip;(conv=>whnf);(try refine aU.pass ?_;conv=>whnf);refine ak.i (λhd=>?_) (λhd8=>?_)
     ·have hk:c.kind=8:=by simpa using hd
      (conv=>whnf);refine au.m (LC H2 hz2 W c.path hp false) (λy hy=>nb y (by simpa [aA,bg] using hy)) λv h3 k3 hv=>?_;obtain ⟨e,rfl,d9,eF,L',H3,R⟩:=hv;have z3:=k3.size;have o3:=k3.obj o2 nb2;(conv=>whnf);refine aN.i λh4 s4 k4=>?_;(conv=>whnf);exact ⟨(kk2.trans k3).m1 k4 (by omega),bO e,eO.err _ _ e,gD.nil rfl,d9,eF,L',H3.iW k4 o3 (by decide),(rc8 hk).2 ⟨e,rfl,R⟩⟩
     ·skip;(conv=>whnf);(try refine aU.pass ?_;conv=>whnf);refine ak.i (λhd=>?_) (λhd9=>?_)
      ·have hk:c.kind=9:=by simpa using hd
       (conv=>whnf);refine au.m (LC H2 hz2 W c.path hp true) (λy hy=>nb y (by simpa [aA,bg] using hy)) λv h3 k3 hv=>?_;obtain ⟨e,rfl,d9,eF,L',H3,R⟩:=hv;have z3:=k3.size;have o3:=k3.obj o2 nb2;(conv=>whnf);refine aN.i λh4 s4 k4=>?_;(conv=>whnf);exact ⟨(kk2.trans k3).m1 k4 (by omega),bO e,eO.err _ _ e,gD.nil rfl,d9,eF,L',H3.iW k4 o3 (by decide),(rc9 hk).2 ⟨e,rfl,R⟩⟩
      ·skip;(conv=>whnf);(try refine aU.pass ?_;conv=>whnf);refine ak.i (λhd=>?_) (λhd10=>?_)
       ·have hk:c.kind=10:=by simpa using hd
        (conv=>whnf);refine au.m (UW H2 hz2 W hr c.path c.path2 hp hp2) (λy hy=>nb y (by simpa [aA,bg] using hy)) λv h3 k3 hv=>?_;obtain ⟨e,rfl,d9,eF,L',H3,R⟩:=hv;have z3:=k3.size;have o3:=k3.obj o2 nb2;(conv=>whnf);refine aN.i λh4 s4 k4=>?_;(conv=>whnf);exact ⟨(kk2.trans k3).m1 k4 (by omega),bO e,eO.err _ _ e,gD.nil rfl,d9,eF,L',H3.iW k4 o3 (by decide),(rc10 hk).2 ⟨e,rfl,R⟩⟩
       ·skip;(conv=>whnf);(try refine aU.pass ?_;conv=>whnf);refine ak.i (λhd=>?_) (λhd11=>?_)
        ·have hk:c.kind=11:=by simpa using hd
         (conv=>whnf);refine au.m (UX H2 W c.path hp c.at_ c.data hc.2.2.2.1) (λy hy=>nb y (by simpa [aA,bg] using hy)) λv h3 k3 hv=>?_;obtain ⟨e,rfl,d9,eF,L',H3,R⟩:=hv;have z3:=k3.size;have o3:=k3.obj o2 nb2;(conv=>whnf);refine aN.i λh4 s4 k4=>?_;(conv=>whnf);exact ⟨(kk2.trans k3).m1 k4 (by omega),bO e,eO.err _ _ e,gD.nil rfl,d9,eF,L',H3.iW k4 o3 (by decide),(rc11 hk).2 ⟨e,rfl,R⟩⟩
        ·skip;(conv=>whnf);(try refine aU.pass ?_;conv=>whnf);refine ak.i (λhd=>?_) (λhd13=>?_)
         ·have hk:c.kind=13:=by simpa using hd
          (conv=>whnf);refine au.m (UY H2 W c.path hp c.at_) (λy hy=>nb y (by simpa [aA,bg] using hy)) λv h3 k3 hv=>?_;obtain ⟨e,rfl,d9,eF,L',H3,R⟩:=hv;have z3:=k3.size;have o3:=k3.obj o2 nb2;(conv=>whnf);refine aN.i λh4 s4 k4=>?_;(conv=>whnf);exact ⟨(kk2.trans k3).m1 k4 (by omega),bO e,eO.err _ _ e,gD.nil rfl,d9,eF,L',H3.iW k4 o3 (by decide),(rc13 hk).2 ⟨e,rfl,R⟩⟩
         ·skip;(conv=>whnf);(try refine aU.pass ?_;conv=>whnf);refine ak.i (λhd=>?_) (λhd12=>?_)
          ·have hk:c.kind=12:=by simpa using hd
           (conv=>whnf);refine au.i (UZ H2 W c.path hp c.at_ c.n) λv h3 k3 hv=>?_;have z3:=k3.size;have o3:=k3.obj o2 (by simp);have H3:=H2.keep k3 (by simp);have kk3:Keeps (t::ay aT) h h3:=kk2.trans (k3.mono m0);have hv:v=.tuple #[.string (ba (nY (aC L) c).data),.int .i64 (nY (aC L) c).err]/\nY (aC L) c=⟨(nY (aC L) c).err,(nY (aC L) c).data,0,0,0,[]⟩:=by
            unfold nY;split at hv
            ·rename_i h0;rw [if_pos h0];exact ⟨hv,rfl⟩
            ·rename_i h0;rw [if_neg h0];exact ⟨hv,rfl⟩
           obtain ⟨rfl,hq⟩:=hv;generalize hQ:nY (aC L) c=q at hq;(conv=>whnf);refine aN.i λh4 s4 k4=>?_;(conv=>whnf);refine ⟨kk3.m1 k4 (by omega),q,?_,gD.nil (by rw [hq]),aT,cT,L,H3.iW k4 o3 (by decide),(rc12 hk).2 ⟨rfl,hQ.symm⟩⟩;rw [hq];exact eO.flat _ _ _ _ 0 0 0
          ·skip;(conv=>whnf);(try refine aU.pass ?_;conv=>whnf);refine ak.i (λhd=>?_) (λhd14=>?_)
           ·have hk:c.kind=14:=by simpa using hd
            (conv=>whnf);refine au.i (U0 H2 W c.path hp) λv h3 k3 hv=>?_;have z3:=k3.size;have o3:=k3.obj o2 (by simp);have H3:=H2.keep k3 (by simp);have kk3:Keeps (t::ay aT) h h3:=kk2.trans (k3.mono m0);have hv:v=.tuple #[.agg #[.int .i64 0,.int .i64 (kX (aC L) c).k,.int .i64 (kX (aC L) c).l,.int .i64 (kX (aC L) c).s],.int .i64 (kX (aC L) c).err]/\kX (aC L) c=⟨(kX (aC L) c).err,[],(kX (aC L) c).k,(kX (aC L) c).l,(kX (aC L) c).s,[]⟩:=by
             unfold kX;split at hv
             ·rename_i h0;rw [if_pos h0];exact ⟨hv,rfl⟩
             ·rename_i h0;rw [if_neg h0];exact ⟨hv,rfl⟩
            obtain ⟨rfl,hq⟩:=hv;generalize hQ:kX (aC L) c=q at hq;(conv=>whnf);refine aR.i λb5 h5 e5 s5 o5 k5=>?_;(conv=>whnf);refine aN.i λh6 s6 k6=>?_;have k36:Keeps [] h3 h6:=k5.new1 k6 (by omega);have z36:=k36.size;have o6:=k36.obj o3 (by simp);(conv=>whnf);refine aN.i λh7 s7 k7=>?_;(conv=>whnf);refine ⟨(kk3.trans (k36.mono m0)).m1 k7 (by omega),q,?_,gD.nil (by rw [hq]),aT,cT,L,(H3.keep k36 (by simp)).iW k7 o6 (by decide),(rc14 hk).2 ⟨rfl,hQ.symm⟩⟩;rw [hq];exact eO.flat _ _ _ _ _ _ _
           ·skip;(conv=>whnf);(try refine aU.pass ?_;conv=>whnf);refine ak.i (λhd=>?_) (λhd16=>?_)
            ·have hk:c.kind=16:=by simpa using hd
             (conv=>whnf);refine au.i (U1 H2 W c.path hp) λv h3 k3 hv=>?_;have z3:=k3.size;have o3:=k3.obj o2 (by simp);have H3:=H2.keep k3 (by simp);have kk3:Keeps (t::ay aT) h h3:=kk2.trans (k3.mono m0);have hv:v=.tuple #[.string (ba (oh (aC L) c).data),.int .i64 (oh (aC L) c).err]/\oh (aC L) c=⟨(oh (aC L) c).err,(oh (aC L) c).data,0,0,0,[]⟩:=by
              unfold oh;split at hv
              ·rename_i h0;rw [if_pos h0];split at hv
               ·rename_i h1;rw [if_pos h1];exact ⟨hv,rfl⟩
               ·rename_i h1;rw [if_neg h1];exact ⟨hv,rfl⟩
              ·rename_i h0;rw [if_neg h0];exact ⟨hv,rfl⟩
             obtain ⟨rfl,hq⟩:=hv;generalize hQ:oh (aC L) c=q at hq;(conv=>whnf);refine aN.i λh4 s4 k4=>?_;(conv=>whnf);refine ⟨kk3.m1 k4 (by omega),q,?_,gD.nil (by rw [hq]),aT,cT,L,H3.iW k4 o3 (by decide),(rc16 hk).2 ⟨rfl,hQ.symm⟩⟩;rw [hq];exact eO.flat _ _ _ _ 0 0 0
            ·skip;(conv=>whnf);(try refine aU.pass ?_;conv=>whnf);refine ak.i (λhd=>?_) (λhd15=>?_)
             ·have hk:c.kind=15:=by simpa using hd
              (conv=>whnf);refine au.i (U2 H2 W c.path hp) λv h3 k3 hv=>?_;have z3:=k3.size;have o3:=k3.obj o2 (by simp);have H3:=H2.keep k3 (by simp);have kk3:Keeps (t::ay aT) h h3:=kk2.trans (k3.mono m0);have hL:wD (aC L) c=⟨lE (aC L) c.path,[],0,0,0,if lE (aC L) c.path=0 then fV (tn (aC L) (tX (aC L) c.path)).names else []⟩:=rfl;generalize hE:lE (aC L) c.path=e at hL hv;have hnl:(∀ x∈(if e=0 then fV (tn (aC L) (tX (aC L) c.path)).names else []),x.length<=140737488351232)/\(if e=0 then fV (tn (aC L) (tX (aC L) c.path)).names else []).length<=105:=by
               obtain ⟨q1,q2⟩:=H.U3 (tX (aC L) c.path);split
               ·refine ⟨λx hx=>?_,by rw [pu];exact q1⟩;obtain ⟨y,hy,rfl⟩:=List.mem_map.1 hx;exact (q2 y hy).1
               ·exact ⟨λx hx=>(by cases hx),Nat.zero_le _⟩
              generalize WQ:(if e=0 then fV (tn (aC L) (tX (aC L) c.path)).names else [])=l at hL hnl hv;obtain ⟨a3,c3,rfl,O3,n3⟩:=hv;obtain ⟨hnl,hl105⟩:=hnl;have S3:=zn O3 (by omega) hnl;(conv=>whnf);refine aR.i λb5 h5 e5 s5 o5 k5=>?_;(conv=>whnf);refine aN.i λh6 s6 k6=>?_;have k36:Keeps [] h3 h6:=k5.new1 k6 (by omega);have z36:=k36.size;have o6:=k36.obj o3 (by simp);(conv=>whnf);refine bP.on [4,11,13,14] [4,13] (λq:Nat×Option Addr×Nat=>[(4,.lp 4 0),(11,.v (.slice a3 l.length c3)),(13,.lp 13 0),(14,.v (.int .i64 (q.1:Int)))]) (λq=>[(4,b2,[.int .i64 0,.int .i64 0,.string ⟨#[]⟩,.int .i64 0,.int .i64 0,.int .i64 0,.int .i64 0,.slice none 0 0]),(13,b5,[.int .i64 e,.int .i64 0,.string ⟨#[]⟩,.int .i64 0,.int .i64 0,.int .i64 0,.int .i64 0,.slice q.2.1 q.1 q.2.2])]) (λq h7=>q.1<=l.length/\Keeps [] h3 h7/\h6.size<=h7.size/\Own h7 93 2 q.2.1 q.1 q.2.2 (bS (jW (l.take q.1)))/\∀ b∈ay q.2.1,h6.size<=b) (λq=>l.length-q.1) (0,none,0) ?_ ?_
              ·(conv=>whnf);exact ⟨(0,none,0),rfl,rfl,rfl,Nat.zero_le _,k36,Nat.le_refl _,.inl ⟨rfl,rfl,rfl,rfl⟩,λb hb=>(by cases hb)⟩
              ·rintro ⟨i,a7,c7⟩ h7 ⟨hi,k7,z7,O7,n7⟩;simp only at hi O7 n7;(conv=>whnf);refine ak.i (λhi1=>?_) (λhi1=>?_)
               ·have hi1:i<l.length:=by simpa using hi1
                obtain ⟨b8,o8,hb8,_,hc8⟩:=(S3.keep k7).at1 i (by rw [fO];exact hi1);have e8:(bq l)[i]'(by rw [fO];exact hi1)=ba (l[i]'hi1):=by simp [bq]
                rw [e8] at hc8;(conv=>whnf);refine aQ.i i rfl hi1 hb8 ?_;(conv=>whnf);refine ax.i hc8 ?_;(conv=>whnf);refine aR.i λb9 h9 e9 s9 o9 k9=>?_;(conv=>whnf);refine Gt (s:=l[i]'hi1) (l:=l.take i) (O7.keep k9 (by simp)) (by rw [List.length_take];omega) (by omega) (λj hj=>?_) (λy hy hx=>?_) ?_
                ·simp only [Heap.cell?,o9];have:j=0\/j=1:=by omega
                 rcases this with rfl|rfl <;> rfl
                ·have:=n7 y hy;simp [aA,bg] at hx;omega
                ·intro a10 c10 h10 O10 k10 n10;have z9:=k9.size;have ew:IntKind.i64.wrap ((i:Int)+1)=((i+1:Nat):Int):=wrapN (by simp) (by omega);have ht:l.take (i+1)=l.take i++[l[i]'hi1]:=List.take_succ_eq_append_getElem hi1;have z10:=k10.size;(conv=>whnf);refine aN.i λh11 s11 k11=>?_;(conv=>whnf);refine ⟨l.length-(i+1),by omega,?_⟩;(conv=>whnf);rw [ew];have z11:=k11.size;have wK:∀ b∈ay a10,h6.size<=b:=λb hb=>by
                  rcases n10 b hb with h|h
                  ·exact n7 b h
                  ·omega
                 refine ⟨(i+1,a10,c10),rfl,rfl,rfl,hi1,(((k7.trans k9).dL k10 (λb hb=>by have:=n7 b hb;omega)).new1 k11 (by omega)),by omega,?_,wK⟩;simp only;rw [ht];exact O10.keep k11 (λb hb hx=>by have:=wK b hb;simp at hx;omega)
               ·have hi1:i=l.length:=by simp at hi1;omega
                rw [hi1,List.take_length] at O7;subst hi1;(conv=>whnf);refine aN.i λh8 s8 k8=>?_;(conv=>whnf);exact ⟨(kk3.trans (k7.mono m0)).m1 k8 (by omega),_,⟨a7,c7,rfl,O7.keep k8 (λb hb hx=>by have:=n7 b hb;simp at hx;omega),λb hb=>by have:=n7 b hb;omega⟩,⟨hnl,hl105⟩,aT,cT,L,(H3.keep k7 (by simp)).iW k8 (k7.obj o3 (by simp)) (by decide),(rc15 hk).2 ⟨rfl,hL.symm⟩⟩
             ·skip;(conv=>whnf);(try refine aU.pass ?_;conv=>whnf);refine aN.i λh4 s4 k4=>?_;(conv=>whnf);have hn4:c.kind≠4:=by simpa using hd4
              have hn5:c.kind≠5:=by simpa using hd5
              have hn6:c.kind≠6:=by simpa using hd6
              have hn7:c.kind≠7:=by simpa using hd7
              have hn8:c.kind≠8:=by simpa using hd8
              have hn9:c.kind≠9:=by simpa using hd9
              have hn10:c.kind≠10:=by simpa using hd10
              have hn11:c.kind≠11:=by simpa using hd11
              have hn13:c.kind≠13:=by simpa using hd13
              have hn12:c.kind≠12:=by simpa using hd12
              have hn14:c.kind≠14:=by simpa using hd14
              have hn16:c.kind≠16:=by simpa using hd16
              have hn15:c.kind≠15:=by simpa using hd15
              exact ⟨(kk2).m1 k4 (by omega),bO 1,eO.err _ _ 1,gD.nil rfl,aT,cT,L,H2.iW k4 o2 (by decide),(rc0 (by omega)).2 ⟨rfl,rfl⟩⟩
theorem Lu:∀ L:List bV,gM (fM L)=true
 | []=>rfl
 | x::L=>Lu L
theorem Ng {h:Heap}{z t:Nat}{aT:Option Addr}{cT:Nat}{L:List bV}(H:cZ h z t aT cT L)(h2:2<=L.length)(hlen:L.length<=100000) :
 aD Tryz.prog 14 [.pointer (some ⟨t,0,none⟩)] h (λv h'=>Keeps [] h h'/\∃ t' d9 eF L',v=.pointer (some ⟨t',0,none⟩)/\cZ h' h.size t' d9 eF L'/\aC L'=aC L):=by
 obtain ⟨bT,eU,bL,oT,hle,hzb,hcl⟩:=H.blk (k:=0) (by omega);refine aH aI Tryz.func14 rfl ok14 (by simp [Tryz.f14]) ?_;(conv=>whnf);refine ax.o H.tr rfl ?_;have hn:(fM L).length=L.length*5:=ny L;have htk:eU.take (fM L).length=fM L:=by
  obtain ⟨b',cs',ha',o',_,ht',_⟩:=uD H.own (k:=0) (by rw [ny];omega);rw [bL] at ha';cases ha';rw [oT] at o';cases o';exact ht'
 (conv=>whnf);rw [bL];refine jO (e:=77) (sz:=5) (aL:=64) (new:=fM L) (l:=[]) rfl rfl rfl rfl rfl rfl rfl (.inl ⟨rfl,rfl,rfl,rfl⟩) hn ?_ (Lu L) (by omega) (by decide) (by simp [ay]) ?_
 ·intro j hj;unfold Heap.cell?;rw [oT];have:(fM L)[j]?=(eU.take (fM L).length)[j]?:=by rw [htk]
  rw [this,List.getElem?_take,if_pos hj,Nat.zero_add];simp
 intro a1 c1 h1 O1 k1 n1;have k1:Keeps [] h h1:=k1;have n1:∀ b∈ay a1,h.size<=b:=λb hb=>by
  rcases n1 b hb with h|h
  ·simp [ay] at h
  ·exact h
 rw [List.nil_append,Nat.zero_add] at O1;have z1:=k1.size;(conv=>whnf);rw [Nat.zero_add];refine aR.i λt2 h2 e2 s2 o2 k2=>?_;have z2:=k2.size;have O2:=O1.keep k2 (by simp);(conv=>whnf);refine bP.on [3,4] [] (λq:Nat×List bV=>[(3,.v (.pointer (some ⟨t2,0,none⟩))),(4,.v (.int .i64 (q.1:Int)))]) (λ_=>[])
  (λq h5=>q.1<=L.length/\Keeps [] h h5/\h5[t2]?=some (.cells ⟨[.slice a1 L.length c1]⟩ 80 (0,0))/\q.2.length=L.length/\aC q.2=aC L/\Own h5 77 5 a1 L.length c1 (fM q.2)/\(∀ (j:Nat) (hj:j<q.2.length),j<q.1->FC h5 h.size (q.2[j]'hj))/\∀ j,q.1<=j->q.2[j]?=L[j]?) (λq=>L.length-q.1) (0,L) ?_ ?_
 ·(conv=>whnf);exact ⟨(0,L),rfl,rfl,rfl,Nat.zero_le _,k1.trans k2,o2,rfl,rfl,O2,λj hj h=>(by omega),λ_ _=>rfl⟩
 ·rintro ⟨i,Lc⟩ h5 ⟨hi,k5,o5,l5,d5,O5,m5,r5⟩;simp only at hi l5 d5 O5 m5 r5;have H5:=H.keep k5 (by simp);(conv=>whnf);refine ax.o o5 rfl ?_;(conv=>whnf);refine ak.i (λhd=>?_) (λhd=>?_)
  ·have hi1:i<L.length:=by simpa using hd
   have BA:i<Lc.length:=by omega
   have hge:Lc[i]'BA=L[i]'hi1:=by
    have:=r5 i (Nat.le_refl _);rw [List.getElem?_eq_getElem BA,List.getElem?_eq_getElem hi1] at this;exact Option.some.inj this
   obtain ⟨bN,Lv,uE,oN,Lx,WO,UL⟩:=uD O5 (k:=i*5+4) (by rw [ny];omega);rw [BB Lc i 4 BA (by decide),hge] at Lx;obtain ⟨m1,m2,m3,m4,m6⟩:=H5.jy _ (List.getElem_mem hi1);have S:=jX m2 m4 (by omega);(conv=>whnf);refine ax.o o5 rfl ?_;(conv=>whnf);refine aQ.i i rfl hi1 uE ?_;(conv=>whnf);refine ax.i (by rw [Nat.zero_add];exact Lx) ?_;(conv=>whnf);refine iI.i ?_ ?_
   case' refine_1=>skip
   case' refine_2=>skip
   all_goals
    first
     | ((conv=>whnf);refine nU (oL h5) S (by omega) (by simp [ay]) ?_)
     | ((conv=>whnf);refine ax.o o5 rfl ?_;(conv=>whnf);refine nU (oL h5) S (by omega) (by simp [ay]) ?_)
     | ((conv=>whnf);refine ax.o o5 rfl ?_;(conv=>whnf);refine aQ.i i rfl hi1 uE ?_;(conv=>whnf);refine nU (oL h5) S (by omega) (by simp [ay]) ?_)
    intro a6 c6 h6 O6 k6 n6;have k6:Keeps [] h5 h6:=k6;have n6:∀ b∈ay a6,h5.size<=b:=λb hb=>by
     rcases n6 b hb with h|h
     ·simp [ay] at h
     ·exact h
    have oN6:=k6.obj oN (by simp);have o6:=k6.obj o5 (by simp);have z5:=k5.size
    first
     | ((conv=>whnf);refine dO.i oN6 ?_ (by simp [aA]) λh7 s7 o7 k7=>?_)
     | ((conv=>whnf);refine aQ.i i rfl hi1 uE ?_;(conv=>whnf);refine dO.i oN6 ?_ (by simp [aA]) λh7 s7 o7 k7=>?_)
     | ((conv=>whnf);refine ax.o o6 rfl ?_;(conv=>whnf);refine dO.i oN6 ?_ (by simp [aA]) λh7 s7 o7 k7=>?_)
     | ((conv=>whnf);refine ax.o o6 rfl ?_;(conv=>whnf);refine aQ.i i rfl hi1 uE ?_;(conv=>whnf);refine dO.i oN6 ?_ (by simp [aA]) λh7 s7 o7 k7=>?_)
    ·rw [ny] at UL;show 0+i*5+4+1<=Lv.length;omega
    rw [Nat.zero_add] at O6;have UM:h7[bN]?=some (.cells ⟨bC (i*5+4) [.slice a6 (L[i]'hi1).n c6] Lv⟩ 77 (0,0)):=by
     have:0+i*5+4=i*5+4:=by omega
     rw [<-this,<-Nat.zero_add (L[i]'hi1).n];exact o7
    have UN:=O5.keep k6 (by simp);have O7:=FD (uE ▸ UN) (k:=i*5+4) (by rw [ny];omega) oN6 UM;rw [FE Lc i BA 4 (by decide) (.slice a6 (L[i]'hi1).n c6) ⟨(L[i]'hi1).nd,a6,(L[i]'hi1).n,c6⟩ (by rw [hge];rfl),<-uE] at O7;have z6:=k6.size;have hbN:h.size<=bN:=n1 bN (by rw [uE];simp [ay]);have hbN5:bN<h5.size:=eZ oN;have k67:Keeps [bN] h5 h7:=(k6.mono (by simp)).trans k7;have hne:t2≠bN:=qO o5 oN (by decide);have ew:IntKind.i64.wrap ((i:Int)+1)=((i+1:Nat):Int):=wrapN (by simp) (by omega);(conv=>whnf);refine ⟨L.length-(i+1),by omega,?_⟩;(conv=>whnf);rw [ew];refine ⟨(i+1,Lc.set i ⟨(L[i]'hi1).nd,a6,(L[i]'hi1).n,c6⟩),rfl,rfl,rfl,hi1,k5.new1 k67 hbN,k67.obj o5 (by simpa using hne),by rw [List.length_set];exact l5,?_,O7,λj hj hji=>?_,λj hj=>?_⟩
    ·rw [nV,d5];have hg:(L[i]'hi1).nd=(aC L)[i]'(by rw [mD];exact hi1):=by simp [aC]
     simp only [hg];exact List.set_getElem_self _
    ·simp only at hji ⊢;by_cases hji2:j=i
     ·subst hji2;rw [List.getElem_set_self];exact ⟨m1,O6.keep k7 (λb hb hx=>by have:=n6 b hb;simp at hx;omega),λb hb=>by have:=n6 b hb;omega,m4,m6⟩
     ·rw [List.getElem_set_ne (by omega)];obtain ⟨q1,q2,q3,q4,q5⟩:=m5 j (by simpa using hj) (by omega);exact ⟨q1,q2.keep k67 (λb hb hx=>by
       obtain ⟨cs,oc⟩:=nD q2 b hb;have:b=bN:=by simpa using hx
       exact qO oc oN (by decide) this),q3,q4,q5⟩
    ·simp only at hj;rw [List.getElem?_set_ne (by omega)];exact r5 j (by omega)
  ·have hi1:i=L.length:=by simp at hd;omega
   (conv=>whnf);refine ⟨k5,t2,a1,c1,Lc,rfl,⟨by rw [l5];exact o5,by rw [l5];exact O5,λx hx=>?_,by omega,n1⟩,d5⟩;obtain ⟨j,hj,rfl⟩:=List.getElem_of_mem hx;exact m5 j hj (by omega)
theorem UO {l l':List (List UInt8)}:jW l=jW l'↔l=l':=by
 constructor
 ·intro h;have h2:=congrArg (List.map (·.name)) h;have e:∀ x:List (List UInt8),(jW x).map (·.name)=x:=λx=>by unfold jW;rw [List.map_map];exact List.map_id x
  rwa [e,e] at h2
 ·intro h;rw [h]
theorem UQ (a b c d a' b' c' d':Int):mg Tryz.prog 10000 37 (.agg #[.int .i64 a,.int .i64 b,.int .i64 c,.int .i64 d]) (.agg #[.int .i64 a',.int .i64 b',.int .i64 c',.int .i64 d'])=some (decide (a=a'/\b=b'/\c=c'/\d=d')):=by
 have h:mg Tryz.prog 10000 37 (.agg #[.int .i64 a,.int .i64 b,.int .i64 c,.int .i64 d]) (.agg #[.int .i64 a',.int .i64 b',.int .i64 c',.int .i64 d'])=some ((a==a')&&((b==b')&&((c==c')&&((d==d')&&true)))):=by kernel_rfl
 rw [h]
 congr 1
 rw [Bool.eq_iff_iff];simp
theorem Gb {h h0 h0':Heap}{r r':dJ}{v v':Value}(A:eO h0 h r v)(B:eO h0' h r' v')(hl:r.names.length<=1000)(hl':r'.names.length<=1000)(hn:∀ x∈r.names,x.length<=140737488351232)(hn':∀ x∈r'.names,x.length<=140737488351232) :
 aD Tryz.prog 17 [v,v'] h (λv h'=>Keeps [] h h'/\∃ b:Bool,v=.bool b/\(b=true↔r=r')):=by
 obtain ⟨a,c,rfl,O,_⟩:=A;obtain ⟨a',c',rfl,O',_⟩:=B;have ok:∀ {l:List (List UInt8)},(∀ x∈l,x.length<=140737488351232)->∀ e∈jW l,e.ok:=by
  intro l hl e he;obtain ⟨x,hx,rfl⟩:=List.mem_map.1 he;exact ⟨hl x hx,(show (-9223372036854775808:Int)<=0 by decide),(show (0:Int)<=9223372036854775807 by decide)⟩
 have S:=jX O (ok hn) (by rw [LA];omega);have S':=jX O' (ok hn') (by rw [LA];omega);unfold wo;refine aH aI Tryz.func17 rfl ok17 (by simp [Tryz.f17]) ?_;(conv=>whnf);refine aR.i λb1 h1 e1 s1 o1 k1=>?_;(conv=>whnf);refine aR.i λb2 h2 e2 s2 o2 k2=>?_;(conv=>whnf);refine gP.Ef (by kernel_rfl) (UQ 0 r.k r.l r.s 0 r'.k r'.l r'.s) ?_;have k12:=k1.trans k2;have hC:(bif bif bif r.err==r'.err then (0:Int)==0 else false then (ba r.data).toList==(ba r'.data).toList else false then decide ((0:Int)=0/\r.k=r'.k/\r.l=r'.l/\r.s=r'.s) else false)=decide (r.err=r'.err/\r.data=r'.data/\r.k=r'.k/\r.l=r'.l/\r.s=r'.s):=by
  have hb:((ba r.data).toList==(ba r'.data).toList)=decide (r.data=r'.data):=by
   rw [Bool.eq_iff_iff];unfold ba;rw [iV]
  rw [hb,Bool.eq_iff_iff];by_cases q1:r.err=r'.err
  ·by_cases q2:r.data=r'.data
   ·simp [q1,q2]
   ·simp [q1,q2]
  ·simp [q1]
 (conv=>whnf);refine ak.i (λhc=>?_) (λhc=>?_)
 ·(conv=>whnf);refine au.i (TT (S.keep k12) (S'.keep k12) (by omega)) λv h3 k3 hv=>?_;subst hv;(conv=>whnf);refine ⟨k12.trans k3,_,rfl,?_⟩;rw [hC] at hc ⊢;have hc':=of_decide_eq_true hc;rw [hc];show decide (jW r.names=jW r'.names)=true↔r=r';rw [decide_eq_true_iff,UO];obtain ⟨x1,x2,x3,x4,x5,x6⟩:=r;obtain ⟨y1,y2,y3,y4,y5,y6⟩:=r';simp only [dJ.mk.injEq] at hc' ⊢;exact ⟨λh=>⟨hc'.1,hc'.2.1,hc'.2.2.1,hc'.2.2.2.1,hc'.2.2.2.2,h⟩,λh=>h.2.2.2.2.2⟩
 ·(conv=>whnf);refine ⟨k12,_,rfl,?_⟩;rw [hC] at hc ⊢;have hc':=of_decide_eq_false hc;rw [hc];refine ⟨λh=>(by cases h),λh=>?_⟩;subst h;exact absurd ⟨rfl,rfl,rfl,rfl,rfl⟩ hc'
end Go.Proofs.YtoociceebodfeaaGreatDoor
namespace Go.Proofs.YtoociceebodfeaaGreatDoor
open Go Go.Shelf
def GU:Go.Shelf.Ren:=⟨fun|7=>126|10=>199|n=>n,fun|23=>119|26=>3|3=>4|28=>197|0=>0|27=>196|33=>131|4=>4|n=>n,λn=>n⟩
theorem GR:SlLaysZI.n7 Tryz.prog GU:={
 mixed:=by kernel_rfl,
 f7:=⟨Tryz.f126.name,by decide,Tryz.func126.trans (congrArg some (by kernel_rfl))⟩,
 f10:=⟨Tryz.f199.name,by decide,Tryz.func199.trans (congrArg some (by kernel_rfl))⟩,
 t0:=Tryz.underlying0,
 a0:=Tryz.isAgg0,
 z0:=Tryz.sizeOf0,
 v0:=Tryz.zeroValue0,
 t4:=Tryz.underlying4,
 a4:=Tryz.isAgg4,
 z4:=Tryz.sizeOf4,
 v4:=Tryz.zeroValue4,
 t23:=Tryz.underlying119,
 a23:=Tryz.isAgg119,
 z23:=Tryz.sizeOf119,
 v23:=Tryz.zeroValue119,
 t26:=Tryz.underlying3,
 a26:=Tryz.isAgg3,
 z26:=Tryz.sizeOf3,
 v26:=Tryz.zeroValue3,
 t27:=Tryz.underlying196,
 a27:=Tryz.isAgg196,
 z27:=Tryz.sizeOf196,
 v27:=Tryz.zeroValue196,
 t28:=Tryz.underlying197,
 a28:=Tryz.isAgg197,
 z28:=Tryz.sizeOf197,
 v28:=Tryz.zeroValue197,
 t33:=Tryz.underlying131,
 a33:=Tryz.isAgg131,
 z33:=Tryz.sizeOf131,
 v33:=Tryz.zeroValue131 }
def OA:Go.Shelf.Ren:=⟨fun|6=>125|8=>197|9=>198|11=>243|13=>118|12=>244|23=>191|24=>192|14=>272|15=>273|16=>274|17=>275|18=>276|19=>277|20=>278|21=>279|22=>280|25=>294|26=>238|27=>239|28=>295|29=>296|30=>297|31=>303|n=>n,fun|26=>3|28=>197|24=>70|0=>0|3=>3|37=>183|48=>258|50=>46|4=>4|40=>252|39=>251|45=>200|5=>5|9=>9|51=>294|55=>298|57=>324|58=>325|33=>131|n=>n,λn=>n⟩
theorem Oz:SlLaysZI.n6 Tryz.prog OA:={
 mixed:=by kernel_rfl,
 f6:=⟨Tryz.f125.name,by decide,Tryz.func125.trans (congrArg some (by kernel_rfl))⟩,
 f8:=⟨Tryz.f197.name,by decide,Tryz.func197.trans (congrArg some (by kernel_rfl))⟩,
 f11:=⟨Tryz.f243.name,by decide,Tryz.func243.trans (congrArg some (by kernel_rfl))⟩,
 t0:=Tryz.underlying0,
 a0:=Tryz.isAgg0,
 z0:=Tryz.sizeOf0,
 v0:=Tryz.zeroValue0,
 t24:=Tryz.underlying70,
 a24:=Tryz.isAgg70,
 z24:=Tryz.sizeOf70,
 v24:=Tryz.zeroValue70,
 t26:=Tryz.underlying3,
 a26:=Tryz.isAgg3,
 z26:=Tryz.sizeOf3,
 v26:=Tryz.zeroValue3,
 t28:=Tryz.underlying197,
 a28:=Tryz.isAgg197,
 z28:=Tryz.sizeOf197,
 v28:=Tryz.zeroValue197,
 i26:=by kernel_rfl }
def OB:Go.Shelf.Ren:=⟨fun|5=>198|8=>118|7=>244|19=>191|20=>192|10=>272|11=>273|12=>274|13=>275|14=>276|15=>277|16=>278|17=>279|18=>280|30=>294|31=>238|32=>239|33=>295|34=>296|35=>297|40=>303|n=>n,fun|23=>70|25=>3|3=>3|32=>183|22=>70|0=>0|44=>258|46=>46|4=>4|36=>252|35=>251|41=>200|5=>5|9=>9|53=>294|57=>298|63=>324|64=>325|n=>n,λn=>n⟩
theorem GQ:SlLaysM.n5 Tryz.prog OB:={
 mixed:=by kernel_rfl,
 f5:=⟨Tryz.f198.name,by decide,Tryz.func198.trans (congrArg some (by kernel_rfl))⟩,
 f7:=⟨Tryz.f244.name,by decide,Tryz.func244.trans (congrArg some (by kernel_rfl))⟩,
 f8:=Tryz.func118.trans (congrArg some (by kernel_rfl)),
 f10:=⟨Tryz.f272.name,by decide,Tryz.func272.trans (congrArg some (by kernel_rfl))⟩,
 f11:=⟨Tryz.f273.name,by decide,Tryz.func273.trans (congrArg some (by kernel_rfl))⟩,
 f12:=⟨Tryz.f274.name,by decide,Tryz.func274.trans (congrArg some (by kernel_rfl))⟩,
 f13:=⟨Tryz.f275.name,by decide,Tryz.func275.trans (congrArg some (by kernel_rfl))⟩,
 f14:=⟨Tryz.f276.name,by decide,Tryz.func276.trans (congrArg some (by kernel_rfl))⟩,
 f15:=⟨Tryz.f277.name,by decide,Tryz.func277.trans (congrArg some (by kernel_rfl))⟩,
 f16:=⟨Tryz.f278.name,by decide,Tryz.func278.trans (congrArg some (by kernel_rfl))⟩,
 f17:=⟨Tryz.f279.name,by decide,Tryz.func279.trans (congrArg some (by kernel_rfl))⟩,
 f18:=⟨Tryz.f280.name,by decide,Tryz.func280.trans (congrArg some (by kernel_rfl))⟩,
 f19:=Tryz.func191.trans (congrArg some (by kernel_rfl)),
 f20:=Tryz.func192.trans (congrArg some (by kernel_rfl)),
 f30:=⟨Tryz.f294.name,by decide,Tryz.func294.trans (congrArg some (by kernel_rfl))⟩,
 f31:=Tryz.func238.trans (congrArg some (by kernel_rfl)),
 f32:=Tryz.func239.trans (congrArg some (by kernel_rfl)),
 f33:=⟨Tryz.f295.name,by decide,Tryz.func295.trans (congrArg some (by kernel_rfl))⟩,
 f34:=⟨Tryz.f296.name,by decide,Tryz.func296.trans (congrArg some (by kernel_rfl))⟩,
 f35:=⟨Tryz.f297.name,by decide,Tryz.func297.trans (congrArg some (by kernel_rfl))⟩,
 f40:=⟨Tryz.f303.name,by decide,Tryz.func303.trans (congrArg some (by kernel_rfl))⟩,
 t0:=Tryz.underlying0,
 a0:=Tryz.isAgg0,
 z0:=Tryz.sizeOf0,
 v0:=Tryz.zeroValue0,
 t3:=Tryz.underlying3,
 a3:=Tryz.isAgg3,
 z3:=Tryz.sizeOf3,
 v3:=Tryz.zeroValue3,
 t4:=Tryz.underlying4,
 a4:=Tryz.isAgg4,
 z4:=Tryz.sizeOf4,
 v4:=Tryz.zeroValue4,
 t5:=Tryz.underlying5,
 a5:=Tryz.isAgg5,
 z5:=Tryz.sizeOf5,
 v5:=Tryz.zeroValue5,
 t9:=Tryz.underlying9,
 a9:=Tryz.isAgg9,
 z9:=Tryz.sizeOf9,
 v9:=Tryz.zeroValue9,
 t22:=Tryz.underlying70,
 a22:=Tryz.isAgg70,
 z22:=Tryz.sizeOf70,
 v22:=Tryz.zeroValue70,
 t23:=Tryz.underlying70,
 a23:=Tryz.isAgg70,
 z23:=Tryz.sizeOf70,
 v23:=Tryz.zeroValue70,
 t25:=Tryz.underlying3,
 a25:=Tryz.isAgg3,
 z25:=Tryz.sizeOf3,
 v25:=Tryz.zeroValue3,
 t32:=Tryz.underlying183,
 a32:=Tryz.isAgg183,
 z32:=Tryz.sizeOf183,
 v32:=Tryz.zeroValue183,
 t35:=Tryz.underlying251,
 a35:=Tryz.isAgg251,
 z35:=Tryz.sizeOf251,
 v35:=Tryz.zeroValue251,
 t36:=Tryz.underlying252,
 a36:=Tryz.isAgg252,
 z36:=Tryz.sizeOf252,
 v36:=Tryz.zeroValue252,
 t41:=Tryz.underlying200,
 a41:=Tryz.isAgg200,
 z41:=Tryz.sizeOf200,
 v41:=Tryz.zeroValue200,
 t44:=Tryz.underlying258,
 a44:=Tryz.isAgg258,
 z44:=Tryz.sizeOf258,
 v44:=Tryz.zeroValue258,
 t46:=Tryz.underlying46,
 a46:=Tryz.isAgg46,
 z46:=Tryz.sizeOf46,
 v46:=Tryz.zeroValue46,
 t53:=Tryz.underlying294,
 a53:=Tryz.isAgg294,
 z53:=Tryz.sizeOf294,
 v53:=Tryz.zeroValue294,
 t57:=Tryz.underlying298,
 a57:=Tryz.isAgg298,
 z57:=Tryz.sizeOf298,
 v57:=Tryz.zeroValue298,
 t63:=Tryz.underlying324,
 a63:=Tryz.isAgg324,
 z63:=Tryz.sizeOf324,
 v63:=Tryz.zeroValue324,
 t64:=Tryz.underlying325,
 a64:=Tryz.isAgg325,
 z64:=Tryz.sizeOf325,
 v64:=Tryz.zeroValue325 }
end Go.Proofs.YtoociceebodfeaaGreatDoor
namespace Go.Proofs.YtoociceebodfeaaGreatDoor
open Go Go.aK Go.RowKit Go.Maps Go.Sort Go.Shelf Go.WideElems
def rq (_:Value):Option (DataW Unit×List MemPlace):=some (.nil,[])
theorem Oy {P:Program}{k:TypeId}(hk:P.underlying k=some (.int .i64)){w:World}{r:Nat}{xs:List (Int×Value)}(M:dF w.heap r xs)(hr:∀ p∈xs,(Lit.int .i64 p.1).wf=true)(hlen:xs.length<=1000000) :
 ∃ D:DataW Unit,w.ownsMap P k rq r xs.length D/\(intKeys D).Perm (xs.map (·.1))/\Maps.size D=xs.length:=by
 obtain ⟨es,cl,h1,h2,h3,h4,h5⟩:=M;have hl:es.size=xs.length:=by
  have:=congrArg List.length h2;simpa using this
 have hkeys:es.toList.map (·.key)=xs.map λp=>Value.int .i64 p.1:=by
  have:=congrArg (List.map (·.1)) h2;simpa [List.map_map,Function.comp_def] using this
 have hrg:∀ e:MapEntry,rg P k rq e=((keyOf P k e.key).map λkey=>(key,DataW.nil (H:=Unit))).getD (.bool false,.nil):=by
  intro e;unfold rg WideElems.rd rq;cases keyOf P k e.key <;> rfl
 have hmap:es.toList.map (rg P k rq)=xs.map λ(p:Int×Value)=>(Lit.int .i64 p.1,DataW.nil (H:=Unit)):=by
  have e1:es.toList.map (rg P k rq)=(es.toList.map (·.key)).map λv=>((keyOf P k v).map λkey=>(key,DataW.nil (H:=Unit))).getD (.bool false,.nil):=by
   rw [List.map_map];exact List.map_congr_left λe _=>hrg e
  rw [e1,hkeys,List.map_map];refine List.map_congr_left λp hp=>?_;simp only [Function.comp_def];rw [keyOf_int_mk hk (hr p hp)];rfl
 refine ⟨.map ((es.toList.map (rg P k rq)).foldr DataW.insert []),⟨es,cl,h1,⟨?_,⟨h5,h4,?_⟩,λe he=>?_⟩,by omega,rfl⟩,?_,?_⟩
 ·have:(1000000:Nat)<=maxLen:=by decide
  omega
 ·rw [hkeys];have h6:xs.map (λp=>Value.int .i64 p.1)=(xs.map (·.1)).map λa=>Value.int .i64 a:=by rw [List.map_map];rfl
  rw [h6];unfold List.Nodup;rw [List.pairwise_map];exact h3.imp λhne e=>hne (by injection e)
 ·have hm:e.key∈es.toList.map (·.key):=List.mem_map.2 ⟨e,he,rfl⟩;rw [hkeys] at hm;obtain ⟨p,hp,hpe⟩:=List.mem_map.1 hm;refine ⟨(.int .i64 p.1,.nil),?_⟩;unfold WideElems.rd rq;rw [<-hpe,keyOf_int_mk hk (hr p hp)];rfl
 ·show (List.map (λp:Lit×DataW Unit=>Go.intOf p.1) _).Perm _;have hp:=(WideShapes.sorted_perm (es.toList.map (rg P k rq))).map λp:Lit×DataW Unit=>Go.intOf p.1;refine hp.trans ?_;rw [hmap,List.map_map];have:(List.map ((λp:Lit×DataW Unit=>Go.intOf p.1) ∘ λp:Int×Value=>(Lit.int .i64 p.1,DataW.nil)) xs)=xs.map (·.1):=List.map_congr_left λp _=>rfl;rw [this]
 ·rw [Maps.size_eq,length_sorted,hmap,List.length_map]
theorem Ox {w:World}{base:Nat}{e:TypeId}{v:Value}{n:Nat}{xs:List Value}(h:w.ownsRow base e 1 v n xs):∃ a c,v=.slice a n c/\Own w.heap e 1 a n c xs/\∀ b∈ay a,base<=b:=by
 obtain ⟨hx,⟨rfl,rfl⟩|⟨g,cap,cur,rfl,hg,ho,hn,_,hs,ht⟩⟩:=h
 ·exact ⟨none,0,rfl,.inl ⟨rfl,rfl,rfl,List.eq_nil_of_length_eq_zero (by omega)⟩,by simp [ay]⟩
 ·refine ⟨some ⟨g,0,none⟩,cap,rfl,.inr ⟨g,cur.toList,rfl,ho,by rw [hx];exact ht,by simpa using hs,hx,hn⟩,?_⟩;intro b hb;have:b=g:=by simpa [ay] using hb
  omega
theorem Ou (ρ:Ren)(hρ:ρ.f 9=198)(m:Nat):AnyZI.SortsIn Tryz.prog ρ Fence.wide m:=
 ⟨λblk off cap ss W hH hblk hsz=>callsIn_wide.2 (by rw [hρ];exact AnyM.slices_Sort_int GQ blk off cap ss W hH hblk hsz),
  λp cap W=>callsIn_wide.2 (by rw [hρ];exact AnyM.slices_Sort_int_none GQ p cap W)⟩
theorem Oq (r:Nat)(h:Heap):aD Tryz.prog 126 [.map (some r)] h (λv h'=>v=.func (.func 199) #[] #[.pointer (some ⟨h.size,0,none⟩)]/\h'=h.push (.cells #[.map (some r)] 119 (0,0))):=by
 intro w hw;subst hw;refine (callsIn_wide.1 (AnyZI.keys_in GR Fence.wide 5 trivial rfl (some r) w)).mono λe w' ⟨he,hw⟩=>?_;subst he hw;exact ⟨_,rfl,⟨rfl,rfl,rfl⟩,rfl,rfl⟩
theorem Ov {x:Int}(h:inI64 x):(Lit.int .i64 x).wf=true:=by
 have h1:IntKind.i64.min<=x:=h.1;have h2:x<=IntKind.i64.max:=h.2;show (decide (IntKind.i64.min<=x)&&decide (x<=IntKind.i64.max))=true;rw [decide_eq_true h1,decide_eq_true h2];rfl
theorem Ow {h:Heap}{xs:List (Int×Value)}{f:Nat}{lb:List Value}{w:World}(hw:w.heap=h){e:TypeId}
 (hr:∀ p∈xs,inI64 p.1) {D:DataW Unit} (hD:(intKeys D).Perm (xs.map (·.1))) (hlen:xs.length<=1000000)
 (c:Calls Tryz.prog f ⟨lb⟩ w λe' w'=>∃ (v:Value) (ss:List Int),e'=.returned v/\ss.Perm (intKeys D)/\w'.ownsRow w.heap.size e 1 v ss.length ((ss.mergeSort (λx y=>decide (x<=y))).map encZ)/\(v=.slice none 0 0↔ss=[])/\Below w.heap.size w w') :
 Calls Tryz.prog f ⟨lb⟩ w λe w'=>∃ v,e=.returned v/\dD w w'/\Keeps [] h w'.heap/\∃ a c l,v=.slice a l.length c/\Sl w'.heap a l.length c l/\l.Perm (xs.map (·.1)):=by
 subst hw;refine c.mono ?_;rintro e' w' ⟨v,ss,rfl,hS,hrow,_,hb⟩;obtain ⟨a,c,rfl,O,_⟩:=Ox hrow;have hp:=(List.mergeSort_perm ss (λx y=>decide (x<=y)));have hpx:(ss.mergeSort (λx y=>decide (x<=y))).Perm (xs.map (·.1)):=hp.trans (hS.trans hD);have hll:ss.length=(ss.mergeSort (λx y=>decide (x<=y))).length:=hp.length_eq.symm;have hlx:=hpx.length_eq;rw [List.length_map] at hlx;rw [hll] at O;refine ⟨_,rfl,⟨hb.os,hb.output,hb.tape⟩,⟨hb.size,λx hx _=>hb.block x hx⟩,a,c,ss.mergeSort (λx y=>decide (x<=y)),by rw [hll],?_,hpx⟩;refine O.sl (Cm _ _ λx hx=>?_) rfl (by decide) (by omega);obtain ⟨p,hp,rfl⟩:=List.mem_map.1 (hpx.mem_iff.1 hx);exact hr p hp
theorem Ot {h:Heap}{b r:Nat}{T:TypeId}{xs:List (Int×Value)}(o:h[b]?=some (.cells #[.map (some r)] T (0,0)))(M:dF h r xs)(hr:∀ p∈xs,inI64 p.1)(hlen:xs.length<=1000000) :
 aD Tryz.prog 125 [.func (.func 199) #[] #[.pointer (some ⟨b,0,none⟩)]] h (λv h'=>Keeps [] h h'/\∃ a c l,v=.slice a l.length c/\Sl h' a l.length c l/\l.Perm (xs.map (·.1))):=by
 intro w hw;subst hw;obtain ⟨D,hown,hp,hs⟩:=Oy Tryz.underlying3 M (λp hp=>Ov (hr p hp)) hlen;have hbl:=eZ o;have hcell:w.cell? ⟨b,0,none⟩=some (.map (some r)):=by simp [World.cell?,o]
 have hseq:SeqGives Fence.wide 2 Tryz.prog 199 #[.pointer (some ⟨b,0,none⟩)] encZ (λss=>ss.Perm (intKeys D)) (Maps.size D) w:=
  AnyZI.keys_gives (ρ:=GU) { GR with } Fence.wide _ trivial rfl (by omega) b r xs.length D w hbl hcell hown
 have cS:=AnyZI.sorted_in Oz Fence.wide 5 trivial trivial trivial trivial rfl (by omega) (Ou _ rfl _) (enters_of Tryz.func198 (by kernel_rfl) rfl) 199 #[.pointer (some ⟨b,0,none⟩)] trivial (enters_of Tryz.func199 (by kernel_rfl) rfl) _ _ (by rw [hs];exact Nat.le_trans hlen (by decide)) (by rw [hs];omega) w hseq;exact Ow rfl hr hp hlen (callsIn_wide.1 cS)
end Go.Proofs.YtoociceebodfeaaGreatDoor
namespace Go.Proofs.YtoociceebodfeaaGreatDoor
open Go Go.aK
theorem Ck (s:List Int):(kH s).map (·.1)=s:=by
 unfold kH;rw [List.map_map]
 conv=>rhs;rw [<-List.map_id s]
 rfl
theorem Oo {h:Heap}{r:Nat}{s:List Int}(M:dF h r (kH s))(hs:∀ x∈s,0<=x/\x<24):aD Tryz.prog 74 [.map (some r)] h (λv h'=>Keeps [] h h'/\∃ a c l,v=.slice a l.length c/\Sl h' a l.length c l/\l.Perm s):=by
 have hn:s.Nodup:=by
  obtain ⟨es,cl,_,_,g,_⟩:=M;rw [Ck] at g;exact g
 have hlen:s.length<=24:=by
  have h1:s ⊆ (List.range 24).map λ(i:Nat)=>(i:Int):=λx hx=>by
   have:=hs x hx;exact List.mem_map.2 ⟨x.toNat,by simp;omega,by omega⟩
  have:=hn.length_le_of_subset h1;simpa using this
 have hr:∀ p∈kH s,inI64 p.1:=λp hp=>by
  have:p.1∈s:=by rw [<-Ck s];exact List.mem_map.2 ⟨p,hp,rfl⟩
  have:=hs _ this;unfold inI64;omega
 refine aH aI Tryz.func74 rfl ok74 (by simp [Tryz.f74]) ?_;(conv=>whnf);refine au.i ((Oq r h).mono (R':=λv h'=>Keeps [] h h'/\v=.func (.func 199) #[] #[.pointer (some ⟨h.size,0,none⟩)]/\h'=h.push (.cells #[.map (some r)] 119 (0,0))) λv h' ⟨hv,hh⟩=>⟨by rw [hh];exact rf _ _,hv,hh⟩) λv h1 k1 hv=>?_;obtain ⟨rfl,hh⟩:=hv;have o1:h1[h.size]?=some (.cells #[.map (some r)] 119 (0,0)):=by rw [hh];simp
 (conv=>whnf);refine au.i (Ot o1 (M.keep k1 (by simp)) hr (by unfold kH;rw [List.length_map];omega)) λv h2 k2 hv=>?_;obtain ⟨a,c,l,rfl,S2,p2⟩:=hv;(conv=>whnf);rw [Ck] at p2;exact ⟨k1.trans k2,a,c,l,rfl,S2,p2⟩
theorem Om {h:Heap}{V:VL}{M:aV}{X:VS}(A:At h V M X):aD Tryz.prog 28 [.pointer (some ⟨V.v,0,none⟩)] h (λv h'=>Keeps [] h h'/\∃ a c l,v=.slice a l.length c/\Sl h' a l.length c l/\l.Perm X.mine):=by
 refine aH aI Tryz.func28 rfl ok28 (by simp [Tryz.f28]) ?_;(conv=>whnf);refine ak.f rfl ?_;(conv=>whnf);refine ax.o A.obj rfl ?_;(conv=>whnf);refine au.i (Oo A.mine λx hx=>A.bG x (List.mem_append_right _ hx)) λv h1 k1 hv=>?_;(conv=>whnf);exact ⟨k1,hv⟩
theorem Oh {h:Heap}{a:Option Addr}{n c:Nat}{l:List Int}(S:Sl h a n c l)(x:Int):aD Tryz.prog 205 [.slice a n c,.int .i64 x] h (λv h'=>Keeps [] h h'/\∃ k:Int,v=.int .i64 k/\(0<=k↔x∈l)):=by
 have hl:=S.hlen;have hb:=S.hbig;refine aH aI Tryz.func205 rfl ok205 (by simp [Tryz.f205]) ?_;(conv=>whnf);refine bP.on [0,1,7,8] [] (λi:Nat=>[(0,.v (.slice a n c)),(1,.v (.int .i64 x)),(7,.v (.int .i64 (n:Int))),(8,.v (.int .i64 (i:Int)))]) (λ_=>[]) (λi h'=>i<=n/\Keeps [] h h'/\x∉l.take i) (λi=>n-i) 0 ?_ ?_
 ·(conv=>whnf);exact ⟨0,rfl,rfl,rfl,Nat.zero_le _,Keeps.refl _ _,by simp⟩
 ·rintro i h1 ⟨hi,k1,hx⟩;(conv=>whnf);refine ak.i (λhc=>?_) (λhc=>?_)
  ·have hi1:i<l.length:=by simp at hc;omega
   obtain ⟨b2,o2,hb2,_,⟨rfl,_⟩,hc2⟩:=(S.keep k1).at_ i hi1;(conv=>whnf);refine aQ.i i rfl (by omega) hb2 ?_;(conv=>whnf);refine ax.i (hc2 0 (by simp)) ?_;(conv=>whnf);refine ak.i (λhd=>?_) (λhd=>?_)
   ·(conv=>whnf);have e:x=l[i]:=by simpa using hd
    have:x∈l:=e ▸ List.getElem_mem hi1;exact ⟨k1,_,rfl,λ_=>this,λ_=>by omega⟩
   ·(conv=>whnf);refine ⟨n-(i+1),by omega,?_⟩;(conv=>whnf);refine ⟨i+1,rfl,by rw [wrapN (x:=(i:Int)+1) (n:=i+1) (by simp) (by omega)],rfl,by omega,k1,?_⟩;rw [List.take_succ_eq_append_getElem hi1,List.mem_append];rintro (h|h)
    ·exact hx h
    ·have e:¬ x=l[i]:=by simpa using hd
     exact e (by simpa using h)
  ·(conv=>whnf);have hi1:l.take i=l:=List.take_of_length_le (by simp at hc;omega);rw [hi1] at hx;exact ⟨k1,_,rfl,λh=>absurd h (by decide),λh=>absurd h hx⟩
theorem Oi {h:Heap}{a:Option Addr}{n c:Nat}{l:List Int}(S:Sl h a n c l)(x:Int):aD Tryz.prog 137 [.slice a n c,.int .i64 x] h (λv h'=>Keeps [] h h'/\v=.bool (decide (x∈l))):=by
 refine aH aI Tryz.func137 rfl ok137 (by simp [Tryz.f137]) ?_;(conv=>whnf);refine au.i (Oh S x) λv h1 k1 hv=>?_;obtain ⟨k,rfl,hk⟩:=hv;(conv=>whnf);refine ⟨k1,?_⟩;by_cases hx:x∈l
 ·rw [decide_eq_true hx,decide_eq_true (hk.2 hx)]
 ·rw [decide_eq_false hx,decide_eq_false (λe=>hx (hk.1 e))]
def lT (c:aB)(v:UInt64):aB:={ c with dR:=v }
def iy (X:VS)(n:Int)(c:aB):aB:=if n∈X.mine then c else lT c (c.dR+1)
theorem pY (X:VS)(n:Int)(c:aB):∃ v,iy X n c=lT c v:=by
 unfold iy;split
 ·exact ⟨c.dR,rfl⟩
 ·exact ⟨_,rfl⟩
theorem Oj {c:aB}(h:c.ok)(v:UInt64):(lT c v).ok:=h
theorem Ol {c:aB}(h:gq c=true)(v:UInt64):gq (lT c v)=true:=by
 unfold gq at h ⊢;show (if c.kind=0 then decide (lT c v=fQ v) else _)=true;by_cases h0:c.kind=0
 ·rw [if_pos h0] at h ⊢;have e:c=fQ c.dR:=of_decide_eq_true h;apply decide_eq_true;unfold lT;rw [e];rfl
 ·rw [if_neg h0] at h ⊢;exact h
theorem gN.dR {now:Int->UInt64}{n:Int}{c:aB}{l:List aF}{s:List UInt8}(N:gN now n c l s)(v:UInt64):gN now n (lT c v) l s:=by
 refine ⟨N.kind,λh=>⟨?_,(N.free h).2⟩,λh=>?_,λh=>?_⟩
 ·have e:=(N.free h).1;unfold lT;rw [e];rfl
 ·obtain ⟨m,D⟩:=N.dir h;exact ⟨m,D.map,D.wk,D.kind,D.size,D.ok,D.lq,D.str,D.kG⟩
 ·obtain ⟨m,F⟩:=N.file h;exact ⟨m,F.map,F.wk,F.kind,F.size,F.fits,F.aL,F.hol,F.kG⟩
theorem pX {h:Heap}{V:VL}{M:aV}{X:VS}(A:At h V M X)(n:Int)(hn:0<=n/\n<24)(c:aB)(hc:c.ok)(hr:gq c=true):aD Tryz.prog 79 [.pointer (some ⟨V.v,0,none⟩),.int .i64 n,.agg ⟨c.cells⟩,.int .i64 0] h (λv h'=>Keeps [V.ob,V.sb,V.mb] h h'/\v=.int .i64 0/\At h' V M (dX X n (iy X n c))):=by
 have bl:=A.blt;refine aH aI Tryz.func79 rfl ok79 (by simp [Tryz.f79]) ?_;(conv=>whnf);refine aR.i λb1 h1 e1 s1 o1 k1=>?_;(conv=>whnf);refine ak.f rfl ?_;(conv=>whnf);(try refine aU.pass ?_;conv=>whnf);refine au.i (Om (A.on k1)) λv h2 k2 hv=>?_;obtain ⟨a2,c2,l2,rfl,S2,p2⟩:=hv;(conv=>whnf);refine au.i (Oi S2 n) λv h3 k3 hv=>?_;subst hv;have hmem:(n∈l2)↔(n∈X.mine):=p2.mem_iff;have z1:=k1.size;have z2:=k2.size;have z3:=k3.size;have A3:=(A.on k1).on (k2.trans k3);have q1:=bl V.ob (by simp [VL.blocks]);have q2:=bl V.sb (by simp [VL.blocks]);have q3:=bl V.mb (by simp [VL.blocks]);have k03:=k1.trans (k2.trans k3);by_cases hm:n∈X.mine
 ·have eb:iy X n c=c:=if_pos hm;rw [decide_eq_true (hmem.2 hm),eb];(conv=>whnf);refine ak.f rfl ?_;(conv=>whnf);refine au.m (zD A3 n hn c hc hr) (λy hy hx=>by
   have hy2:y=b1:=by simpa [aA,bg] using hy
   simp at hx;omega) λv h4 k4 hv=>?_
  obtain ⟨rfl,A4⟩:=hv;(conv=>whnf);exact ⟨(k03.mono (by simp)).trans k4,rfl,A4⟩
 ·have eb:iy X n c=lT c (c.dR+1):=if_neg hm;rw [decide_eq_false (λe=>hm (hmem.1 e)),eb];(conv=>whnf);refine ak.t rfl ?_;(conv=>whnf);refine aN.i λh4 s4 k4=>?_;have A4:=A3.keep k4 (λb hb=>by have:=bl b hb;simp;omega);have VS:=zD A4 n hn (lT c (c.dR+1)) (Oj hc _) (Ol hr _);have hcells:(lT c (c.dR+1)).cells=[.int .i64 c.kind,.int .i64 c.links,.int .i64 c.size,.int .u64 (IntKind.u64.wrap ((c.dR.toNat:Int)+1)),.int .i64 c.d0,.int .i64 c.d1,.int .i64 c.d2,.int .i64 c.d3,.int .i64 c.d4,.int .i64 c.more]:=by
   rw [Cj];rfl
  rw [hcells] at VS;(conv=>whnf);refine au.m VS (λy hy hx=>by
   have hy2:y=b1:=by simpa [aA,bg] using hy
   simp at hx;omega) λv h5 k5 hv=>?_
  obtain ⟨rfl,A5⟩:=hv;(conv=>whnf);exact ⟨((k03.new1 k4 (by omega)).mono (by simp)).trans k5,rfl,A5⟩
theorem zq {h:Heap}(p:Value)(n:Int)(c:aB)(e:Int)(he:e≠0):aD Tryz.prog 79 [p,.int .i64 n,.agg ⟨c.cells⟩,.int .i64 e] h (λv h'=>Keeps [] h h'/\v=.int .i64 e):=by
 refine aH aI Tryz.func79 rfl ok79 (by simp [Tryz.f79]) ?_;(conv=>whnf);refine aR.i λb1 h1 e1 s1 o1 k1=>?_;(conv=>whnf);refine ak.t (by simp [he]) ?_;(conv=>whnf);exact ⟨k1,rfl⟩
theorem FS.Ch (S:FS)(n:Int)(c c':aB)(l l':List aF)(s s':List UInt8):(S.put n c l s).put n c' l' s'=S.put n c' l' s':=by
 unfold FS.put
 congr 1
 ·funext x;show (if x=n then c' else if x=n then c else S.C x)=_
  split
  ·rfl
  ·rfl
 ·funext x;show (if x=n then l' else if x=n then l else S.nm x)=_
  split
  ·rfl
  ·rfl
 ·funext x;show (if x=n then s' else if x=n then s else S.aL x)=_
  split
  ·rfl
  ·rfl
def qY (d:Int)(c:aB)(nm:List UInt8)(nd:Int):List Value:=[.int .i64 d]++c.cells++[.string (ba nm),.int .i64 nd]
theorem wN (S:FS)(r:Int×List UInt8×Int×Int):∃ d c nm nd,lX S r=qY d c nm nd/\(r.2.2.2=0->d=r.1/\c=S.C r.1/\nm=r.2.1/\nd=r.2.2.1):=by
 unfold lX;by_cases h:r.2.2.2=0
 ·rw [if_pos h];exact ⟨_,_,_,_,rfl,λ_=>⟨rfl,rfl,rfl,rfl⟩⟩
 ·rw [if_neg h];exact ⟨0,aB.zero,[],0,rfl,λe=>absurd e h⟩
structure lU (S:FS)(path:List UInt8)(d:Int)(nm:List UInt8)(nd:Int):Prop where
 is:bD (aX S) path=(d,nm,nd,0)
 bG:0<d/\d<24
 kind:(S.C d).kind=2
 name:dG nm=true
 len:nm.length<=200
 node:nd=((cK (S.nm d) nm).map (·.node)).getD 0
theorem uN {X:VS}{S:FS}(I:bK X.now S)(C:fZ S){path:List UInt8}(h0:(bD (aX S) path).2.2.2=0):∃ d nm nd,lU S path d nm nd:=by
 have hpl:bD (aX S) path=bD (aX S) path:=rfl
 conv at hpl=>rhs;unfold bD
 cases hpp:bH path with
 | none=>rw [hpp] at hpl;rw [hpl] at h0;cases h0
 | some l=>
  rw [hpp] at hpl;simp only at hpl;by_cases hl:l=[]
  ·rw [if_pos hl] at hpl;rw [hpl] at h0;cases h0
  ·rw [if_neg hl] at hpl;by_cases he:(dW (aX S) 1 true 600 1 0 l.dropLast).2=0
   ·rw [if_neg (by simpa using he)] at hpl;by_cases hk:(aX S).kind (dW (aX S) 1 true 600 1 0 l.dropLast).1=2
    ·rw [if_neg (by simpa using hk)] at hpl;have hin:=Cf (X:=X) C (follow:=true) 600 1 0 l.dropLast ⟨by decide,by decide,by rw [C.root];decide⟩ he;obtain ⟨x0,x1,_⟩:=hin;obtain ⟨_,p2,_,_⟩:=mE hpp;have hm:l.getLast?.getD []∈l:=by
      rw [List.getLast?_eq_some_getLast hl];exact List.getLast_mem hl
     refine ⟨_,_,_,hpl,⟨?_,x1⟩,hk,List.all_eq_true.1 p2 _ hm,sP hpp _ hm,rfl⟩;have hne:(dW (aX S) 1 true 600 1 0 l.dropLast).1≠0:=by
      intro e;rw [e] at hk;have hk:(S.C 0).kind=2:=hk;rw [I.zero] at hk;cases hk
     omega
    ·rw [if_pos (by simpa using hk)] at hpl;rw [hpl] at h0;cases h0
   ·rw [if_pos (by simpa using he)] at hpl;rw [hpl] at h0;exact absurd h0 he
theorem GN {h:Heap}{V:VL}{M:aV}{X:VS}(A:At h V M X){S:FS}(I:bK X.now S)(C:fZ S)(path:List UInt8)(hp:path.length<=140737488351232) :
 aD Tryz.prog 89 [.pointer (some ⟨V.v,0,none⟩),.string (ba path)] h (λv h'=>Keeps [V.sb] h h'/\(∃ s,At h' V M { X with seen:=s })/\∃ d c nm nd,v=.tuple #[.agg ⟨qY d c nm nd⟩,.int .i64 (if (bD (aX S) path).2.2.2≠0 then (bD (aX S) path).2.2.2 else if (bD (aX S) path).2.2.1≠0 then 5 else 0)] /\
  ((bD (aX S) path).2.2.2=0->d=(bD (aX S) path).1/\c=S.C (bD (aX S) path).1/\nm=(bD (aX S) path).2.1/\nd=(bD (aX S) path).2.2.1)):=by
 have bl:=A.blt;have msb:V.sb∈V.blocks:=by simp [VL.blocks]
 refine aH aI Tryz.func89 rfl ok89 (by simp [Tryz.f89]) ?_;(conv=>whnf);refine aR.i λb1 h1 e1 s1 o1 k1=>?_;have nb1:∀ b∈V.blocks,b≠b1:=λb hb=>by have:=bl b hb;omega
 (conv=>whnf);refine au.m (wM (A.on k1) I C path hp) (by simp [aA,bg];exact λe=>nb1 V.sb msb e.symm) λv h2 k2 hv=>?_;obtain ⟨rfl,s,A2⟩:=hv;obtain ⟨d,c,nm,nd,hsp,hq⟩:=wN S (bD (aX S) path);rw [hsp];generalize bD (aX S) path=r at hq;have z1:=k1.size;have z2:=k2.size;(conv=>whnf);refine aR.i λb3 h3 e3 s3 o3 k3=>?_;(conv=>whnf);refine aN.i λh4 s4 k4=>?_;have k14:Keeps [] h2 h4:=k3.new1 k4 (by omega);by_cases he:r.2.2.2=0
 ·obtain ⟨q1,q2,q3,q4⟩:=hq he;subst q4;rw [he];(conv=>whnf);(try refine aU.pass ?_;conv=>whnf);refine ak.i (λhd=>?_) (λhd=>?_)
  ·have hd1:r.2.2.1≠0:=by simpa using hd
   (conv=>whnf);(try refine aU.pass ?_;conv=>whnf);refine aN.i λh5 s5 k5=>?_;(conv=>whnf);refine ⟨((k1.mono (by simp)).trans (k2.cu k14)).m1 k5 (by omega),⟨s,(A2.on k14).keep k5 (λb hb=>by simp;exact nb1 b hb)⟩,d,c,nm,r.2.2.1,?_,λ_=>hq he⟩;rw [if_neg (by simp),if_pos hd1];rfl
  ·have hd1:r.2.2.1=0:=by simpa using hd
   (conv=>whnf);(try refine aU.pass ?_;conv=>whnf);refine aN.i λh5 s5 k5=>?_;(conv=>whnf);refine ⟨((k1.mono (by simp)).trans (k2.cu k14)).m1 k5 (by omega),⟨s,(A2.on k14).keep k5 (λb hb=>by simp;exact nb1 b hb)⟩,d,c,nm,r.2.2.1,?_,λ_=>hq he⟩;rw [if_neg (by simp),if_neg (by simpa using hd1)];rfl
 ·(conv=>whnf);(try refine aU.pass ?_;conv=>whnf);refine ak.f (by simp [he]) ?_;(conv=>whnf);(try refine aU.pass ?_;conv=>whnf);refine aN.i λh5 s5 k5=>?_;(conv=>whnf);refine ⟨((k1.mono (by simp)).trans (k2.cu k14)).m1 k5 (by omega),⟨s,(A2.on k14).keep k5 (λb hb=>by simp;exact nb1 b hb)⟩,d,c,nm,nd,?_,hq⟩;rw [if_pos he];rfl
theorem zB {h:Heap}{V:VL}{M:aV}{X:VS}(A:At h V M X){S:FS}(I:bK X.now S){d:Int}(hd:0<d/\d<24)(hk:(S.C d).kind=2){nm:List UInt8}(hnm:dG nm=true)(hnl:nm.length<=200)(hf:cK (S.nm d) nm=none)(c:aB)(nd:Int)(n:Int)(hn:1<=n/\n<24) :
 aD Tryz.prog 64 [.pointer (some ⟨V.v,0,none⟩),.agg ⟨qY d c nm nd⟩,.int .i64 n] h (λv h'=>Keeps [V.ob,V.sb,V.mb] h h'/\∃ X',At h' V M X'/\X'.away=X.away/\X'.bE=X.bE /\
  (
   (v=.int .i64 9/\(bB M.read X 96<2\/nL (bR nm)<=pz (S.nm d) nm)) \/
   (v=.int .i64 0/\bB M.read X 96<=bB M.read X' 96+2/\(∀ x∈X.mine,x∈X'.mine)/\∃ c',bK X'.now (S.put d c' (bF (S.nm d) ⟨nm,n⟩) (S.aL d))/\c'.kind=2/\c'.links=1))):=by
 have bl:=A.blt;have hd0:0<=d/\d<24:=⟨by omega,hd.2⟩;have N:=I.node d hd0.1 hd0.2;obtain ⟨m,D⟩:=N.dir hk;have hcr:gU (bU X.now (8+d*8) 8)=some (S.C d):=by rw [I.card d hd0.1 hd0.2];exact qZ N.right
 have hpt:dx (S.nm d) nm=false:=zk D.str hf;have Ci:lm (S.nm d) nm n=(bF (S.nm d) ⟨nm,n⟩,0):=by
  unfold lm;rw [if_neg (by omega),if_neg (by rw [hnm];simp),if_neg (by rw [hpt];simp)]
 have D':eu (eP X d).now d (S.C d) m (S.nm d):=D;have AP:=Od (B:=M.read) (X:=eP X d) hd0 D' nm n;have AC:=Oe (B:=M.read) (X:=eP X d) hd0 D' nm n;rw [Ci] at AP;refine aH aI Tryz.func64 rfl ok64 (by simp [Tryz.f64]) ?_;(conv=>whnf);refine aR.i λb1 h1 e1 s1 o1 k1=>?_;have nb1:∀ b∈V.blocks,b≠b1:=λb hb=>by have:=bl b hb;omega
 (conv=>whnf);refine au.m (sN (A.on k1) d) (by simp [aA,bg];exact λe=>nb1 V.sb (by simp [VL.blocks]) e.symm) λv h2 k2 hv=>?_;rw [if_pos hd0,hcr] at hv;obtain ⟨rfl,A2⟩:=hv;unfold qb;have z1:=k1.size;have z2:=k2.size;(conv=>whnf);refine aR.i λb3 h3 e3 s3 o3 k3=>?_;(conv=>whnf);refine aN.i λh4 s4 k4=>?_;have k24:Keeps [] h2 h4:=k3.new1 k4 (by omega);have A4:=A2.on k24;have q1:=bl V.ob (by simp [VL.blocks]);have q2:=bl V.sb (by simp [VL.blocks]);have q3:=bl V.mb (by simp [VL.blocks]);(conv=>whnf);refine ak.f rfl ?_;(conv=>whnf);refine au.m (Og A4 d (S.C d) N.ok nm (by omega) n) (λy hy hx=>by
  simp [aA,bg] at hy hx;omega) λv h5 k5 hv=>?_
 obtain ⟨rfl,A5⟩:=hv;have z4:=k4.size;have z5:=k5.size;generalize iQ M.read (eP X d) d (S.C d) nm n=r at AP AC A5;obtain ⟨ac1,ac2⟩:=AC;(conv=>whnf);refine aR.i λb6 h6 e6 s6 o6 k6=>?_;(conv=>whnf);refine aN.i λh7 s7 k7=>?_;have k57:Keeps [] h5 h7:=k6.new1 k7 (by omega);have A7:=A5.on k57;have kk:Keeps [V.ob,V.sb,V.mb] h h7:=(((k1.mono (by simp)).trans (k2.mono (by simp))).cu k24).trans ((k5.mono (by simp)).cu k57);rcases AP with ⟨_,a2,_⟩|⟨_,a2,a3⟩|⟨_,a2,a3,m',D2,F2⟩
 ·exact absurd rfl a2
 ·rw [a2];(conv=>whnf);refine au.i (zq _ d r.1 9 (by decide)) λv h8 k8 hv=>?_;subst hv;(conv=>whnf);refine ⟨kk.cu k8,r.2.2,A7.on k8,by rw [ac2];rfl,by rw [ac2];rfl,.inl ⟨rfl,?_⟩⟩;rcases a3 with a3|a3
  ·exact .inr a3
  ·exact .inl a3
 ·rw [a2];(conv=>whnf);refine au.m (pX A7 d hd0 r.1 D2.right.2 D2.right.1) (λy hy hx=>by
   simp [aA,bg] at hy hx;omega) λv h8 k8 hv=>?_
  obtain ⟨rfl,A8⟩:=hv;(conv=>whnf);obtain ⟨vv,ev⟩:=pY r.2.2 d r.1;have N2:gN r.2.2.now d r.1 (bF (S.nm d) ⟨nm,n⟩) (S.aL d):=⟨by rw [D2.kind.1];decide,λh=>(by rw [D2.kind.1] at h;cases h),λ_=>⟨m',D2⟩,λh=>(by rw [D2.kind.1] at h;omega)⟩;have N3:=N2.dR vv;rw [<-ev] at N3;have I2:=I.set hd F2 N3;refine ⟨kk.trans k8,_,A8,by show r.2.2.away=_;rw [ac2];rfl,by show r.2.2.bE=_;rw [ac2];rfl,.inr ⟨rfl,?_,λx hx=>mH.2 (.inl ?_),_,I2,?_,?_⟩⟩
  ·rw [zC hd.2];exact ac1
  ·rw [ac2];exact hx
  ·rw [ev];exact D2.kind.1
  ·rw [ev];exact D2.kind.2
theorem qa {s:List Int}{k x:Int}(h:x∈s):x∈lg s k:=mH.2 (.inl h)
theorem Cg {h:Heap}{V:VL}{M:aV}{X:VS}(A:At h V M X){S:FS}(I:bK X.now S){d:Int}(hd:0<d/\d<24)(hk:(S.C d).kind=2){nm:List UInt8}(hnl:nm.length<=200){en:aF}(hf:cK (S.nm d) nm=some en)(nd:Int) :
 aD Tryz.prog 63 [.pointer (some ⟨V.v,0,none⟩),.agg ⟨qY d (S.C d) nm nd⟩] h (λv h'=>Keeps [V.ob,V.sb,V.mb] h h'/\v=.int .i64 0/\∃ X',At h' V M X'/\X'.away=X.away/\X'.bE=X.bE/\(∀ x∈X.mine,x∈X'.mine) /\
  ∃ c',bK X'.now (S.put d c' ((S.nm d).eraseIdx (aO (S.nm d) nm)) (S.aL d))/\c'.kind=2/\c'.links=1):=by
 have bl:=A.blt;have hd0:0<=d/\d<24:=⟨by omega,hd.2⟩;have N:=I.node d hd0.1 hd0.2;obtain ⟨m,D⟩:=N.dir hk;obtain ⟨ht,_⟩:=wG D.str hf;have er:jK (S.nm d) nm=((S.nm d).eraseIdx (aO (S.nm d) nm),((S.nm d)[aO (S.nm d) nm]?.getD ⟨[],0⟩).node,0):=by unfold jK;rw [if_pos ht]
 refine aH aI Tryz.func63 rfl ok63 (by simp [Tryz.f63]) ?_;(conv=>whnf);refine aR.i λb1 h1 e1 s1 o1 k1=>?_;have nb1:∀ b∈V.blocks,b≠b1:=λb hb=>by have:=bl b hb;omega
 have qX:V.ob∈V.blocks:=by simp [VL.blocks]
 have msb:V.sb∈V.blocks:=by simp [VL.blocks]
 have om:V.mb∈V.blocks:=by simp [VL.blocks]
 (conv=>whnf);refine au.m (Oc (A.on k1) hd0 D nm (by omega)) (by simp [aA,bg];exact λe=>nb1 V.ob qX e.symm) λv h2 k2 hv=>?_;obtain ⟨c',X2,rfl,A2,a1,a2,a3,a4,a5⟩:=hv;rw [er] at a3 a5 ⊢;obtain ⟨D2,F2⟩:=a3 rfl;have z1:=k1.size;have z2:=k2.size;(conv=>whnf);refine aR.i λb3 h3 e3 s3 o3 k3=>?_;(conv=>whnf);refine aN.i λh4 s4 k4=>?_;have k24:Keeps [] h2 h4:=k3.new1 k4 (by omega);have A4:=A2.on k24;have z3:=k3.size;have z4:=k4.size;have q1:=bl V.ob qX;have q2:=bl V.sb msb;have q3:=bl V.mb om;(conv=>whnf);refine au.m (pX A4 d hd0 c' D2.right.2 D2.right.1) (λy hy hx=>by
  simp [aA,bg] at hy hx;omega) λv h5 k5 hv=>?_
 obtain ⟨rfl,A5⟩:=hv;(conv=>whnf);obtain ⟨vv,ev⟩:=pY X2 d c';have N2:gN X2.now d c' ((S.nm d).eraseIdx (aO (S.nm d) nm)) (S.aL d):=⟨by rw [D2.kind.1];decide,λh=>(by rw [D2.kind.1] at h;cases h),λ_=>⟨m,D2⟩,λh=>(by rw [D2.kind.1] at h;omega)⟩;have N3:=N2.dR vv;rw [<-ev] at N3;have I2:=I.set hd F2 N3;refine ⟨((k1.mono (by simp)).trans ((k2.mono (by simp)).cu k24)).trans k5,rfl,_,A5,a1,a2,λx hx=>qa (by rw [a4];exact hx),_,I2,?_,?_⟩
 ·rw [ev];exact D2.kind.1
 ·rw [ev];exact D2.kind.2
theorem gm.bare {now:Int->UInt64}{n:Int}{c:aB}{m:List Int}(F:gm now n c m []):∀ x,0<=x->x<96->now (200+x)≠w64 (n+1):=by
 have hm:m=m0:=by
  apply List.ext_getElem (by rw [F.wk.len];rfl);intro j h1 h2;have hj:j<21:=by rw [<-F.wk.len];exact h1
  have:=F.hol j hj (by simp);rw [List.getElem?_eq_getElem h1] at this;have h3:m[j] = -1:=this;rw [h3];exact (List.eq_of_mem_replicate (List.getElem_mem (l:=m0) h2)).symm
 subst hm;have hmore:c.more = -1:=F.kG.2 (by decide);intro x x0 x1 e;have:=(F.wk.own x x0 x1).2 e;rw [hmore] at this;have hu:gV (-1) m0=[]:=by decide
 rw [hu] at this;cases this
theorem Ob {h:Heap}{V:VL}{M:aV}{X:VS}(A:At h V M X){S:FS}(I:bK X.now S){n:Int}(hn:0<n/\n<24)(hk:(S.C n).kind=1\/(S.C n).kind=3) :
 aD Tryz.prog 139 [.pointer (some ⟨V.v,0,none⟩),.int .i64 n,.agg ⟨(S.C n).cells⟩] h (λv h'=>Keeps [V.ob,V.sb,V.mb] h h'/\v=.int .i64 0/\∃ X',At h' V M X'/\X'.away=X.away/\X'.bE=X.bE/\(∀ x∈X.mine,x∈X'.mine) /\
  ∃ vv,bK X'.now (S.put n (fQ vv) [] [])):=by
 have bl:=A.blt;have hn0:0<=n/\n<24:=⟨by omega,hn.2⟩;have N:=I.node n hn0.1 hn0.2;obtain ⟨m,F⟩:=N.file hk;have qX:V.ob∈V.blocks:=by simp [VL.blocks]
 have msb:V.sb∈V.blocks:=by simp [VL.blocks]
 have om:V.mb∈V.blocks:=by simp [VL.blocks]
 have q1:=bl V.ob qX;have q2:=bl V.sb msb;have q3:=bl V.mb om;have hcut:iw (S.aL n) 0=([],0):=by
  unfold iw;rw [if_neg (by decide),if_neg (by decide),if_pos (by omega)];rfl
 obtain ⟨p1,p2⟩:=Gy (B:=M.read) hn0 F 0;rw [hcut] at p1 p2;obtain ⟨m',F2,R2,x2,_⟩:=p2 rfl;refine aH aI Tryz.func139 rfl ok139 (by simp [Tryz.f139]) ?_;(conv=>whnf);refine aR.i λb1 h1 e1 s1 o1 k1=>?_;have z1:=k1.size;have hk2:¬ (S.C n).kind=2:=by omega
 (conv=>whnf);(try refine aU.pass ?_;conv=>whnf);refine ak.f (by simp [hk2]) ?_;(conv=>whnf);refine au.m (Gz (A.on k1) n (S.C n) N.ok F.mG 0) (λy hy hx=>by
  simp [aA,bg] at hy hx;omega) λv h2 k2 hv=>?_
 obtain ⟨rfl,A2⟩:=hv;generalize iP M.read X n (S.C n) 0=r at p1 F2 R2 x2 A2;have p1:r.2.1=0:=p1;have F2:gm r.2.2.now n r.1 m' []:=F2;rw [p1];have z2:=k2.size;(conv=>whnf);refine aR.i λb3 h3 e3 s3 o3 k3=>?_;(conv=>whnf);refine aN.i λh4 s4 k4=>?_;have k24:Keeps [] h2 h4:=k3.new1 k4 (by omega);have A4:=A2.on k24;have z3:=k3.size;have z4:=k4.size;(conv=>whnf);refine au.m (pX A4 n hn0 r.1 F2.ok F2.right) (λy hy hx=>by
  simp [aA,bg] at hy hx;omega) λv h5 k5 hv=>?_
 obtain ⟨rfl,A5⟩:=hv;(conv=>whnf);refine ak.f rfl ?_;have z5:=k5.size;(conv=>whnf);refine au.m (GL A5 n) (λy hy hx=>by
  simp [aA,bg] at hy hx;omega) λv h6 k6 hv=>?_
 obtain ⟨rfl,A6⟩:=hv;(conv=>whnf);obtain ⟨vv,ev⟩:=pY r.2.2 n r.1;have hk3:r.1.kind=1\/r.1.kind=3:=F2.kind.1;have N2:gN r.2.2.now n r.1 [] []:=⟨by omega,λh=>(by omega),λh=>(by omega),λ_=>⟨m',F2⟩⟩;have N3:=N2.dR vv;rw [<-ev] at N3;have I2:=I.set hn R2 N3;have hcr:gU (bU (dX r.2.2 n (iy r.2.2 n r.1)).now (8+n*8) 8)=some (iy r.2.2 n r.1):=by
  show gU (bU (setW r.2.2.now n _) (8+n*8) 8)=_;rw [zw];exact qZ N3.right
 have hrel:sO (dX r.2.2 n (iy r.2.2 n r.1)) n=(0,dX (eP (dX r.2.2 n (iy r.2.2 n r.1)) n) n (fQ ((iy r.2.2 n r.1).dR+1))):=by
  unfold sO;rw [if_pos hn0,hcr];simp only;rw [if_neg (by rw [ev];show ¬ r.1.kind=0;omega)]
 rw [hrel] at A6 ⊢;have I3:=I2.set hn (Fr.refl n _) (zA ((iy r.2.2 n r.1).dR+1) (λx x0 x1=>by
  rw [uO hn.2 (by omega)];exact F2.bare x x0 x1))
 rw [FS.Ch] at I3;refine ⟨((k1.mono (by simp)).trans ((k2.mono (by simp)).cu k24)).trans (k5.trans k6),rfl,_,A6,?_,?_,λx hx=>?_,_,I3⟩
 ·show r.2.2.away=_;rw [x2]
 ·show r.2.2.bE=_;rw [x2]
 ·refine qa (qa ?_);rw [x2];exact hx
end Go.Proofs.YtoociceebodfeaaGreatDoor
