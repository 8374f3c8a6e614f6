/-
  Joined texts: BodyM, BodyN, EngE, BodyO, BodyP, BodyQ, BodyR, BodyU, BodyV, BodyW, BodyX, FileA, FileB, FileC, FileD, FileE, FolA, FolB, FolC.
-/
import Derived.Test.YtoociceebodfeaaGreatDoorJLawCOwnd
import Derived.Laws.StructEq
import Derived.ChangeKeysEq
import Derived.Test.YtoociceebodfeaaGreatDoorJLawCOwnb
import Derived.Lib.Bytealg
set_option linter.all false
set_option maxRecDepth 100000
set_option maxHeartbeats 4000000
namespace Go.Proofs.YtoociceebodfeaaGreatDoor
open Go Go.aK
def mo (old data:List UInt8)(a e f:Nat):List UInt8:=old.take (a-f)++(data.drop (f+(a-f)-a)).take (min (e-f) 128-(a-f))++old.drop (min (e-f) 128)
def iN (B:Int->UInt64)(node:Int)(a:Nat)(data:List UInt8)(i:Nat)(X:VS)(m:List Int):Int×VS×List Int:=
 let t:Int×VS×List Int:=if m[i]?.getD 0 = -1 then ((bI B X node).2.1,(bI B X node).2.2,m.set i (bI B X node).1) else (0,X,m)
 if t.1=0 then (0,{ t.2.1 with now:=bX t.2.1.now (t.2.2[i]?.getD 0) (dK (mo (dz t.2.1.now (t.2.2[i]?.getD 0)) data a (a+data.length) (128*i)) 16) },t.2.2)
 else t
def gT (B:Int->UInt64)(node:Int)(a:Nat)(data:List UInt8):Nat->Nat->VS->List Int->Int×VS×List Int
 | 0,_,X,m=>(0,X,m)
 | f+1,i,X,m=>if (iN B node a data i X m).1=0 then gT B node a data f (i+1) (iN B node a data i X m).2.1 (iN B node a data i X m).2.2 else iN B node a data i X m
def fP (B:Int->UInt64)(X:VS)(node:Int)(c:aB)(at_:Int)(data:List UInt8):aB×Int×VS:=
 if ¬ (0<=node/\node<24)\/at_<0\/400<data.length then (aB.zero,1,X)
 else if data=[] then (match mapOf X.now c with|none=>(aB.zero,15,X)|some _=>(c,0,X))
 else if 2688-(data.length:Int)<at_ then (aB.zero,10,X)
 else match mapOf X.now c with
  | none=>(aB.zero,15,X)
  | some m=>
   let r:=gT B node at_.toNat data ((at_.toNat+data.length+127)/128-at_.toNat/128) (at_.toNat/128) X m
   if r.1=0 then eD B r.2.1 node { c with size:=max c.size (at_+data.length) } r.2.2 else (aB.zero,r.1,r.2.1)
theorem vG {B:Int->UInt64}{X:VS}{node:Int}(h:(bI B X node).2.1=0):0<=(bI B X node).1/\(bI B X node).1<96:=by
 unfold bI at h ⊢;split at h
 ·rename_i hn;rw [if_pos hn];split at h
  ·rename_i k hk;have:=Ar hk;simp only;have h2:=this.2;omega
  ·simp at h
 ·simp at h
theorem jR (l:List UInt8):(ByteArray.mk l.toArray).size=l.length:=by show l.toArray.size=_;simp
theorem qD (l:List UInt8)(i j:Nat):(ByteArray.extract ⟨l.toArray⟩ i j)=⟨((l.take j).drop i).toArray⟩:=by
 apply ByteArray.ext;rw [ByteArray.data_extract];simp [List.drop_take]
theorem uh (l r:List UInt8):(ByteArray.mk l.toArray)++⟨r.toArray⟩=⟨(l++r).toArray⟩:=by
 apply ByteArray.ext;rw [ByteArray.data_append];simp
theorem QL (x y:Int):(if y>x then y else x)=max x y:=by omega
theorem GI {h:Heap}{V:VL}{M:aV}{X:VS}(A:At h V M X)(node:Int)(c:aB)(hc:c.ok)(hm:mG X.now c)(at_:Int)(data:List UInt8) :
 aD Tryz.prog 78 [.pointer (some ⟨V.v,0,none⟩),.int .i64 node,.agg ⟨c.cells⟩,.int .i64 at_,.string ⟨data.toArray⟩] h (λv h'=>Keeps [V.ob] h h' /\
  v=.tuple #[.agg ⟨(fP M.read X node c at_ data).1.cells⟩,.int .i64 (fP M.read X node c at_ data).2.1]/\At h' V M (fP M.read X node c at_ data).2.2):=by
 have qC:=A.blt V.ob (by simp [VL.blocks]);have hdl:=jR data;refine aH aI Tryz.func78 rfl ok78 (by simp [Tryz.f78]) ?_;(conv=>whnf);refine aR.i λb1 h1 e1 s1 o1 k1=>?_;(conv=>whnf);refine aR.i λb2 h2 e2 s2 o2 k2=>?_;(conv=>whnf);refine au.i (Ej node h2) λv h3 k3 hv=>?_;subst hv;have k03:=k1.trans (k2.trans k3);have z3:=k3.size;have nv:∀ b∈V.blocks,b≠b1/\b≠b2:=λb hb=>by have:=A.blt b hb;omega
 (conv=>whnf);refine ak.i (λhq=>?_) (λhq=>?_)
 ·have hb:¬ (0<=node/\node<24)\/at_<0\/400<data.length:=by
   by_cases hn:0<=node/\node<24
   ·rw [if_pos hn] at hq;simp [di] at hq;rcases hq with h|h
    ·exact .inr (.inl h)
    ·right;right
     have:(400:Int)<((ByteArray.mk data.toArray).size:Int):=h;rw [hdl] at this;omega
   ·exact .inl hn
  (conv=>whnf);refine aN.i λh4 s4 k4=>?_;(conv=>whnf);unfold fP;rw [if_pos hb];exact ⟨(k03.new1 k4 (by omega)).mono (by simp),rfl,A.on (k03.new1 k4 (by omega))⟩
 ·have hb:¬ (¬ (0<=node/\node<24)\/at_<0\/400<data.length):=by
   by_cases hn:0<=node/\node<24
   ·rw [if_pos hn] at hq;simp [di] at hq;have h2:=hq.2;have:((ByteArray.mk data.toArray).size:Int)<=400:=h2;rw [hdl] at this;omega
   ·rw [if_neg hn] at hq;simp [di] at hq
  have AJ:0<=node/\node<24:=Classical.byContradiction λh=>hb (.inl h);have xP:fP M.read X node c at_ data=if data=[] then (match mapOf X.now c with|none=>(aB.zero,15,X)|some _=>(c,0,X))
   else if 2688-(data.length:Int)<at_ then (aB.zero,10,X)
   else match mapOf X.now c with
    | none=>(aB.zero,15,X)
    | some m=>
     if (gT M.read node at_.toNat data ((at_.toNat+data.length+127)/128-at_.toNat/128) (at_.toNat/128) X m).1=0 then eD M.read (gT M.read node at_.toNat data ((at_.toNat+data.length+127)/128-at_.toNat/128) (at_.toNat/128) X m).2.1 node { c with size:=max c.size (at_+data.length) } (gT M.read node at_.toNat data ((at_.toNat+data.length+127)/128-at_.toNat/128) (at_.toNat/128) X m).2.2
     else (aB.zero,(gT M.read node at_.toNat data ((at_.toNat+data.length+127)/128-at_.toNat/128) (at_.toNat/128) X m).1,(gT M.read node at_.toNat data ((at_.toNat+data.length+127)/128-at_.toNat/128) (at_.toNat/128) X m).2.1):=by
   unfold fP;rw [if_neg hb]
  rw [xP];clear xP;(conv=>whnf);(try refine aU.pass ?_;conv=>whnf);refine ak.i (λhr=>?_) (λhr=>?_)
  ·have hd:data=[]:=by
    rw [xH] at hr;have:(ByteArray.mk data.toArray)=⟨#[]⟩:=by simpa using hr
    have:=congrArg (λb=>b.data.toList) this;simpa using this
   rw [if_pos hd];(conv=>whnf);refine au.i (xO (A.on k03) c hc) λv h4 k4 hv=>?_;cases hmo:mapOf X.now c with
   | none=>
    rw [hmo] at hv;simp only at hv;subst hv;(conv=>whnf);(try refine aU.pass ?_;conv=>whnf);refine ak.t rfl ?_;(conv=>whnf);refine aN.i λh5 s5 k5=>?_;(conv=>whnf);have z4:=k4.size;exact ⟨((k03.trans k4).new1 k5 (by omega)).mono (by simp),rfl,A.on ((k03.trans k4).new1 k5 (by omega))⟩
   | some m=>
    rw [hmo] at hv;simp only at hv;obtain ⟨b,cap,sp,rfl,_⟩:=hv;(conv=>whnf);(try refine aU.pass ?_;conv=>whnf);refine ak.f rfl ?_;(conv=>whnf);refine aN.i λh5 s5 k5=>?_;(conv=>whnf);have z4:=k4.size;exact ⟨((k03.trans k4).new1 k5 (by omega)).mono (by simp),rfl,A.on ((k03.trans k4).new1 k5 (by omega))⟩
  ·have hd:¬ data=[]:=by
    rintro rfl;rw [xH] at hr;simp at hr
   rw [if_neg hd];have hdp:0<data.length:=List.length_pos_iff.2 hd;(conv=>whnf);rw [hdl,dQ (x:=2688-(data.length:Int)) (by omega) (by omega)];refine ak.i (λhs=>?_) (λhs=>?_)
   ·have hs':2688-(data.length:Int)<at_:=by simpa using hs
    rw [if_pos hs'];(conv=>whnf);refine aN.i λh4 s4 k4=>?_;(conv=>whnf);exact ⟨(k03.new1 k4 (by omega)).mono (by simp),rfl,A.on (k03.new1 k4 (by omega))⟩
   ·have hs':¬ 2688-(data.length:Int)<at_:=by simpa using hs
    rw [if_neg hs'];(conv=>whnf);refine au.i (xO (A.on k03) c hc) λv h4 k4 hv=>?_;have k04:=k03.trans k4;have z4:=k4.size;cases hmo:mapOf X.now c with
    | none=>
     rw [hmo] at hv;simp only at hv;subst hv;(conv=>whnf);(try refine aU.pass ?_;conv=>whnf);refine ak.t rfl ?_;(conv=>whnf);refine aN.i λh5 s5 k5=>?_;(conv=>whnf);exact ⟨(k04.new1 k5 (by omega)).mono (by simp),rfl,A.on (k04.new1 k5 (by omega))⟩
    | some m0=>
     rw [hmo] at hv;simp only at hv;obtain ⟨b,cap,sp,rfl,I4,hb4,hcap⟩:=hv;have hml:=vF hmo;have hmr:=hm m0 hmo;obtain ⟨a,rfl⟩:∃ a:Nat,at_=(a:Int):=⟨at_.toNat,by omega⟩;have ha:((a:Int)).toNat=a:=by omega
     rw [ha];simp only;have hae:a+data.length<=2688:=by omega
     have QM:IntKind.i64.wrap ((a:Int)+(data.length:Int))=((a+data.length:Nat):Int):=wrapN (by simp) (by omega);generalize hN:(a+data.length+127)/128=N0;generalize hR:gT M.read node a data (N0-a/128) (a/128) X m0=R;have hN1:N0<=21:=by omega
     have hbl:b<h4.size:=eZ I4;(conv=>whnf);refine ak.f rfl ?_;(conv=>whnf);refine dH.i (by decide) ?_;have eq0:IntKind.i64.wrap ((a:Int).tdiv 128)=((a/128:Nat):Int):=by
      have:(a:Int).tdiv 128=((a/128:Nat):Int):=by rw [Int.tdiv_eq_ediv_of_nonneg (by omega)];omega
      rw [this,wrapN (n:=a/128) rfl (by omega)]
     (conv=>whnf);rw [hdl,QM,eq0];refine bP.on [0,1,3,4,7,10,15,17,18] [7,10] (λq:Nat×VS×List Int=>[(0,.v (.pointer (some ⟨V.v,0,none⟩))),(1,.v (.int .i64 node)),(3,.v (.int .i64 (a:Int))),(4,.v (.string ⟨data.toArray⟩)),(7,.lp 7 0),(10,.lp 10 0),(15,.v (.slice (some ⟨b,0,none⟩) 21 cap)),(17,.v (.int .i64 ((a+data.length:Nat):Int))),(18,.v (.int .i64 (q.1:Int)))])
      (λ_=>[(7,b1,c.cells),(10,b2,aB.zero.cells)]) (λq h'=>a/128<=q.1/\q.1<=N0/\Keeps [V.ob] h h'/\h4.size<=h'.size/\fw h' b q.2.2 sp/\q.2.2.length=21/\(∀ x∈q.2.2,x = -1\/(0<=x/\x<96))/\At h' V M q.2.1/\R=gT M.read node a data (N0-q.1) q.1 q.2.1 q.2.2) (λq=>N0-q.1) (a/128,X,m0) ?_ ?_
     ·(conv=>whnf);exact ⟨(a/128,X,m0),rfl,rfl,rfl,Nat.le_refl _,by simp only;omega,k04.mono (by simp),Nat.le_refl _,I4,hml,hmr,A.on k04,hR.symm⟩
     ·rintro ⟨i,Xi,mi⟩ h5 ⟨hi0,hi,k5,z5,I5,ml5,mr5,A5,gY⟩;simp only at hi0 hi I5 ml5 mr5 A5 gY;have ug:∀ y∈aA [(7,b1,c.cells),(10,b2,aB.zero.cells)],y∉[V.ob]:=by
       intro y hy hx;have hy2:y∈[b1,b2]:=hy;simp at hy2 hx;omega
      (conv=>whnf);refine au.i (QI (a+data.length) (by omega) h5) λv h6 k6 hv=>?_;subst hv;rw [hN];have A6:=A5.on k6;have k06:=k5.cu k6;have I6:fw h6 b mi sp:=k6.obj I5 (by simp);have z6:=k6.size;(conv=>whnf);refine ak.i (λhc=>?_) (λhc=>?_)
      ·have hi1:i<N0:=by simp at hc;omega
       have him:i<mi.length:=by omega
       have hstep:gT M.read node a data (N0-i) i Xi mi=if (iN M.read node a data i Xi mi).1=0 then gT M.read node a data (N0-(i+1)) (i+1) (iN M.read node a data i Xi mi).2.1 (iN M.read node a data i Xi mi).2.2 else iN M.read node a data i Xi mi:=by
        rw [show N0-i=(N0-(i+1))+1 by omega];rfl
       rw [hstep] at gY;clear hstep;(conv=>whnf);(try refine aU.pass ?_;conv=>whnf);refine aQ.i i rfl (by omega) rfl ?_;(conv=>whnf);refine ax.i (I6.nth him) ?_;(conv=>whnf);refine au.i (vk _ h6) λv h7 k7 hv=>?_;subst hv;have A7:=A6.on k7;have k07:=k06.cu k7;have I7:fw h7 b mi sp:=k7.obj I6 (by simp);have z7:=k7.size;have hgi:mi[i]?.getD 0=mi[i]:=by simp [him]
       (conv=>whnf);(try refine aU.pass ?_;conv=>whnf);refine ak.i ?ca ?cb
       case' ca=>
        intro hu;have hu1:mi[i] = -1:=AA.1 (Ju hu);(conv=>whnf);refine au.m (DY A7 node) ug λv hy ky hv=>?_;obtain ⟨rfl,Ay⟩:=hv;have zy:=ky.size;have Iy:fw hy b mi sp:=ky.obj I7 (by simp;omega);(conv=>whnf);refine aQ.i i rfl (by omega) rfl ?_;(conv=>whnf);refine dO.i Iy ?_ (by intro hx;have hx2:b∈[b1,b2]:=hx;simp at hx2;omega) λhx sx ox kx=>?_
        ·show 0+i*1+1<=_;simp;omega
        have Ix:fw hx b (mi.set i (bI M.read Xi node).1) sp:=by
         unfold fw;rw [<-ints_set him];exact ox
        have El:∀ y∈V.blocks,y≠b:=λy hy=>by have:=A.blt y hy;omega
        have Ax:=Ay.keep kx (λy hy=>by simpa using El y hy);have qE:Keeps [V.ob] h hx:=(k07.trans ky).m1 kx (by omega);have hw:iN M.read node a data i Xi mi=if (bI M.read Xi node).2.1=0 then (0,{ (bI M.read Xi node).2.2 with now:=bX (bI M.read Xi node).2.2.now (bI M.read Xi node).1 (dK (mo (dz (bI M.read Xi node).2.2.now (bI M.read Xi node).1) data a (a+data.length) (128*i)) 16) },mi.set i (bI M.read Xi node).1) else ((bI M.read Xi node).2.1,(bI M.read Xi node).2.2,mi.set i (bI M.read Xi node).1):=by
         have hg2:(mi.set i (bI M.read Xi node).1)[i]?.getD 0=(bI M.read Xi node).1:=by simp [him]
         unfold iN;rw [hgi,if_pos hu1];simp only [hg2]
        (conv=>whnf);(try refine aU.pass ?_;conv=>whnf);refine ak.i (λhr=>?_) (λhr=>?_)
        ·have ht:¬ (bI M.read Xi node).2.1=0:=by simpa using hr
         rw [if_neg ht] at hw;rw [hw] at gY;simp only [if_neg ht] at gY;subst gY;(conv=>whnf);refine aN.i λh9 s9 k9=>?_;(conv=>whnf);simp only [if_neg ht];exact ⟨qE.m1 k9 (by omega),rfl,Ax.keep k9 (λy hy=>by simpa using (nv y hy).2)⟩
        have ht:(bI M.read Xi node).2.1=0:=by simpa using hr
        rw [if_pos ht] at hw;have hkr:=vG ht;have zx:h4.size<=hx.size:=by omega
        clear Iy ky Ay sx ox kx hr hu hu1 ht zy;generalize (bI M.read Xi node).1=k,(bI M.read Xi node).2.2=X1 at *;generalize hm1:mi.set i k=m1 at *;have Jv:m1.length=21:=by rw [<-hm1];simp [ml5]
        have En:∀ hh:i<m1.length,m1[i]=k:=by intro hh;subst hm1;simp
        have Jw:∀ x∈m1,x = -1\/(0<=x/\x<96):=by
         intro x hx2;rw [<-hm1] at hx2;rcases List.mem_or_eq_of_mem_set hx2 with h|h
         ·exact mr5 x h
         ·subst h;exact .inr hkr
       case' cb=>
        intro hu;have hu1:¬ mi[i] = -1:=jr.1 (Jy hu);have hkr:0<=mi[i]/\mi[i]<96:=(mr5 _ (List.getElem_mem him)).resolve_left hu1;have hw:iN M.read node a data i Xi mi=(0,{ Xi with now:=bX Xi.now mi[i] (dK (mo (dz Xi.now mi[i]) data a (a+data.length) (128*i)) 16) },mi):=by
         unfold iN;rw [hgi,if_neg hu1];simp only [hgi,if_true]
        obtain ⟨k,hk⟩:∃ k,k=mi[i]:=⟨_,rfl⟩;obtain ⟨X1,hX1⟩:∃ X1,X1=Xi:=⟨_,rfl⟩;obtain ⟨m1,hm1⟩:∃ m1,m1=mi:=⟨_,rfl⟩;obtain ⟨hx,hhx⟩:∃ hx,hx=h7:=⟨_,rfl⟩;have Ix:fw hx b m1 sp:=by rw [hhx,hm1];exact I7
        have Ax:At hx V M X1:=by rw [hhx,hX1];exact A7
        have qE:Keeps [V.ob] h hx:=by rw [hhx];exact k07
        have zx:h4.size<=hx.size:=by rw [hhx];omega
        have Jv:m1.length=21:=by rw [hm1];exact ml5
        have En:∀ hh:i<m1.length,m1[i]=k:=by intro hh;subst hm1;exact hk.symm
        have Jw:∀ x∈m1,x = -1\/(0<=x/\x<96):=by rw [hm1];exact mr5
        have hw:iN M.read node a data i Xi mi=(0,{ X1 with now:=bX X1.now k (dK (mo (dz X1.now k) data a (a+data.length) (128*i)) 16) },m1):=by rw [hk,hX1,hm1];exact hw
        rw [<-hk] at hkr;rw [<-hhx]
       all_goals
        have hi2:i<m1.length:=by omega
        (conv=>whnf);refine aQ.i i rfl (by omega) rfl ?_;(conv=>whnf);refine ax.i (Ix.nth hi2) ?_;(conv=>whnf);rw [En hi2];refine au.i (Ei Ax k) λv h8 k8 hv=>?_;rw [if_pos (.inr hkr)] at hv;subst hv;have A8:=Ax.on k8;have I8:fw h8 b m1 sp:=k8.obj Ix (by simp);(conv=>whnf);refine ak.f rfl ?_;have ew:IntKind.i64.wrap ((i:Int)*128)=((128*i:Nat):Int):=wrapN (by omega) (by omega);have hia:a<128*i+128:=by omega
        have hie:128*i<a+data.length:=by omega
        have el:(if (0:Int)>IntKind.i64.wrap ((a:Int)-IntKind.i64.wrap ((i:Int)*128)) then (0:Int) else IntKind.i64.wrap ((a:Int)-IntKind.i64.wrap ((i:Int)*128)))=((a-128*i:Nat):Int):=by
         rw [ew,dQ (x:=(a:Int)-((128*i:Nat):Int)) (by omega) (by omega)];split <;> omega
        have er:(if (128:Int)<IntKind.i64.wrap (((a+data.length:Nat):Int)-IntKind.i64.wrap ((i:Int)*128)) then (128:Int) else IntKind.i64.wrap (((a+data.length:Nat):Int)-IntKind.i64.wrap ((i:Int)*128)))=((min (a+data.length-128*i) 128:Nat):Int):=by
         rw [ew,dQ (x:=((a+data.length:Nat):Int)-((128*i:Nat):Int)) (by omega) (by omega)];split <;> omega
        have hL:a-128*i<=min (a+data.length-128*i) 128:=by omega
        have d1:∀ x:Int,x=((a-128*i:Nat):Int)->IntKind.i64.wrap (IntKind.i64.wrap (IntKind.i64.wrap ((i:Int)*128)+x)-(a:Int))=((128*i+(a-128*i)-a:Nat):Int):=by
         rintro x rfl;rw [ew,wrapN (x:=((128*i:Nat):Int)+((a-128*i:Nat):Int)) (n:=128*i+(a-128*i)) (by omega) (by omega),wrapN (n:=128*i+(a-128*i)-a) (by omega) (by omega)]
        have d2:∀ x:Int,x=((min (a+data.length-128*i) 128:Nat):Int)->IntKind.i64.wrap (IntKind.i64.wrap (IntKind.i64.wrap ((i:Int)*128)+x)-(a:Int))=((128*i+min (a+data.length-128*i) 128-a:Nat):Int):=by
         rintro x rfl;rw [ew,wrapN (x:=((128*i:Nat):Int)+((min (a+data.length-128*i) 128:Nat):Int)) (n:=128*i+min (a+data.length-128*i) 128) (by omega) (by omega),wrapN (n:=128*i+min (a+data.length-128*i) 128-a) (by omega) (by omega)]
        have hbs:(ByteArray.mk (dz X1.now k).toArray).size=128:=by rw [jR,kP]
        have hstr:(ByteArray.extract ⟨(dz X1.now k).toArray⟩ 0 (a-128*i)++ByteArray.extract ⟨data.toArray⟩ (128*i+(a-128*i)-a) (128*i+min (a+data.length-128*i) 128-a))++ByteArray.extract ⟨(dz X1.now k).toArray⟩ (min (a+data.length-128*i) 128) 128=⟨(mo (dz X1.now k) data a (a+data.length) (128*i)).toArray⟩:=by
         rw [qD,qD,qD,uh,uh];have t1:((dz X1.now k).take 128).drop (min (a+data.length-128*i) 128)=(dz X1.now k).drop (min (a+data.length-128*i) 128):=by rw [List.take_of_length_le (by rw [kP];exact Nat.le_refl _)]
         have t2:(data.take (128*i+min (a+data.length-128*i) 128-a)).drop (128*i+(a-128*i)-a)=(data.drop (128*i+(a-128*i)-a)).take (min (a+data.length-128*i) 128-(a-128*i)):=by
          rw [List.drop_take];congr 1;omega
         rw [t1,t2,List.drop_zero];rfl
        have hwl:(mo (dz X1.now k) data a (a+data.length) (128*i)).length<=128:=by
         unfold mo;simp only [List.length_append,List.length_take,List.length_drop,kP];omega
        (conv=>whnf);refine aQ.i i rfl (by omega) rfl ?_;(conv=>whnf);refine ax.i (I8.nth hi2) ?_;(conv=>whnf);refine dm.i 0 (a-128*i) rfl el (Nat.zero_le _) (by rw [hbs];omega) ?_;(conv=>whnf);refine dm.i (128*i+(a-128*i)-a) (128*i+min (a+data.length-128*i) 128-a) (d1 _ el) (d2 _ er) (by omega) (by rw [hdl];omega) ?_;(conv=>whnf);refine dH.i (by rw [ByteArray.size_extract,ByteArray.size_extract,hbs,hdl];omega) ?_;(conv=>whnf);refine dm.i (min (a+data.length-128*i) 128) 128 er (by rw [hbs]) (by omega) (by rw [hbs];exact Nat.le_refl _) ?_;(conv=>whnf);refine dH.i (by rw [ByteArray.size_append,ByteArray.size_extract,ByteArray.size_extract,ByteArray.size_extract,hbs,hdl];omega) ?_;(conv=>whnf);rw [hstr,En hi2];refine au.m (Js A8 k ⟨(mo (dz X1.now k) data a (a+data.length) (128*i)).toArray⟩ (by rw [jR];exact hwl)) ug λv h9 k9 hv=>?_;obtain ⟨rfl,A9⟩:=hv;rw [if_pos hkr] at A9;rw [if_pos hkr];(conv=>whnf);refine ak.f rfl ?_;(conv=>whnf);refine ⟨N0-(i+1),by omega,?_⟩;(conv=>whnf);rw [hw] at gY;simp only [if_true] at gY;have z8:=k8.size;have z9:=k9.size;exact ⟨(i+1,{ X1 with now:=bX X1.now k (dK (mo (dz X1.now k) data a (a+data.length) (128*i)) 16) },m1),rfl,by simp only;rw [wrapN (x:=(i:Int)+1) (n:=i+1) (by simp) (by omega)],rfl,by simp only;omega,by simp only;omega,(qE.cu k8).trans k9,by omega,k9.obj I8 (by simp;omega),Jv,Jw,A9,gY⟩
      ·have hi1:i=N0:=by simp at hc;omega
       subst hi1;rw [Nat.sub_self] at gY;have hR0:R=(0,Xi,mi):=gY;rw [hR0];simp only [if_true];have SM:=I6.sl (n:=21) (cap:=cap) (λx hx=>by have:=mr5 x hx;unfold inI64;omega) ml5.symm hcap (by omega);(conv=>whnf);refine aN.i λh7 s7 k7=>?_;have Em:Keeps [V.ob] h h7:=k06.m1 k7 (by omega);have A7:=A6.keep k7 (λy hy=>by simpa using (nv y hy).1);have SM7:=SM.je k7 (by simp [ay];omega);(conv=>whnf);have em:(if ((a+data.length:Nat):Int)>c.size then ((a+data.length:Nat):Int) else c.size)=max c.size ((a:Int)+(data.length:Int)):=by
        rw [QL];simp
       rw [em];refine au.m (AB A7 node { c with size:=max c.size ((a:Int)+(data.length:Int)) } SM7 (by simp [ay];omega)) ug λv h8 k8 hv=>?_;obtain ⟨rfl,A8⟩:=hv;(conv=>whnf);refine aN.i λh9 s9 k9=>?_;(conv=>whnf);have z7:h7.size=h6.size:=s7;exact ⟨(Em.trans k8).m1 k9 (by omega),rfl,A8.keep k9 (λy hy=>by simpa using (nv y hy).2)⟩
def kg (z:Nat)(size:Int)(i:Nat)(X:VS)(m:List Int):Int×VS×List Int:=
 if m[i]?.getD 0 = -1\/size<=(z:Int)\/128*i+128<=z then (0,X,m)
 else if z<=128*i then ((fI X (m[i]?.getD 0)).1,(fI X (m[i]?.getD 0)).2,m.set i (-1))
 else (0,{ X with now:=bX X.now (m[i]?.getD 0) (dK ((dz X.now (m[i]?.getD 0)).take (z-128*i)) 16) },m)
def kQ (z:Nat)(size:Int):Nat->Nat->VS->List Int->Int×VS×List Int
 | 0,_,X,m=>(0,X,m)
 | f+1,i,X,m=>if (kg z size i X m).1=0 then kQ z size f (i+1) (kg z size i X m).2.1 (kg z size i X m).2.2 else kg z size i X m
def iP (B:Int->UInt64)(X:VS)(node:Int)(c:aB)(size:Int):aB×Int×VS:=
 if ¬ (0<=node/\node<24)\/size<0 then (aB.zero,1,X)
 else if 2688<size then (aB.zero,10,X)
 else match mapOf X.now c with
  | none=>(aB.zero,15,X)
  | some m=>
   let r:=kQ size.toNat c.size 21 0 X m
   if r.1=0 then eD B r.2.1 node { c with size:=size } r.2.2 else (aB.zero,r.1,r.2.1)
theorem Gz {h:Heap}{V:VL}{M:aV}{X:VS}(A:At h V M X)(node:Int)(c:aB)(hc:c.ok)(hm:mG X.now c)(size:Int) :
 aD Tryz.prog 91 [.pointer (some ⟨V.v,0,none⟩),.int .i64 node,.agg ⟨c.cells⟩,.int .i64 size] h (λv h'=>Keeps [V.ob] h h' /\
  v=.tuple #[.agg ⟨(iP M.read X node c size).1.cells⟩,.int .i64 (iP M.read X node c size).2.1]/\At h' V M (iP M.read X node c size).2.2):=by
 have qC:=A.blt V.ob (by simp [VL.blocks]);refine aH aI Tryz.func91 rfl ok91 (by simp [Tryz.f91]) ?_;(conv=>whnf);refine aR.i λb1 h1 e1 s1 o1 k1=>?_;(conv=>whnf);refine aR.i λb2 h2 e2 s2 o2 k2=>?_;(conv=>whnf);refine au.i (Ej node h2) λv h3 k3 hv=>?_;subst hv;have k03:=k1.trans (k2.trans k3);have z3:=k3.size;have nv:∀ b∈V.blocks,b≠b1/\b≠b2:=λb hb=>by have:=A.blt b hb;omega
 (conv=>whnf);(try refine aU.pass ?_;conv=>whnf);refine ak.i (λhq=>?_) (λhq=>?_)
 ·have hb:¬ (0<=node/\node<24)\/size<0:=by
   by_cases hn:0<=node/\node<24
   ·rw [if_pos hn] at hq;simp [di] at hq;exact .inr hq
   ·exact .inl hn
  (conv=>whnf);refine aN.i λh4 s4 k4=>?_;(conv=>whnf);unfold iP;rw [if_pos hb];exact ⟨(k03.new1 k4 (by omega)).mono (by simp),rfl,A.on (k03.new1 k4 (by omega))⟩
 ·have hb:¬ (¬ (0<=node/\node<24)\/size<0):=by
   by_cases hn:0<=node/\node<24
   ·rw [if_pos hn] at hq;simp [di] at hq;omega
   ·rw [if_neg hn] at hq;simp [di] at hq
  (conv=>whnf);refine ak.i (λhr=>?_) (λhr=>?_)
  ·have hs:2688<size:=by simpa using hr
   (conv=>whnf);refine aN.i λh4 s4 k4=>?_;(conv=>whnf);unfold iP;rw [if_neg hb,if_pos hs];exact ⟨(k03.new1 k4 (by omega)).mono (by simp),rfl,A.on (k03.new1 k4 (by omega))⟩
  ·have hs:¬ 2688<size:=by simpa using hr
   (conv=>whnf);refine au.i (xO (A.on k03) c hc) λv h4 k4 hv=>?_;have k04:=k03.trans k4;have z4:=k4.size;have xP:iP M.read X node c size=match mapOf X.now c with
    | none=>(aB.zero,15,X)
    | some m=>if (kQ size.toNat c.size 21 0 X m).1=0 then eD M.read (kQ size.toNat c.size 21 0 X m).2.1 node { c with size:=size } (kQ size.toNat c.size 21 0 X m).2.2 else (aB.zero,(kQ size.toNat c.size 21 0 X m).1,(kQ size.toNat c.size 21 0 X m).2.1):=by
    unfold iP;rw [if_neg hb,if_neg hs]
   rw [xP];clear xP;cases hmo:mapOf X.now c with
   | none=>
    rw [hmo] at hv;simp only at hv;subst hv;(conv=>whnf);(try refine aU.pass ?_;conv=>whnf);refine ak.t rfl ?_;(conv=>whnf);refine aN.i λh5 s5 k5=>?_;(conv=>whnf);exact ⟨(k04.new1 k5 (by omega)).mono (by simp),rfl,A.on (k04.new1 k5 (by omega))⟩
   | some m0=>
    rw [hmo] at hv;simp only at hv;obtain ⟨b,cap,sp,rfl,I4,hb4,hcap⟩:=hv;have hml:=vF hmo;have hmr:=hm m0 hmo;obtain ⟨z,rfl⟩:∃ z:Nat,size=(z:Int):=⟨size.toNat,by omega⟩;rw [show ((z:Int)).toNat=z by omega];simp only;generalize hR:kQ z c.size 21 0 X m0=R;have hbl:b<h4.size:=eZ I4;have ug:∀ y∈aA [(6,b1,c.cells),(8,b2,aB.zero.cells)],y∉[V.ob]:=by
     intro y hy hx;have hy2:y∈[b1,b2]:=hy;simp at hy2 hx;omega
    have El:∀ y∈V.blocks,y≠b:=λy hy=>by have:=A.blt y hy;omega
    (conv=>whnf);(try refine aU.pass ?_;conv=>whnf);refine ak.f rfl ?_;(conv=>whnf);refine bP.on [0,1,3,6,8,11,12,42,43,44] [6,8] (λq:Nat×VS×List Int=>[(0,.v (.pointer (some ⟨V.v,0,none⟩))),(1,.v (.int .i64 node)),(3,.v (.int .i64 (z:Int))),(6,.lp 6 0),(8,.lp 8 0),(11,.v (.slice (some ⟨b,0,none⟩) 21 cap)),(12,.v (.int .i64 0)),(43,.v (.int .i64 21)),(44,.v (.int .i64 (q.1:Int)))])
     (λ_=>[(6,b1,c.cells),(8,b2,aB.zero.cells)]) (λq h'=>q.1<=21/\Keeps [V.ob] h h'/\h4.size<=h'.size/\fw h' b q.2.2 sp/\q.2.2.length=21/\(∀ x∈q.2.2,x = -1\/(0<=x/\x<96))/\At h' V M q.2.1/\R=kQ z c.size (21-q.1) q.1 q.2.1 q.2.2) (λq=>21-q.1) (0,X,m0) ?_ ?_
    ·(conv=>whnf);exact ⟨(0,X,m0),rfl,rfl,rfl,Nat.zero_le _,k04.mono (by simp),Nat.le_refl _,I4,hml,hmr,A.on k04,hR.symm⟩
    ·rintro ⟨i,Xi,mi⟩ h5 ⟨hi,k5,z5,I5,ml5,mr5,A5,gY⟩;simp only at hi I5 ml5 mr5 A5 gY;(conv=>whnf);refine ak.i (λhc2=>?_) (λhc2=>?_)
     ·have hi1:i<21:=by simp at hc2;omega
      have him:i<mi.length:=by omega
      have hgi:mi[i]?.getD 0=mi[i]:=by simp [him]
      have hstep:kQ z c.size (21-i) i Xi mi=if (kg z c.size i Xi mi).1=0 then kQ z c.size (21-(i+1)) (i+1) (kg z c.size i Xi mi).2.1 (kg z c.size i Xi mi).2.2 else kg z c.size i Xi mi:=by
       rw [show 21-i=(21-(i+1))+1 by omega];rfl
      rw [hstep] at gY;clear hstep;have ew:IntKind.i64.wrap ((i:Int)*128)=((128*i:Nat):Int):=wrapN (by omega) (by omega);have ew2:IntKind.i64.wrap (((128*i:Nat):Int)+128)=((128*i+128:Nat):Int):=wrapN (by omega) (by omega);(conv=>whnf);(try refine aU.pass ?_;conv=>whnf);refine aQ.i i rfl (by omega) rfl ?_;(conv=>whnf);refine ax.i (I5.nth him) ?_;(conv=>whnf);refine au.i (vk _ h5) λv h6 k6 hv=>?_;subst hv;have A6:=A5.on k6;have k06:=k5.cu k6;have I6:fw h6 b mi sp:=k6.obj I5 (by simp);have z6:=k6.size;(conv=>whnf);refine ak.i (λhu=>?_) (λhu=>?_)
      ·have xQ:mi[i]?.getD 0 = -1\/c.size<=(z:Int)\/128*i+128<=z:=by
        rw [hgi];by_cases h1:mi[i] = -1
        ·exact .inl h1
        ·rw [jr.2 h1,ew,ew2] at hu;simp [di] at hu;omega
       (conv=>whnf);refine ⟨21-(i+1),by omega,?_⟩;(conv=>whnf);unfold kg at gY;rw [if_pos xQ] at gY;simp only [if_true] at gY;exact ⟨(i+1,Xi,mi),rfl,by simp only;rw [wrapN (x:=(i:Int)+1) (n:=i+1) (by simp) (by omega)],rfl,by simp only;omega,k06,by omega,I6,ml5,mr5,A6,gY⟩
      ·have xQ:¬ (mi[i]?.getD 0 = -1\/c.size<=(z:Int)\/128*i+128<=z):=by
        rw [hgi];by_cases h1:mi[i] = -1
        ·rw [AA.2 h1] at hu;simp [di] at hu
        ·rw [jr.2 h1,ew,ew2] at hu;simp [di] at hu;omega
       have hu1:¬ mi[i] = -1:=λh=>xQ (.inl (by rw [hgi];exact h));have hkr:0<=mi[i]/\mi[i]<96:=(mr5 _ (List.getElem_mem him)).resolve_left hu1;(conv=>whnf);(try refine aU.pass ?_;conv=>whnf);refine ak.i (λhx=>?_) (λhx=>?_)
       ·have hge:z<=128*i:=by rw [ew] at hx;simp at hx;omega
        have hw:kg z c.size i Xi mi=((fI Xi mi[i]).1,(fI Xi mi[i]).2,mi.set i (-1)):=by
         unfold kg;rw [if_neg xQ,if_pos hge,hgi]
        rw [hw] at gY;(conv=>whnf);refine aQ.i i rfl (by omega) rfl ?_;(conv=>whnf);refine ax.i (I6.nth him) ?_;(conv=>whnf);refine au.m (DX A6 mi[i]) ug λv h7 k7 hv=>?_;obtain ⟨rfl,A7⟩:=hv;have z7:=k7.size;have I7:fw h7 b mi sp:=k7.obj I6 (by simp;omega);(conv=>whnf);refine aQ.i i rfl (by omega) rfl ?_;(conv=>whnf);refine dO.i I7 ?_ (by intro hx;have hx2:b∈[b1,b2]:=hx;simp at hx2;omega) λh8 s8 o8 k8=>?_
        ·show 0+i*1+1<=_;simp;omega
        have I8:fw h8 b (mi.set i (-1)) sp:=by
         unfold fw;rw [<-ints_set him];exact o8
        have A8:=A7.keep k8 (λy hy=>by simpa using El y hy);have k08:Keeps [V.ob] h h8:=(k06.trans k7).m1 k8 (by omega);(conv=>whnf);(try refine aU.pass ?_;conv=>whnf);refine ak.i (λhy=>?_) (λhy=>?_)
        ·have ht:¬ (fI Xi mi[i]).1=0:=by simpa using hy
         simp only [if_neg ht] at gY;subst gY;(conv=>whnf);refine aN.i λh9 s9 k9=>?_;(conv=>whnf);simp only [if_neg ht];exact ⟨k08.m1 k9 (by omega),rfl,A8.keep k9 (λy hy=>by simpa using (nv y hy).2)⟩
        ·have ht:(fI Xi mi[i]).1=0:=by simpa using hy
         simp only [ht,if_true] at gY;(conv=>whnf);refine ⟨21-(i+1),by omega,?_⟩;(conv=>whnf);refine ⟨(i+1,(fI Xi mi[i]).2,mi.set i (-1)),rfl,?_,rfl,by simp only;omega,k08,by omega,I8,by simp [ml5],λx hx=>?_,A8,gY⟩
         ·simp only;rw [wrapN (x:=(i:Int)+1) (n:=i+1) (by simp) (by omega),ht]
         ·rcases List.mem_or_eq_of_mem_set hx with h|h
          ·exact mr5 x h
          ·exact .inl h
       ·have hge:¬ z<=128*i:=by rw [ew] at hx;simp at hx;omega
        have hw:kg z c.size i Xi mi=(0,{ Xi with now:=bX Xi.now mi[i] (dK ((dz Xi.now mi[i]).take (z-128*i)) 16) },mi):=by
         unfold kg;rw [if_neg xQ,if_neg hge,hgi]
        rw [hw] at gY;simp only [if_true] at gY;(conv=>whnf);refine aQ.i i rfl (by omega) rfl ?_;(conv=>whnf);refine ax.i (I6.nth him) ?_;(conv=>whnf);refine au.i (Ei A6 mi[i]) λv h7 k7 hv=>?_;rw [if_pos (.inr hkr)] at hv;subst hv;have A7:=A6.on k7;have z7:=k7.size;have I7:fw h7 b mi sp:=k7.obj I6 (by simp);(conv=>whnf);(try refine aU.pass ?_;conv=>whnf);refine ak.t rfl ?_;(conv=>whnf);refine aQ.i i rfl (by omega) rfl ?_;(conv=>whnf);refine ax.i (I7.nth him) ?_;have hz1:z<128*i+128:=by omega
        have er:IntKind.i64.wrap ((z:Int)-IntKind.i64.wrap ((i:Int)*128))=((z-128*i:Nat):Int):=by
         rw [ew,wrapN (n:=z-128*i) (by omega) (by omega)]
        (conv=>whnf);refine dm.i 0 (z-128*i) rfl er (Nat.zero_le _) (by rw [jR,kP];omega) ?_;(conv=>whnf);rw [qD,List.drop_zero];refine au.m (Js A7 mi[i] ⟨((dz Xi.now mi[i]).take (z-128*i)).toArray⟩ (by rw [jR,List.length_take];omega)) ug λv h8 k8 hv=>?_;obtain ⟨rfl,A8⟩:=hv;rw [if_pos hkr] at A8;rw [if_pos hkr];(conv=>whnf);(try refine aU.pass ?_;conv=>whnf);refine ak.f rfl ?_;(conv=>whnf);refine ⟨21-(i+1),by omega,?_⟩;(conv=>whnf);have z8:=k8.size;exact ⟨(i+1,{ Xi with now:=bX Xi.now mi[i] (dK ((dz Xi.now mi[i]).take (z-128*i)) 16) },mi),rfl,by simp only;rw [wrapN (x:=(i:Int)+1) (n:=i+1) (by simp) (by omega)],rfl,by simp only;omega,(k06.cu k7).trans k8,by omega,k8.obj I7 (by simp;omega),ml5,mr5,A8,gY⟩
     ·have hi1:i=21:=by simp at hc2;omega
      subst hi1;have hR0:R=(0,Xi,mi):=gY;rw [hR0];simp only [if_true];have SM:=I5.sl (n:=21) (cap:=cap) (λx hx=>by have:=mr5 x hx;unfold inI64;omega) ml5.symm hcap (by omega);(conv=>whnf);refine aN.i λh7 s7 k7=>?_;have Em:Keeps [V.ob] h h7:=k5.m1 k7 (by omega);have A7:=A5.keep k7 (λy hy=>by simpa using (nv y hy).1);have SM7:=SM.je k7 (by simp [ay];omega);(conv=>whnf);refine au.m (AB A7 node { c with size:=(z:Int) } SM7 (by simp [ay];omega)) ug λv h8 k8 hv=>?_;obtain ⟨rfl,A8⟩:=hv;(conv=>whnf);refine aN.i λh9 s9 k9=>?_;(conv=>whnf);exact ⟨(Em.trans k8).m1 k9 (by omega),rfl,A8.keep k9 (λy hy=>by simpa using (nv y hy).2)⟩
end Go.Proofs.YtoociceebodfeaaGreatDoor
namespace Go.aK
open Go
def vH (P:Program)(eq:TypeId->Value->Value->Option Bool)(xs ys:List Value):List Field->Option Bool
 | []=>some true
 | f :: fs => (match decide (f.name = "_") with
  | true=>vH P eq xs ys fs
  | false=>(match tQ P f.type xs f.offset,tQ P f.type ys f.offset with
   | some a,some b=>(match eq f.type a b,vH P eq xs ys fs with
    | some r,some s=>some (r&&s)
    | _,_=>none)
   | _,_=>none))
def xU (P:Program)(eq:TypeId->Value->Value->Option Bool)(e:TypeId)(c:Nat)(xs ys:List Value):List Nat->Option Bool
 | []=>some true
 | i::is=>(match tQ P e xs (i*c),tQ P e ys (i*c) with
  | some a,some b=>(match eq e a b,xU P eq e c xs ys is with
   | some r,some s=>some (r&&s)
   | _,_=>none)
  | _,_=>none)
def mg (P:Program):Nat->TypeId->Value->Value->Option Bool
 | 0,_,_,_=>none
 | d+1,t,a,b=>(match P.underlying t,a,b with
  | some (.int _),.int k x,.int k' y=>(match k==k' with | true=>some (x==y) | false=>none)
  | some .bool,.bool x,.bool y=>some (x==y)
  | some .string,.string x,.string y=>some (x.toList==y.toList)
  | some (.struct fs),.agg ⟨xs⟩,.agg ⟨ys⟩=>(match P.stoodInHeld t with | false=>vH P (mg P d) xs ys fs.toList | true=>none)
  | some (.array n e),.agg ⟨xs⟩,.agg ⟨ys⟩=>(match P.info? e with | some _=>xU P (mg P d) e (P.cellsOf e) xs ys (List.range n) | none=>none)
  | _,_,_=>none)
theorem Er {P:Program}{d:Nat}{eq:TypeId->Value->Value->Option Bool}(heq:∀ t a b r (w:World),eq t a b=some r->(Op.equalIn d t a b).run P w=.ok r w)(xs ys:List Value)(w:World) :
 ∀ (fs:List Field) (r:Bool),vH P eq xs ys fs=some r->(Op.eqFields d ⟨xs⟩ ⟨ys⟩ fs).run P w=.ok r w
 | [],r,h=>by simp [vH] at h;subst h;simp [Op.eqFields]
 | f::fs,r,h=>by
  simp only [vH] at h;split at h
  ·rename_i hn
   have hn' : f.name = "_" := by simpa using hn
   simp only [Op.eqFields,hn',ne_eq,not_true_eq_false,if_false];exact Er heq xs ys w fs r h
  ·rename_i hn
   have hn' : ¬ f.name = "_" := by simpa using hn
   split at h
   ·rename_i a b ha hb;split at h
    ·rename_i r1 s1 hr hs;simp at h;subst h;have h1:=xA ha w;have h2:=xA hb w;have h3:=heq _ _ _ _ w hr;have h4:=Er heq xs ys w fs s1 hs;simp only [Op.eqFields,hn',ne_eq,not_false_eq_true,if_true,Sem.run_bind,h1,h2,h3,Result.andThen_ok];cases r1
     ·simp
     ·simpa using h4
    ·cases h
   ·cases h
theorem JD {P:Program}{d:Nat}{eq:TypeId->Value->Value->Option Bool}(heq:∀ t a b r (w:World),eq t a b=some r->(Op.equalIn d t a b).run P w=.ok r w)(e:TypeId)(c:Nat)(xs ys:List Value)(w:World) :
 ∀ (is:List Nat) (r:Bool),xU P eq e c xs ys is=some r->(Op.eqItems d e c ⟨xs⟩ ⟨ys⟩ is).run P w=.ok r w
 | [],r,h=>by simp [xU] at h;subst h;simp [Op.eqItems]
 | i::is,r,h=>by
  simp only [xU] at h;split at h
  ·rename_i a b ha hb;split at h
   ·rename_i r1 s1 hr hs;simp at h;subst h;have h1:=xA ha w;have h2:=xA hb w;have h3:=heq _ _ _ _ w hr;have h4:=JD heq e c xs ys w is s1 hs;simp only [Op.eqItems,Sem.run_bind,h1,h2,h3,Result.andThen_ok];cases r1
    ·simp
    ·simpa using h4
   ·cases h
  ·cases h
theorem Es {P:Program}:∀ (d:Nat) (t:TypeId) (a b:Value) (r:Bool) (w:World),mg P d t a b=some r->(Op.equalIn d t a b).run P w=.ok r w
 | 0,t,a,b,r,w,h=>by cases h
 | d+1,t,a,b,r,w,h=>by
  have ih:=λt a b r w h=>Es (P:=P) d t a b r w h;unfold mg at h;split at h
  ·rename_i k0 k1 x k2 y hu;split at h
   ·rename_i hk;have:k1=k2:=by simpa using hk
    subst this;simp at h;subst h;exact run_equalIn_int w d t k1 _ _ _ hu
   ·cases h
  ·rename_i hu;simp at h;subst h;exact run_equalIn_bool w d t _ _ hu
  ·rename_i hu;simp at h;subst h;exact run_equalIn_string w d t _ _ hu
  ·rename_i fs xs ys hu;split at h
   ·rename_i hs;have hf:P.fieldsOf t=fs:=by unfold Program.fieldsOf;rw [hu]
    rw [run_equalIn_agg w d t ⟨xs⟩ ⟨ys⟩ (by rw [hf];exact hu) hs,hf];exact Er ih xs ys w _ r h
   ·cases h
  ·rename_i n e xs ys hu;split at h
   ·rename_i i hi;rw [run_equalIn_array w d ⟨xs⟩ ⟨ys⟩ hu hi];exact JD ih e (P.cellsOf e) xs ys w _ r h
   ·cases h
  ·cases h
theorem gP.Ef {P:Program}{c:Option Bool}{t:TypeId}{x y:Operand}{xs ys:List Value}{r:Bool}{K:Value->Prop}(hm:P.eqGuardType P.depth t=false)(he:mg P 10000 t (.agg ⟨xs⟩) (.agg ⟨ys⟩)=some r)(hK:K (.bool r)) :
 gP c P (do eqGuard .eql t x y (.agg ⟨xs⟩) (.agg ⟨ys⟩);binOp .eql t (.agg ⟨xs⟩) (.agg ⟨ys⟩):Sem Value) K:=by
 refine gP.i (λw=>?_) hK;rw [Sem.run_bind,run_eqGuard_agg _ _ _ _ _ _ _ hm];simp only [Result.andThen_ok];rw [run_eql_struct,Es _ _ _ _ _ w he];rfl
end Go.aK
namespace Go.Proofs.YtoociceebodfeaaGreatDoor
open Go Go.aK
def fQ (v:UInt64):aB:=⟨0,0,0,v,-1,-1,-1,-1,-1,-1⟩
def bZ (kind:Int)(v:UInt64):aB:={ fQ v with kind:=kind,links:=1 }
def lG (n:Int):Bool:=decide (-1<=n)&&decide (n<96)
def gq (c:aB):Bool:=
 if c.kind=0 then decide (c=fQ c.dR)
 else c.direct.all lG&&(decide (1<=c.kind)&&decide (c.kind<=3)&&decide (0<=c.links)&&decide (c.links<=255)&&decide (0<=c.size)&&decide (c.size<=2688)&&lG c.more)
theorem QK {a b:aB}:a.cells=b.cells↔a=b:=by
 constructor
 ·intro h;obtain ⟨a1,a2,a3,a4,a5,a6,a7,a8,a9,a10⟩:=a;obtain ⟨b1,b2,b3,b4,b5,b6,b7,b8,b9,b10⟩:=b;simp only [aB.cells,List.cons.injEq,Value.int.injEq,true_and,and_true,Pq] at h;obtain ⟨rfl,rfl,rfl,rfl,rfl,rfl,rfl,rfl,rfl,rfl⟩:=h;rfl
 ·rintro rfl;rfl
theorem Qz (a b:aB):mg Tryz.prog 10000 67 (.agg ⟨a.cells⟩) (.agg ⟨b.cells⟩)=some (decide (a=b)):=by
 have h:mg Tryz.prog 10000 67 (.agg ⟨a.cells⟩) (.agg ⟨b.cells⟩)=some ((a.kind==b.kind)&&((a.links==b.links)&&((a.size==b.size)&&(((a.dR.toNat:Int)==(b.dR.toNat:Int))&&(((a.d0==b.d0)&&((a.d1==b.d1)&&((a.d2==b.d2)&&((a.d3==b.d3)&&((a.d4==b.d4)&&true)))))&&((a.more==b.more)&&true)))))):=rfl;rw [h]
 congr 1
 rw [Bool.eq_iff_iff];simp only [Bool.and_eq_true,beq_iff_eq,decide_eq_true_eq,Bool.and_true]
 constructor
 ·rintro ⟨h1,h2,h3,h4,⟨h5,h6,h7,h8,h9⟩,h10⟩;rw [<-QK];simp only [aB.cells,wv,h1,h2,h3,h4,h5,h6,h7,h8,h9,h10]
 ·rintro rfl;simp
structure Jt where
 at_:Int
 v:UInt64
instance:Rp Jt where
 n:=2
 iD _ vs x:=vs=[.int .i64 x.at_,wv x.v]/\inI64 x.at_
 len h:=by rw [h.1];rfl
 keep _ h:=h
instance:Flat Jt:=⟨λh=>h⟩
theorem QJ (h:Heap):aD Tryz.prog 140 [] h (λv h'=>Keeps [] h h'/\∃ b,v=.slice (some ⟨b,0,none⟩) 8 8/\h.size<=b/\b<h'.size/\h'[b]?=some (.cells ⟨([7021221306412823411,2824,0,0,0,0,0,0]:List UInt64).map wv⟩ 46 (0,0))):=by
 refine aH aI Tryz.func140 rfl ok140 (by simp [Tryz.f140]) ?_;(conv=>whnf);refine aP.make (n:=8) rfl rfl rfl rfl rfl (by decide) (by decide) λb1 h1 e1 s1 o1 k1=>?_;(conv=>whnf);refine au.i (Cs h1) λv h2 k2 hv=>?_;subst hv;have o2:=k2.obj o1 (by simp);(conv=>whnf);refine aQ.i 0 rfl (by decide) rfl ?_;(conv=>whnf);refine dO.i o2 (Nat.le_of_ble_eq_true rfl) (by simp [aA]) λh3 s3 o3 k3=>?_;(conv=>whnf);refine aQ.i 1 rfl (by decide) rfl ?_;(conv=>whnf);refine dO.i o3 (Nat.le_of_ble_eq_true rfl) (by simp [aA]) λh4 s4 o4 k4=>?_;(conv=>whnf);have z2:=k2.size;exact ⟨((k1.trans k2).new1 k3 (by omega)).new1 k4 (by omega),b1,rfl,by omega,by omega,o4⟩
def Et (h:Heap)(p:Nat)(ws:List UInt64):Prop:=∃ a n c,Heap.cell? h p 1=some (.slice a n c)/\Sl h a n c ws
theorem Et.on {h h':Heap}{p:Nat}{ws:List UInt64}(R:Et h p ws)(k:Keeps [] h h'):Et h' p ws:=by
 obtain ⟨a,n,c,h1,h2⟩:=R;exact ⟨a,n,c,k.cell h1 (by simp),h2.keep k⟩
theorem Qo {h:Heap}{a:Option Addr}{len cap:Nat}{l:List Int}(O:Own h 3 1 a len cap (l.map λx=>.int .i64 x))(hl:len=l.length)(hb:l.length<=1000){b:Nat}{x:Int}(o:h[b]?=some (.cells ⟨[.int .i64 x]⟩ 3 (0,0))){bs:List Nat}(hbs:∀ b∈ay a,b∉bs){ty:TypeId}{K:Value->Heap->Prop}
 (H:∀ a' cap' h',Own h' 3 1 a' (len+1) cap' ((l++[x]).map λx=>.int .i64 x)->Keeps (ay a) h h'->(∀ b∈ay a',b∈ay a\/h.size<=b)->K (.slice a' (len+1) cap') h') :
 aP Tryz.prog (Builtin.append_ #[70,70] ty ⟨[.slice a len cap,.slice (some ⟨b,0,none⟩) 1 1]⟩) bs h K:=by
 refine jO (e:=3) (sz:=1) (aL:=8) (new:=[.int .i64 x]) rfl rfl rfl rfl rfl rfl rfl O rfl (λj hj=>?_) rfl (by omega) (by decide) hbs ?_
 ·have hj0:j=0:=by simpa using hj
  subst hj0;simp only [Heap.cell?,o];rfl
 intro a' c' h' O' k' n';exact H a' c' h' (by rw [List.map_append];exact O') k' n'
def b0 (i:Int):UInt64:=if 0<=i/\i<2824 then (if i=0 then 7021221306412823411 else if i=1 then 2824 else 0) else 0
def c1:aB:=⟨1,1,702,1,-1,-1,-1,-1,-1,1⟩
end Go.Proofs.YtoociceebodfeaaGreatDoor
namespace Go.Proofs.YtoociceebodfeaaGreatDoor
open Go Go.aK Go.RowKit
section
variable {H:Type} {enc:TypeId×Value->H} {W:World} {sp:Nat->Bool} {held:Bool}
end
end Go.Proofs.YtoociceebodfeaaGreatDoor
namespace Go.Proofs.YtoociceebodfeaaGreatDoor
open Go Go.aK
theorem KA {n:Int}(h : -1<=n/\n<96):iM (w64 (n+1))=n/\(w64 (n+1)).toNat<=96:=by
 have:=qA (n+1);unfold iM;omega
theorem Tv (f:Int->UInt64)(k:Int){ws:List UInt64}(h:ws.length=16):dw (bX f k ws) k=ws:=by
 unfold dw bU bX kL j6;apply List.ext_getElem
 ·simp [h]
 ·intro i h1 h2;simp only [List.length_map,List.length_range] at h1;simp only [h,Nat.sub_self,List.replicate_zero,List.append_nil,List.getElem_map,List.getElem_range];rw [if_pos (by omega)];have:(1288+k*16+(i:Int)-(1288+k*16)).toNat=i:=by omega
  rw [this];simp [h2]
theorem Kz:∀ {l:List Int},(∀ x∈l,-1<=x/\x<96)->(l.map λn=>w64 (n+1)).map iM=l
 | [],_=>rfl
 | x::l,h=>by
  simp only [List.map_cons];rw [(KA (h x (by simp))).1,Kz (λy hy=>h y (by simp [hy]))]
theorem _root_.Go.aK.Sl.lt {h:Heap}{a:Option Addr}{n c:Nat}{m:List Int}(T:Sl h a n c m)(hn:0<n):∀ b∈ay a,b<h.size:=by
 have hl:=T.hlen;obtain ⟨b,o,hb,_,hc⟩:=T.at1 0 (by omega);intro x hx;rw [hb] at hx;simp [ay] at hx;subst hx;exact wm hc
theorem oI (l:List UInt8)(n:Nat):(dK l n).length=n:=by simp [dK]
theorem Ey {ws:List UInt64}(h:ws.length<=16):(kL ws).length=16:=by simp [kL];omega
theorem Si (f:Int->UInt64)(a:Int)(n:Nat):(bU f a n).length=n:=by simp [bU]
theorem KR {f g:Int->UInt64}{a:Int}{n:Nat}(h:∀ i:Nat,i<n->f (a+(i:Int))=g (a+(i:Int))):bU f a n=bU g a n:=by
 unfold bU;exact List.map_congr_left λi hi=>h i (by simpa using hi)
theorem KT {f:Int->UInt64}{k:Int}{ws:List UInt64}(h:ws.length<=16){x:Int}(hx:x<1288+k*16\/1288+k*16+16<=x):bX f k ws x=f x:=by
 unfold bX j6;rw [Ey h,if_neg (by omega)]
theorem EJ {f:Int->UInt64}{k:Int}{ws:List UInt64}(h:ws.length<=16):bU (bX f k ws) (1288+k*16) 16=kL ws:=by
 have hl:=Ey h;unfold bU bX j6;rw [hl];apply List.ext_getElem
 ·simp [hl]
 ·intro i h1 h2;simp only [List.length_map,List.length_range] at h1;simp only [List.getElem_map,List.getElem_range];rw [if_pos (by omega)];have:(1288+k*16+(i:Int)-(1288+k*16)).toNat=i:=by omega
  rw [this];simp [h2]
theorem rY {f:Int->UInt64}{k k':Int}{ws:List UInt64}(h:ws.length<=16)(hk:k≠k'):bU (bX f k ws) (1288+k'*16) 16=bU f (1288+k'*16) 16:=
 KR λi hi=>KT h (by omega)
theorem xX {f:Int->UInt64}{k:Int}{ws:List UInt64}(h:ws.length<=16)(hk:0<=k){j:Int}(hj:j<96):bX f k ws (200+j)=f (200+j):=KT h (by omega)
theorem yI {f:Int->UInt64}{j:Int}{w:UInt64}(hj:j<96){k:Int}(hk:0<=k):bU (upd f (200+j) w) (1288+k*16) 16=bU f (1288+k*16) 16:=
 KR λi hi=>by unfold upd;rw [if_neg (by omega)]
theorem TG {f:Int->UInt64}{k k':Int}{ws:List UInt64}(h:ws.length<=16)(hk:k≠k'):dz (bX f k ws) k'=dz f k':=by
 unfold dz;rw [rY h hk]
theorem TF {f:Int->UInt64}{j:Int}{w:UInt64}(hj:j<96){k:Int}(hk:k = -1\/0<=k):dz (upd f (200+j) w) k=dz f k:=by
 unfold dz;split
 ·rfl
 ·rw [yI hj (by omega)]
theorem KQ {f:Int->UInt64}{k k':Int}{ws:List UInt64}(h:ws.length<=16)(hk:k≠k'):dw (bX f k ws) k'=dw f k':=rY h hk
theorem KU:∀ (l:List UInt8) (j:Nat),iL l/256 ^ j%256=(l[j]?.getD 0).toNat
 | [],j=>by simp [iL]
 | b::r,0=>by
  have:=b.toNat_lt;simp [iL]
 | b::r,j+1=>by
  have hb:=b.toNat_lt;have ih:=KU r j;simp only [iL,List.getElem?_cons_succ];rw [<-ih,Nat.pow_succ,Nat.mul_comm (256 ^ j) 256,<-Nat.div_div_eq_div_mul]
  congr 2
  omega
theorem JV (l:List UInt8)(i:Nat):nP (jP l (i/8)) i=l[i]?.getD 0:=by
 unfold nP;rw [DW,Nat.pow_mul,show (2:Nat) ^ 8=256 from rfl];apply UInt8.toNat_inj.1;rw [UInt8.toNat_ofNat',show (2:Nat) ^ 8=256 from rfl,KU,List.getElem?_take,if_pos (Nat.mod_lt _ (by decide)),List.getElem?_drop,Nat.div_add_mod]
theorem KH {f:Int->UInt64}{k:Int}{l:List UInt8}(hl:l.length<=128)(hk:k ≠ -1):dz (bX f k (dK l 16)) k=l++zeros (128-l.length):=by
 unfold dz;rw [if_neg hk,EJ (by rw [oI];omega)];unfold gX kL;apply List.ext_getElem
 ·simp [zeros];omega
 ·intro i h1 h2;simp only [List.length_map,List.length_range] at h1;simp only [List.getElem_map,List.getElem_range];have e:(dK l 16++List.replicate (16-(dK l 16).length) 0)[i/8]?.getD 0=jP l (i/8):=by
   rw [List.getElem?_append_left (by rw [oI];omega)];unfold dK;simp [show i/8<16 by omega]
  rw [e,JV];by_cases h:i<l.length
  ·rw [List.getElem_append_left h];simp [h]
  ·rw [List.getElem_append_right (by omega)];simp [zeros,show l.length<=i by omega]
def fb (now:Int->UInt64)(m:List Int)(p:Nat):UInt8:=((dz now (m[p/128]?.getD (-1)))[p%128]?).getD 0
theorem KO {now:Int->UInt64}:∀ (m:List Int) (p:Nat),p<128*m.length->(gZ now m)[p]?=some (fb now m p)
 | [],p,h=>by simp at h
 | x::m,p,h=>by
  have hl:=kP now x;unfold gZ;rw [List.flatMap_cons];by_cases hp:p<128
  ·rw [List.getElem?_append_left (by omega)];unfold fb;have e1:p/128=0:=by omega
   have e2:p%128=p:=by omega
   have h1:p<(dz now x).length:=by omega
   rw [e1,e2];simp [h1]
  ·rw [List.getElem?_append_right (by omega)];have ih:=KO (now:=now) m (p-128) (by simp at h;omega);rw [hl];unfold gZ at ih;rw [ih];unfold fb;have e1:p/128=(p-128)/128+1:=by omega
   have e2:p%128=(p-128)%128:=by omega
   rw [e1,e2];rfl
def gV (more:Int)(m:List Int):List Int:=(more::m).filter eH
def ng (x:Int):Prop:=x = -1\/(0<=x/\x<96)
structure Wk (now:Int->UInt64)(node more:Int)(m:List Int):Prop where
 len:m.length=21
 bG:∀ x∈more::m,ng x
 jm:(gV more m).Nodup
 own:∀ x,0<=x->x<96->(x∈gV more m↔now (200+x)=w64 (node+1))
structure Fr (node:Int)(f g:Int->UInt64):Prop where
 kR:∀ k,0<=k->k<96->f (200+k)≠w64 (node+1)->(g (200+k)=f (200+k)\/f (200+k)=0/\g (200+k)=w64 (node+1))/\(f (200+k)≠0->bU g (1288+k*16) 16=bU f (1288+k*16) 16)
 mine:∀ k,0<=k->k<96->f (200+k)=w64 (node+1)->g (200+k)=w64 (node+1)\/g (200+k)=0
 low:∀ a,a<200->g a=f a
structure Fr0 (node:Int)(f g:Int->UInt64):Prop where
 kR:∀ k,0<=k->k<96->f (200+k)≠w64 (node+1)->(g (200+k)=f (200+k)\/f (200+k)=0/\g (200+k)=w64 (node+1))/\(f (200+k)≠0->bU g (1288+k*16) 16=bU f (1288+k*16) 16)
 mine:∀ k,0<=k->k<96->f (200+k)=w64 (node+1)->g (200+k)=w64 (node+1)\/g (200+k)=0
theorem Fr.z {node:Int}{f g:Int->UInt64}(a:Fr node f g):Fr0 node f g:=⟨a.kR,a.mine⟩
theorem Fr0.of {f g:Int->UInt64}(node:Int)(h:∀ a,200<=a->g a=f a):Fr0 node f g:=
 ⟨λk h0 _ _=>⟨.inl (h _ (by omega)),λ_=>List.map_congr_left λi _=>h _ (by omega)⟩,λk h0 _ hf=>.inl (by rw [h _ (by omega)];exact hf)⟩
theorem Fr0.after {node:Int}{f g h:Int->UInt64}(a:Fr0 node f g)(b:∀ a,200<=a->h a=g a):Fr0 node f h:=
 ⟨λk h0 h1 hf=>by
  have e:bU h (1288+k*16) 16=bU g (1288+k*16) 16:=List.map_congr_left λi _=>b _ (by omega);rw [b _ (by omega),e];exact a.kR k h0 h1 hf,λk h0 h1 hf=>by rw [b _ (by omega)];exact a.mine k h0 h1 hf⟩
theorem Bb {f:Int->UInt64}{k:Int}{ws:List UInt64}(hk:0<=k){a:Int}(ha:a<200):bX f k ws a=f a:=by
 unfold bX j6;rw [if_neg (by omega)]
theorem Fr.refl (node:Int)(f:Int->UInt64):Fr node f f:=⟨λk _ _ _=>⟨.inl rfl,λ_=>rfl⟩,λk _ _ h=>.inl h,λ_ _=>rfl⟩
theorem Fr.trans {node:Int}{f g h:Int->UInt64}(a:Fr node f g)(b:Fr node g h)(hn:w64 (node+1)≠0):Fr node f h:=by
 constructor
 ·intro k h0 h1 hf;obtain ⟨p,q⟩:=a.kR k h0 h1 hf;rcases p with p|⟨p1,p2⟩
  ·have hg:g (200+k)≠w64 (node+1):=by rw [p];exact hf
   obtain ⟨r,s⟩:=b.kR k h0 h1 hg;rw [p] at r s;exact ⟨r,λh=>(s h).trans (q h)⟩
  ·refine ⟨?_,λh=>absurd p1 h⟩;rcases b.mine k h0 h1 p2 with r|r
   ·exact .inr ⟨p1,r⟩
   ·left;rw [r,p1]
 ·intro k h0 h1 hf;rcases a.mine k h0 h1 hf with p|p
  ·exact b.mine k h0 h1 p
  ·have hg:g (200+k)≠w64 (node+1):=by rw [p];exact λe=>hn e.symm
   rcases (b.kR k h0 h1 hg).1 with r|⟨_,r⟩
   ·right;rw [r,p]
   ·exact .inl r
 ·exact λx hx=>(b.low x hx).trans (a.low x hx)
theorem mY {more:Int}{m:List Int}{x:Int}:x∈gV more m↔(x=more\/x∈m)/\x ≠ -1:=by
 unfold gV;rw [List.mem_filter,List.mem_cons]
 constructor
 ·rintro ⟨a,b⟩;exact ⟨a,jr.1 b⟩
 ·rintro ⟨a,b⟩;exact ⟨a,jr.2 b⟩
theorem Wk.at_ {now:Int->UInt64}{node more:Int}{m:List Int}(W:Wk now node more m){i:Nat}(hi:i<21):m[i]?.getD (-1)=m[i]'(by rw [W.len];exact hi):=by
 have:=W.len;simp [show i<m.length by omega]
theorem Wk.Fb {now:Int->UInt64}{node more:Int}{m:List Int}(W:Wk now node more m){x:Int}(hx:x∈m)(hu:x ≠ -1):x≠more:=by
 rintro rfl;have h:=W.jm;unfold gV at h;rw [List.filter_cons,if_pos (jr.2 hu),List.nodup_cons] at h;exact h.1 (List.mem_filter.2 ⟨hx,jr.2 hu⟩)
theorem KP:∀ {m:List Int} {i j:Nat} (hi:i<m.length) (hj:j<m.length),(m.filter eH).Nodup->m[i]=m[j]->m[i] ≠ -1->i=j
 | [],i,j,hi,_,_,_,_=>by simp at hi
 | x::m,0,0,_,_,_,_,_=>rfl
 | x::m,0,j+1,hi,hj,h,e,hu=>by
  simp only [List.getElem_cons_zero,List.getElem_cons_succ] at e hu;rw [List.filter_cons,if_pos (jr.2 hu),List.nodup_cons] at h;exact absurd (List.mem_filter.2 ⟨by rw [e];exact List.getElem_mem _,jr.2 hu⟩) h.1
 | x::m,i+1,0,hi,hj,h,e,hu=>by
  simp only [List.getElem_cons_zero,List.getElem_cons_succ] at e hu;rw [e] at hu;rw [List.filter_cons,if_pos (jr.2 hu),List.nodup_cons] at h;exact absurd (List.mem_filter.2 ⟨by rw [<-e];exact List.getElem_mem _,jr.2 hu⟩) h.1
 | x::m,i+1,j+1,hi,hj,h,e,hu=>by
  simp only [List.getElem_cons_succ] at e hu;have h':(m.filter eH).Nodup:=by
   rw [List.filter_cons] at h;split at h
   ·exact (List.nodup_cons.1 h).2
   ·exact h
  rw [KP (by simpa using hi) (by simpa using hj) h' e hu]
theorem Wk.inj {now:Int->UInt64}{node more:Int}{m:List Int}(W:Wk now node more m){i j:Nat}(hi:i<21)(hj:j<21)(e:m[i]?.getD (-1)=m[j]?.getD (-1))(hu:m[i]?.getD (-1) ≠ -1):i=j:=by
 have hl:=W.len;rw [W.at_ hi] at e hu;rw [W.at_ hj] at e;refine KP (by omega) (by omega) ?_ e hu;have h:=W.jm;unfold gV at h;rw [List.filter_cons] at h;split at h
 ·exact (List.nodup_cons.1 h).2
 ·exact h
theorem ic {node:Int}(h:0<=node/\node<24):w64 (node+1)≠0:=by
 intro e;have h1:=qA (node+1);rw [e] at h1;simp at h1;omega
theorem Wk.put {now:Int->UInt64}{node more:Int}{m:List Int}(W:Wk now node more m){i:Nat}(hi:i<21){l:List UInt8}(hl:l.length<=128){x:Int}(hx:m[i]?.getD (-1)=x)(hu:x ≠ -1) :
 Wk (bX now x (dK l 16)) node more m/\Fr node now (bX now x (dK l 16))/\(more ≠ -1->dw (bX now x (dK l 16)) more=dw now more) /\
 ∀ p,p<2688->fb (bX now x (dK l 16)) m p=if p/128=i then l[p%128]?.getD 0 else fb now m p:=by
 have ht:(dK l 16).length<=16:=by rw [oI];omega
 have hxm:x∈m:=by rw [<-hx,W.at_ hi];exact List.getElem_mem _
 have Bq:0<=x/\x<96:=by
  rcases W.bG x (List.mem_cons_of_mem _ hxm) with h|h
  ·exact absurd h hu
  ·exact h
 have ho:∀ k,0<=k->k<96->bX now x (dK l 16) (200+k)=now (200+k):=λk _ h=>xX ht Bq.1 h;have hown:now (200+x)=w64 (node+1):=(W.own x Bq.1 Bq.2).1 (mY.2 ⟨.inr hxm,hu⟩);refine ⟨⟨W.len,W.bG,W.jm,λk h0 h1=>by rw [ho k h0 h1];exact W.own k h0 h1⟩,⟨λk h0 h1 hf=>⟨.inl (ho k h0 h1),λ_=>?_⟩,λk h0 h1 hf=>.inl (by rw [ho k h0 h1];exact hf),λ_ ha=>Bb Bq.1 ha⟩,λhm=>KQ ht (W.Fb hxm hu),λp hp=>?_⟩
 ·refine rY ht ?_;rintro rfl;exact hf hown
 ·have hp2:p/128<21:=by omega
  unfold fb;by_cases h:p/128=i
  ·rw [if_pos h,h,hx,KH hl hu];by_cases h2:p%128<l.length
   ·rw [List.getElem?_append_left h2]
   ·rw [List.getElem?_append_right (by omega)];have h3:l.length<=p%128:=by omega
    simp only [zeros,List.getElem?_eq_none h3,Option.getD_none];rw [List.getElem?_replicate];split <;> rfl
  ·rw [if_neg h,TG ht];intro e;exact h (W.inj hp2 hi (by rw [<-e,hx]) (by rw [<-e];exact hu))
theorem Ty (f:Int->UInt64)(k:Int):bX f k []=bX f k (dK [] 16):=by
 unfold bX;have:kL []=kL (dK [] 16):=by decide
 rw [this]
def gu (now:Int->UInt64)(node k:Int):Int->UInt64:=bX (upd now (200+k) (w64 (node+1))) k []
theorem AU {B:Int->UInt64}{X:VS}{node:Int}(hn:0<=node/\node<24) :
 ((bI B X node).2.1=0/\0<=(bI B X node).1/\(bI B X node).1<96/\X.now (200+(bI B X node).1)=0/\(bI B X node).2.2={ X with now:=gu X.now node (bI B X node).1 }) \/
 ((bI B X node).2.1=9/\(bI B X node).2.2=X/\jQ B X 96 0=none):=by
 unfold bI;rw [if_pos hn];cases hf:jQ B X 96 0 with
 | none=>right;exact ⟨rfl,rfl,rfl⟩
 | some k=>
  left
  have hk:=Ar hf;have h:=hk.1;unfold iF at h;simp at h;refine ⟨rfl,by show 0<=(k:Int);omega,by show (k:Int)<96;omega,h.2.2.1,rfl⟩
theorem AX {now:Int->UInt64}{node k:Int}(hk:0<=k/\k<96){j:Int}(h0:0<=j)(h1:j<96):gu now node k (200+j)=if j=k then w64 (node+1) else now (200+j):=by
 unfold gu;rw [xX (by simp) hk.1 h1];unfold upd;by_cases h:j=k
 ·rw [if_pos (by omega),if_pos h]
 ·rw [if_neg (by omega),if_neg h]
theorem xZ {now:Int->UInt64}{node k:Int}(hk:0<=k/\k<96){j:Int}(h0:0<=j)(hj:j≠k):bU (gu now node k) (1288+j*16) 16=bU now (1288+j*16) 16:=by
 unfold gu;rw [rY (by simp) (λe=>hj e.symm),yI hk.2 h0]
theorem Tz {now:Int->UInt64}{node k:Int}(hk:0<=k/\k<96){j:Int}(hj:j = -1\/0<=j)(hne:j≠k):dz (gu now node k) j=dz now j:=by
 unfold dz;split
 ·rfl
 ·rw [xZ hk (by omega) hne]
theorem TA {now:Int->UInt64}{node k:Int}(hk:0<=k/\k<96):dz (gu now node k) k=zeros 128:=by
 unfold gu;rw [Ty,KH (by simp) (by omega)];rfl
theorem KI {now:Int->UInt64}{node k:Int}(hk:0<=k/\k<96)(h:now (200+k)=0):Fr node now (gu now node k):=by
 constructor
 ·intro j h0 h1 hf;rw [AX hk h0 h1];by_cases e:j=k
  ·subst e;exact ⟨.inr ⟨h,if_pos rfl⟩,λhx=>absurd h hx⟩
  ·exact ⟨.inl (if_neg e),λ_=>xZ hk h0 e⟩
 ·intro j h0 h1 hf;rw [AX hk h0 h1];split
  ·exact .inl rfl
  ·exact .inl hf
 ·intro a ha;unfold gu;rw [Bb hk.1 ha];unfold upd;rw [if_neg (by omega)]
theorem KJ:∀ {m:List Int} {i:Nat} {k:Int} (hi:i<m.length),m[i] = -1->k ≠ -1->((m.set i k).filter eH).Perm (k::m.filter eH)
 | [],i,k,hi,_,_=>by simp at hi
 | x::m,0,k,hi,h,hk=>by
  simp only [List.getElem_cons_zero] at h;subst h;simp only [List.set_cons_zero];rw [List.filter_cons,if_pos (jr.2 hk),List.filter_cons,if_neg (by decide)]
 | x::m,i+1,k,hi,h,hk=>by
  simp only [List.getElem_cons_succ] at h;have ih:=KJ (m:=m) (i:=i) (by simpa using hi) h hk;simp only [List.set_cons_succ];rw [List.filter_cons,List.filter_cons];split
  ·exact (List.Perm.cons x ih).trans (List.Perm.swap k x _)
  ·exact ih
theorem KL:∀ {m:List Int} {i:Nat} (hi:i<m.length),m[i] ≠ -1->(m.filter eH).Perm (m[i]::(m.set i (-1)).filter eH)
 | [],i,hi,_=>by simp at hi
 | x::m,0,hi,h=>by
  simp only [List.getElem_cons_zero] at h;simp only [List.set_cons_zero,List.getElem_cons_zero];rw [List.filter_cons,if_pos (jr.2 h),List.filter_cons,if_neg (by decide)]
 | x::m,i+1,hi,h=>by
  simp only [List.getElem_cons_succ] at h;have ih:=KL (m:=m) (i:=i) (by simpa using hi) h;simp only [List.set_cons_succ,List.getElem_cons_succ];rw [List.filter_cons,List.filter_cons];split
  ·exact (List.Perm.cons x ih).trans (List.Perm.swap _ x _)
  ·exact ih
theorem vQ (more:Int)(m:List Int):gV more m=if more = -1 then m.filter eH else more::m.filter eH:=by
 unfold gV;rw [List.filter_cons];by_cases h:more = -1
 ·rw [if_neg (by rw [jr];exact λx=>x h),if_pos h]
 ·rw [if_pos (jr.2 h),if_neg h]
theorem KM {more:Int}{m m':List Int}{k:Int}(h:(m'.filter eH).Perm (k::m.filter eH)):(gV more m').Perm (k::gV more m):=by
 rw [vQ,vQ];split
 ·exact h
 ·exact (List.Perm.cons more h).trans (List.Perm.swap k more _)
theorem Wk.grow {now:Int->UInt64}{node more more':Int}{m m':List Int}(W:Wk now node more m)(hn:0<=node/\node<24){k:Int}(hk:0<=k/\k<96)(h0:now (200+k)=0)(hl:m'.length=21)(hr:∀ x∈more'::m',ng x)
 (hp:(gV more' m').Perm (k::gV more m)):Wk (gu now node k) node more' m':=by
 have hne:=ic hn;have TD:k∉gV more m:=λh=>hne ((W.own k hk.1 hk.2).1 h ▸ h0);refine ⟨hl,hr,hp.symm.nodup (List.nodup_cons.2 ⟨TD,W.jm⟩),λx x0 x1=>?_⟩;rw [hp.mem_iff,List.mem_cons,AX hk x0 x1,W.own x x0 x1];by_cases h:x=k
 ·simp [h]
 ·simp [h]
theorem Wk.take_at {now:Int->UInt64}{node more:Int}{m:List Int}(W:Wk now node more m)(hn:0<=node/\node<24){k:Int}(hk:0<=k/\k<96)(h0:now (200+k)=0){i:Nat}(hi:i<21)(hm:m[i]?.getD (-1) = -1) :
 Wk (gu now node k) node more (m.set i k)/\Fr node now (gu now node k)/\(more ≠ -1->dw (gu now node k) more=dw now more)/\∀ p,p<2688->fb (gu now node k) (m.set i k) p=fb now m p:=by
 have hl:=W.len;have hne:=ic hn;have hm':m[i] = -1:=by rw [<-W.at_ hi];exact hm
 have hun:∀ x,0<=x->x<96->x∈gV more m->x≠k:=by
  rintro x x0 x1 hx rfl;exact hne ((W.own x x0 x1).1 hx ▸ h0)
 refine ⟨W.grow hn hk h0 (by simp [hl]) ?_ (KM (KJ (by omega) hm' (by omega))),KI hk h0,λhmo=>?_,λp hp=>?_⟩
 ·intro x hx;rcases List.mem_cons.1 hx with rfl|hx
  ·exact W.bG _ List.mem_cons_self
  ·rcases List.mem_or_eq_of_mem_set hx with h|rfl
   ·exact W.bG _ (List.mem_cons_of_mem _ h)
   ·exact .inr hk
 ·have hmr:=W.bG more List.mem_cons_self;have:0<=more/\more<96:=by rcases hmr with h|h;exact absurd h hmo;exact h
  exact xZ hk this.1 (hun more this.1 this.2 (mY.2 ⟨.inl rfl,hmo⟩))
 ·unfold fb;have hp2:p/128<21:=by omega
  by_cases h:p/128=i
  ·subst h;have e:(m.set (p/128) k)[p/128]?.getD (-1)=k:=by simp [hl,hp2]
   rw [e,hm,TA hk];rfl
  ·have e:(m.set i k)[p/128]?.getD (-1)=m[p/128]?.getD (-1):=by rw [List.getElem?_set_ne (λx=>h x.symm)]
   rw [e,W.at_ hp2];have hx:=W.bG m[p/128] (List.mem_cons_of_mem _ (List.getElem_mem _));rw [Tz hk (hx.imp id And.left)];rcases hx with hx|hx
   ·omega
   ·exact hun _ hx.1 hx.2 (mY.2 ⟨.inr (List.getElem_mem _),by omega⟩)
theorem Wk.Bp {now g:Int->UInt64}{node more:Int}{m:List Int}(W:Wk now node more m)(h:∀ x,x∈m->0<=x->x<96->bU g (1288+x*16) 16=bU now (1288+x*16) 16)(p:Nat)(hp:p<2688):fb g m p=fb now m p:=by
 have hp2:p/128<21:=by omega
 have hl:=W.len;unfold fb;rw [W.at_ hp2];unfold dz;split
 ·rfl
 ·rename_i hne;rcases W.bG m[p/128] (List.mem_cons_of_mem _ (List.getElem_mem _)) with hx|hx
  ·exact absurd hx hne
  ·rw [h _ (List.getElem_mem _) hx.1 hx.2]
theorem Wk.Tw {now:Int->UInt64}{node:Int}{m:List Int}(W:Wk now node (-1) m)(hn:0<=node/\node<24){k:Int}(hk:0<=k/\k<96)(h0:now (200+k)=0) :
 Wk (gu now node k) node k m/\Fr node now (gu now node k)/\∀ p,p<2688->fb (gu now node k) m p=fb now m p:=by
 have hne:=ic hn;refine ⟨W.grow hn hk h0 W.len ?_ ?_,KI hk h0,W.Bp λx hx x0 x1=>xZ hk x0 ?_⟩
 ·intro x hx;rcases List.mem_cons.1 hx with rfl|hx
  ·exact .inr hk
  ·exact W.bG _ (List.mem_cons_of_mem _ hx)
 ·rw [vQ,vQ,if_neg (by omega),if_pos rfl]
 ·rintro rfl;exact hne ((W.own x x0 x1).1 (mY.2 ⟨.inr hx,by omega⟩) ▸ h0)
theorem KN {now:Int->UInt64}{node k:Int}(hk:0<=k/\k<96)(h:now (200+k)=w64 (node+1)):Fr node now (upd now (200+k) 0):=by
 have ho:∀ j,upd now (200+k) 0 (200+j)=if j=k then 0 else now (200+j):=by
  intro j;unfold upd;by_cases e:j=k
  ·rw [if_pos (by omega),if_pos e]
  ·rw [if_neg (by omega),if_neg e]
 constructor
 ·intro j h0 h1 hf;rw [ho];have e:j≠k:=by rintro rfl;exact hf h
  exact ⟨.inl (if_neg e),λ_=>yI hk.2 h0⟩
 ·intro j h0 h1 hf;rw [ho];split
  ·exact .inr rfl
  ·exact .inl hf
 ·intro a ha;unfold upd;rw [if_neg (by omega)]
theorem Wk.shrink {now:Int->UInt64}{node more more':Int}{m m':List Int}(W:Wk now node more m)(hn:0<=node/\node<24){k:Int}(hk:0<=k/\k<96)(hl:m'.length=21)(hr:∀ x∈more'::m',ng x)
 (hp:(gV more m).Perm (k::gV more' m')):Wk (upd now (200+k) 0) node more' m'/\now (200+k)=w64 (node+1):=by
 have hne:=ic hn;have hnd:=List.nodup_cons.1 (hp.nodup W.jm);refine ⟨⟨hl,hr,hnd.2,λx x0 x1=>?_⟩,(W.own k hk.1 hk.2).1 (hp.mem_iff.2 List.mem_cons_self)⟩;have hw:=W.own x x0 x1;rw [hp.mem_iff,List.mem_cons] at hw;unfold upd;by_cases h:x=k
 ·subst h;rw [if_pos rfl];exact ⟨λhx=>absurd hx hnd.1,λe=>absurd e.symm hne⟩
 ·rw [if_neg (by omega),<-hw];simp [h]
theorem Wk.Tt {now:Int->UInt64}{node more:Int}{m:List Int}(W:Wk now node more m)(hn:0<=node/\node<24)(hm:more ≠ -1) :
 (0<=more/\more<96)/\now (200+more)=w64 (node+1)/\Wk (upd now (200+more) 0) node (-1) m/\Fr node now (upd now (200+more) 0)/\∀ p,p<2688->fb (upd now (200+more) 0) m p=fb now m p:=by
 have hk:0<=more/\more<96:=by
  rcases W.bG more List.mem_cons_self with h|h
  ·exact absurd h hm
  ·exact h
 obtain ⟨W',ho⟩:=W.shrink (more' := -1) (m':=m) hn hk W.len (by
  intro x hx;rcases List.mem_cons.1 hx with rfl|hx
  ·exact .inl rfl
  ·exact W.bG _ (List.mem_cons_of_mem _ hx)) (by rw [vQ,vQ,if_neg hm,if_pos rfl])
 exact ⟨hk,ho,W',KN hk ho,W.Bp λx _ x0 _=>yI hk.2 x0⟩
theorem Wk.drop_at {now:Int->UInt64}{node more:Int}{m:List Int}(W:Wk now node more m)(hn:0<=node/\node<24){i:Nat}(hi:i<21){k:Int}(hx:m[i]?.getD (-1)=k)(hk1:k ≠ -1) :
 (0<=k/\k<96)/\now (200+k)=w64 (node+1)/\Wk (upd now (200+k) 0) node more (m.set i (-1))/\Fr node now (upd now (200+k) 0)/\(more ≠ -1->dw (upd now (200+k) 0) more=dw now more) /\
  ∀ p,p<2688->fb (upd now (200+k) 0) (m.set i (-1)) p=if p/128=i then 0 else fb now m p:=by
 have hl:=W.len;have qM:m[i]=k:=by rw [<-W.at_ hi];exact hx
 have hk:0<=k/\k<96:=by
  rcases W.bG m[i] (List.mem_cons_of_mem _ (List.getElem_mem _)) with h|h
  ·exact absurd (qM ▸ h) hk1
  ·rw [qM] at h;exact h
 obtain ⟨W',ho⟩:=W.shrink (more':=more) (m':=m.set i (-1)) hn hk (by simp [hl]) (by
  intro x hx;rcases List.mem_cons.1 hx with rfl|hx
  ·exact W.bG _ List.mem_cons_self
  ·rcases List.mem_or_eq_of_mem_set hx with h|rfl
   ·exact W.bG _ (List.mem_cons_of_mem _ h)
   ·exact .inl rfl) (KM (by have:=KL (m:=m) (i:=i) (by omega) (by rw [qM];exact hk1);rwa [qM] at this))
 refine ⟨hk,ho,W',KN hk ho,λhmo=>?_,λp hp=>?_⟩
 ·rcases W.bG more List.mem_cons_self with h|h
  ·exact absurd h hmo
  ·exact yI hk.2 h.1
 ·unfold fb;have hp2:p/128<21:=by omega
  by_cases h:p/128=i
  ·subst h;rw [if_pos rfl];have e:(m.set (p/128) (-1))[p/128]?.getD (-1) = -1:=by simp [hl,hp2]
   rw [e];unfold dz zeros;rw [if_pos rfl,List.getElem?_replicate];split <;> rfl
  ·rw [if_neg h];have e:(m.set i (-1))[p/128]?.getD (-1)=m[p/128]?.getD (-1):=by rw [List.getElem?_set_ne (λx=>h x.symm)]
   rw [e,W.at_ hp2];have hx:=W.bG m[p/128] (List.mem_cons_of_mem _ (List.getElem_mem _));rw [TF hk.2 (hx.imp id And.left)]
theorem getD_21 {m:List Int}(hl:m.length=21){i:Nat}(hi:i<21):m[i]?.getD 0=m[i]?.getD (-1):=by
 simp [show i<m.length by omega]
theorem KE {old data:List UInt8}{a f:Nat}(ho:old.length=128)(h1:f<a+data.length)(h2:a<f+128)(q:Nat)(hq:q<128) :
 (mo old data a (a+data.length) f)[q]?.getD 0=if a<=f+q/\f+q<a+data.length then data[f+q-a]?.getD 0 else old[q]?.getD 0:=by
 have ht:(old.take (a-f)).length=a-f:=by rw [List.length_take];omega
 have hd:((data.drop (f+(a-f)-a)).take (min (a+data.length-f) 128-(a-f))).length=min (a+data.length-f) 128-(a-f):=by
  rw [List.length_take,List.length_drop];omega
 unfold mo;by_cases c1:q<a-f
 ·rw [List.append_assoc,List.getElem?_append_left (by omega),List.getElem?_take,if_pos c1,if_neg (by omega)]
 ·by_cases c2:q<min (a+data.length-f) 128
  ·rw [List.getElem?_append_left (by rw [List.length_append];omega),List.getElem?_append_right (by omega),ht,List.getElem?_take,if_pos (by omega),List.getElem?_drop,if_pos (by omega)]
   congr 2;omega
  ·rw [List.getElem?_append_right (by rw [List.length_append];omega),List.length_append,ht,hd,List.getElem?_drop,if_neg (by omega)]
   congr 2;omega
theorem KF {old data:List UInt8}{a f:Nat}(ho:old.length=128)(h1:f<a+data.length)(h2:a<f+128):(mo old data a (a+data.length) f).length=128:=by
 unfold mo;rw [List.length_append,List.length_append,List.length_take,List.length_take,List.length_drop,List.length_drop];omega
def Alone (B:Int->UInt64)(node:Int)(X:VS):Prop:=∀ k,0<=k->k<96->B (200+k)=0/\(X.now (200+k)=0\/X.now (200+k)=w64 (node+1))/\k∉X.away
theorem EK {B:Int->UInt64}{X:VS}:∀ {f i:Nat},jQ B X f i=none->∀ k,i<=k->k<i+f->iF B X (k:Int)=false
 | 0,i,_,k,h1,h2=>by omega
 | f+1,i,h,k,h1,h2=>by
  unfold jQ at h;split at h
  ·cases h
  ·rename_i hf;by_cases e:k=i
   ·subst e;simpa using hf
   ·exact EK h k (by omega) (by omega)
theorem KC {B:Int->UInt64}{X:VS}{node more:Int}{m:List Int}(hn:0<=node/\node<24)(W:Wk X.now node more m)(A:Alone B node X):jQ B X 96 0≠none:=by
 intro h;have hall:((List.range 96).map λ(i:Nat)=>(i:Int)) ⊆ gV more m:=by
  intro x hx;obtain ⟨k,hk,rfl⟩:=List.mem_map.1 hx;have hk96:k<96:=by simpa using hk
  have hf:=EK h k (by omega) (by omega);obtain ⟨a1,a2,a3⟩:=A (k:Int) (by omega) (by omega);refine (W.own (k:Int) (by omega) (by omega)).2 ?_;rcases a2 with a2|a2
  ·unfold iF at hf;simp [a1,a2,a3] at hf;omega
  ·exact a2
 have hnd:((List.range 96).map λ(i:Nat)=>(i:Int)).Nodup:=by decide +kernel
 have h1:=hnd.length_le_of_subset hall;have h2:(gV more m).length<=(more::m).length:=List.length_filter_le _ _;have:=W.len;simp at h1 h2;omega
structure KG (B:Int->UInt64)(node more:Int)(X:VS)(m:List Int)(a:Nat)(data:List UInt8)(i f:Nat)(r:Int×VS×List Int):Prop where
 e:r.1=0
 x:r.2.1={ X with now:=r.2.1.now }
 wk:Wk r.2.1.now node more r.2.2
 fr:Fr node X.now r.2.1.now
 yH:more ≠ -1->dw r.2.1.now more=dw X.now more
 aL:∀ p,p<2688->fb r.2.1.now r.2.2 p=if i<=p/128/\p/128<i+f/\a<=p/\p<a+data.length then data[p-a]?.getD 0 else fb X.now m p
 holes:∀ j,j<21->(r.2.2[j]?.getD (-1) = -1↔m[j]?.getD (-1) = -1/\¬ (i<=j/\j<i+f))
theorem JI {B:Int->UInt64}{node more:Int}(hn:0<=node/\node<24){X:VS}{m:List Int}(W:Wk X.now node more m){a:Nat}{data:List UInt8}{i:Nat}(hi:i<21)(h1:128*i<a+data.length)(h2:a<128*i+128) :
 (iN B node a data i X m).1=9/\jQ B X 96 0=none\/KG B node more X m a data i 1 (iN B node a data i X m):=by
 have hl:=W.len;unfold iN;rw [getD_21 hl hi];by_cases hm:m[i]?.getD (-1) = -1
 ·rw [if_pos hm];rcases AU (B:=B) (X:=X) hn with ⟨e0,k0,k1,kn,kx⟩|⟨e9,kx,kf⟩
  ·right
   have hk:0<=(bI B X node).1/\(bI B X node).1<96:=⟨k0,k1⟩;generalize (bI B X node).1=k at *;obtain ⟨W1,F1,M1,B1⟩:=W.take_at hn hk kn hi hm;have qM:(m.set i k)[i]?.getD (-1)=k:=by simp [hl,hi]
   have hkne:k ≠ -1:=by omega
   simp only [e0,kx,if_true];rw [getD_21 (by simp [hl]) hi,qM];have hbl:=kP (gu X.now node k) k;obtain ⟨W2,F2,M2,B2⟩:=W1.put hi (Nat.le_of_eq (KF hbl h1 h2)) qM hkne;refine ⟨rfl,rfl,W2,F1.trans F2 (ic hn),λh=>(M2 h).trans (M1 h),λp hp=>?_,λj hj=>?_⟩
   ·simp only;rw [B2 p hp];by_cases hpi:p/128=i
    ·rw [if_pos hpi,KE hbl h1 h2 _ (Nat.mod_lt _ (by decide))];have hpe:128*i+p%128=p:=by omega
     rw [hpe];by_cases hc:a<=p/\p<a+data.length
     ·rw [if_pos hc,if_pos ⟨by omega,by omega,hc⟩]
     ·rw [if_neg hc,if_neg (λh=>hc h.2.2),<-B1 p hp];unfold fb;rw [hpi,qM]
    ·rw [if_neg hpi,if_neg (by omega),B1 p hp]
   ·simp only;by_cases hji:j=i
    ·subst hji;rw [qM];exact ⟨λh=>absurd h hkne,λh=>absurd h.2 (by omega)⟩
    ·rw [List.getElem?_set_ne (λx=>hji x.symm)];exact ⟨λh=>⟨h,by omega⟩,λh=>h.1⟩
  ·left
   simp only [e9];exact ⟨rfl,kf⟩
 ·right
  rw [if_neg hm];simp only [if_true];rw [getD_21 hl hi];have hbl:=kP X.now (m[i]?.getD (-1));obtain ⟨W2,F2,M2,B2⟩:=W.put hi (Nat.le_of_eq (KF hbl h1 h2)) rfl hm;refine ⟨rfl,rfl,W2,F2,M2,λp hp=>?_,λj hj=>?_⟩
  ·simp only;rw [B2 p hp];by_cases hpi:p/128=i
   ·rw [if_pos hpi,KE hbl h1 h2 _ (Nat.mod_lt _ (by decide))];have hpe:128*i+p%128=p:=by omega
    rw [hpe];by_cases hc:a<=p/\p<a+data.length
    ·rw [if_pos hc,if_pos ⟨by omega,by omega,hc⟩]
    ·rw [if_neg hc,if_neg (λh=>hc h.2.2)];unfold fb;rw [hpi]
   ·rw [if_neg hpi,if_neg (by omega)]
  ·simp only;by_cases hji:j=i
   ·subst hji;exact ⟨λh=>absurd h hm,λh=>absurd h.1 hm⟩
   ·exact ⟨λh=>⟨h,by omega⟩,λh=>h.1⟩
theorem Alone.on {B:Int->UInt64}{node:Int}{X Y:VS}(A:Alone B node X)(F:Fr node X.now Y.now)(hn:w64 (node+1)≠0)(ha:Y.away=X.away):Alone B node Y:=by
 intro k h0 h1;obtain ⟨a1,a2,a3⟩:=A k h0 h1;refine ⟨a1,?_,by rw [ha];exact a3⟩;rcases a2 with a2|a2
 ·rcases (F.kR k h0 h1 (by rw [a2];exact λe=>hn e.symm)).1 with r|⟨_,r⟩
  ·left;rw [r,a2]
  ·exact .inr r
 ·exact (F.mine k h0 h1 a2).symm
theorem KD {B:Int->UInt64}{node more:Int}(hn:0<=node/\node<24){a:Nat}{data:List UInt8}:∀ (f i:Nat) (X:VS) (m:List Int),Wk X.now node more m->i+f<=21->(0<f->128*(i+f-1)<a+data.length)->a<128*i+128 ->
 ((gT B node a data f i X m).1=9/\¬ Alone B node X)\/KG B node more X m a data i f (gT B node a data f i X m)
 | 0,i,X,m,W,_,_,_=>by
  right
  unfold gT;refine ⟨rfl,rfl,W,Fr.refl _ _,λ_=>rfl,λp hp=>?_,λj hj=>⟨λh=>⟨h,by omega⟩,λh=>h.1⟩⟩;simp only;rw [if_neg (by omega)]
 | f+1,i,X,m,W,hf,h1,h2=>by
  unfold gT;have h1':=h1 (by omega);rcases JI (B:=B) hn W (i:=i) (a:=a) (data:=data) (by omega) (by omega) (by omega) with ⟨e,hno⟩|S
  ·rw [e]
   left
   refine ⟨by simp [e],λA=>KC hn W A hno⟩
  ·rw [S.e];simp only [if_true];rcases KD (B:=B) (a:=a) (data:=data) hn f (i+1) (iN B node a data i X m).2.1 (iN B node a data i X m).2.2 S.wk (by omega) (λ_=>by omega) (by omega) with ⟨e,hno⟩|R
   ·left
    refine ⟨e,λA=>hno (A.on S.fr (ic hn) (by rw [S.x]))⟩
   ·right
    refine ⟨R.e,?_,R.wk,S.fr.trans R.fr (ic hn),λh=>(R.yH h).trans (S.yH h),λp hp=>?_,λj hj=>?_⟩
    ·rw [R.x,S.x]
    ·rw [R.aL p hp,S.aL p hp];by_cases c3:i+1<=p/128/\p/128<i+1+f/\a<=p/\p<a+data.length
     ·rw [if_pos c3,if_pos ⟨by omega,by omega,c3.2.2⟩]
     ·rw [if_neg c3];by_cases c4:i<=p/128/\p/128<i+1/\a<=p/\p<a+data.length
      ·rw [if_pos c4,if_pos ⟨c4.1,by omega,c4.2.2⟩]
      ·rw [if_neg c4,if_neg (by omega)]
    ·rw [R.holes j hj,S.holes j hj]
     constructor
     ·rintro ⟨⟨x1,x2⟩,x3⟩;exact ⟨x1,by omega⟩
     ·rintro ⟨x1,x2⟩;exact ⟨⟨x1,by omega⟩,by omega⟩
theorem Wk.Kw {now:Int->UInt64}{node more:Int}{m:List Int}(W:Wk now node more m){ws:List UInt64}(hw:ws.length<=16)(hm:more ≠ -1) :
 Wk (bX now more ws) node more m/\Fr node now (bX now more ws)/\∀ p,p<2688->fb (bX now more ws) m p=fb now m p:=by
 have hk:0<=more/\more<96:=by
  rcases W.bG more List.mem_cons_self with h|h
  ·exact absurd h hm
  ·exact h
 have ho:∀ k,0<=k->k<96->bX now more ws (200+k)=now (200+k):=λk _ h=>xX hw hk.1 h;have hown:now (200+more)=w64 (node+1):=(W.own more hk.1 hk.2).1 (mY.2 ⟨.inl rfl,hm⟩);refine ⟨⟨W.len,W.bG,W.jm,λk h0 h1=>by rw [ho k h0 h1];exact W.own k h0 h1⟩,⟨λk h0 h1 hf=>⟨.inl (ho k h0 h1),λ_=>?_⟩,λk h0 h1 hf=>.inl (by rw [ho k h0 h1];exact hf),λ_ ha=>Bb hk.1 ha⟩,W.Bp λx hx x0 x1=>?_⟩
 ·refine rY hw ?_;rintro rfl;exact hf hown
 ·exact rY hw (λe=>W.Fb hx (by omega) e.symm)
theorem Wk.drops {now:Int->UInt64}{node more:Int}{m:List Int}(W:Wk now node more m):m.any gW=false:=by
 rw [List.any_eq_false];intro x hx;have:=W.bG x (List.mem_cons_of_mem _ hx);unfold ng at this;simp [gW];omega
theorem Ky (c:aB){m:List Int}(hl:m.length=21)(t:Int):({ jS c m with more:=t }:aB).direct++m.drop 5=m:=by
 obtain ⟨a,b,c',d,e,r,rfl,_⟩:=take5 hl;rfl
structure EH (node:Int)(X:VS)(c:aB)(m:List Int)(r:aB×Int×VS):Prop where
 e:r.2.1=0
 c_:r.1={ jS c m with more:=r.1.more }
 kG:r.1.more = -1↔(m.drop 5).any eH=false
 map:mapOf r.2.2.now r.1=some m
 wk:Wk r.2.2.now node r.1.more m
 fr:Fr node X.now r.2.2.now
 aL:∀ p,p<2688->fb r.2.2.now m p=fb X.now m p
 x:r.2.2={ X with now:=r.2.2.now }
theorem ul {B:Int->UInt64}{node:Int}(hn:0<=node/\node<24){X:VS}{c:aB}{m:List Int}(W:Wk X.now node c.more m) :
 ((eD B X node c m).2.1=9/\¬ Alone B node X/\c.more = -1/\(m.drop 5).any eH=true)\/EH node X c m (eD B X node c m):=by
 have hl:=W.len;unfold eD;rw [if_pos ⟨hn,hl,W.drops⟩];by_cases hd:(m.drop 5).any eH=false
 ·rw [if_pos hd];have hmap:∀ now,mapOf now { jS c m with more := -1 }=some m:=by
   intro now;unfold mapOf;rw [if_pos rfl];have:m.drop 5=List.replicate 16 (-1):=by
    rw [List.eq_replicate_iff];refine ⟨by simp [hl],λx hx=>?_⟩;have:=List.any_eq_false.1 hd x hx;simp [eH] at this;exact this
   rw [<-this];exact congrArg some (Ky c hl _)
  right
  by_cases hc:c.more = -1
  ·rw [if_pos hc];rw [hc] at W;exact ⟨rfl,rfl,⟨λ_=>hd,λ_=>rfl⟩,hmap _,W,Fr.refl _ _,λ_ _=>rfl,rfl⟩
  ·rw [if_neg hc];obtain ⟨hk,ho,W1,F1,B1⟩:=W.Tt hn hc;have hdr:fI X c.more=(0,{ X with now:=upd X.now (200+c.more) 0 }):=by
    unfold fI;rw [if_pos hk,if_neg (by rw [ho];exact ic hn)]
   rw [hdr];simp only [if_true];exact ⟨rfl,rfl,⟨λ_=>hd,λ_=>rfl⟩,hmap _,W1,F1,B1,rfl⟩
 ·rw [if_neg hd];have hw16:((m.drop 5).map λn=>w64 (n+1)).length=16:=by simp [hl]
  have hm5:∀ x∈m.drop 5,-1<=x/\x<96:=by
   intro x hx;have:=W.bG x (List.mem_cons_of_mem _ (List.mem_of_mem_drop hx));unfold ng at this;omega
  have hmap:∀ now k,0<=k->k<96->mapOf (bX now k ((m.drop 5).map λn=>w64 (n+1))) { jS c m with more:=k }=some m:=by
   intro now k k0 k1;unfold mapOf;show (if k = -1 then _ else if 0<=k/\k<96/\(dw (bX _ k _) k).all _=true/\((dw (bX _ k _) k).map iM).any eH=true then some (_++(dw (bX _ k _) k).map iM) else none)=some m;rw [if_neg (by omega),Tv _ _ hw16,Kz hm5,if_pos]
   ·exact congrArg some (Ky c hl _)
   ·refine ⟨k0,k1,?_,by simpa using hd⟩;rw [List.all_map,List.all_eq_true];intro x hx;simp only [Function.comp];exact decide_eq_true (KA (hm5 x hx)).2
  by_cases hc:c.more = -1
  ·rw [if_pos hc];rw [hc] at W;rcases AU (B:=B) (X:=X) hn with ⟨e0,k0,k1,kn,kx⟩|⟨e9,kx,kf⟩
   ·right
    have hk:0<=(bI B X node).1/\(bI B X node).1<96:=⟨k0,k1⟩;obtain ⟨W1,F1,B1⟩:=W.Tw hn hk kn;obtain ⟨W2,F2,B2⟩:=W1.Kw (ws:=(m.drop 5).map λn=>w64 (n+1)) (by omega) (by omega);simp only [e0,if_true,if_pos hk,kx];refine ⟨rfl,rfl,⟨λh=>?_,λh=>absurd h hd⟩,hmap _ _ k0 k1,W2,F1.trans F2 (ic hn),λp hp=>(B2 p hp).trans (B1 p hp),rfl⟩;have h':(bI B X node).1 = -1:=h;omega
   ·left
    simp only [e9];exact ⟨by simp,λA=>KC hn W A kf,hc,by simpa using hd⟩
  ·rw [if_neg hc]
   right
   have hk:0<=c.more/\c.more<96:=by
    rcases W.bG c.more List.mem_cons_self with h|h
    ·exact absurd h hc
    ·exact h
   obtain ⟨W2,F2,B2⟩:=W.Kw (ws:=(m.drop 5).map λn=>w64 (n+1)) (by omega) hc;simp only [if_true,if_pos hk];exact ⟨rfl,rfl,⟨λh=>absurd h hc,λh=>absurd h hd⟩,hmap _ _ hk.1 hk.2,W2,F2,B2,rfl⟩
structure gm (now:Int->UInt64)(node:Int)(c:aB)(m:List Int)(s:List UInt8):Prop where
 map:mapOf now c=some m
 wk:Wk now node c.more m
 kind:(c.kind=1\/c.kind=3)/\0<=c.links/\c.links<=255
 size:c.size=(s.length:Int)
 fits:s.length<=2688
 aL:∀ p,p<2688->fb now m p=s[p]?.getD 0
 hol:∀ j,j<21->s.length<=128*j->m[j]?.getD (-1) = -1
 kG:c.more = -1↔(m.drop 5).any eH=false
theorem EQ {now:Int->UInt64}{c:aB}{m:List Int}(h:mapOf now c=some m):∀ x∈c.direct,x∈m:=by
 intro x hx;unfold mapOf at h;split at h
 ·have:=Option.some.inj h;subst this;exact List.mem_append_left _ hx
 ·split at h
  ·have:=Option.some.inj h;subst this;exact List.mem_append_left _ hx
  ·cases h
theorem gm.right {now:Int->UInt64}{node:Int}{c:aB}{m:List Int}{s:List UInt8}(F:gm now node c m s):gq c=true:=by
 have hb:∀ x,ng x->lG x=true:=by
  intro x hx;unfold ng at hx;simp [lG];omega
 have hd:c.direct.all lG=true:=List.all_eq_true.2 λx hx=>hb x (F.wk.bG x (List.mem_cons_of_mem _ (EQ F.map x hx)));have hs:=F.size;have hf:=F.fits;obtain ⟨hk,hl⟩:=F.kind;unfold gq;rw [if_neg (by omega),hd,hb c.more (F.wk.bG _ List.mem_cons_self)];simp;omega
theorem gm.ok {now:Int->UInt64}{node:Int}{c:aB}{m:List Int}{s:List UInt8}(F:gm now node c m s):c.ok:=by
 have hs:=F.size;have hf:=F.fits;obtain ⟨hk,hl⟩:=F.kind;refine ⟨by unfold inI64;omega,by unfold inI64;omega,by unfold inI64;omega,λx hx=>?_,?_⟩
 ·have:=F.wk.bG x (List.mem_cons_of_mem _ (EQ F.map x hx));unfold ng at this;unfold inI64;omega
 ·have:=F.wk.bG _ List.mem_cons_self;unfold ng at this;unfold inI64;omega
theorem gm.mG {now:Int->UInt64}{node:Int}{c:aB}{m:List Int}{s:List UInt8}(F:gm now node c m s):mG now c:=by
 intro m' hm x hx;rw [F.map] at hm;have:=Option.some.inj hm;subst this;exact F.wk.bG x (List.mem_cons_of_mem _ hx)
def fq (s:List UInt8)(at_:Int)(data:List UInt8):List UInt8×Int:=
 if at_<0\/400<data.length then ([],1)
 else if data=[] then (s,0)
 else if 2688-(data.length:Int)<at_ then ([],10)
 else ((s++zeros (at_.toNat+data.length-s.length)).take at_.toNat++data++(s++zeros (at_.toNat+data.length-s.length)).drop (at_.toNat+data.length),0)
theorem Ev (n i:Nat):(zeros n)[i]?.getD 0=0:=by
 unfold zeros;rw [List.getElem?_replicate];split <;> rfl
theorem Fe (s:List UInt8)(n i:Nat):(s++zeros n)[i]?.getD 0=s[i]?.getD 0:=by
 by_cases h:i<s.length
 ·rw [List.getElem?_append_left h]
 ·rw [List.getElem?_append_right (by omega),Ev,List.getElem?_eq_none (by omega)];rfl
theorem Tx (s:List UInt8)(a:Nat)(data:List UInt8)(p:Nat) :
 ((s++zeros (a+data.length-s.length)).take a++data++(s++zeros (a+data.length-s.length)).drop (a+data.length))[p]?.getD 0=if a<=p/\p<a+data.length then data[p-a]?.getD 0 else s[p]?.getD 0:=by
 have hz:(zeros (a+data.length-s.length)).length=a+data.length-s.length:=by simp [zeros]
 have hL:(s++zeros (a+data.length-s.length)).length>=a+data.length:=by rw [List.length_append,hz];omega
 have ht:((s++zeros (a+data.length-s.length)).take a).length=a:=by rw [List.length_take];omega
 by_cases c1:p<a
 ·rw [List.append_assoc,List.getElem?_append_left (by omega),List.getElem?_take,if_pos c1,Fe,if_neg (by omega)]
 ·by_cases c2:p<a+data.length
  ·rw [List.getElem?_append_left (by rw [List.length_append];omega),List.getElem?_append_right (by omega),ht,if_pos ⟨by omega,c2⟩]
  ·rw [List.getElem?_append_right (by rw [List.length_append];omega),List.length_append,ht,List.getElem?_drop,if_neg (by omega),show a+data.length+(p-(a+data.length))=p by omega,Fe]
theorem Ff (s:List UInt8)(a:Nat)(data:List UInt8) :
 ((s++zeros (a+data.length-s.length)).take a++data++(s++zeros (a+data.length-s.length)).drop (a+data.length)).length=max s.length (a+data.length):=by
 have hz:(zeros (a+data.length-s.length)).length=a+data.length-s.length:=by simp [zeros]
 simp only [List.length_append,List.length_take,List.length_drop,hz];omega
structure Wrote (node:Int)(X:VS)(m:List Int)(at_:Int)(data s':List UInt8)(r:aB×Int×VS)(m':List Int):Prop where
 file:gm r.2.2.now node r.1 m' s'
 fr:Fr node X.now r.2.2.now
 x:r.2.2={ X with now:=r.2.2.now }
 holes:∀ j,j<21->(m'[j]?.getD (-1) = -1↔m[j]?.getD (-1) = -1/\¬ (data≠[]/\at_.toNat/128<=j/\j<(at_.toNat+data.length+127)/128))
theorem Ce {B:Int->UInt64}{node:Int}(hn:0<=node/\node<24){X:VS}{c:aB}{m:List Int}{s:List UInt8}(F:gm X.now node c m s)(at_:Int)(data:List UInt8) :
 ((fP B X node c at_ data).2.1=9/\(fq s at_ data).2=0/\¬ Alone B node X) \/
 ((fP B X node c at_ data).2.1=(fq s at_ data).2/\((fq s at_ data).2=0->∃ m',Wrote node X m at_ data (fq s at_ data).1 (fP B X node c at_ data) m')):=by
 unfold fP fq;by_cases h1:at_<0\/400<data.length
 ·rw [if_pos (.inr h1),if_pos h1];exact .inr ⟨rfl,λh=>by cases h⟩
 ·rw [if_neg (by rintro (x|x);exact x hn;exact h1 x),if_neg h1];by_cases h2:data=[]
  ·rw [if_pos h2,if_pos h2,F.map];refine .inr ⟨rfl,λ_=>⟨m,F,Fr.refl _ _,rfl,λj hj=>⟨λh=>⟨h,λx=>x.1 h2⟩,λh=>h.1⟩⟩⟩
  ·rw [if_neg h2,if_neg h2];have hdl:0<data.length:=by
    cases data with
    | nil=>exact absurd rfl h2
    | cons x l=>simp
   by_cases h3:2688-(data.length:Int)<at_
   ·rw [if_pos h3,if_pos h3];exact .inr ⟨rfl,λh=>by cases h⟩
   ·rw [if_neg h3,if_neg h3,F.map];simp only;obtain ⟨a,rfl⟩:∃ a:Nat,at_=(a:Int):=⟨at_.toNat,by omega⟩;have hfit:a+data.length<=2688:=by omega
    simp only [Int.toNat_natCast];rcases KD (B:=B) (a:=a) (data:=data) hn ((a+data.length+127)/128-a/128) (a/128) X m F.wk (by omega) (λ_=>by omega) (by omega) with ⟨e,hno⟩|R
    ·left
     rw [e];exact ⟨by simp,trivial,hno⟩
    ·rw [R.e];simp only [if_true];have hc:({ c with size:=max c.size ((a:Int)+data.length) }:aB).more=c.more:=rfl;rcases ul (B:=B) (c:={ c with size:=max c.size ((a:Int)+data.length) }) hn (hc ▸ R.wk) with ⟨e,hno,_⟩|K
     ·left
      exact ⟨e,trivial,λA=>hno (A.on R.fr (ic hn) (by rw [R.x]))⟩
     ·right
      refine ⟨K.e,λ_=>⟨(gT B node a data ((a+data.length+127)/128-a/128) (a/128) X m).2.2,?_,R.fr.trans K.fr (ic hn),by rw [K.x,R.x],λj hj=>?_⟩⟩
      ·have hcc:=K.c_;refine ⟨K.map,K.wk,?_,?_,?_,λp hp=>?_,λj hj hs=>?_,K.kG⟩
       ·rw [hcc];exact F.kind
       ·rw [hcc,Ff];have:=F.size;show max c.size ((a:Int)+data.length)=_;rw [this];omega
       ·rw [Ff];have:=F.fits;omega
       ·rw [K.aL p hp,R.aL p hp,Tx,F.aL p hp];by_cases hc:a<=p/\p<a+data.length
        ·rw [if_pos hc,if_pos ⟨by omega,by omega,hc⟩]
        ·rw [if_neg hc,if_neg (λh=>hc h.2.2)]
       ·rw [Ff] at hs;exact (R.holes j hj).2 ⟨F.hol j hj (by omega),by omega⟩
      ·rw [R.holes j hj]
       constructor
       ·rintro ⟨x,y⟩;exact ⟨x,λz=>y ⟨z.2.1,by omega⟩⟩
       ·rintro ⟨x,y⟩;exact ⟨x,λz=>y ⟨h2,z.1,by omega⟩⟩
theorem iV (x y:List UInt8):((ByteArray.mk x.toArray).toList==(ByteArray.mk y.toArray).toList)=decide (x=y):=by
 rw [xH];refine decide_eq_decide.2 ⟨λe=>?_,λe=>by rw [e]⟩;have:=congrArg (λb:ByteArray=>b.data.toList) e;simpa using this
theorem dN (l:List UInt8):(ByteArray.mk l.toArray).size=l.length:=by show l.toArray.size=_;simp
theorem qJ (l:List UInt8)(i:Nat):iY ⟨l.toArray⟩ i=((l[i]?.getD 0).toNat:Int):=by simp [iY]
theorem Fa (l:List UInt8)(c:UInt8)(h:Heap):aD Tryz.prog 289 [.string ⟨l.toArray⟩,.int .u8 (c.toNat:Int)] h (λv h'=>Keeps [] h h'/\v=.int .i64 (Lib.indexByte l c)):=by
 refine aH aI Tryz.func289 rfl ok289 (by simp [Tryz.f289]) ?_;(conv=>whnf);refine aP.ext rfl (by kernel_rfl) (by kernel_rfl) (by kernel_rfl) (e:=Extern.BytealgIndexByte.indexByte) (by kernel_rfl) (aP.pure (λw _=>Lib.run_indexByteString (P:=Tryz.prog) _ _ w) ?_);(conv=>whnf);refine ⟨Keeps.refl _ _,?_⟩;simp
theorem Tk (l:List UInt8)(c:UInt8)(h:Heap):aD Tryz.prog 267 [.string ⟨l.toArray⟩,.int .u8 (c.toNat:Int)] h (λv h'=>Keeps [] h h'/\v=.int .i64 (Lib.indexByte l c)):=by
 refine aH aI Tryz.func267 rfl ok267 (by simp [Tryz.f267]) ?_;(conv=>whnf);refine au.i (Fa l c h) λv h1 k1 hv=>?_;subst hv;(conv=>whnf);exact ⟨k1,rfl⟩
def jH (c:UInt8):Bool:=(decide (97<=c.toNat)&&decide (c.toNat<=122))||(decide (48<=c.toNat)&&decide (c.toNat<=57))||(decide (c=46)||(decide (c=45)||decide (c=95)))
theorem Tm:∀ c:UInt8,decide (0<=Lib.indexByte [46,45,95] c)=(decide (c=46)||(decide (c=45)||decide (c=95))):=by
 intro c;simp only [Lib.indexByte];by_cases h1:(46:UInt8)=c
 ·subst h1;decide
 by_cases h2:(45:UInt8)=c
 ·subst h2;decide
 by_cases h3:(95:UInt8)=c
 ·subst h3;decide
 have g1:¬ c=46:=λe=>h1 e.symm;have g2:¬ c=45:=λe=>h2 e.symm;have g3:¬ c=95:=λe=>h3 e.symm;simp [h1,h2,h3,g1,g2,g3]
theorem Tn (c:UInt8)(h:Heap):aD Tryz.prog 223 [.int .u8 (c.toNat:Int)] h (λv h'=>Keeps [] h h'/\v=.bool (jH c)):=by
 refine aH aI Tryz.func223 rfl ok223 (by simp [Tryz.f223]) ?_;(conv=>whnf);refine aU.pass ?_;(conv=>whnf);(try refine aU.pass ?_;conv=>whnf);refine ak.i (λh1=>?_) (λh1=>?_)
 ·(conv=>whnf);refine ak.t h1 ?_;(conv=>whnf);refine ⟨Keeps.refl _ _,?_⟩;have h2:97<=c.toNat/\c.toNat<=122:=by simp [dB] at h1;omega
  simp [jH,h2]
 ·(conv=>whnf);(try refine aU.pass ?_;conv=>whnf);refine ak.i (λh3=>?_) (λh3=>?_)
  ·(conv=>whnf);refine ⟨Keeps.refl _ _,?_⟩;have h2:48<=c.toNat/\c.toNat<=57:=by simp [dB] at h3;omega
   simp [jH,h2]
  ·(conv=>whnf);refine au.i (Tk [46,45,95] c h) λv h4 k4 hv=>?_;subst hv;(conv=>whnf);refine ⟨k4,?_⟩;have h2:¬ (97<=c.toNat/\c.toNat<=122):=by simp [dB] at h1;omega
   have h5:¬ (48<=c.toNat/\c.toNat<=57):=by simp [dB] at h3;omega
   have e:jH c=(decide (c=46)||(decide (c=45)||decide (c=95))):=by
    unfold jH;rw [<-Bool.decide_and,<-Bool.decide_and,decide_eq_false h2,decide_eq_false h5];rfl
   rw [e,<-Tm]
def dG (l:List UInt8):Bool:=l.all jH&&(decide (l≠[])&&decide (l.length<=14)&&decide (l≠[46])&&decide (l≠[46,46]))
theorem ET (l:List UInt8)(hl:l.length<=140737488351232)(h:Heap):aD Tryz.prog 165 [.string ⟨l.toArray⟩] h (λv h'=>Keeps [] h h'/\v=.bool (dG l)):=by
 refine aH aI Tryz.func165 rfl ok165 (by simp [Tryz.f165]) ?_;(conv=>whnf);refine bP.on [0,5,6] [] (λi:Nat=>[(0,.v (.string ⟨l.toArray⟩)),(5,.v (.int .i64 (l.length:Int))),(6,.v (.int .i64 (i:Int)))]) (λ_=>[]) (λi h'=>i<=l.length/\Keeps [] h h'/\(l.take i).all jH=true) (λi=>l.length-i) 0 ?_ ?_
 ·(conv=>whnf);refine ⟨0,rfl,?_,rfl,Nat.zero_le _,Keeps.refl _ _,by simp⟩;rw [dN];rfl
 ·rintro i h1 ⟨hi,k1,ha⟩;(conv=>whnf);refine ak.i (λhd=>?_) (λhd=>?_)
  ·have hi1:i<l.length:=by simp at hd;omega
   (conv=>whnf);refine fC.i i rfl (by rw [dN];exact hi1) ?_;(conv=>whnf);rw [qJ,List.getElem?_eq_getElem hi1,Option.getD_some];refine au.i (Tn l[i] h1) λv h2 k2 hv=>?_;subst hv;have htk:(l.take (i+1)).all jH=jH l[i]:=by
    rw [List.take_succ_eq_append_getElem hi1,List.all_append,ha];simp
   (conv=>whnf);refine ak.i (λhs=>?_) (λhs=>?_)
   ·(conv=>whnf);refine ⟨k1.trans k2,?_⟩;have hf:l.all jH=false:=by
     have:jH l[i]=false:=by simpa using hs
     rw [<-Bool.not_eq_true,List.all_eq_true];intro hx;rw [hx _ (List.getElem_mem hi1)] at this;cases this
    simp [dG,hf]
   ·(conv=>whnf);refine ⟨l.length-(i+1),by omega,?_⟩;(conv=>whnf);refine ⟨i+1,rfl,by rw [wrapN (n:=i+1) (by simp) (by omega)],rfl,by omega,k1.trans k2,?_⟩;rw [htk];simpa using hs
  ·have hi1:i=l.length:=by simp at hd;omega
   subst hi1;rw [List.take_length] at ha;(conv=>whnf);refine ⟨k1,?_⟩;unfold dG;have hc:decide ((l.length:Int)<=14)=decide (l.length<=14):=decide_eq_decide.2 (by omega);have e0:(ByteArray.mk #[])=⟨([]:List UInt8).toArray⟩:=rfl;have e1:(ByteArray.mk #[46])=⟨([46]:List UInt8).toArray⟩:=rfl;have e2:(ByteArray.mk #[46,46])=⟨([46,46]:List UInt8).toArray⟩:=rfl;rw [ha,dN,hc,e0,e1,e2,iV,iV,iV];simp only [dB];by_cases h0:l=[] <;> by_cases h1:l.length<=14 <;> by_cases h2:l=[46] <;> by_cases h3:l=[46,46] <;> simp_all
def uy (l:List UInt8):UInt64:=l.foldl (λh c=>(h ^^^ c.toUInt64)*1099511628211) 14695981039346656037
theorem Tp (a:UInt64)(c:UInt8):Value.int .u64 (IntKind.u64.wrap (IntKind.u64.wrap (((BitVec.ofInt IntKind.u64.bits (a.toNat:Int) ^^^ BitVec.ofInt IntKind.u64.bits (IntKind.u64.wrap (c.toNat:Int))).toNat:Nat))*1099511628211))=wv ((a ^^^ c.toUInt64)*1099511628211):=by
 have hc:=c.toNat_lt;have ha:=a.toNat_lt;have e1:IntKind.u64.wrap (c.toNat:Int)=(c.toNat:Int):=by rw [qy];omega
 have hx:(BitVec.ofInt IntKind.u64.bits (a.toNat:Int) ^^^ BitVec.ofInt IntKind.u64.bits (c.toNat:Int)).toNat=(a ^^^ c.toUInt64).toNat:=by
  have e2:BitVec.ofInt IntKind.u64.bits (a.toNat:Int)=a.toBitVec:=by
   apply BitVec.eq_of_toNat_eq;simp [IntKind.bits]
  have e3:BitVec.ofInt IntKind.u64.bits (c.toNat:Int)=c.toUInt64.toBitVec:=by
   apply BitVec.eq_of_toNat_eq;simp [IntKind.bits]
  rw [e2,e3];rfl
 rw [e1,hx];unfold wv;refine congrArg (Value.int .u64) ?_;have hl:=(a ^^^ c.toUInt64).toNat_lt;rw [qy,qy,UInt64.toNat_mul];have:(UInt64.toNat 1099511628211)=1099511628211:=rfl;rw [this];omega
theorem Tq (l:List UInt8)(hl:l.length<=140737488351232)(h:Heap):aD Tryz.prog 227 [.string ⟨l.toArray⟩] h (λv h'=>Keeps [] h h'/\v=wv (uy l)):=by
 refine aH aI Tryz.func227 rfl ok227 (by simp [Tryz.f227]) ?_;(conv=>whnf);refine aP.bytesOf rfl rfl rfl λb2 c2 h2 r2 fz2 e2 s2 hc2 o2 k2=>?_;(conv=>whnf);refine bP.on [3,7,8,9] [] (λi:Nat=>[(3,.v (wv (uy (l.take i)))),(7,.v (.slice (some ⟨b2,0,none⟩) l.length c2)),(8,.v (.int .i64 (l.length:Int))),(9,.v (.int .i64 (i:Int)))]) (λ_=>[]) (λi h'=>i<=l.length/\Keeps [] h2 h') (λi=>l.length-i) 0 ?_ ?_
 ·(conv=>whnf);refine ⟨0,rfl,?_,rfl,Nat.zero_le _,Keeps.refl _ _⟩;rw [dN,List.take_zero];rfl
 ·rintro i h3 ⟨hi,k3⟩;(conv=>whnf);refine ak.i (λhd=>?_) (λhd=>?_)
  ·have hi1:i<l.length:=by simp at hd;omega
   (conv=>whnf);refine aQ.i i rfl hi1 rfl ?_;(conv=>whnf);refine ax.o (v:=.int .u8 (l[i].toNat:Int)) (k3.obj o2 (by simp)) ?_ ?_
   ·rw [mI];show (jB ⟨l.toArray⟩++r2)[0+i*1]?=_;rw [show 0+i*1=i by omega,List.getElem?_append_left (by rw [tT,dN];exact hi1)];simp [jB,hi1]
   (conv=>whnf);refine ⟨l.length-(i+1),by omega,?_⟩;(conv=>whnf);refine ⟨i+1,rfl,?_,rfl,by omega,k3⟩;rw [wrapN (n:=i+1) (by simp) (by omega),Tp];have e:uy (l.take (i+1))=(uy (l.take i) ^^^ l[i].toUInt64)*1099511628211:=by
    unfold uy;rw [List.take_succ_eq_append_getElem hi1,List.foldl_append];rfl
   rw [e]
  ·have hi1:i=l.length:=by simp at hd;omega
   subst hi1;(conv=>whnf);rw [List.take_length];exact ⟨k2.trans k3,rfl⟩
def bR (l:List UInt8):Nat:=(uy l).toNat%8
theorem qF (l:List UInt8):bR l<8:=Nat.mod_lt _ (by decide)
theorem yC (l:List UInt8)(hl:l.length<=140737488351232)(h:Heap):aD Tryz.prog 171 [.string ⟨l.toArray⟩,.int .i64 8] h (λv h'=>Keeps [] h h'/\v=.int .i64 (bR l:Int)):=by
 refine aH aI Tryz.func171 rfl ok171 (by simp [Tryz.f171]) ?_;(conv=>whnf);refine ak.f (by decide) ?_;(conv=>whnf);refine au.i (Tq l hl h) λv h1 k1 hv=>?_;subst hv;(conv=>whnf);refine dH.i (by decide) ?_;(conv=>whnf);refine ⟨k1,?_⟩;have hlt:=(uy l).toNat_lt;have e8:IntKind.u64.wrap 8=8:=by decide
 rw [e8,Int.tmod_eq_emod_of_nonneg (by omega)];unfold bR
 congr 1
 rw [dQ (by omega) (by omega)];omega
def nz (c:UInt8):Bool:=decide (c≠0)
def oJ (l:List UInt8):List UInt8:=l.takeWhile nz
def jI (l:List UInt8):List UInt8:=(l.dropWhile nz).drop 1
theorem Kt:∀ l:List UInt8,(Lib.indexByte l 0 = -1/\oJ l=l/\jI l=[])\/(∃ i:Nat,i<l.length/\Lib.indexByte l 0=(i:Int)/\l.take i=oJ l/\l.drop (i+1)=jI l)
 | []=>.inl ⟨rfl,rfl,rfl⟩
 | c::l=>by
  by_cases hc:c=0
  ·subst hc;exact .inr ⟨0,by simp,by simp [Lib.indexByte],by simp [oJ,nz],by simp [jI,nz]⟩
  ·have hb:(c==0)=false:=by simpa using hc
   have hn:nz c=true:=by simpa [nz] using hc
   rcases Kt l with ⟨h1,h2,h3⟩|⟨i,h1,h2,h3,h4⟩
   ·refine .inl ⟨by simp [Lib.indexByte,hc,h1],?_,?_⟩
    ·unfold oJ at h2 ⊢;rw [List.takeWhile_cons,if_pos hn,h2]
    ·unfold jI at h3 ⊢;rw [List.dropWhile_cons,if_pos hn];exact h3
   ·refine .inr ⟨i+1,by simpa using h1,?_,?_,?_⟩
    ·have:¬ ((i:Int) == -1)=true:=by simp
     simp [Lib.indexByte,hc,h2]
    ·unfold oJ at h3 ⊢;rw [List.takeWhile_cons,if_pos hn,List.take_succ_cons,h3]
    ·unfold jI at h4 ⊢;rw [List.dropWhile_cons,if_pos hn,List.drop_succ_cons];exact h4
theorem SV (l:List UInt8):(oJ l).length<=l.length:=(List.takeWhile_prefix _).length_le
theorem index_spec (l:List UInt8)(h:Heap):aD Tryz.prog 266 [.string ⟨l.toArray⟩,.string ⟨#[0]⟩] h (λv h'=>Keeps [] h h'/\v=.int .i64 (Lib.indexByte l 0)):=by
 refine aH aI Tryz.func266 rfl ok266 (by simp [Tryz.f266]) ?_;(conv=>whnf);have e0:(ByteArray.mk #[0])=⟨([0]:List UInt8).toArray⟩:=rfl;refine ak.i (λh1=>?_) (λh1=>?_)
 ·(conv=>whnf);refine ⟨Keeps.refl _ _,?_⟩;have:l=[0]:=by
   have h1:((ByteArray.mk #[0]).toList==(ByteArray.mk l.toArray).toList)=true:=h1;rw [e0,iV] at h1;simpa [eq_comm] using h1
  subst this;rfl
 ·(conv=>whnf);refine ak.t rfl ?_;(conv=>whnf);refine fC.i 0 rfl (by decide) ?_;(conv=>whnf);refine au.i (Fa l 0 h) λv h1 k1 hv=>?_;subst hv;(conv=>whnf);exact ⟨k1,rfl⟩
theorem qL (l:List UInt8)(i j:Nat):(ByteArray.extract ⟨l.toArray⟩ i j)=⟨((l.take j).drop i).toArray⟩:=qD l i j
theorem Tf (l:List UInt8)(hl:l.length<=140737488351232)(h:Heap):aD Tryz.prog 247 [.string ⟨l.toArray⟩,.string ⟨#[0]⟩] h (λv h'=>Keeps [] h h'/\∃ b,v=.tuple #[.string ⟨(oJ l).toArray⟩,.string ⟨(jI l).toArray⟩,.bool b]):=by
 refine aH aI Tryz.func247 rfl ok247 (by simp [Tryz.f247]) ?_;(conv=>whnf);refine au.i (index_spec l h) λv h1 k1 hv=>?_;subst hv;rcases Kt l with ⟨g1,g2,g3⟩|⟨i,g0,g1,g2,g3⟩
 ·(conv=>whnf);refine ak.f (by rw [g1];rfl) ?_;(conv=>whnf);rw [g2,g3];exact ⟨k1,_,rfl⟩
 ·(conv=>whnf);refine ak.t (by rw [g1];simp) ?_;(conv=>whnf);refine dm.i 0 i rfl (by rw [g1]) (Nat.zero_le _) (by rw [dN];omega) ?_;(conv=>whnf);refine dm.i (i+1) l.length (by rw [g1,wrapN (n:=i+1) (by simp [ByteArray.size]) (by omega)]) (by rw [dN]) (by omega) (by rw [dN];omega) ?_;(conv=>whnf);refine ⟨k1,true,?_⟩;rw [qL,qL,List.drop_zero,List.take_length,g2,g3]
theorem Ta (l:List UInt8)(hl:l.length<=140737488351232)(h:Heap):aD Tryz.prog 215 [.string ⟨l.toArray⟩,.string ⟨#[0]⟩] h (λv h'=>Keeps [] h h'/\∃ b,v=.tuple #[.string ⟨(oJ l).toArray⟩,.string ⟨(jI l).toArray⟩,.bool b]):=by
 refine aH aI Tryz.func215 rfl ok215 (by simp [Tryz.f215]) ?_;(conv=>whnf);refine au.i (Tf l hl h) λv h1 k1 hv=>?_;obtain ⟨b,rfl⟩:=hv;(conv=>whnf);exact ⟨k1,b,rfl⟩
def ez (c:UInt8):Bool:=decide (c=0)
def oK (l:List UInt8):List UInt8:=(l.reverse.dropWhile ez).reverse
def Bo (l:List UInt8):List UInt8:=(oK l).dropWhile ez
theorem Ku (l:List UInt8)(c:UInt8):oK (l++[c])=if c=0 then oK l else l++[c]:=by
 unfold oK;rw [List.reverse_append];simp only [List.reverse_cons,List.reverse_nil,List.nil_append,List.singleton_append,List.dropWhile_cons];by_cases h:c=0
 ·simp [h,ez]
 ·simp [h,ez]
theorem Kv {α:Type}(p:α->Bool):∀ l:List α,l.dropWhile p=[]↔l.all p=true
 | []=>by simp
 | x::l=>by
  rw [List.dropWhile_cons,List.all_cons];by_cases h:p x=true
  ·rw [if_pos h,Kv p l,h];simp
  ·rw [if_neg h];simp [h]
theorem Td (l:List UInt8):Bo l=[]↔l.all ez=true:=by
 unfold Bo;rw [Kv];unfold oK;rw [List.all_reverse];have:∀ m:List UInt8,((m.dropWhile ez).all ez=true)↔m.all ez=true:=by
  intro m
  induction m with
  | nil=>simp
  | cons x m ih=>
   rw [List.dropWhile_cons];split
   ·rename_i h;rw [ih,List.all_cons,h];simp
   ·rfl
 rw [this,List.all_reverse]
theorem Tg (l:List UInt8)(hl:l.length<=140737488351232)(h:Heap):aD Tryz.prog 249 [.string ⟨l.toArray⟩,.int .u8 0] h (λv h'=>Keeps [] h h'/\v=.string ⟨(oK l).toArray⟩):=by
 refine aH aI Tryz.func249 rfl ok249 (by simp [Tryz.f249]) ?_;(conv=>whnf);refine bP.on [0,1] [] (λi:Nat=>[(0,.v (.string ⟨(l.take i).toArray⟩)),(1,.v (.int .u8 0))]) (λ_=>[]) (λi h'=>i<=l.length/\Keeps [] h h'/\oK (l.take i)=oK l) (λi=>i) l.length ?_ ?_
 ·refine ⟨l.length,rfl,?_,rfl,Nat.le_refl _,Keeps.refl _ _,by rw [List.take_length]⟩;rw [List.take_length]
 ·rintro i h1 ⟨hi,k1,ht⟩;have hlen:(l.take i).length=i:=by rw [List.length_take];omega
  by_cases h0:i=0
  ·subst h0;(conv=>whnf);refine fC.u 0 (λhx=>by simp [ByteArray.size] at hx) ?_;(conv=>whnf);refine ak.f (by simp [ByteArray.size]) ?_;(conv=>whnf);refine ⟨k1,?_⟩;rw [<-ht];rfl
  ·have hw:IntKind.i64.wrap (((ByteArray.mk (l.take i).toArray).size:Int)-1)=((i-1:Nat):Int):=by
    rw [dN,hlen,dQ (by omega) (by omega)];omega
   have hg:l.take i=l.take (i-1)++[l[i-1]'(by omega)]:=by
    rw [<-List.take_succ_eq_append_getElem (by omega)];congr 1;omega
   (conv=>whnf);refine fC.u (i-1) (λ_=>⟨hw,by rw [dN];omega⟩) ?_;have hb:iY ⟨(l.take i).toArray⟩ (i-1)=((l[i-1]'(by omega)).toNat:Int):=by
    rw [qJ,List.getElem?_eq_getElem (by omega),Option.getD_some,List.getElem_take]
   (conv=>whnf);refine ak.i (λhd=>?_) (λhd=>?_)
   ·have hz:l[i-1]'(by omega)=0:=by
     have:iY ⟨(l.take i).toArray⟩ (i-1)=0:=by simp [dB] at hd;exact hd.2
     rw [hb] at this;exact UInt8.toNat_inj.1 (by have h2:(UInt8.toNat 0)=0:=rfl;omega)
    (conv=>whnf);refine dm.i 0 (i-1) rfl hw (Nat.zero_le _) (by rw [dN];omega) ?_;(conv=>whnf);refine ⟨i-1,by omega,?_⟩;(conv=>whnf);refine ⟨i-1,rfl,?_,rfl,by omega,k1,?_⟩
    ·rw [qL,List.drop_zero,List.take_take,Nat.min_eq_left (by omega)]
    ·rw [<-ht,hg,Ku,if_pos hz]
   ·(conv=>whnf);refine ⟨k1,?_⟩;have hz:¬ l[i-1]'(by omega)=0:=by
     intro e;have:iY ⟨(l.take i).toArray⟩ (i-1)=0:=by rw [hb,e];rfl
     have hpos:0<(ByteArray.mk (l.take i).toArray).size:=by rw [dN,hlen];omega
     have hp:decide (((ByteArray.mk (l.take i).toArray).size:Int)>0)=true:=decide_eq_true (by omega);rw [hp,this] at hd;cases hd
    rw [<-ht,hg,Ku,if_neg hz]
theorem Ti (l:List UInt8)(hl:l.length<=140737488351232)(h:Heap):aD Tryz.prog 248 [.string ⟨l.toArray⟩,.int .u8 0] h (λv h'=>Keeps [] h h'/\v=.string ⟨(l.dropWhile ez).toArray⟩):=by
 refine aH aI Tryz.func248 rfl ok248 (by simp [Tryz.f248]) ?_;(conv=>whnf);refine bP.on [0,1] [] (λi:Nat=>[(0,.v (.string ⟨(l.drop i).toArray⟩)),(1,.v (.int .u8 0))]) (λ_=>[]) (λi h'=>i<=l.length/\Keeps [] h h'/\(l.drop i).dropWhile ez=l.dropWhile ez) (λi=>l.length-i) 0 ?_ ?_
 ·refine ⟨0,rfl,?_,rfl,Nat.zero_le _,Keeps.refl _ _,by rw [List.drop_zero]⟩;rw [List.drop_zero]
 ·rintro i h1 ⟨hi,k1,ht⟩;have hlen:(l.drop i).length=l.length-i:=by rw [List.length_drop]
  by_cases h0:i=l.length
  ·have hnil:l.drop i=[]:=List.drop_eq_nil_of_le (by omega);rw [hnil] at ht ⊢;(conv=>whnf);refine fC.u 0 (λhx=>by simp [ByteArray.size] at hx) ?_;(conv=>whnf);refine ak.f (by simp [ByteArray.size]) ?_;(conv=>whnf);refine ⟨k1,?_⟩;rw [<-ht];rfl
  ·have hg:l.drop i=l[i]'(by omega)::l.drop (i+1):=List.drop_eq_getElem_cons (by omega);(conv=>whnf);refine fC.u 0 (λ_=>⟨rfl,by rw [dN];omega⟩) ?_;have hb:iY ⟨(l.drop i).toArray⟩ 0=((l[i]'(by omega)).toNat:Int):=by
    rw [qJ,hg];rfl
   (conv=>whnf);refine ak.i (λhd=>?_) (λhd=>?_)
   ·have hz:l[i]'(by omega)=0:=by
     have:iY ⟨(l.drop i).toArray⟩ 0=0:=by simp [dB] at hd;exact hd.2
     rw [hb] at this;exact UInt8.toNat_inj.1 (by have h2:(UInt8.toNat 0)=0:=rfl;omega)
    (conv=>whnf);refine dm.i 1 (l.length-i) rfl (by rw [dN,hlen]) (by omega) (by rw [dN];omega) ?_;(conv=>whnf);refine ⟨l.length-(i+1),by omega,?_⟩;(conv=>whnf);refine ⟨i+1,rfl,?_,rfl,by omega,k1,?_⟩
    ·rw [qL,<-hlen,List.take_length,List.drop_drop]
    ·rw [<-ht,hg,List.dropWhile_cons,if_pos (by simp [ez,hz])]
   ·(conv=>whnf);refine ⟨k1,?_⟩;have hz:¬ l[i]'(by omega)=0:=by
     intro e;have:iY ⟨(l.drop i).toArray⟩ 0=0:=by rw [hb,e];rfl
     have hpos:0<(ByteArray.mk (l.drop i).toArray).size:=by rw [dN,hlen];omega
     have hp:decide (((ByteArray.mk (l.drop i).toArray).size:Int)>0)=true:=decide_eq_true (by omega);rw [hp,this] at hd;cases hd
    rw [<-ht,hg,List.dropWhile_cons,if_neg (by simp [ez,hz])]
theorem Tj (l:List UInt8):(oK l).length<=l.length:=by
 unfold oK;rw [List.length_reverse];exact Nat.le_trans (List.IsSuffix.length_le (List.dropWhile_suffix _)) (by simp)
theorem Tc (l:List UInt8)(hl:l.length<=140737488351232)(h:Heap):aD Tryz.prog 216 [.string ⟨l.toArray⟩,.string ⟨#[0]⟩] h (λv h'=>Keeps [] h h'/\v=.string ⟨(Bo l).toArray⟩):=by
 have e0:(ByteArray.mk #[])=⟨([]:List UInt8).toArray⟩:=rfl;refine aH aI Tryz.func216 rfl ok216 (by simp [Tryz.f216]) ?_;(conv=>whnf);refine ak.i (λh1=>?_) (λh1=>?_)
 ·(conv=>whnf);refine ⟨Keeps.refl _ _,?_⟩;have:l=[]:=by
   rw [e0,iV] at h1;by_cases h:l=[]
   ·exact h
   ·simp [h] at h1
  subst this;rfl
 ·(conv=>whnf);refine fC.u 0 (λ_=>⟨rfl,by decide⟩) ?_;(conv=>whnf);refine ak.t (by decide) ?_;(conv=>whnf);refine fC.i 0 rfl (by decide) ?_;(conv=>whnf);refine fC.i 0 rfl (by decide) ?_;(conv=>whnf);refine au.i (Tg l hl h) λv h2 k2 hv=>?_;subst hv;(conv=>whnf);refine au.i (Ti (oK l) (Nat.le_trans (Tj l) hl) h2) λv h3 k3 hv=>?_;subst hv;(conv=>whnf);exact ⟨k2.trans k3,rfl⟩
structure aF where
 name:List UInt8
 node:Int
deriving DecidableEq,Inhabited
def aF.ok (e:aF):Prop:=e.name.length<=140737488351232/\inI64 e.node
def aF.cells (e:aF):List Value:=[.string ⟨e.name.toArray⟩,.int .i64 e.node]
instance:Rp aF where
 n:=2
 iD _ vs x:=vs=x.cells/\x.ok
 len h:=by rw [h.1];rfl
 keep _ h:=h
instance:Flat aF:=⟨λh=>h⟩
theorem yx (b k:Nat)(hk:k<5)(h:Heap):aD Tryz.prog 154 [.slice (some ⟨b,0,none⟩) 16 16,.int .i64 (k:Int)] h (λv h'=>Keeps [] h h'/\v=.slice (some ⟨b,3*k,none⟩) 3 3):=by
 have hk':k=0\/k=1\/k=2\/k=3\/k=4:=by omega
 rcases hk' with rfl|rfl|rfl|rfl|rfl
 all_goals
  refine aH aI Tryz.func154 rfl ok154 (by simp [Tryz.f154]) ?_;(conv=>whnf);refine gP.i (λw=>rfl) ?_;(conv=>whnf);exact ⟨Keeps.refl _ _,rfl⟩
def dZ (ws:List UInt64)(i:Nat):UInt64:=ws[i]?.getD 0
theorem yE {ws:List UInt64}{i:Nat}(hi:i<ws.length):nth (ws.map wv) i=some (wv (dZ ws i)):=by
 rw [mI];simp [dZ,hi]
theorem SS {h:Heap}{b:Nat}{ws:List UInt64}{T:TypeId}{fz:Nat×Nat}(o:h[b]?=some (.cells ⟨ws.map wv⟩ T fz))(off n:Nat)(hn:off+n<=ws.length)(hb:n<=1000000):Sl h (some ⟨b,off,none⟩) n n ((ws.drop off).take n):=by
 have hl:((ws.drop off).take n).length=n:=by simp;omega
 refine ⟨hl.symm,Nat.le_refl _,by omega,λi hi=>⟨b,off,rfl,[wv _],rfl,λj hj=>?_⟩⟩;have:j=0:=by simpa using hj
 subst this;rw [hl] at hi;show Heap.cell? h b (off+i*1+0)=_;rw [show off+i*1+0=off+i by omega];unfold Heap.cell?;rw [o];simp;refine ⟨_,?_,rfl⟩;rw [List.getElem?_eq_getElem (by omega)]
def dY (ws:List UInt64)(k:Nat):Bool:=decide (dZ ws (3*k)=0)&&decide (dZ ws (3*k+1)=0)&&decide (dZ ws (3*k+2)=0)
theorem Ka {h:Heap}{b:Nat}{ws:List UInt64}{T:TypeId}{fz:Nat×Nat}(o:h[b]?=some (.cells ⟨ws.map wv⟩ T fz))(hl:ws.length=16)(k:Nat)(hk:k<5):aD Tryz.prog 153 [.slice (some ⟨b,3*k,none⟩) 3 3] h (λv h'=>Keeps [] h h'/\v=.bool (dY ws k)):=by
 refine aH aI Tryz.func153 rfl ok153 (by simp [Tryz.f153]) ?_;(conv=>whnf);refine aQ.i 0 rfl (by decide) rfl ?_;(conv=>whnf);refine ax.o o (yE (i:=3*k+0*1) (by omega)) ?_;(conv=>whnf);refine aQ.i 1 rfl (by decide) rfl ?_;(conv=>whnf);refine ax.o o (yE (i:=3*k+1*1) (by omega)) ?_;(conv=>whnf);refine aQ.i 2 rfl (by decide) rfl ?_;(conv=>whnf);refine ax.o o (yE (i:=3*k+2*1) (by omega)) ?_;(conv=>whnf);refine ⟨Keeps.refl _ _,?_⟩;have e:=qz;unfold dY;rw [<-e,<-e,<-e,dB,dB];rfl
def jc (ws:List UInt64)(k:Nat):List UInt8:=gX [dZ ws (3*k+1),dZ ws (3*k+2)] 16
def jG (ws:List UInt64)(k:Nat):List UInt8:=oJ (jc ws k)
def uo (ws:List UInt64)(k:Nat):Int:=IntKind.i64.wrap ((dZ ws (3*k)).toNat:Int)
def ja (ws:List UInt64)(k:Nat):aF:=⟨jG ws k,uo ws k⟩
def kS (ws:List UInt64)(k place:Nat):Bool:=(jI (jc ws k)).all ez&&(dG (jG ws k)&&(decide (bR (jG ws k)=place%8)&&(decide (1<=(dZ ws (3*k)).toNat)&&decide ((dZ ws (3*k)).toNat<24))))
theorem Kr (ws:List UInt64)(k:Nat):(jc ws k).length=16:=by simp [jc,gX]
theorem Kg (ws:List UInt64)(k:Nat):(jG ws k).length<=16:=by
 have:=SV (jc ws k);rw [Kr] at this;exact this
theorem SY (l:List UInt8):(jI l).length<=l.length:=by
 unfold jI;rw [List.length_drop];have:=(List.dropWhile_suffix nz (l:=l)).length_le;omega
theorem J9 {h:Heap}{b:Nat}{ws:List UInt64}{T:TypeId}{fz:Nat×Nat}(o:h[b]?=some (.cells ⟨ws.map wv⟩ T fz))(hl:ws.length=16)(k place:Nat)(hk:k<5)(hp:place<1000000) :
 aD Tryz.prog 155 [.slice (some ⟨b,3*k,none⟩) 3 3,.int .i64 (place:Int)] h (λv h'=>Keeps [] h h'/\v=.tuple #[.agg ⟨(ja ws k).cells⟩,.bool (kS ws k place)]):=by
 refine aH aI Tryz.func155 rfl ok155 (by simp [Tryz.f155]) ?_;(conv=>whnf);refine aR.i λb1 h1 e1 s1 o1 k1=>?_;(conv=>whnf);refine dm.i 1 3 rfl rfl (by decide) (by decide) ?_;have S:=SS (k1.obj o (by simp)) (3*k+1) 2 (by omega) (by decide);have hw2:(ws.drop (3*k+1)).take 2=[dZ ws (3*k+1),dZ ws (3*k+2)]:=by
  apply List.ext_getElem
  ·simp;omega
  ·intro i i1 i2;have:i=0\/i=1:=by simp at i2;omega
   rcases this with rfl|rfl <;> simp [dZ]
   ·rw [List.getElem?_eq_getElem (by omega)];rfl
   ·rw [List.getElem?_eq_getElem (by omega)];rfl
 rw [hw2] at S;(conv=>whnf);refine au.i (IX S 16 (by decide) (by decide)) λv h2 k2 hv=>?_;subst hv;have ht:gX [dZ ws (3*k+1),dZ ws (3*k+2)] 16=jc ws k:=rfl;rw [ht];have hlen:=Kr ws k;(conv=>whnf);refine au.i (Ta (jc ws k) (by omega) h2) λv h3 k3 hv=>?_;obtain ⟨bb,rfl⟩:=hv;have hlb:=SY (jc ws k);have hla:=Kg ws k;have hn:oJ (jc ws k)=jG ws k:=rfl;rw [hn];have o3:=((k1.trans k2).trans k3).obj o (by simp);(conv=>whnf);refine ak.t rfl ?_;(conv=>whnf);refine au.i (Tc (jI (jc ws k)) (by omega) h3) λv h4 k4 hv=>?_;subst hv;have e0:(ByteArray.mk #[])=⟨([]:List UInt8).toArray⟩:=rfl;have hz:((ByteArray.mk (Bo (jI (jc ws k))).toArray).toList==(ByteArray.mk #[]).toList)=(jI (jc ws k)).all ez:=by
  rw [e0,iV];have:=Td (jI (jc ws k));cases hx:(jI (jc ws k)).all ez
  ·rw [hx] at this;simp at this;exact decide_eq_false this
  ·rw [hx] at this;simp at this;exact decide_eq_true this
 have k14:=((k1.trans k2).trans k3).trans k4;have o4:=k14.obj o (by simp);have n0:nth (ws.map wv) (3*k+0*1)=some (wv (dZ ws (3*k))):=yE (i:=3*k+0*1) (by omega);have Te:(place:Int).tmod 8=((place%8:Nat):Int):=by rw [Int.tmod_eq_emod_of_nonneg (by omega)];omega
 have fin:∀ (h':Heap) (x:Bool),Keeps [] h h'->x=((jI (jc ws k)).all ez&&(dG (jG ws k)&&decide (bR (jG ws k)=place%8))) ->
  Keeps [] h h'/\(Value.tuple #[.agg ⟨[.string ⟨(jG ws k).toArray⟩,.int .i64 (IntKind.i64.wrap ((dZ ws (3*k)).toNat:Int))]⟩,.bool (bif (bif x then decide (((dZ ws (3*k)).toNat:Int)>=1) else false) then decide (((dZ ws (3*k)).toNat:Int)<24) else false)])=.tuple #[.agg ⟨(ja ws k).cells⟩,.bool (kS ws k place)]:=by
  intro h' x kk hx;refine ⟨kk,?_⟩;have e1:decide (((dZ ws (3*k)).toNat:Int)>=1)=decide (1<=(dZ ws (3*k)).toNat):=decide_eq_decide.2 (by omega);have e2:decide (((dZ ws (3*k)).toNat:Int)<24)=decide ((dZ ws (3*k)).toNat<24):=decide_eq_decide.2 (by omega);rw [e1,e2,hx,dB,dB];unfold kS;simp only [Bool.and_assoc];rfl
 have nb:b∉[b1]:=by have:=eZ o;simp;omega
 have z4:=((k2.trans k3).trans k4).size;(conv=>whnf);refine ak.i (λh5=>?_) (λh5=>?_)
 ·have g5:(jI (jc ws k)).all ez=true:=by rw [<-hz];exact h5
  (conv=>whnf);refine au.i (ET (jG ws k) (by omega) h4) λv h6 k6 hv=>?_;subst hv;have o6:=k6.obj o4 (by simp);(conv=>whnf);refine ak.i (λh7=>?_) (λh7=>?_)
  ·have g7:dG (jG ws k)=true:=by rw [dB] at h7;simpa using (Bool.and_eq_true _ _ ▸ h7).2
   (conv=>whnf);refine au.i (yC (jG ws k) (by omega) h6) λv h8 k8 hv=>?_;subst hv;have o8:=k8.obj o6 (by simp);have z6:=k6.size;have z8:=k8.size;(conv=>whnf);refine dH.i (by decide) ?_
   repeat' ((conv=>whnf);first|refine aQ.i 0 rfl (by decide) rfl ?_|refine ax.o o8 n0 ?_|refine ax.o ((by assumption:Keeps [b1] h8 _).obj o8 nb) n0 ?_|refine iI.i ?_ ?_|refine aN.i λh9 s9 k9=>?_)
   all_goals
    (conv=>whnf);refine fin _ _ (((k14.trans k6).trans k8).new1 k9 (by omega)) ?_;rw [hz,g5,g7,Te];simp;rw [Bool.eq_iff_iff];simp;omega
  ·have g7:dG (jG ws k)=false:=by rw [h5] at h7;simpa using h7
   repeat' ((conv=>whnf);first|refine dH.i (by decide) ?_|refine aQ.i 0 rfl (by decide) rfl ?_|refine ax.o o6 n0 ?_|refine ax.o ((by assumption:Keeps [b1] h6 _).obj o6 nb) n0 ?_|refine iI.i ?_ ?_|refine aN.i λh9 s9 k9=>?_)
   all_goals
    (conv=>whnf);have z6:=k6.size;refine fin _ _ ((k14.trans k6).new1 k9 (by omega)) ?_;rw [hz,g5,g7];simp
 ·have g5:(jI (jc ws k)).all ez=false:=by rw [<-hz];exact h5
  (conv=>whnf);refine ak.f ?_ ?_
  ·rw [h5];rfl
  repeat' ((conv=>whnf);first|refine dH.i (by decide) ?_|refine aQ.i 0 rfl (by decide) rfl ?_|refine ax.o o4 n0 ?_|refine ax.o ((by assumption:Keeps [b1] h4 _).obj o4 nb) n0 ?_|refine iI.i ?_ ?_|refine aN.i λh9 s9 k9=>?_)
  all_goals
   (conv=>whnf);refine fin _ _ (k14.new1 k9 (by omega)) ?_;rw [hz,g5];simp
end Go.Proofs.YtoociceebodfeaaGreatDoor
