/-
  Joined texts: BodyM, BodyN, EngE, BodyO, BodyP, BodyQ, BodyR, BodyU, BodyV, BodyW, BodyX, FileA, FileB, FileC, FileD, FileE, FolA, FolB, FolC.
-/
import Derived.Test.YtoociceebodfeaaGreatDoorJLawCRenamed
import Derived.Laws.StructEq
import Derived.ChangeKeysEq
import Derived.Test.YtoociceebodfeaaGreatDoorJLawCRenamec
import Derived.Lib.Bytealg
set_option linter.all false
set_option maxRecDepth 100000
set_option maxHeartbeats 4000000
namespace Go.Proofs.YtoociceebodfeaaGreatDoor
open Go Go.aN
def mH (old data:List UInt8)(a e f:Nat):List UInt8:=old.take (a-f)++(data.drop (f+(a-f)-a)).take (min (e-f) 128-(a-f))++old.drop (min (e-f) 128)
def iP (B:Int->UInt64)(node:Int)(a:Nat)(data:List UInt8)(i:Nat)(X:VS)(m:List Int):Int×VS×List Int:=
 let t:Int×VS×List Int:=if m[i]?.getD 0 = -1 then ((bL B X node).2.1,(bL B X node).2.2,m.set i (bL B X node).1) else (0,X,m)
 if t.1=0 then (0,{ t.2.1 with now:=bZ t.2.1.now (t.2.2[i]?.getD 0) (dM (mH (dD t.2.1.now (t.2.2[i]?.getD 0)) data a (a+data.length) (128*i)) 16) },t.2.2)
 else t
def gX (B:Int->UInt64)(node:Int)(a:Nat)(data:List UInt8):Nat->Nat->VS->List Int->Int×VS×List Int
 | 0,_,X,m=>(0,X,m)
 | f+1,i,X,m=>if (iP B node a data i X m).1=0 then gX B node a data f (i+1) (iP B node a data i X m).2.1 (iP B node a data i X m).2.2 else iP B node a data i X m
def fZ (B:Int->UInt64)(X:VS)(node:Int)(c:aA)(at_:Int)(data:List UInt8):aA×Int×VS:=
 if ¬ (0<=node/\node<24)\/at_<0\/400<data.length then (aA.zero,1,X)
 else if data=[] then (match mapOf X.now c with|none=>(aA.zero,15,X)|some _=>(c,0,X))
 else if 2688-(data.length:Int)<at_ then (aA.zero,10,X)
 else match mapOf X.now c with
  | none=>(aA.zero,15,X)
  | some m=>
   let r:=gX B node at_.toNat data ((at_.toNat+data.length+127)/128-at_.toNat/128) (at_.toNat/128) X m
   if r.1=0 then eH B r.2.1 node { c with size:=max c.size (at_+data.length) } r.2.2 else (aA.zero,r.1,r.2.1)
theorem vF {B:Int->UInt64}{X:VS}{node:Int}(h:(bL B X node).2.1=0):0<=(bL B X node).1/\(bL B X node).1<96:=by
 unfold bL at h ⊢;split at h
 ·rename_i hn;rw [if_pos hn];split at h
  ·rename_i k hk;have:=Ah hk;simp only;have h2:=this.2;omega
  ·simp at h
 ·simp at h
theorem kz (l:List UInt8):(ByteArray.mk l.toArray).size=l.length:=by show l.toArray.size=_;simp
theorem qR (l:List UInt8)(i j:Nat):(ByteArray.extract ⟨l.toArray⟩ i j)=⟨((l.take j).drop i).toArray⟩:=by
 apply ByteArray.ext;rw [ByteArray.data_extract];simp [List.drop_take]
theorem uD (l r:List UInt8):(ByteArray.mk l.toArray)++⟨r.toArray⟩=⟨(l++r).toArray⟩:=by
 apply ByteArray.ext;rw [ByteArray.data_append];simp
theorem R7 (x y:Int):(if y>x then y else x)=max x y:=by omega
theorem Ka {h:Heap}{V:VL}{M:aS}{X:VS}(A:At h V M X)(node:Int)(c:aA)(hc:c.ok)(hm:mO X.now c)(at_:Int)(data:List UInt8) :
 aC Tryz.prog 78 [.pointer (some ⟨V.v,0,none⟩),.int .i64 node,.agg ⟨c.cells⟩,.int .i64 at_,.string ⟨data.toArray⟩] h (λv h'=>Keeps [V.ob] h h' /\
  v=.tuple #[.agg ⟨(fZ M.read X node c at_ data).1.cells⟩,.int .i64 (fZ M.read X node c at_ data).2.1]/\At h' V M (fZ M.read X node c at_ data).2.2):=by
 have qM:=A.blt V.ob (by simp [VL.blocks]);have hdl:=kz data;refine aG aH Tryz.func78 rfl ok78 (by simp [Tryz.f78]) ?_;(conv=>whnf);refine aL.i λb1 h1 e1 s1 o1 k1=>?_;(conv=>whnf);refine aL.i λb2 h2 e2 s2 o2 k2=>?_;(conv=>whnf);refine ak.i (El node h2) λv h3 k3 hv=>?_;subst hv;have k03:=k1.trans (k2.trans k3);have z3:=k3.size;have nv:∀ b∈V.blocks,b≠b1/\b≠b2:=λb hb=>by have:=A.blt b hb;omega
 (conv=>whnf);refine aj.i (λhq=>?_) (λhq=>?_)
 ·have hb:¬ (0<=node/\node<24)\/at_<0\/400<data.length:=by
   by_cases hn:0<=node/\node<24
   ·rw [if_pos hn] at hq;simp [dm] at hq;rcases hq with h|h
    ·exact .inr (.inl h)
    ·right;right
     have:(400:Int)<((ByteArray.mk data.toArray).size:Int):=h;rw [hdl] at this;omega
   ·exact .inl hn
  (conv=>whnf);refine aK.i λh4 s4 k4=>?_;(conv=>whnf);unfold fZ;rw [if_pos hb];exact ⟨(k03.new1 k4 (by omega)).mono (by simp),rfl,A.on (k03.new1 k4 (by omega))⟩
 ·have hb:¬ (¬ (0<=node/\node<24)\/at_<0\/400<data.length):=by
   by_cases hn:0<=node/\node<24
   ·rw [if_pos hn] at hq;simp [dm] at hq;have h2:=hq.2;have:((ByteArray.mk data.toArray).size:Int)<=400:=h2;rw [hdl] at this;omega
   ·rw [if_neg hn] at hq;simp [dm] at hq
  have AU:0<=node/\node<24:=Classical.byContradiction λh=>hb (.inl h);have yu:fZ M.read X node c at_ data=if data=[] then (match mapOf X.now c with|none=>(aA.zero,15,X)|some _=>(c,0,X))
   else if 2688-(data.length:Int)<at_ then (aA.zero,10,X)
   else match mapOf X.now c with
    | none=>(aA.zero,15,X)
    | some m=>
     if (gX M.read node at_.toNat data ((at_.toNat+data.length+127)/128-at_.toNat/128) (at_.toNat/128) X m).1=0 then eH M.read (gX M.read node at_.toNat data ((at_.toNat+data.length+127)/128-at_.toNat/128) (at_.toNat/128) X m).2.1 node { c with size:=max c.size (at_+data.length) } (gX M.read node at_.toNat data ((at_.toNat+data.length+127)/128-at_.toNat/128) (at_.toNat/128) X m).2.2
     else (aA.zero,(gX M.read node at_.toNat data ((at_.toNat+data.length+127)/128-at_.toNat/128) (at_.toNat/128) X m).1,(gX M.read node at_.toNat data ((at_.toNat+data.length+127)/128-at_.toNat/128) (at_.toNat/128) X m).2.1):=by
   unfold fZ;rw [if_neg hb]
  rw [yu];clear yu;(conv=>whnf);(try refine aV.pass ?_;conv=>whnf);refine aj.i (λhr=>?_) (λhr=>?_)
  ·have hd:data=[]:=by
    rw [yg] at hr;have:(ByteArray.mk data.toArray)=⟨#[]⟩:=by simpa using hr
    have:=congrArg (λb=>b.data.toList) this;simpa using this
   rw [if_pos hd];(conv=>whnf);refine ak.i (xV (A.on k03) c hc) λv h4 k4 hv=>?_;cases hmo:mapOf X.now c with
   | none=>
    rw [hmo] at hv;simp only at hv;subst hv;(conv=>whnf);(try refine aV.pass ?_;conv=>whnf);refine aj.t rfl ?_;(conv=>whnf);refine aK.i λh5 s5 k5=>?_;(conv=>whnf);have z4:=k4.size;exact ⟨((k03.trans k4).new1 k5 (by omega)).mono (by simp),rfl,A.on ((k03.trans k4).new1 k5 (by omega))⟩
   | some m=>
    rw [hmo] at hv;simp only at hv;obtain ⟨b,cap,sp,rfl,_⟩:=hv;(conv=>whnf);(try refine aV.pass ?_;conv=>whnf);refine aj.f rfl ?_;(conv=>whnf);refine aK.i λh5 s5 k5=>?_;(conv=>whnf);have z4:=k4.size;exact ⟨((k03.trans k4).new1 k5 (by omega)).mono (by simp),rfl,A.on ((k03.trans k4).new1 k5 (by omega))⟩
  ·have hd:¬ data=[]:=by
    rintro rfl;rw [yg] at hr;simp at hr
   rw [if_neg hd];have hdp:0<data.length:=List.length_pos_iff.2 hd;(conv=>whnf);rw [hdl,dR (x:=2688-(data.length:Int)) (by omega) (by omega)];refine aj.i (λhs=>?_) (λhs=>?_)
   ·have hs':2688-(data.length:Int)<at_:=by simpa using hs
    rw [if_pos hs'];(conv=>whnf);refine aK.i λh4 s4 k4=>?_;(conv=>whnf);exact ⟨(k03.new1 k4 (by omega)).mono (by simp),rfl,A.on (k03.new1 k4 (by omega))⟩
   ·have hs':¬ 2688-(data.length:Int)<at_:=by simpa using hs
    rw [if_neg hs'];(conv=>whnf);refine ak.i (xV (A.on k03) c hc) λv h4 k4 hv=>?_;have k04:=k03.trans k4;have z4:=k4.size;cases hmo:mapOf X.now c with
    | none=>
     rw [hmo] at hv;simp only at hv;subst hv;(conv=>whnf);(try refine aV.pass ?_;conv=>whnf);refine aj.t rfl ?_;(conv=>whnf);refine aK.i λh5 s5 k5=>?_;(conv=>whnf);exact ⟨(k04.new1 k5 (by omega)).mono (by simp),rfl,A.on (k04.new1 k5 (by omega))⟩
    | some m0=>
     rw [hmo] at hv;simp only at hv;obtain ⟨b,cap,sp,rfl,I4,hb4,hcap⟩:=hv;have hml:=vL hmo;have hmr:=hm m0 hmo;obtain ⟨a,rfl⟩:∃ a:Nat,at_=(a:Int):=⟨at_.toNat,by omega⟩;have ha:((a:Int)).toNat=a:=by omega
     rw [ha];simp only;have hae:a+data.length<=2688:=by omega
     have R8:IntKind.i64.wrap ((a:Int)+(data.length:Int))=((a+data.length:Nat):Int):=wrapN (by simp) (by omega);generalize hN:(a+data.length+127)/128=N0;generalize hR:gX M.read node a data (N0-a/128) (a/128) X m0=R;have hN1:N0<=21:=by omega
     have hbl:b<h4.size:=eU I4;(conv=>whnf);refine aj.f rfl ?_;(conv=>whnf);refine dL.i (by decide) ?_;have eq0:IntKind.i64.wrap ((a:Int).tdiv 128)=((a/128:Nat):Int):=by
      have:(a:Int).tdiv 128=((a/128:Nat):Int):=by rw [Int.tdiv_eq_ediv_of_nonneg (by omega)];omega
      rw [this,wrapN (n:=a/128) rfl (by omega)]
     (conv=>whnf);rw [hdl,R8,eq0];refine bP.on [0,1,3,4,7,10,15,17,18] [7,10] (λq:Nat×VS×List Int=>[(0,.v (.pointer (some ⟨V.v,0,none⟩))),(1,.v (.int .i64 node)),(3,.v (.int .i64 (a:Int))),(4,.v (.string ⟨data.toArray⟩)),(7,.lp 7 0),(10,.lp 10 0),(15,.v (.slice (some ⟨b,0,none⟩) 21 cap)),(17,.v (.int .i64 ((a+data.length:Nat):Int))),(18,.v (.int .i64 (q.1:Int)))])
      (λ_=>[(7,b1,c.cells),(10,b2,aA.zero.cells)]) (λq h'=>a/128<=q.1/\q.1<=N0/\Keeps [V.ob] h h'/\h4.size<=h'.size/\fD h' b q.2.2 sp/\q.2.2.length=21/\(∀ x∈q.2.2,x = -1\/(0<=x/\x<96))/\At h' V M q.2.1/\R=gX M.read node a data (N0-q.1) q.1 q.2.1 q.2.2) (λq=>N0-q.1) (a/128,X,m0) ?_ ?_
     ·(conv=>whnf);exact ⟨(a/128,X,m0),rfl,rfl,rfl,Nat.le_refl _,by simp only;omega,k04.mono (by simp),Nat.le_refl _,I4,hml,hmr,A.on k04,hR.symm⟩
     ·rintro ⟨i,Xi,mi⟩ h5 ⟨hi0,hi,k5,z5,I5,ml5,mr5,A5,iD⟩;simp only at hi0 hi I5 ml5 mr5 A5 iD;have uz:∀ y∈au [(7,b1,c.cells),(10,b2,aA.zero.cells)],y∉[V.ob]:=by
       intro y hy hx;have hy2:y∈[b1,b2]:=hy;simp at hy2 hx;omega
      (conv=>whnf);refine ak.i (R9 (a+data.length) (by omega) h5) λv h6 k6 hv=>?_;subst hv;rw [hN];have A6:=A5.on k6;have k06:=k5.bS k6;have I6:fD h6 b mi sp:=k6.obj I5 (by simp);have z6:=k6.size;(conv=>whnf);refine aj.i (λhc=>?_) (λhc=>?_)
      ·have hi1:i<N0:=by simp at hc;omega
       have him:i<mi.length:=by omega
       have hstep:gX M.read node a data (N0-i) i Xi mi=if (iP M.read node a data i Xi mi).1=0 then gX M.read node a data (N0-(i+1)) (i+1) (iP M.read node a data i Xi mi).2.1 (iP M.read node a data i Xi mi).2.2 else iP M.read node a data i Xi mi:=by
        rw [show N0-i=(N0-(i+1))+1 by omega];rfl
       rw [hstep] at iD;clear hstep;(conv=>whnf);(try refine aV.pass ?_;conv=>whnf);refine aX.i i rfl (by omega) rfl ?_;(conv=>whnf);refine ax.i (I6.nth him) ?_;(conv=>whnf);refine ak.i (vV _ h6) λv h7 k7 hv=>?_;subst hv;have A7:=A6.on k7;have k07:=k06.bS k7;have I7:fD h7 b mi sp:=k7.obj I6 (by simp);have z7:=k7.size;have hgi:mi[i]?.getD 0=mi[i]:=by simp [him]
       (conv=>whnf);(try refine aV.pass ?_;conv=>whnf);refine aj.i ?ca ?cb
       case' ca=>
        intro hu;have hu1:mi[i] = -1:=AQ.1 (Kb hu);(conv=>whnf);refine ak.m (DV A7 node) uz λv hy ky hv=>?_;obtain ⟨rfl,Ay⟩:=hv;have zy:=ky.size;have Iy:fD hy b mi sp:=ky.obj I7 (by simp;omega);(conv=>whnf);refine aX.i i rfl (by omega) rfl ?_;(conv=>whnf);refine dN.i Iy ?_ (by intro hx;have hx2:b∈[b1,b2]:=hx;simp at hx2;omega) λhx sx ox kx=>?_
        ·show 0+i*1+1<=_;simp;omega
        have Ix:fD hx b (mi.set i (bL M.read Xi node).1) sp:=by
         unfold fD;rw [<-ints_set him];exact ox
        have Em:∀ y∈V.blocks,y≠b:=λy hy=>by have:=A.blt y hy;omega
        have Ax:=Ay.keep kx (λy hy=>by simpa using Em y hy);have qW:Keeps [V.ob] h hx:=(k07.trans ky).m1 kx (by omega);have hw:iP M.read node a data i Xi mi=if (bL M.read Xi node).2.1=0 then (0,{ (bL M.read Xi node).2.2 with now:=bZ (bL M.read Xi node).2.2.now (bL M.read Xi node).1 (dM (mH (dD (bL M.read Xi node).2.2.now (bL M.read Xi node).1) data a (a+data.length) (128*i)) 16) },mi.set i (bL M.read Xi node).1) else ((bL M.read Xi node).2.1,(bL M.read Xi node).2.2,mi.set i (bL M.read Xi node).1):=by
         have hg2:(mi.set i (bL M.read Xi node).1)[i]?.getD 0=(bL M.read Xi node).1:=by simp [him]
         unfold iP;rw [hgi,if_pos hu1];simp only [hg2]
        (conv=>whnf);(try refine aV.pass ?_;conv=>whnf);refine aj.i (λhr=>?_) (λhr=>?_)
        ·have ht:¬ (bL M.read Xi node).2.1=0:=by simpa using hr
         rw [if_neg ht] at hw;rw [hw] at iD;simp only [if_neg ht] at iD;subst iD;(conv=>whnf);refine aK.i λh9 s9 k9=>?_;(conv=>whnf);simp only [if_neg ht];exact ⟨qW.m1 k9 (by omega),rfl,Ax.keep k9 (λy hy=>by simpa using (nv y hy).2)⟩
        have ht:(bL M.read Xi node).2.1=0:=by simpa using hr
        rw [if_pos ht] at hw;have hkr:=vF ht;have zx:h4.size<=hx.size:=by omega
        clear Iy ky Ay sx ox kx hr hu hu1 ht zy;generalize (bL M.read Xi node).1=k,(bL M.read Xi node).2.2=X1 at *;generalize hm1:mi.set i k=m1 at *;have Kc:m1.length=21:=by rw [<-hm1];simp [ml5]
        have Er:∀ hh:i<m1.length,m1[i]=k:=by intro hh;subst hm1;simp
        have Ke:∀ x∈m1,x = -1\/(0<=x/\x<96):=by
         intro x hx2;rw [<-hm1] at hx2;rcases List.mem_or_eq_of_mem_set hx2 with h|h
         ·exact mr5 x h
         ·subst h;exact .inr hkr
       case' cb=>
        intro hu;have hu1:¬ mi[i] = -1:=jE.1 (Kg hu);have hkr:0<=mi[i]/\mi[i]<96:=(mr5 _ (List.getElem_mem him)).resolve_left hu1;have hw:iP M.read node a data i Xi mi=(0,{ Xi with now:=bZ Xi.now mi[i] (dM (mH (dD Xi.now mi[i]) data a (a+data.length) (128*i)) 16) },mi):=by
         unfold iP;rw [hgi,if_neg hu1];simp only [hgi,if_true]
        obtain ⟨k,hk⟩:∃ k,k=mi[i]:=⟨_,rfl⟩;obtain ⟨X1,hX1⟩:∃ X1,X1=Xi:=⟨_,rfl⟩;obtain ⟨m1,hm1⟩:∃ m1,m1=mi:=⟨_,rfl⟩;obtain ⟨hx,hhx⟩:∃ hx,hx=h7:=⟨_,rfl⟩;have Ix:fD hx b m1 sp:=by rw [hhx,hm1];exact I7
        have Ax:At hx V M X1:=by rw [hhx,hX1];exact A7
        have qW:Keeps [V.ob] h hx:=by rw [hhx];exact k07
        have zx:h4.size<=hx.size:=by rw [hhx];omega
        have Kc:m1.length=21:=by rw [hm1];exact ml5
        have Er:∀ hh:i<m1.length,m1[i]=k:=by intro hh;subst hm1;exact hk.symm
        have Ke:∀ x∈m1,x = -1\/(0<=x/\x<96):=by rw [hm1];exact mr5
        have hw:iP M.read node a data i Xi mi=(0,{ X1 with now:=bZ X1.now k (dM (mH (dD X1.now k) data a (a+data.length) (128*i)) 16) },m1):=by rw [hk,hX1,hm1];exact hw
        rw [<-hk] at hkr;rw [<-hhx]
       all_goals
        have hi2:i<m1.length:=by omega
        (conv=>whnf);refine aX.i i rfl (by omega) rfl ?_;(conv=>whnf);refine ax.i (Ix.nth hi2) ?_;(conv=>whnf);rw [Er hi2];refine ak.i (Eo Ax k) λv h8 k8 hv=>?_;rw [if_pos (.inr hkr)] at hv;subst hv;have A8:=Ax.on k8;have I8:fD h8 b m1 sp:=k8.obj Ix (by simp);(conv=>whnf);refine aj.f rfl ?_;have ew:IntKind.i64.wrap ((i:Int)*128)=((128*i:Nat):Int):=wrapN (by omega) (by omega);have hia:a<128*i+128:=by omega
        have hie:128*i<a+data.length:=by omega
        have el:(if (0:Int)>IntKind.i64.wrap ((a:Int)-IntKind.i64.wrap ((i:Int)*128)) then (0:Int) else IntKind.i64.wrap ((a:Int)-IntKind.i64.wrap ((i:Int)*128)))=((a-128*i:Nat):Int):=by
         rw [ew,dR (x:=(a:Int)-((128*i:Nat):Int)) (by omega) (by omega)];split <;> omega
        have er:(if (128:Int)<IntKind.i64.wrap (((a+data.length:Nat):Int)-IntKind.i64.wrap ((i:Int)*128)) then (128:Int) else IntKind.i64.wrap (((a+data.length:Nat):Int)-IntKind.i64.wrap ((i:Int)*128)))=((min (a+data.length-128*i) 128:Nat):Int):=by
         rw [ew,dR (x:=((a+data.length:Nat):Int)-((128*i:Nat):Int)) (by omega) (by omega)];split <;> omega
        have hL:a-128*i<=min (a+data.length-128*i) 128:=by omega
        have d1:∀ x:Int,x=((a-128*i:Nat):Int)->IntKind.i64.wrap (IntKind.i64.wrap (IntKind.i64.wrap ((i:Int)*128)+x)-(a:Int))=((128*i+(a-128*i)-a:Nat):Int):=by
         rintro x rfl;rw [ew,wrapN (x:=((128*i:Nat):Int)+((a-128*i:Nat):Int)) (n:=128*i+(a-128*i)) (by omega) (by omega),wrapN (n:=128*i+(a-128*i)-a) (by omega) (by omega)]
        have d2:∀ x:Int,x=((min (a+data.length-128*i) 128:Nat):Int)->IntKind.i64.wrap (IntKind.i64.wrap (IntKind.i64.wrap ((i:Int)*128)+x)-(a:Int))=((128*i+min (a+data.length-128*i) 128-a:Nat):Int):=by
         rintro x rfl;rw [ew,wrapN (x:=((128*i:Nat):Int)+((min (a+data.length-128*i) 128:Nat):Int)) (n:=128*i+min (a+data.length-128*i) 128) (by omega) (by omega),wrapN (n:=128*i+min (a+data.length-128*i) 128-a) (by omega) (by omega)]
        have hbs:(ByteArray.mk (dD X1.now k).toArray).size=128:=by rw [kz,kZ]
        have hstr:(ByteArray.extract ⟨(dD X1.now k).toArray⟩ 0 (a-128*i)++ByteArray.extract ⟨data.toArray⟩ (128*i+(a-128*i)-a) (128*i+min (a+data.length-128*i) 128-a))++ByteArray.extract ⟨(dD X1.now k).toArray⟩ (min (a+data.length-128*i) 128) 128=⟨(mH (dD X1.now k) data a (a+data.length) (128*i)).toArray⟩:=by
         rw [qR,qR,qR,uD,uD];have t1:((dD X1.now k).take 128).drop (min (a+data.length-128*i) 128)=(dD X1.now k).drop (min (a+data.length-128*i) 128):=by rw [List.take_of_length_le (by rw [kZ];exact Nat.le_refl _)]
         have t2:(data.take (128*i+min (a+data.length-128*i) 128-a)).drop (128*i+(a-128*i)-a)=(data.drop (128*i+(a-128*i)-a)).take (min (a+data.length-128*i) 128-(a-128*i)):=by
          rw [List.drop_take];congr 1;omega
         rw [t1,t2,List.drop_zero];rfl
        have hwl:(mH (dD X1.now k) data a (a+data.length) (128*i)).length<=128:=by
         unfold mH;simp only [List.length_append,List.length_take,List.length_drop,kZ];omega
        (conv=>whnf);refine aX.i i rfl (by omega) rfl ?_;(conv=>whnf);refine ax.i (I8.nth hi2) ?_;(conv=>whnf);refine dw.i 0 (a-128*i) rfl el (Nat.zero_le _) (by rw [hbs];omega) ?_;(conv=>whnf);refine dw.i (128*i+(a-128*i)-a) (128*i+min (a+data.length-128*i) 128-a) (d1 _ el) (d2 _ er) (by omega) (by rw [hdl];omega) ?_;(conv=>whnf);refine dL.i (by rw [ByteArray.size_extract,ByteArray.size_extract,hbs,hdl];omega) ?_;(conv=>whnf);refine dw.i (min (a+data.length-128*i) 128) 128 er (by rw [hbs]) (by omega) (by rw [hbs];exact Nat.le_refl _) ?_;(conv=>whnf);refine dL.i (by rw [ByteArray.size_append,ByteArray.size_extract,ByteArray.size_extract,ByteArray.size_extract,hbs,hdl];omega) ?_;(conv=>whnf);rw [hstr,Er hi2];refine ak.m (J9 A8 k ⟨(mH (dD X1.now k) data a (a+data.length) (128*i)).toArray⟩ (by rw [kz];exact hwl)) uz λv h9 k9 hv=>?_;obtain ⟨rfl,A9⟩:=hv;rw [if_pos hkr] at A9;rw [if_pos hkr];(conv=>whnf);refine aj.f rfl ?_;(conv=>whnf);refine ⟨N0-(i+1),by omega,?_⟩;(conv=>whnf);rw [hw] at iD;simp only [if_true] at iD;have z8:=k8.size;have z9:=k9.size;exact ⟨(i+1,{ X1 with now:=bZ X1.now k (dM (mH (dD X1.now k) data a (a+data.length) (128*i)) 16) },m1),rfl,by simp only;rw [wrapN (x:=(i:Int)+1) (n:=i+1) (by simp) (by omega)],rfl,by simp only;omega,by simp only;omega,(qW.bS k8).trans k9,by omega,k9.obj I8 (by simp;omega),Kc,Ke,A9,iD⟩
      ·have hi1:i=N0:=by simp at hc;omega
       subst hi1;rw [Nat.sub_self] at iD;have hR0:R=(0,Xi,mi):=iD;rw [hR0];simp only [if_true];have SM:=I6.sl (n:=21) (cap:=cap) (λx hx=>by have:=mr5 x hx;unfold inI64;omega) ml5.symm hcap (by omega);(conv=>whnf);refine aK.i λh7 s7 k7=>?_;have Ep:Keeps [V.ob] h h7:=k06.m1 k7 (by omega);have A7:=A6.keep k7 (λy hy=>by simpa using (nv y hy).1);have SM7:=SM.je k7 (by simp [ay];omega);(conv=>whnf);have em:(if ((a+data.length:Nat):Int)>c.size then ((a+data.length:Nat):Int) else c.size)=max c.size ((a:Int)+(data.length:Int)):=by
        rw [R7];simp
       rw [em];refine ak.m (Au A7 node { c with size:=max c.size ((a:Int)+(data.length:Int)) } SM7 (by simp [ay];omega)) uz λv h8 k8 hv=>?_;obtain ⟨rfl,A8⟩:=hv;(conv=>whnf);refine aK.i λh9 s9 k9=>?_;(conv=>whnf);have z7:h7.size=h6.size:=s7;exact ⟨(Ep.trans k8).m1 k9 (by omega),rfl,A8.keep k9 (λy hy=>by simpa using (nv y hy).2)⟩
def kL (z:Nat)(size:Int)(i:Nat)(X:VS)(m:List Int):Int×VS×List Int:=
 if m[i]?.getD 0 = -1\/size<=(z:Int)\/128*i+128<=z then (0,X,m)
 else if z<=128*i then ((fQ X (m[i]?.getD 0)).1,(fQ X (m[i]?.getD 0)).2,m.set i (-1))
 else (0,{ X with now:=bZ X.now (m[i]?.getD 0) (dM ((dD X.now (m[i]?.getD 0)).take (z-128*i)) 16) },m)
def lC (z:Nat)(size:Int):Nat->Nat->VS->List Int->Int×VS×List Int
 | 0,_,X,m=>(0,X,m)
 | f+1,i,X,m=>if (kL z size i X m).1=0 then lC z size f (i+1) (kL z size i X m).2.1 (kL z size i X m).2.2 else kL z size i X m
def ja (B:Int->UInt64)(X:VS)(node:Int)(c:aA)(size:Int):aA×Int×VS:=
 if ¬ (0<=node/\node<24)\/size<0 then (aA.zero,1,X)
 else if 2688<size then (aA.zero,10,X)
 else match mapOf X.now c with
  | none=>(aA.zero,15,X)
  | some m=>
   let r:=lC size.toNat c.size 21 0 X m
   if r.1=0 then eH B r.2.1 node { c with size:=size } r.2.2 else (aA.zero,r.1,r.2.1)
theorem J8 {h:Heap}{V:VL}{M:aS}{X:VS}(A:At h V M X)(node:Int)(c:aA)(hc:c.ok)(hm:mO X.now c)(size:Int) :
 aC Tryz.prog 91 [.pointer (some ⟨V.v,0,none⟩),.int .i64 node,.agg ⟨c.cells⟩,.int .i64 size] h (λv h'=>Keeps [V.ob] h h' /\
  v=.tuple #[.agg ⟨(ja M.read X node c size).1.cells⟩,.int .i64 (ja M.read X node c size).2.1]/\At h' V M (ja M.read X node c size).2.2):=by
 have qM:=A.blt V.ob (by simp [VL.blocks]);refine aG aH Tryz.func91 rfl ok91 (by simp [Tryz.f91]) ?_;(conv=>whnf);refine aL.i λb1 h1 e1 s1 o1 k1=>?_;(conv=>whnf);refine aL.i λb2 h2 e2 s2 o2 k2=>?_;(conv=>whnf);refine ak.i (El node h2) λv h3 k3 hv=>?_;subst hv;have k03:=k1.trans (k2.trans k3);have z3:=k3.size;have nv:∀ b∈V.blocks,b≠b1/\b≠b2:=λb hb=>by have:=A.blt b hb;omega
 (conv=>whnf);(try refine aV.pass ?_;conv=>whnf);refine aj.i (λhq=>?_) (λhq=>?_)
 ·have hb:¬ (0<=node/\node<24)\/size<0:=by
   by_cases hn:0<=node/\node<24
   ·rw [if_pos hn] at hq;simp [dm] at hq;exact .inr hq
   ·exact .inl hn
  (conv=>whnf);refine aK.i λh4 s4 k4=>?_;(conv=>whnf);unfold ja;rw [if_pos hb];exact ⟨(k03.new1 k4 (by omega)).mono (by simp),rfl,A.on (k03.new1 k4 (by omega))⟩
 ·have hb:¬ (¬ (0<=node/\node<24)\/size<0):=by
   by_cases hn:0<=node/\node<24
   ·rw [if_pos hn] at hq;simp [dm] at hq;omega
   ·rw [if_neg hn] at hq;simp [dm] at hq
  (conv=>whnf);refine aj.i (λhr=>?_) (λhr=>?_)
  ·have hs:2688<size:=by simpa using hr
   (conv=>whnf);refine aK.i λh4 s4 k4=>?_;(conv=>whnf);unfold ja;rw [if_neg hb,if_pos hs];exact ⟨(k03.new1 k4 (by omega)).mono (by simp),rfl,A.on (k03.new1 k4 (by omega))⟩
  ·have hs:¬ 2688<size:=by simpa using hr
   (conv=>whnf);refine ak.i (xV (A.on k03) c hc) λv h4 k4 hv=>?_;have k04:=k03.trans k4;have z4:=k4.size;have yu:ja M.read X node c size=match mapOf X.now c with
    | none=>(aA.zero,15,X)
    | some m=>if (lC size.toNat c.size 21 0 X m).1=0 then eH M.read (lC size.toNat c.size 21 0 X m).2.1 node { c with size:=size } (lC size.toNat c.size 21 0 X m).2.2 else (aA.zero,(lC size.toNat c.size 21 0 X m).1,(lC size.toNat c.size 21 0 X m).2.1):=by
    unfold ja;rw [if_neg hb,if_neg hs]
   rw [yu];clear yu;cases hmo:mapOf X.now c with
   | none=>
    rw [hmo] at hv;simp only at hv;subst hv;(conv=>whnf);(try refine aV.pass ?_;conv=>whnf);refine aj.t rfl ?_;(conv=>whnf);refine aK.i λh5 s5 k5=>?_;(conv=>whnf);exact ⟨(k04.new1 k5 (by omega)).mono (by simp),rfl,A.on (k04.new1 k5 (by omega))⟩
   | some m0=>
    rw [hmo] at hv;simp only at hv;obtain ⟨b,cap,sp,rfl,I4,hb4,hcap⟩:=hv;have hml:=vL hmo;have hmr:=hm m0 hmo;obtain ⟨z,rfl⟩:∃ z:Nat,size=(z:Int):=⟨size.toNat,by omega⟩;rw [show ((z:Int)).toNat=z by omega];simp only;generalize hR:lC z c.size 21 0 X m0=R;have hbl:b<h4.size:=eU I4;have uz:∀ y∈au [(6,b1,c.cells),(8,b2,aA.zero.cells)],y∉[V.ob]:=by
     intro y hy hx;have hy2:y∈[b1,b2]:=hy;simp at hy2 hx;omega
    have Em:∀ y∈V.blocks,y≠b:=λy hy=>by have:=A.blt y hy;omega
    (conv=>whnf);(try refine aV.pass ?_;conv=>whnf);refine aj.f rfl ?_;(conv=>whnf);refine bP.on [0,1,3,6,8,11,12,42,43,44] [6,8] (λq:Nat×VS×List Int=>[(0,.v (.pointer (some ⟨V.v,0,none⟩))),(1,.v (.int .i64 node)),(3,.v (.int .i64 (z:Int))),(6,.lp 6 0),(8,.lp 8 0),(11,.v (.slice (some ⟨b,0,none⟩) 21 cap)),(12,.v (.int .i64 0)),(43,.v (.int .i64 21)),(44,.v (.int .i64 (q.1:Int)))])
     (λ_=>[(6,b1,c.cells),(8,b2,aA.zero.cells)]) (λq h'=>q.1<=21/\Keeps [V.ob] h h'/\h4.size<=h'.size/\fD h' b q.2.2 sp/\q.2.2.length=21/\(∀ x∈q.2.2,x = -1\/(0<=x/\x<96))/\At h' V M q.2.1/\R=lC z c.size (21-q.1) q.1 q.2.1 q.2.2) (λq=>21-q.1) (0,X,m0) ?_ ?_
    ·(conv=>whnf);exact ⟨(0,X,m0),rfl,rfl,rfl,Nat.zero_le _,k04.mono (by simp),Nat.le_refl _,I4,hml,hmr,A.on k04,hR.symm⟩
    ·rintro ⟨i,Xi,mi⟩ h5 ⟨hi,k5,z5,I5,ml5,mr5,A5,iD⟩;simp only at hi I5 ml5 mr5 A5 iD;(conv=>whnf);refine aj.i (λhc2=>?_) (λhc2=>?_)
     ·have hi1:i<21:=by simp at hc2;omega
      have him:i<mi.length:=by omega
      have hgi:mi[i]?.getD 0=mi[i]:=by simp [him]
      have hstep:lC z c.size (21-i) i Xi mi=if (kL z c.size i Xi mi).1=0 then lC z c.size (21-(i+1)) (i+1) (kL z c.size i Xi mi).2.1 (kL z c.size i Xi mi).2.2 else kL z c.size i Xi mi:=by
       rw [show 21-i=(21-(i+1))+1 by omega];rfl
      rw [hstep] at iD;clear hstep;have ew:IntKind.i64.wrap ((i:Int)*128)=((128*i:Nat):Int):=wrapN (by omega) (by omega);have ew2:IntKind.i64.wrap (((128*i:Nat):Int)+128)=((128*i+128:Nat):Int):=wrapN (by omega) (by omega);(conv=>whnf);(try refine aV.pass ?_;conv=>whnf);refine aX.i i rfl (by omega) rfl ?_;(conv=>whnf);refine ax.i (I5.nth him) ?_;(conv=>whnf);refine ak.i (vV _ h5) λv h6 k6 hv=>?_;subst hv;have A6:=A5.on k6;have k06:=k5.bS k6;have I6:fD h6 b mi sp:=k6.obj I5 (by simp);have z6:=k6.size;(conv=>whnf);refine aj.i (λhu=>?_) (λhu=>?_)
      ·have yw:mi[i]?.getD 0 = -1\/c.size<=(z:Int)\/128*i+128<=z:=by
        rw [hgi];by_cases h1:mi[i] = -1
        ·exact .inl h1
        ·rw [jE.2 h1,ew,ew2] at hu;simp [dm] at hu;omega
       (conv=>whnf);refine ⟨21-(i+1),by omega,?_⟩;(conv=>whnf);unfold kL at iD;rw [if_pos yw] at iD;simp only [if_true] at iD;exact ⟨(i+1,Xi,mi),rfl,by simp only;rw [wrapN (x:=(i:Int)+1) (n:=i+1) (by simp) (by omega)],rfl,by simp only;omega,k06,by omega,I6,ml5,mr5,A6,iD⟩
      ·have yw:¬ (mi[i]?.getD 0 = -1\/c.size<=(z:Int)\/128*i+128<=z):=by
        rw [hgi];by_cases h1:mi[i] = -1
        ·rw [AQ.2 h1] at hu;simp [dm] at hu
        ·rw [jE.2 h1,ew,ew2] at hu;simp [dm] at hu;omega
       have hu1:¬ mi[i] = -1:=λh=>yw (.inl (by rw [hgi];exact h));have hkr:0<=mi[i]/\mi[i]<96:=(mr5 _ (List.getElem_mem him)).resolve_left hu1;(conv=>whnf);(try refine aV.pass ?_;conv=>whnf);refine aj.i (λhx=>?_) (λhx=>?_)
       ·have hge:z<=128*i:=by rw [ew] at hx;simp at hx;omega
        have hw:kL z c.size i Xi mi=((fQ Xi mi[i]).1,(fQ Xi mi[i]).2,mi.set i (-1)):=by
         unfold kL;rw [if_neg yw,if_pos hge,hgi]
        rw [hw] at iD;(conv=>whnf);refine aX.i i rfl (by omega) rfl ?_;(conv=>whnf);refine ax.i (I6.nth him) ?_;(conv=>whnf);refine ak.m (En A6 mi[i]) uz λv h7 k7 hv=>?_;obtain ⟨rfl,A7⟩:=hv;have z7:=k7.size;have I7:fD h7 b mi sp:=k7.obj I6 (by simp;omega);(conv=>whnf);refine aX.i i rfl (by omega) rfl ?_;(conv=>whnf);refine dN.i I7 ?_ (by intro hx;have hx2:b∈[b1,b2]:=hx;simp at hx2;omega) λh8 s8 o8 k8=>?_
        ·show 0+i*1+1<=_;simp;omega
        have I8:fD h8 b (mi.set i (-1)) sp:=by
         unfold fD;rw [<-ints_set him];exact o8
        have A8:=A7.keep k8 (λy hy=>by simpa using Em y hy);have k08:Keeps [V.ob] h h8:=(k06.trans k7).m1 k8 (by omega);(conv=>whnf);(try refine aV.pass ?_;conv=>whnf);refine aj.i (λhy=>?_) (λhy=>?_)
        ·have ht:¬ (fQ Xi mi[i]).1=0:=by simpa using hy
         simp only [if_neg ht] at iD;subst iD;(conv=>whnf);refine aK.i λh9 s9 k9=>?_;(conv=>whnf);simp only [if_neg ht];exact ⟨k08.m1 k9 (by omega),rfl,A8.keep k9 (λy hy=>by simpa using (nv y hy).2)⟩
        ·have ht:(fQ Xi mi[i]).1=0:=by simpa using hy
         simp only [ht,if_true] at iD;(conv=>whnf);refine ⟨21-(i+1),by omega,?_⟩;(conv=>whnf);refine ⟨(i+1,(fQ Xi mi[i]).2,mi.set i (-1)),rfl,?_,rfl,by simp only;omega,k08,by omega,I8,by simp [ml5],λx hx=>?_,A8,iD⟩
         ·simp only;rw [wrapN (x:=(i:Int)+1) (n:=i+1) (by simp) (by omega),ht]
         ·rcases List.mem_or_eq_of_mem_set hx with h|h
          ·exact mr5 x h
          ·exact .inl h
       ·have hge:¬ z<=128*i:=by rw [ew] at hx;simp at hx;omega
        have hw:kL z c.size i Xi mi=(0,{ Xi with now:=bZ Xi.now mi[i] (dM ((dD Xi.now mi[i]).take (z-128*i)) 16) },mi):=by
         unfold kL;rw [if_neg yw,if_neg hge,hgi]
        rw [hw] at iD;simp only [if_true] at iD;(conv=>whnf);refine aX.i i rfl (by omega) rfl ?_;(conv=>whnf);refine ax.i (I6.nth him) ?_;(conv=>whnf);refine ak.i (Eo A6 mi[i]) λv h7 k7 hv=>?_;rw [if_pos (.inr hkr)] at hv;subst hv;have A7:=A6.on k7;have z7:=k7.size;have I7:fD h7 b mi sp:=k7.obj I6 (by simp);(conv=>whnf);(try refine aV.pass ?_;conv=>whnf);refine aj.t rfl ?_;(conv=>whnf);refine aX.i i rfl (by omega) rfl ?_;(conv=>whnf);refine ax.i (I7.nth him) ?_;have hz1:z<128*i+128:=by omega
        have er:IntKind.i64.wrap ((z:Int)-IntKind.i64.wrap ((i:Int)*128))=((z-128*i:Nat):Int):=by
         rw [ew,wrapN (n:=z-128*i) (by omega) (by omega)]
        (conv=>whnf);refine dw.i 0 (z-128*i) rfl er (Nat.zero_le _) (by rw [kz,kZ];omega) ?_;(conv=>whnf);rw [qR,List.drop_zero];refine ak.m (J9 A7 mi[i] ⟨((dD Xi.now mi[i]).take (z-128*i)).toArray⟩ (by rw [kz,List.length_take];omega)) uz λv h8 k8 hv=>?_;obtain ⟨rfl,A8⟩:=hv;rw [if_pos hkr] at A8;rw [if_pos hkr];(conv=>whnf);(try refine aV.pass ?_;conv=>whnf);refine aj.f rfl ?_;(conv=>whnf);refine ⟨21-(i+1),by omega,?_⟩;(conv=>whnf);have z8:=k8.size;exact ⟨(i+1,{ Xi with now:=bZ Xi.now mi[i] (dM ((dD Xi.now mi[i]).take (z-128*i)) 16) },mi),rfl,by simp only;rw [wrapN (x:=(i:Int)+1) (n:=i+1) (by simp) (by omega)],rfl,by simp only;omega,(k06.bS k7).trans k8,by omega,k8.obj I7 (by simp;omega),ml5,mr5,A8,iD⟩
     ·have hi1:i=21:=by simp at hc2;omega
      subst hi1;have hR0:R=(0,Xi,mi):=iD;rw [hR0];simp only [if_true];have SM:=I5.sl (n:=21) (cap:=cap) (λx hx=>by have:=mr5 x hx;unfold inI64;omega) ml5.symm hcap (by omega);(conv=>whnf);refine aK.i λh7 s7 k7=>?_;have Ep:Keeps [V.ob] h h7:=k5.m1 k7 (by omega);have A7:=A5.keep k7 (λy hy=>by simpa using (nv y hy).1);have SM7:=SM.je k7 (by simp [ay];omega);(conv=>whnf);refine ak.m (Au A7 node { c with size:=(z:Int) } SM7 (by simp [ay];omega)) uz λv h8 k8 hv=>?_;obtain ⟨rfl,A8⟩:=hv;(conv=>whnf);refine aK.i λh9 s9 k9=>?_;(conv=>whnf);exact ⟨(Ep.trans k8).m1 k9 (by omega),rfl,A8.keep k9 (λy hy=>by simpa using (nv y hy).2)⟩
end Go.Proofs.YtoociceebodfeaaGreatDoor
namespace Go.aN
open Go
def wJ (P:Program)(eq:TypeId->Value->Value->Option Bool)(xs ys:List Value):List Field->Option Bool
 | []=>some true
 | f :: fs => (match decide (f.name = "_") with
  | true=>wJ P eq xs ys fs
  | false=>(match uQ P f.type xs f.offset,uQ P f.type ys f.offset with
   | some a,some b=>(match eq f.type a b,wJ P eq xs ys fs with
    | some r,some s=>some (r&&s)
    | _,_=>none)
   | _,_=>none))
def y9 (P:Program)(eq:TypeId->Value->Value->Option Bool)(e:TypeId)(c:Nat)(xs ys:List Value):List Nat->Option Bool
 | []=>some true
 | i::is=>(match uQ P e xs (i*c),uQ P e ys (i*c) with
  | some a,some b=>(match eq e a b,y9 P eq e c xs ys is with
   | some r,some s=>some (r&&s)
   | _,_=>none)
  | _,_=>none)
def mP (P:Program):Nat->TypeId->Value->Value->Option Bool
 | 0,_,_,_=>none
 | d+1,t,a,b=>(match P.underlying t,a,b with
  | some (.int _),.int k x,.int k' y=>(match k==k' with | true=>some (x==y) | false=>none)
  | some .bool,.bool x,.bool y=>some (x==y)
  | some .string,.string x,.string y=>some (x.toList==y.toList)
  | some (.struct fs),.agg ⟨xs⟩,.agg ⟨ys⟩=>(match P.stoodInHeld t with | false=>wJ P (mP P d) xs ys fs.toList | true=>none)
  | some (.array n e),.agg ⟨xs⟩,.agg ⟨ys⟩=>(match P.info? e with | some _=>y9 P (mP P d) e (P.cellsOf e) xs ys (List.range n) | none=>none)
  | _,_,_=>none)
theorem FP {P:Program}{d:Nat}{eq:TypeId->Value->Value->Option Bool}(heq:∀ t a b r (w:World),eq t a b=some r->(Op.equalIn d t a b).run P w=.ok r w)(xs ys:List Value)(w:World) :
 ∀ (fs:List Field) (r:Bool),wJ P eq xs ys fs=some r->(Op.eqFields d ⟨xs⟩ ⟨ys⟩ fs).run P w=.ok r w
 | [],r,h=>by simp [wJ] at h;subst h;simp [Op.eqFields]
 | f::fs,r,h=>by
  simp only [wJ] at h;split at h
  ·rename_i hn
   have hn' : f.name = "_" := by simpa using hn
   simp only [Op.eqFields,hn',ne_eq,not_true_eq_false,if_false];exact FP heq xs ys w fs r h
  ·rename_i hn
   have hn' : ¬ f.name = "_" := by simpa using hn
   split at h
   ·rename_i a b ha hb;split at h
    ·rename_i r1 s1 hr hs;simp at h;subst h;have h1:=yT ha w;have h2:=yT hb w;have h3:=heq _ _ _ _ w hr;have h4:=FP heq xs ys w fs s1 hs;simp only [Op.eqFields,hn',ne_eq,not_false_eq_true,if_true,Sem.run_bind,h1,h2,h3,Result.andThen_ok];cases r1
     ·simp
     ·simpa using h4
    ·cases h
   ·cases h
theorem LK {P:Program}{d:Nat}{eq:TypeId->Value->Value->Option Bool}(heq:∀ t a b r (w:World),eq t a b=some r->(Op.equalIn d t a b).run P w=.ok r w)(e:TypeId)(c:Nat)(xs ys:List Value)(w:World) :
 ∀ (is:List Nat) (r:Bool),y9 P eq e c xs ys is=some r->(Op.eqItems d e c ⟨xs⟩ ⟨ys⟩ is).run P w=.ok r w
 | [],r,h=>by simp [y9] at h;subst h;simp [Op.eqItems]
 | i::is,r,h=>by
  simp only [y9] at h;split at h
  ·rename_i a b ha hb;split at h
   ·rename_i r1 s1 hr hs;simp at h;subst h;have h1:=yT ha w;have h2:=yT hb w;have h3:=heq _ _ _ _ w hr;have h4:=LK heq e c xs ys w is s1 hs;simp only [Op.eqItems,Sem.run_bind,h1,h2,h3,Result.andThen_ok];cases r1
    ·simp
    ·simpa using h4
   ·cases h
  ·cases h
theorem FQ {P:Program}:∀ (d:Nat) (t:TypeId) (a b:Value) (r:Bool) (w:World),mP P d t a b=some r->(Op.equalIn d t a b).run P w=.ok r w
 | 0,t,a,b,r,w,h=>by cases h
 | d+1,t,a,b,r,w,h=>by
  have ih:=λt a b r w h=>FQ (P:=P) d t a b r w h;unfold mP at h;split at h
  ·rename_i k0 k1 x k2 y hu;split at h
   ·rename_i hk;have:k1=k2:=by simpa using hk
    subst this;simp at h;subst h;exact run_equalIn_int w d t k1 _ _ _ hu
   ·cases h
  ·rename_i hu;simp at h;subst h;exact run_equalIn_bool w d t _ _ hu
  ·rename_i hu;simp at h;subst h;exact run_equalIn_string w d t _ _ hu
  ·rename_i fs xs ys hu;split at h
   ·rename_i hs;have hf:P.fieldsOf t=fs:=by unfold Program.fieldsOf;rw [hu]
    rw [run_equalIn_agg w d t ⟨xs⟩ ⟨ys⟩ (by rw [hf];exact hu) hs,hf];exact FP ih xs ys w _ r h
   ·cases h
  ·rename_i n e xs ys hu;split at h
   ·rename_i i hi;rw [run_equalIn_array w d ⟨xs⟩ ⟨ys⟩ hu hi];exact LK ih e (P.cellsOf e) xs ys w _ r h
   ·cases h
  ·cases h
theorem gJ.w9 {P:Program}{c:Option Bool}{t:TypeId}{x y:Operand}{xs ys:List Value}{r:Bool}{K:Value->Prop}(hm:P.eqGuardType P.depth t=false)(he:mP P 10000 t (.agg ⟨xs⟩) (.agg ⟨ys⟩)=some r)(hK:K (.bool r)) :
 gJ c P (do eqGuard .eql t x y (.agg ⟨xs⟩) (.agg ⟨ys⟩);binOp .eql t (.agg ⟨xs⟩) (.agg ⟨ys⟩):Sem Value) K:=by
 refine gJ.i (λw=>?_) hK;rw [Sem.run_bind,run_eqGuard_agg _ _ _ _ _ _ _ hm];simp only [Result.andThen_ok];rw [run_eql_struct,FQ _ _ _ _ _ w he];rfl
end Go.aN
namespace Go.Proofs.YtoociceebodfeaaGreatDoor
open Go Go.aN
def gu (v:UInt64):aA:=⟨0,0,0,v,-1,-1,-1,-1,-1,-1⟩
def cB (kind:Int)(v:UInt64):aA:={ gu v with kind:=kind,links:=1 }
def lV (n:Int):Bool:=decide (-1<=n)&&decide (n<96)
def fV (c:aA):Bool:=
 if c.kind=0 then decide (c=gu c.dU)
 else c.direct.all lV&&(decide (1<=c.kind)&&decide (c.kind<=3)&&decide (0<=c.links)&&decide (c.links<=255)&&decide (0<=c.size)&&decide (c.size<=2688)&&lV c.more)
theorem RY {a b:aA}:a.cells=b.cells↔a=b:=by
 constructor
 ·intro h;obtain ⟨a1,a2,a3,a4,a5,a6,a7,a8,a9,a10⟩:=a;obtain ⟨b1,b2,b3,b4,b5,b6,b7,b8,b9,b10⟩:=b;simp only [aA.cells,List.cons.injEq,Value.int.injEq,true_and,and_true,RZ] at h;obtain ⟨rfl,rfl,rfl,rfl,rfl,rfl,rfl,rfl,rfl,rfl⟩:=h;rfl
 ·rintro rfl;rfl
theorem R6 (a b:aA):mP Tryz.prog 10000 67 (.agg ⟨a.cells⟩) (.agg ⟨b.cells⟩)=some (decide (a=b)):=by
 have h:mP Tryz.prog 10000 67 (.agg ⟨a.cells⟩) (.agg ⟨b.cells⟩)=some ((a.kind==b.kind)&&((a.links==b.links)&&((a.size==b.size)&&(((a.dU.toNat:Int)==(b.dU.toNat:Int))&&(((a.d0==b.d0)&&((a.d1==b.d1)&&((a.d2==b.d2)&&((a.d3==b.d3)&&((a.d4==b.d4)&&true)))))&&((a.more==b.more)&&true)))))):=rfl;rw [h]
 congr 1
 rw [Bool.eq_iff_iff];simp only [Bool.and_eq_true,beq_iff_eq,decide_eq_true_eq,Bool.and_true]
 constructor
 ·rintro ⟨h1,h2,h3,h4,⟨h5,h6,h7,h8,h9⟩,h10⟩;rw [<-RY];simp only [aA.cells,wv,h1,h2,h3,h4,h5,h6,h7,h8,h9,h10]
 ·rintro rfl;simp
structure AO where
 at_:Int
 v:UInt64
instance:Rp AO where
 n:=2
 iA _ vs x:=vs=[.int .i64 x.at_,wv x.v]/\inI64 x.at_
 len h:=by rw [h.1];rfl
 keep _ h:=h
instance:Flat AO:=⟨λh=>h⟩
theorem RX (h:Heap):aC Tryz.prog 140 [] h (λv h'=>Keeps [] h h'/\∃ b,v=.slice (some ⟨b,0,none⟩) 8 8/\h.size<=b/\b<h'.size/\h'[b]?=some (.cells ⟨([7021221306412823411,2824,0,0,0,0,0,0]:List UInt64).map wv⟩ 46 (0,0))):=by
 refine aG aH Tryz.func140 rfl ok140 (by simp [Tryz.f140]) ?_;(conv=>whnf);refine aW.make (n:=8) rfl rfl rfl rfl rfl (by decide) (by decide) λb1 h1 e1 s1 o1 k1=>?_;(conv=>whnf);refine ak.i (Ej h1) λv h2 k2 hv=>?_;subst hv;have o2:=k2.obj o1 (by simp);(conv=>whnf);refine aX.i 0 rfl (by decide) rfl ?_;(conv=>whnf);refine dN.i o2 (Nat.le_of_ble_eq_true rfl) (by simp [au]) λh3 s3 o3 k3=>?_;(conv=>whnf);refine aX.i 1 rfl (by decide) rfl ?_;(conv=>whnf);refine dN.i o3 (Nat.le_of_ble_eq_true rfl) (by simp [au]) λh4 s4 o4 k4=>?_;(conv=>whnf);have z2:=k2.size;exact ⟨((k1.trans k2).new1 k3 (by omega)).new1 k4 (by omega),b1,rfl,by omega,by omega,o4⟩
def Ei (h:Heap)(p:Nat)(ws:List UInt64):Prop:=∃ a n c,Heap.cell? h p 1=some (.slice a n c)/\Sl h a n c ws
theorem Ei.on {h h':Heap}{p:Nat}{ws:List UInt64}(R:Ei h p ws)(k:Keeps [] h h'):Ei h' p ws:=by
 obtain ⟨a,n,c,h1,h2⟩:=R;exact ⟨a,n,c,k.cell h1 (by simp),h2.keep k⟩
theorem RU {h:Heap}{a:Option Addr}{len cap:Nat}{l:List Int}(O:Own h 3 1 a len cap (l.map λx=>.int .i64 x))(hl:len=l.length)(hb:l.length<=1000){b:Nat}{x:Int}(o:h[b]?=some (.cells ⟨[.int .i64 x]⟩ 3 (0,0))){bs:List Nat}(hbs:∀ b∈ay a,b∉bs){ty:TypeId}{K:Value->Heap->Prop}
 (H:∀ a' cap' h',Own h' 3 1 a' (len+1) cap' ((l++[x]).map λx=>.int .i64 x)->Keeps (ay a) h h'->(∀ b∈ay a',b∈ay a\/h.size<=b)->K (.slice a' (len+1) cap') h') :
 aW Tryz.prog (Builtin.append_ #[70,70] ty ⟨[.slice a len cap,.slice (some ⟨b,0,none⟩) 1 1]⟩) bs h K:=by
 refine jO (e:=3) (sz:=1) (aQ:=8) (new:=[.int .i64 x]) rfl rfl rfl rfl rfl rfl rfl O rfl (λj hj=>?_) rfl (by omega) (by decide) hbs ?_
 ·have hj0:j=0:=by simpa using hj
  subst hj0;simp only [Heap.cell?,o];rfl
 intro a' c' h' O' k' n';exact H a' c' h' (by rw [List.map_append];exact O') k' n'
def b0 (i:Int):UInt64:=if 0<=i/\i<2824 then (if i=0 then 7021221306412823411 else if i=1 then 2824 else 0) else 0
def c1:aA:=⟨1,1,702,1,-1,-1,-1,-1,-1,1⟩
end Go.Proofs.YtoociceebodfeaaGreatDoor
namespace Go.Proofs.YtoociceebodfeaaGreatDoor
open Go Go.aN Go.RowKit
section
variable {H:Type} {enc:TypeId×Value->H} {W:World} {sp:Nat->Bool} {held:Bool}
end
end Go.Proofs.YtoociceebodfeaaGreatDoor
namespace Go.Proofs.YtoociceebodfeaaGreatDoor
open Go Go.aN
theorem JN {n:Int}(h : -1<=n/\n<96):iH (w64 (n+1))=n/\(w64 (n+1)).toNat<=96:=by
 have:=qJ (n+1);unfold iH;omega
theorem RH (f:Int->UInt64)(k:Int){ws:List UInt64}(h:ws.length=16):dB (bZ f k ws) k=ws:=by
 unfold dB bW bZ lg kG;apply List.ext_getElem
 ·simp [h]
 ·intro i h1 h2;simp only [List.length_map,List.length_range] at h1;simp only [h,Nat.sub_self,List.replicate_zero,List.append_nil,List.getElem_map,List.getElem_range];rw [if_pos (by omega)];have:(1288+k*16+(i:Int)-(1288+k*16)).toNat=i:=by omega
  rw [this];simp [h2]
theorem JM:∀ {l:List Int},(∀ x∈l,-1<=x/\x<96)->(l.map λn=>w64 (n+1)).map iH=l
 | [],_=>rfl
 | x::l,h=>by
  simp only [List.map_cons];rw [(JN (h x (by simp))).1,JM (λy hy=>h y (by simp [hy]))]
theorem _root_.Go.aN.Sl.lt {h:Heap}{a:Option Addr}{n c:Nat}{m:List Int}(T:Sl h a n c m)(hn:0<n):∀ b∈ay a,b<h.size:=by
 have hl:=T.hlen;obtain ⟨b,o,hb,_,hc⟩:=T.at1 0 (by omega);intro x hx;rw [hb] at hx;simp [ay] at hx;subst hx;exact vU hc
theorem oO (l:List UInt8)(n:Nat):(dM l n).length=n:=by simp [dM]
theorem Dj {ws:List UInt64}(h:ws.length<=16):(lg ws).length=16:=by simp [lg];omega
theorem QW (f:Int->UInt64)(a:Int)(n:Nat):(bW f a n).length=n:=by simp [bW]
theorem J5 {f g:Int->UInt64}{a:Int}{n:Nat}(h:∀ i:Nat,i<n->f (a+(i:Int))=g (a+(i:Int))):bW f a n=bW g a n:=by
 unfold bW;exact List.map_congr_left λi hi=>h i (by simpa using hi)
theorem J6 {f:Int->UInt64}{k:Int}{ws:List UInt64}(h:ws.length<=16){x:Int}(hx:x<1288+k*16\/1288+k*16+16<=x):bZ f k ws x=f x:=by
 unfold bZ kG;rw [Dj h,if_neg (by omega)]
theorem Dw {f:Int->UInt64}{k:Int}{ws:List UInt64}(h:ws.length<=16):bW (bZ f k ws) (1288+k*16) 16=lg ws:=by
 have hl:=Dj h;unfold bW bZ kG;rw [hl];apply List.ext_getElem
 ·simp [hl]
 ·intro i h1 h2;simp only [List.length_map,List.length_range] at h1;simp only [List.getElem_map,List.getElem_range];rw [if_pos (by omega)];have:(1288+k*16+(i:Int)-(1288+k*16)).toNat=i:=by omega
  rw [this];simp [h2]
theorem rU {f:Int->UInt64}{k k':Int}{ws:List UInt64}(h:ws.length<=16)(hk:k≠k'):bW (bZ f k ws) (1288+k'*16) 16=bW f (1288+k'*16) 16:=
 J5 λi hi=>J6 h (by omega)
theorem xD {f:Int->UInt64}{k:Int}{ws:List UInt64}(h:ws.length<=16)(hk:0<=k){j:Int}(hj:j<96):bZ f k ws (200+j)=f (200+j):=J6 h (by omega)
theorem yj {f:Int->UInt64}{j:Int}{w:UInt64}(hj:j<96){k:Int}(hk:0<=k):bW (upd f (200+j) w) (1288+k*16) 16=bW f (1288+k*16) 16:=
 J5 λi hi=>by unfold upd;rw [if_neg (by omega)]
theorem RS {f:Int->UInt64}{k k':Int}{ws:List UInt64}(h:ws.length<=16)(hk:k≠k'):dD (bZ f k ws) k'=dD f k':=by
 unfold dD;rw [rU h hk]
theorem RQ {f:Int->UInt64}{j:Int}{w:UInt64}(hj:j<96){k:Int}(hk:k = -1\/0<=k):dD (upd f (200+j) w) k=dD f k:=by
 unfold dD;split
 ·rfl
 ·rw [yj hj (by omega)]
theorem J4 {f:Int->UInt64}{k k':Int}{ws:List UInt64}(h:ws.length<=16)(hk:k≠k'):dB (bZ f k ws) k'=dB f k':=rU h hk
theorem J7:∀ (l:List UInt8) (j:Nat),iQ l/256 ^ j%256=(l[j]?.getD 0).toNat
 | [],j=>by simp [iQ]
 | b::r,0=>by
  have:=b.toNat_lt;simp [iQ]
 | b::r,j+1=>by
  have hb:=b.toNat_lt;have ih:=J7 r j;simp only [iQ,List.getElem?_cons_succ];rw [<-ih,Nat.pow_succ,Nat.mul_comm (256 ^ j) 256,<-Nat.div_div_eq_div_mul]
  congr 2
  omega
theorem Jb (l:List UInt8)(i:Nat):oC (kg l (i/8)) i=l[i]?.getD 0:=by
 unfold oC;rw [Eh,Nat.pow_mul,show (2:Nat) ^ 8=256 from rfl];apply UInt8.toNat_inj.1;rw [UInt8.toNat_ofNat',show (2:Nat) ^ 8=256 from rfl,J7,List.getElem?_take,if_pos (Nat.mod_lt _ (by decide)),List.getElem?_drop,Nat.div_add_mod]
theorem JU {f:Int->UInt64}{k:Int}{l:List UInt8}(hl:l.length<=128)(hk:k ≠ -1):dD (bZ f k (dM l 16)) k=l++zeros (128-l.length):=by
 unfold dD;rw [if_neg hk,Dw (by rw [oO];omega)];unfold iy lg;apply List.ext_getElem
 ·simp [zeros];omega
 ·intro i h1 h2;simp only [List.length_map,List.length_range] at h1;simp only [List.getElem_map,List.getElem_range];have e:(dM l 16++List.replicate (16-(dM l 16).length) 0)[i/8]?.getD 0=kg l (i/8):=by
   rw [List.getElem?_append_left (by rw [oO];omega)];unfold dM;simp [show i/8<16 by omega]
  rw [e,Jb];by_cases h:i<l.length
  ·rw [List.getElem_append_left h];simp [h]
  ·rw [List.getElem_append_right (by omega)];simp [zeros,show l.length<=i by omega]
def fb (now:Int->UInt64)(m:List Int)(p:Nat):UInt8:=((dD now (m[p/128]?.getD (-1)))[p%128]?).getD 0
theorem J2 {now:Int->UInt64}:∀ (m:List Int) (p:Nat),p<128*m.length->(iC now m)[p]?=some (fb now m p)
 | [],p,h=>by simp at h
 | x::m,p,h=>by
  have hl:=kZ now x;unfold iC;rw [List.flatMap_cons];by_cases hp:p<128
  ·rw [List.getElem?_append_left (by omega)];unfold fb;have e1:p/128=0:=by omega
   have e2:p%128=p:=by omega
   have h1:p<(dD now x).length:=by omega
   rw [e1,e2];simp [h1]
  ·rw [List.getElem?_append_right (by omega)];have ih:=J2 (now:=now) m (p-128) (by simp at h;omega);rw [hl];unfold iC at ih;rw [ih];unfold fb;have e1:p/128=(p-128)/128+1:=by omega
   have e2:p%128=(p-128)%128:=by omega
   rw [e1,e2];rfl
def iq (more:Int)(m:List Int):List Int:=(more::m).filter eO
def nK (x:Int):Prop:=x = -1\/(0<=x/\x<96)
structure Wk (now:Int->UInt64)(node more:Int)(m:List Int):Prop where
 len:m.length=21
 bH:∀ x∈more::m,nK x
 jv:(iq more m).Nodup
 own:∀ x,0<=x->x<96->(x∈iq more m↔now (200+x)=w64 (node+1))
structure Fr (node:Int)(f g:Int->UInt64):Prop where
 kX:∀ k,0<=k->k<96->f (200+k)≠w64 (node+1)->(g (200+k)=f (200+k)\/f (200+k)=0/\g (200+k)=w64 (node+1))/\(f (200+k)≠0->bW g (1288+k*16) 16=bW f (1288+k*16) 16)
 mine:∀ k,0<=k->k<96->f (200+k)=w64 (node+1)->g (200+k)=w64 (node+1)\/g (200+k)=0
 low:∀ a,a<200->g a=f a
structure Fr0 (node:Int)(f g:Int->UInt64):Prop where
 kX:∀ k,0<=k->k<96->f (200+k)≠w64 (node+1)->(g (200+k)=f (200+k)\/f (200+k)=0/\g (200+k)=w64 (node+1))/\(f (200+k)≠0->bW g (1288+k*16) 16=bW f (1288+k*16) 16)
 mine:∀ k,0<=k->k<96->f (200+k)=w64 (node+1)->g (200+k)=w64 (node+1)\/g (200+k)=0
theorem Fr.z {node:Int}{f g:Int->UInt64}(a:Fr node f g):Fr0 node f g:=⟨a.kX,a.mine⟩
theorem Fr0.of {f g:Int->UInt64}(node:Int)(h:∀ a,200<=a->g a=f a):Fr0 node f g:=
 ⟨λk h0 _ _=>⟨.inl (h _ (by omega)),λ_=>List.map_congr_left λi _=>h _ (by omega)⟩,λk h0 _ hf=>.inl (by rw [h _ (by omega)];exact hf)⟩
theorem Fr0.after {node:Int}{f g h:Int->UInt64}(a:Fr0 node f g)(b:∀ a,200<=a->h a=g a):Fr0 node f h:=
 ⟨λk h0 h1 hf=>by
  have e:bW h (1288+k*16) 16=bW g (1288+k*16) 16:=List.map_congr_left λi _=>b _ (by omega);rw [b _ (by omega),e];exact a.kX k h0 h1 hf,λk h0 h1 hf=>by rw [b _ (by omega)];exact a.mine k h0 h1 hf⟩
theorem Al {f:Int->UInt64}{k:Int}{ws:List UInt64}(hk:0<=k){a:Int}(ha:a<200):bZ f k ws a=f a:=by
 unfold bZ kG;rw [if_neg (by omega)]
theorem Fr.refl (node:Int)(f:Int->UInt64):Fr node f f:=⟨λk _ _ _=>⟨.inl rfl,λ_=>rfl⟩,λk _ _ h=>.inl h,λ_ _=>rfl⟩
theorem Fr.trans {node:Int}{f g h:Int->UInt64}(a:Fr node f g)(b:Fr node g h)(hn:w64 (node+1)≠0):Fr node f h:=by
 constructor
 ·intro k h0 h1 hf;obtain ⟨p,q⟩:=a.kX k h0 h1 hf;rcases p with p|⟨p1,p2⟩
  ·have hg:g (200+k)≠w64 (node+1):=by rw [p];exact hf
   obtain ⟨r,s⟩:=b.kX k h0 h1 hg;rw [p] at r s;exact ⟨r,λh=>(s h).trans (q h)⟩
  ·refine ⟨?_,λh=>absurd p1 h⟩;rcases b.mine k h0 h1 p2 with r|r
   ·exact .inr ⟨p1,r⟩
   ·left;rw [r,p1]
 ·intro k h0 h1 hf;rcases a.mine k h0 h1 hf with p|p
  ·exact b.mine k h0 h1 p
  ·have hg:g (200+k)≠w64 (node+1):=by rw [p];exact λe=>hn e.symm
   rcases (b.kX k h0 h1 hg).1 with r|⟨_,r⟩
   ·right;rw [r,p]
   ·exact .inl r
 ·exact λx hx=>(b.low x hx).trans (a.low x hx)
theorem nI {more:Int}{m:List Int}{x:Int}:x∈iq more m↔(x=more\/x∈m)/\x ≠ -1:=by
 unfold iq;rw [List.mem_filter,List.mem_cons]
 constructor
 ·rintro ⟨a,b⟩;exact ⟨a,jE.1 b⟩
 ·rintro ⟨a,b⟩;exact ⟨a,jE.2 b⟩
theorem Wk.at_ {now:Int->UInt64}{node more:Int}{m:List Int}(W:Wk now node more m){i:Nat}(hi:i<21):m[i]?.getD (-1)=m[i]'(by rw [W.len];exact hi):=by
 have:=W.len;simp [show i<m.length by omega]
theorem Wk.Ee {now:Int->UInt64}{node more:Int}{m:List Int}(W:Wk now node more m){x:Int}(hx:x∈m)(hu:x ≠ -1):x≠more:=by
 rintro rfl;have h:=W.jv;unfold iq at h;rw [List.filter_cons,if_pos (jE.2 hu),List.nodup_cons] at h;exact h.1 (List.mem_filter.2 ⟨hx,jE.2 hu⟩)
theorem J3:∀ {m:List Int} {i j:Nat} (hi:i<m.length) (hj:j<m.length),(m.filter eO).Nodup->m[i]=m[j]->m[i] ≠ -1->i=j
 | [],i,j,hi,_,_,_,_=>by simp at hi
 | x::m,0,0,_,_,_,_,_=>rfl
 | x::m,0,j+1,hi,hj,h,e,hu=>by
  simp only [List.getElem_cons_zero,List.getElem_cons_succ] at e hu;rw [List.filter_cons,if_pos (jE.2 hu),List.nodup_cons] at h;exact absurd (List.mem_filter.2 ⟨by rw [e];exact List.getElem_mem _,jE.2 hu⟩) h.1
 | x::m,i+1,0,hi,hj,h,e,hu=>by
  simp only [List.getElem_cons_zero,List.getElem_cons_succ] at e hu;rw [e] at hu;rw [List.filter_cons,if_pos (jE.2 hu),List.nodup_cons] at h;exact absurd (List.mem_filter.2 ⟨by rw [<-e];exact List.getElem_mem _,jE.2 hu⟩) h.1
 | x::m,i+1,j+1,hi,hj,h,e,hu=>by
  simp only [List.getElem_cons_succ] at e hu;have h':(m.filter eO).Nodup:=by
   rw [List.filter_cons] at h;split at h
   ·exact (List.nodup_cons.1 h).2
   ·exact h
  rw [J3 (by simpa using hi) (by simpa using hj) h' e hu]
theorem Wk.inj {now:Int->UInt64}{node more:Int}{m:List Int}(W:Wk now node more m){i j:Nat}(hi:i<21)(hj:j<21)(e:m[i]?.getD (-1)=m[j]?.getD (-1))(hu:m[i]?.getD (-1) ≠ -1):i=j:=by
 have hl:=W.len;rw [W.at_ hi] at e hu;rw [W.at_ hj] at e;refine J3 (by omega) (by omega) ?_ e hu;have h:=W.jv;unfold iq at h;rw [List.filter_cons] at h;split at h
 ·exact (List.nodup_cons.1 h).2
 ·exact h
theorem ig {node:Int}(h:0<=node/\node<24):w64 (node+1)≠0:=by
 intro e;have h1:=qJ (node+1);rw [e] at h1;simp at h1;omega
theorem Wk.put {now:Int->UInt64}{node more:Int}{m:List Int}(W:Wk now node more m){i:Nat}(hi:i<21){l:List UInt8}(hl:l.length<=128){x:Int}(hx:m[i]?.getD (-1)=x)(hu:x ≠ -1) :
 Wk (bZ now x (dM l 16)) node more m/\Fr node now (bZ now x (dM l 16))/\(more ≠ -1->dB (bZ now x (dM l 16)) more=dB now more) /\
 ∀ p,p<2688->fb (bZ now x (dM l 16)) m p=if p/128=i then l[p%128]?.getD 0 else fb now m p:=by
 have ht:(dM l 16).length<=16:=by rw [oO];omega
 have hxm:x∈m:=by rw [<-hx,W.at_ hi];exact List.getElem_mem _
 have AL:0<=x/\x<96:=by
  rcases W.bH x (List.mem_cons_of_mem _ hxm) with h|h
  ·exact absurd h hu
  ·exact h
 have ho:∀ k,0<=k->k<96->bZ now x (dM l 16) (200+k)=now (200+k):=λk _ h=>xD ht AL.1 h;have hown:now (200+x)=w64 (node+1):=(W.own x AL.1 AL.2).1 (nI.2 ⟨.inr hxm,hu⟩);refine ⟨⟨W.len,W.bH,W.jv,λk h0 h1=>by rw [ho k h0 h1];exact W.own k h0 h1⟩,⟨λk h0 h1 hf=>⟨.inl (ho k h0 h1),λ_=>?_⟩,λk h0 h1 hf=>.inl (by rw [ho k h0 h1];exact hf),λ_ ha=>Al AL.1 ha⟩,λhm=>J4 ht (W.Ee hxm hu),λp hp=>?_⟩
 ·refine rU ht ?_;rintro rfl;exact hf hown
 ·have hp2:p/128<21:=by omega
  unfold fb;by_cases h:p/128=i
  ·rw [if_pos h,h,hx,JU hl hu];by_cases h2:p%128<l.length
   ·rw [List.getElem?_append_left h2]
   ·rw [List.getElem?_append_right (by omega)];have h3:l.length<=p%128:=by omega
    simp only [zeros,List.getElem?_eq_none h3,Option.getD_none];rw [List.getElem?_replicate];split <;> rfl
  ·rw [if_neg h,RS ht];intro e;exact h (W.inj hp2 hi (by rw [<-e,hx]) (by rw [<-e];exact hu))
theorem RL (f:Int->UInt64)(k:Int):bZ f k []=bZ f k (dM [] 16):=by
 unfold bZ;have:lg []=lg (dM [] 16):=by decide
 rw [this]
def gG (now:Int->UInt64)(node k:Int):Int->UInt64:=bZ (upd now (200+k) (w64 (node+1))) k []
theorem Ag {B:Int->UInt64}{X:VS}{node:Int}(hn:0<=node/\node<24) :
 ((bL B X node).2.1=0/\0<=(bL B X node).1/\(bL B X node).1<96/\X.now (200+(bL B X node).1)=0/\(bL B X node).2.2={ X with now:=gG X.now node (bL B X node).1 }) \/
 ((bL B X node).2.1=9/\(bL B X node).2.2=X/\jZ B X 96 0=none):=by
 unfold bL;rw [if_pos hn];cases hf:jZ B X 96 0 with
 | none=>right;exact ⟨rfl,rfl,rfl⟩
 | some k=>
  left
  have hk:=Ah hf;have h:=hk.1;unfold iF at h;simp at h;refine ⟨rfl,by show 0<=(k:Int);omega,by show (k:Int)<96;omega,h.2.2.1,rfl⟩
theorem Ai {now:Int->UInt64}{node k:Int}(hk:0<=k/\k<96){j:Int}(h0:0<=j)(h1:j<96):gG now node k (200+j)=if j=k then w64 (node+1) else now (200+j):=by
 unfold gG;rw [xD (by simp) hk.1 h1];unfold upd;by_cases h:j=k
 ·rw [if_pos (by omega),if_pos h]
 ·rw [if_neg (by omega),if_neg h]
theorem xE {now:Int->UInt64}{node k:Int}(hk:0<=k/\k<96){j:Int}(h0:0<=j)(hj:j≠k):bW (gG now node k) (1288+j*16) 16=bW now (1288+j*16) 16:=by
 unfold gG;rw [rU (by simp) (λe=>hj e.symm),yj hk.2 h0]
theorem RN {now:Int->UInt64}{node k:Int}(hk:0<=k/\k<96){j:Int}(hj:j = -1\/0<=j)(hne:j≠k):dD (gG now node k) j=dD now j:=by
 unfold dD;split
 ·rfl
 ·rw [xE hk (by omega) hne]
theorem RO {now:Int->UInt64}{node k:Int}(hk:0<=k/\k<96):dD (gG now node k) k=zeros 128:=by
 unfold gG;rw [RL,JU (by simp) (by omega)];rfl
theorem JV {now:Int->UInt64}{node k:Int}(hk:0<=k/\k<96)(h:now (200+k)=0):Fr node now (gG now node k):=by
 constructor
 ·intro j h0 h1 hf;rw [Ai hk h0 h1];by_cases e:j=k
  ·subst e;exact ⟨.inr ⟨h,if_pos rfl⟩,λhx=>absurd h hx⟩
  ·exact ⟨.inl (if_neg e),λ_=>xE hk h0 e⟩
 ·intro j h0 h1 hf;rw [Ai hk h0 h1];split
  ·exact .inl rfl
  ·exact .inl hf
 ·intro a ha;unfold gG;rw [Al hk.1 ha];unfold upd;rw [if_neg (by omega)]
theorem JW:∀ {m:List Int} {i:Nat} {k:Int} (hi:i<m.length),m[i] = -1->k ≠ -1->((m.set i k).filter eO).Perm (k::m.filter eO)
 | [],i,k,hi,_,_=>by simp at hi
 | x::m,0,k,hi,h,hk=>by
  simp only [List.getElem_cons_zero] at h;subst h;simp only [List.set_cons_zero];rw [List.filter_cons,if_pos (jE.2 hk),List.filter_cons,if_neg (by decide)]
 | x::m,i+1,k,hi,h,hk=>by
  simp only [List.getElem_cons_succ] at h;have ih:=JW (m:=m) (i:=i) (by simpa using hi) h hk;simp only [List.set_cons_succ];rw [List.filter_cons,List.filter_cons];split
  ·exact (List.Perm.cons x ih).trans (List.Perm.swap k x _)
  ·exact ih
theorem JX:∀ {m:List Int} {i:Nat} (hi:i<m.length),m[i] ≠ -1->(m.filter eO).Perm (m[i]::(m.set i (-1)).filter eO)
 | [],i,hi,_=>by simp at hi
 | x::m,0,hi,h=>by
  simp only [List.getElem_cons_zero] at h;simp only [List.set_cons_zero,List.getElem_cons_zero];rw [List.filter_cons,if_pos (jE.2 h),List.filter_cons,if_neg (by decide)]
 | x::m,i+1,hi,h=>by
  simp only [List.getElem_cons_succ] at h;have ih:=JX (m:=m) (i:=i) (by simpa using hi) h;simp only [List.set_cons_succ,List.getElem_cons_succ];rw [List.filter_cons,List.filter_cons];split
  ·exact (List.Perm.cons x ih).trans (List.Perm.swap _ x _)
  ·exact ih
theorem vT (more:Int)(m:List Int):iq more m=if more = -1 then m.filter eO else more::m.filter eO:=by
 unfold iq;rw [List.filter_cons];by_cases h:more = -1
 ·rw [if_neg (by rw [jE];exact λx=>x h),if_pos h]
 ·rw [if_pos (jE.2 h),if_neg h]
theorem JY {more:Int}{m m':List Int}{k:Int}(h:(m'.filter eO).Perm (k::m.filter eO)):(iq more m').Perm (k::iq more m):=by
 rw [vT,vT];split
 ·exact h
 ·exact (List.Perm.cons more h).trans (List.Perm.swap k more _)
theorem Wk.grow {now:Int->UInt64}{node more more':Int}{m m':List Int}(W:Wk now node more m)(hn:0<=node/\node<24){k:Int}(hk:0<=k/\k<96)(h0:now (200+k)=0)(hl:m'.length=21)(hr:∀ x∈more'::m',nK x)
 (hp:(iq more' m').Perm (k::iq more m)):Wk (gG now node k) node more' m':=by
 have hne:=ig hn;have RP:k∉iq more m:=λh=>hne ((W.own k hk.1 hk.2).1 h ▸ h0);refine ⟨hl,hr,hp.symm.nodup (List.nodup_cons.2 ⟨RP,W.jv⟩),λx x0 x1=>?_⟩;rw [hp.mem_iff,List.mem_cons,Ai hk x0 x1,W.own x x0 x1];by_cases h:x=k
 ·simp [h]
 ·simp [h]
theorem Wk.take_at {now:Int->UInt64}{node more:Int}{m:List Int}(W:Wk now node more m)(hn:0<=node/\node<24){k:Int}(hk:0<=k/\k<96)(h0:now (200+k)=0){i:Nat}(hi:i<21)(hm:m[i]?.getD (-1) = -1) :
 Wk (gG now node k) node more (m.set i k)/\Fr node now (gG now node k)/\(more ≠ -1->dB (gG now node k) more=dB now more)/\∀ p,p<2688->fb (gG now node k) (m.set i k) p=fb now m p:=by
 have hl:=W.len;have hne:=ig hn;have hm':m[i] = -1:=by rw [<-W.at_ hi];exact hm
 have hun:∀ x,0<=x->x<96->x∈iq more m->x≠k:=by
  rintro x x0 x1 hx rfl;exact hne ((W.own x x0 x1).1 hx ▸ h0)
 refine ⟨W.grow hn hk h0 (by simp [hl]) ?_ (JY (JW (by omega) hm' (by omega))),JV hk h0,λhmo=>?_,λp hp=>?_⟩
 ·intro x hx;rcases List.mem_cons.1 hx with rfl|hx
  ·exact W.bH _ List.mem_cons_self
  ·rcases List.mem_or_eq_of_mem_set hx with h|rfl
   ·exact W.bH _ (List.mem_cons_of_mem _ h)
   ·exact .inr hk
 ·have hmr:=W.bH more List.mem_cons_self;have:0<=more/\more<96:=by rcases hmr with h|h;exact absurd h hmo;exact h
  exact xE hk this.1 (hun more this.1 this.2 (nI.2 ⟨.inl rfl,hmo⟩))
 ·unfold fb;have hp2:p/128<21:=by omega
  by_cases h:p/128=i
  ·subst h;have e:(m.set (p/128) k)[p/128]?.getD (-1)=k:=by simp [hl,hp2]
   rw [e,hm,RO hk];rfl
  ·have e:(m.set i k)[p/128]?.getD (-1)=m[p/128]?.getD (-1):=by rw [List.getElem?_set_ne (λx=>h x.symm)]
   rw [e,W.at_ hp2];have hx:=W.bH m[p/128] (List.mem_cons_of_mem _ (List.getElem_mem _));rw [RN hk (hx.imp id And.left)];rcases hx with hx|hx
   ·omega
   ·exact hun _ hx.1 hx.2 (nI.2 ⟨.inr (List.getElem_mem _),by omega⟩)
theorem Wk.AJ {now g:Int->UInt64}{node more:Int}{m:List Int}(W:Wk now node more m)(h:∀ x,x∈m->0<=x->x<96->bW g (1288+x*16) 16=bW now (1288+x*16) 16)(p:Nat)(hp:p<2688):fb g m p=fb now m p:=by
 have hp2:p/128<21:=by omega
 have hl:=W.len;unfold fb;rw [W.at_ hp2];unfold dD;split
 ·rfl
 ·rename_i hne;rcases W.bH m[p/128] (List.mem_cons_of_mem _ (List.getElem_mem _)) with hx|hx
  ·exact absurd hx hne
  ·rw [h _ (List.getElem_mem _) hx.1 hx.2]
theorem Wk.RI {now:Int->UInt64}{node:Int}{m:List Int}(W:Wk now node (-1) m)(hn:0<=node/\node<24){k:Int}(hk:0<=k/\k<96)(h0:now (200+k)=0) :
 Wk (gG now node k) node k m/\Fr node now (gG now node k)/\∀ p,p<2688->fb (gG now node k) m p=fb now m p:=by
 have hne:=ig hn;refine ⟨W.grow hn hk h0 W.len ?_ ?_,JV hk h0,W.AJ λx hx x0 x1=>xE hk x0 ?_⟩
 ·intro x hx;rcases List.mem_cons.1 hx with rfl|hx
  ·exact .inr hk
  ·exact W.bH _ (List.mem_cons_of_mem _ hx)
 ·rw [vT,vT,if_neg (by omega),if_pos rfl]
 ·rintro rfl;exact hne ((W.own x x0 x1).1 (nI.2 ⟨.inr hx,by omega⟩) ▸ h0)
theorem JZ {now:Int->UInt64}{node k:Int}(hk:0<=k/\k<96)(h:now (200+k)=w64 (node+1)):Fr node now (upd now (200+k) 0):=by
 have ho:∀ j,upd now (200+k) 0 (200+j)=if j=k then 0 else now (200+j):=by
  intro j;unfold upd;by_cases e:j=k
  ·rw [if_pos (by omega),if_pos e]
  ·rw [if_neg (by omega),if_neg e]
 constructor
 ·intro j h0 h1 hf;rw [ho];have e:j≠k:=by rintro rfl;exact hf h
  exact ⟨.inl (if_neg e),λ_=>yj hk.2 h0⟩
 ·intro j h0 h1 hf;rw [ho];split
  ·exact .inr rfl
  ·exact .inl hf
 ·intro a ha;unfold upd;rw [if_neg (by omega)]
theorem Wk.shrink {now:Int->UInt64}{node more more':Int}{m m':List Int}(W:Wk now node more m)(hn:0<=node/\node<24){k:Int}(hk:0<=k/\k<96)(hl:m'.length=21)(hr:∀ x∈more'::m',nK x)
 (hp:(iq more m).Perm (k::iq more' m')):Wk (upd now (200+k) 0) node more' m'/\now (200+k)=w64 (node+1):=by
 have hne:=ig hn;have hnd:=List.nodup_cons.1 (hp.nodup W.jv);refine ⟨⟨hl,hr,hnd.2,λx x0 x1=>?_⟩,(W.own k hk.1 hk.2).1 (hp.mem_iff.2 List.mem_cons_self)⟩;have hw:=W.own x x0 x1;rw [hp.mem_iff,List.mem_cons] at hw;unfold upd;by_cases h:x=k
 ·subst h;rw [if_pos rfl];exact ⟨λhx=>absurd hx hnd.1,λe=>absurd e.symm hne⟩
 ·rw [if_neg (by omega),<-hw];simp [h]
theorem Wk.RG {now:Int->UInt64}{node more:Int}{m:List Int}(W:Wk now node more m)(hn:0<=node/\node<24)(hm:more ≠ -1) :
 (0<=more/\more<96)/\now (200+more)=w64 (node+1)/\Wk (upd now (200+more) 0) node (-1) m/\Fr node now (upd now (200+more) 0)/\∀ p,p<2688->fb (upd now (200+more) 0) m p=fb now m p:=by
 have hk:0<=more/\more<96:=by
  rcases W.bH more List.mem_cons_self with h|h
  ·exact absurd h hm
  ·exact h
 obtain ⟨W',ho⟩:=W.shrink (more' := -1) (m':=m) hn hk W.len (by
  intro x hx;rcases List.mem_cons.1 hx with rfl|hx
  ·exact .inl rfl
  ·exact W.bH _ (List.mem_cons_of_mem _ hx)) (by rw [vT,vT,if_neg hm,if_pos rfl])
 exact ⟨hk,ho,W',JZ hk ho,W.AJ λx _ x0 _=>yj hk.2 x0⟩
theorem Wk.drop_at {now:Int->UInt64}{node more:Int}{m:List Int}(W:Wk now node more m)(hn:0<=node/\node<24){i:Nat}(hi:i<21){k:Int}(hx:m[i]?.getD (-1)=k)(hk1:k ≠ -1) :
 (0<=k/\k<96)/\now (200+k)=w64 (node+1)/\Wk (upd now (200+k) 0) node more (m.set i (-1))/\Fr node now (upd now (200+k) 0)/\(more ≠ -1->dB (upd now (200+k) 0) more=dB now more) /\
  ∀ p,p<2688->fb (upd now (200+k) 0) (m.set i (-1)) p=if p/128=i then 0 else fb now m p:=by
 have hl:=W.len;have qV:m[i]=k:=by rw [<-W.at_ hi];exact hx
 have hk:0<=k/\k<96:=by
  rcases W.bH m[i] (List.mem_cons_of_mem _ (List.getElem_mem _)) with h|h
  ·exact absurd (qV ▸ h) hk1
  ·rw [qV] at h;exact h
 obtain ⟨W',ho⟩:=W.shrink (more':=more) (m':=m.set i (-1)) hn hk (by simp [hl]) (by
  intro x hx;rcases List.mem_cons.1 hx with rfl|hx
  ·exact W.bH _ List.mem_cons_self
  ·rcases List.mem_or_eq_of_mem_set hx with h|rfl
   ·exact W.bH _ (List.mem_cons_of_mem _ h)
   ·exact .inl rfl) (JY (by have:=JX (m:=m) (i:=i) (by omega) (by rw [qV];exact hk1);rwa [qV] at this))
 refine ⟨hk,ho,W',JZ hk ho,λhmo=>?_,λp hp=>?_⟩
 ·rcases W.bH more List.mem_cons_self with h|h
  ·exact absurd h hmo
  ·exact yj hk.2 h.1
 ·unfold fb;have hp2:p/128<21:=by omega
  by_cases h:p/128=i
  ·subst h;rw [if_pos rfl];have e:(m.set (p/128) (-1))[p/128]?.getD (-1) = -1:=by simp [hl,hp2]
   rw [e];unfold dD zeros;rw [if_pos rfl,List.getElem?_replicate];split <;> rfl
  ·rw [if_neg h];have e:(m.set i (-1))[p/128]?.getD (-1)=m[p/128]?.getD (-1):=by rw [List.getElem?_set_ne (λx=>h x.symm)]
   rw [e,W.at_ hp2];have hx:=W.bH m[p/128] (List.mem_cons_of_mem _ (List.getElem_mem _));rw [RQ hk.2 (hx.imp id And.left)]
theorem getD_21 {m:List Int}(hl:m.length=21){i:Nat}(hi:i<21):m[i]?.getD 0=m[i]?.getD (-1):=by
 simp [show i<m.length by omega]
theorem JQ {old data:List UInt8}{a f:Nat}(ho:old.length=128)(h1:f<a+data.length)(h2:a<f+128)(q:Nat)(hq:q<128) :
 (mH old data a (a+data.length) f)[q]?.getD 0=if a<=f+q/\f+q<a+data.length then data[f+q-a]?.getD 0 else old[q]?.getD 0:=by
 have ht:(old.take (a-f)).length=a-f:=by rw [List.length_take];omega
 have hd:((data.drop (f+(a-f)-a)).take (min (a+data.length-f) 128-(a-f))).length=min (a+data.length-f) 128-(a-f):=by
  rw [List.length_take,List.length_drop];omega
 unfold mH;by_cases c1:q<a-f
 ·rw [List.append_assoc,List.getElem?_append_left (by omega),List.getElem?_take,if_pos c1,if_neg (by omega)]
 ·by_cases c2:q<min (a+data.length-f) 128
  ·rw [List.getElem?_append_left (by rw [List.length_append];omega),List.getElem?_append_right (by omega),ht,List.getElem?_take,if_pos (by omega),List.getElem?_drop,if_pos (by omega)]
   congr 2;omega
  ·rw [List.getElem?_append_right (by rw [List.length_append];omega),List.length_append,ht,hd,List.getElem?_drop,if_neg (by omega)]
   congr 2;omega
theorem JR {old data:List UInt8}{a f:Nat}(ho:old.length=128)(h1:f<a+data.length)(h2:a<f+128):(mH old data a (a+data.length) f).length=128:=by
 unfold mH;rw [List.length_append,List.length_append,List.length_take,List.length_take,List.length_drop,List.length_drop];omega
def Alone (B:Int->UInt64)(node:Int)(X:VS):Prop:=∀ k,0<=k->k<96->B (200+k)=0/\(X.now (200+k)=0\/X.now (200+k)=w64 (node+1))/\k∉X.away
theorem Dx {B:Int->UInt64}{X:VS}:∀ {f i:Nat},jZ B X f i=none->∀ k,i<=k->k<i+f->iF B X (k:Int)=false
 | 0,i,_,k,h1,h2=>by omega
 | f+1,i,h,k,h1,h2=>by
  unfold jZ at h;split at h
  ·cases h
  ·rename_i hf;by_cases e:k=i
   ·subst e;simpa using hf
   ·exact Dx h k (by omega) (by omega)
theorem JO {B:Int->UInt64}{X:VS}{node more:Int}{m:List Int}(hn:0<=node/\node<24)(W:Wk X.now node more m)(A:Alone B node X):jZ B X 96 0≠none:=by
 intro h;have hall:((List.range 96).map λ(i:Nat)=>(i:Int)) ⊆ iq more m:=by
  intro x hx;obtain ⟨k,hk,rfl⟩:=List.mem_map.1 hx;have hk96:k<96:=by simpa using hk
  have hf:=Dx h k (by omega) (by omega);obtain ⟨a1,a2,a3⟩:=A (k:Int) (by omega) (by omega);refine (W.own (k:Int) (by omega) (by omega)).2 ?_;rcases a2 with a2|a2
  ·unfold iF at hf;simp [a1,a2,a3] at hf;omega
  ·exact a2
 have hnd:((List.range 96).map λ(i:Nat)=>(i:Int)).Nodup:=by decide +kernel
 have h1:=hnd.length_le_of_subset hall;have h2:(iq more m).length<=(more::m).length:=List.length_filter_le _ _;have:=W.len;simp at h1 h2;omega
structure JS (B:Int->UInt64)(node more:Int)(X:VS)(m:List Int)(a:Nat)(data:List UInt8)(i f:Nat)(r:Int×VS×List Int):Prop where
 e:r.1=0
 x:r.2.1={ X with now:=r.2.1.now }
 wk:Wk r.2.1.now node more r.2.2
 fr:Fr node X.now r.2.1.now
 yh:more ≠ -1->dB r.2.1.now more=dB X.now more
 aQ:∀ p,p<2688->fb r.2.1.now r.2.2 p=if i<=p/128/\p/128<i+f/\a<=p/\p<a+data.length then data[p-a]?.getD 0 else fb X.now m p
 holes:∀ j,j<21->(r.2.2[j]?.getD (-1) = -1↔m[j]?.getD (-1) = -1/\¬ (i<=j/\j<i+f))
theorem IG {B:Int->UInt64}{node more:Int}(hn:0<=node/\node<24){X:VS}{m:List Int}(W:Wk X.now node more m){a:Nat}{data:List UInt8}{i:Nat}(hi:i<21)(h1:128*i<a+data.length)(h2:a<128*i+128) :
 (iP B node a data i X m).1=9/\jZ B X 96 0=none\/JS B node more X m a data i 1 (iP B node a data i X m):=by
 have hl:=W.len;unfold iP;rw [getD_21 hl hi];by_cases hm:m[i]?.getD (-1) = -1
 ·rw [if_pos hm];rcases Ag (B:=B) (X:=X) hn with ⟨e0,k0,k1,kn,kx⟩|⟨e9,kx,kf⟩
  ·right
   have hk:0<=(bL B X node).1/\(bL B X node).1<96:=⟨k0,k1⟩;generalize (bL B X node).1=k at *;obtain ⟨W1,F1,M1,B1⟩:=W.take_at hn hk kn hi hm;have qV:(m.set i k)[i]?.getD (-1)=k:=by simp [hl,hi]
   have hkne:k ≠ -1:=by omega
   simp only [e0,kx,if_true];rw [getD_21 (by simp [hl]) hi,qV];have hbl:=kZ (gG X.now node k) k;obtain ⟨W2,F2,M2,B2⟩:=W1.put hi (Nat.le_of_eq (JR hbl h1 h2)) qV hkne;refine ⟨rfl,rfl,W2,F1.trans F2 (ig hn),λh=>(M2 h).trans (M1 h),λp hp=>?_,λj hj=>?_⟩
   ·simp only;rw [B2 p hp];by_cases hpi:p/128=i
    ·rw [if_pos hpi,JQ hbl h1 h2 _ (Nat.mod_lt _ (by decide))];have hpe:128*i+p%128=p:=by omega
     rw [hpe];by_cases hc:a<=p/\p<a+data.length
     ·rw [if_pos hc,if_pos ⟨by omega,by omega,hc⟩]
     ·rw [if_neg hc,if_neg (λh=>hc h.2.2),<-B1 p hp];unfold fb;rw [hpi,qV]
    ·rw [if_neg hpi,if_neg (by omega),B1 p hp]
   ·simp only;by_cases hji:j=i
    ·subst hji;rw [qV];exact ⟨λh=>absurd h hkne,λh=>absurd h.2 (by omega)⟩
    ·rw [List.getElem?_set_ne (λx=>hji x.symm)];exact ⟨λh=>⟨h,by omega⟩,λh=>h.1⟩
  ·left
   simp only [e9];exact ⟨rfl,kf⟩
 ·right
  rw [if_neg hm];simp only [if_true];rw [getD_21 hl hi];have hbl:=kZ X.now (m[i]?.getD (-1));obtain ⟨W2,F2,M2,B2⟩:=W.put hi (Nat.le_of_eq (JR hbl h1 h2)) rfl hm;refine ⟨rfl,rfl,W2,F2,M2,λp hp=>?_,λj hj=>?_⟩
  ·simp only;rw [B2 p hp];by_cases hpi:p/128=i
   ·rw [if_pos hpi,JQ hbl h1 h2 _ (Nat.mod_lt _ (by decide))];have hpe:128*i+p%128=p:=by omega
    rw [hpe];by_cases hc:a<=p/\p<a+data.length
    ·rw [if_pos hc,if_pos ⟨by omega,by omega,hc⟩]
    ·rw [if_neg hc,if_neg (λh=>hc h.2.2)];unfold fb;rw [hpi]
   ·rw [if_neg hpi,if_neg (by omega)]
  ·simp only;by_cases hji:j=i
   ·subst hji;exact ⟨λh=>absurd h hm,λh=>absurd h.1 hm⟩
   ·exact ⟨λh=>⟨h,by omega⟩,λh=>h.1⟩
theorem Alone.on {B:Int->UInt64}{node:Int}{X Y:VS}(A:Alone B node X)(F:Fr node X.now Y.now)(hn:w64 (node+1)≠0)(ha:Y.away=X.away):Alone B node Y:=by
 intro k h0 h1;obtain ⟨a1,a2,a3⟩:=A k h0 h1;refine ⟨a1,?_,by rw [ha];exact a3⟩;rcases a2 with a2|a2
 ·rcases (F.kX k h0 h1 (by rw [a2];exact λe=>hn e.symm)).1 with r|⟨_,r⟩
  ·left;rw [r,a2]
  ·exact .inr r
 ·exact (F.mine k h0 h1 a2).symm
theorem JP {B:Int->UInt64}{node more:Int}(hn:0<=node/\node<24){a:Nat}{data:List UInt8}:∀ (f i:Nat) (X:VS) (m:List Int),Wk X.now node more m->i+f<=21->(0<f->128*(i+f-1)<a+data.length)->a<128*i+128 ->
 ((gX B node a data f i X m).1=9/\¬ Alone B node X)\/JS B node more X m a data i f (gX B node a data f i X m)
 | 0,i,X,m,W,_,_,_=>by
  right
  unfold gX;refine ⟨rfl,rfl,W,Fr.refl _ _,λ_=>rfl,λp hp=>?_,λj hj=>⟨λh=>⟨h,by omega⟩,λh=>h.1⟩⟩;simp only;rw [if_neg (by omega)]
 | f+1,i,X,m,W,hf,h1,h2=>by
  unfold gX;have h1':=h1 (by omega);rcases IG (B:=B) hn W (i:=i) (a:=a) (data:=data) (by omega) (by omega) (by omega) with ⟨e,hno⟩|S
  ·rw [e]
   left
   refine ⟨by simp [e],λA=>JO hn W A hno⟩
  ·rw [S.e];simp only [if_true];rcases JP (B:=B) (a:=a) (data:=data) hn f (i+1) (iP B node a data i X m).2.1 (iP B node a data i X m).2.2 S.wk (by omega) (λ_=>by omega) (by omega) with ⟨e,hno⟩|R
   ·left
    refine ⟨e,λA=>hno (A.on S.fr (ig hn) (by rw [S.x]))⟩
   ·right
    refine ⟨R.e,?_,R.wk,S.fr.trans R.fr (ig hn),λh=>(R.yh h).trans (S.yh h),λp hp=>?_,λj hj=>?_⟩
    ·rw [R.x,S.x]
    ·rw [R.aQ p hp,S.aQ p hp];by_cases c3:i+1<=p/128/\p/128<i+1+f/\a<=p/\p<a+data.length
     ·rw [if_pos c3,if_pos ⟨by omega,by omega,c3.2.2⟩]
     ·rw [if_neg c3];by_cases c4:i<=p/128/\p/128<i+1/\a<=p/\p<a+data.length
      ·rw [if_pos c4,if_pos ⟨c4.1,by omega,c4.2.2⟩]
      ·rw [if_neg c4,if_neg (by omega)]
    ·rw [R.holes j hj,S.holes j hj]
     constructor
     ·rintro ⟨⟨x1,x2⟩,x3⟩;exact ⟨x1,by omega⟩
     ·rintro ⟨x1,x2⟩;exact ⟨⟨x1,by omega⟩,by omega⟩
theorem Wk.JK {now:Int->UInt64}{node more:Int}{m:List Int}(W:Wk now node more m){ws:List UInt64}(hw:ws.length<=16)(hm:more ≠ -1) :
 Wk (bZ now more ws) node more m/\Fr node now (bZ now more ws)/\∀ p,p<2688->fb (bZ now more ws) m p=fb now m p:=by
 have hk:0<=more/\more<96:=by
  rcases W.bH more List.mem_cons_self with h|h
  ·exact absurd h hm
  ·exact h
 have ho:∀ k,0<=k->k<96->bZ now more ws (200+k)=now (200+k):=λk _ h=>xD hw hk.1 h;have hown:now (200+more)=w64 (node+1):=(W.own more hk.1 hk.2).1 (nI.2 ⟨.inl rfl,hm⟩);refine ⟨⟨W.len,W.bH,W.jv,λk h0 h1=>by rw [ho k h0 h1];exact W.own k h0 h1⟩,⟨λk h0 h1 hf=>⟨.inl (ho k h0 h1),λ_=>?_⟩,λk h0 h1 hf=>.inl (by rw [ho k h0 h1];exact hf),λ_ ha=>Al hk.1 ha⟩,W.AJ λx hx x0 x1=>?_⟩
 ·refine rU hw ?_;rintro rfl;exact hf hown
 ·exact rU hw (λe=>W.Ee hx (by omega) e.symm)
theorem Wk.drops {now:Int->UInt64}{node more:Int}{m:List Int}(W:Wk now node more m):m.any iB=false:=by
 rw [List.any_eq_false];intro x hx;have:=W.bH x (List.mem_cons_of_mem _ hx);unfold nK at this;simp [iB];omega
theorem JL (c:aA){m:List Int}(hl:m.length=21)(t:Int):({ j6 c m with more:=t }:aA).direct++m.drop 5=m:=by
 obtain ⟨a,b,c',d,e,r,rfl,_⟩:=take5 hl;rfl
structure Du (node:Int)(X:VS)(c:aA)(m:List Int)(r:aA×Int×VS):Prop where
 e:r.2.1=0
 c_:r.1={ j6 c m with more:=r.1.more }
 kY:r.1.more = -1↔(m.drop 5).any eO=false
 map:mapOf r.2.2.now r.1=some m
 wk:Wk r.2.2.now node r.1.more m
 fr:Fr node X.now r.2.2.now
 aQ:∀ p,p<2688->fb r.2.2.now m p=fb X.now m p
 x:r.2.2={ X with now:=r.2.2.now }
theorem tY {B:Int->UInt64}{node:Int}(hn:0<=node/\node<24){X:VS}{c:aA}{m:List Int}(W:Wk X.now node c.more m) :
 ((eH B X node c m).2.1=9/\¬ Alone B node X/\c.more = -1/\(m.drop 5).any eO=true)\/Du node X c m (eH B X node c m):=by
 have hl:=W.len;unfold eH;rw [if_pos ⟨hn,hl,W.drops⟩];by_cases hd:(m.drop 5).any eO=false
 ·rw [if_pos hd];have hmap:∀ now,mapOf now { j6 c m with more := -1 }=some m:=by
   intro now;unfold mapOf;rw [if_pos rfl];have:m.drop 5=List.replicate 16 (-1):=by
    rw [List.eq_replicate_iff];refine ⟨by simp [hl],λx hx=>?_⟩;have:=List.any_eq_false.1 hd x hx;simp [eO] at this;exact this
   rw [<-this];exact congrArg some (JL c hl _)
  right
  by_cases hc:c.more = -1
  ·rw [if_pos hc];rw [hc] at W;exact ⟨rfl,rfl,⟨λ_=>hd,λ_=>rfl⟩,hmap _,W,Fr.refl _ _,λ_ _=>rfl,rfl⟩
  ·rw [if_neg hc];obtain ⟨hk,ho,W1,F1,B1⟩:=W.RG hn hc;have hdr:fQ X c.more=(0,{ X with now:=upd X.now (200+c.more) 0 }):=by
    unfold fQ;rw [if_pos hk,if_neg (by rw [ho];exact ig hn)]
   rw [hdr];simp only [if_true];exact ⟨rfl,rfl,⟨λ_=>hd,λ_=>rfl⟩,hmap _,W1,F1,B1,rfl⟩
 ·rw [if_neg hd];have hw16:((m.drop 5).map λn=>w64 (n+1)).length=16:=by simp [hl]
  have hm5:∀ x∈m.drop 5,-1<=x/\x<96:=by
   intro x hx;have:=W.bH x (List.mem_cons_of_mem _ (List.mem_of_mem_drop hx));unfold nK at this;omega
  have hmap:∀ now k,0<=k->k<96->mapOf (bZ now k ((m.drop 5).map λn=>w64 (n+1))) { j6 c m with more:=k }=some m:=by
   intro now k k0 k1;unfold mapOf;show (if k = -1 then _ else if 0<=k/\k<96/\(dB (bZ _ k _) k).all _=true/\((dB (bZ _ k _) k).map iH).any eO=true then some (_++(dB (bZ _ k _) k).map iH) else none)=some m;rw [if_neg (by omega),RH _ _ hw16,JM hm5,if_pos]
   ·exact congrArg some (JL c hl _)
   ·refine ⟨k0,k1,?_,by simpa using hd⟩;rw [List.all_map,List.all_eq_true];intro x hx;simp only [Function.comp];exact decide_eq_true (JN (hm5 x hx)).2
  by_cases hc:c.more = -1
  ·rw [if_pos hc];rw [hc] at W;rcases Ag (B:=B) (X:=X) hn with ⟨e0,k0,k1,kn,kx⟩|⟨e9,kx,kf⟩
   ·right
    have hk:0<=(bL B X node).1/\(bL B X node).1<96:=⟨k0,k1⟩;obtain ⟨W1,F1,B1⟩:=W.RI hn hk kn;obtain ⟨W2,F2,B2⟩:=W1.JK (ws:=(m.drop 5).map λn=>w64 (n+1)) (by omega) (by omega);simp only [e0,if_true,if_pos hk,kx];refine ⟨rfl,rfl,⟨λh=>?_,λh=>absurd h hd⟩,hmap _ _ k0 k1,W2,F1.trans F2 (ig hn),λp hp=>(B2 p hp).trans (B1 p hp),rfl⟩;have h':(bL B X node).1 = -1:=h;omega
   ·left
    simp only [e9];exact ⟨by simp,λA=>JO hn W A kf,hc,by simpa using hd⟩
  ·rw [if_neg hc]
   right
   have hk:0<=c.more/\c.more<96:=by
    rcases W.bH c.more List.mem_cons_self with h|h
    ·exact absurd h hc
    ·exact h
   obtain ⟨W2,F2,B2⟩:=W.JK (ws:=(m.drop 5).map λn=>w64 (n+1)) (by omega) hc;simp only [if_true,if_pos hk];exact ⟨rfl,rfl,⟨λh=>absurd h hc,λh=>absurd h hd⟩,hmap _ _ hk.1 hk.2,W2,F2,B2,rfl⟩
structure gF (now:Int->UInt64)(node:Int)(c:aA)(m:List Int)(s:List UInt8):Prop where
 map:mapOf now c=some m
 wk:Wk now node c.more m
 kind:(c.kind=1\/c.kind=3)/\0<=c.links/\c.links<=255
 size:c.size=(s.length:Int)
 fits:s.length<=2688
 aQ:∀ p,p<2688->fb now m p=s[p]?.getD 0
 hol:∀ j,j<21->s.length<=128*j->m[j]?.getD (-1) = -1
 kY:c.more = -1↔(m.drop 5).any eO=false
theorem DJ {now:Int->UInt64}{c:aA}{m:List Int}(h:mapOf now c=some m):∀ x∈c.direct,x∈m:=by
 intro x hx;unfold mapOf at h;split at h
 ·have:=Option.some.inj h;subst this;exact List.mem_append_left _ hx
 ·split at h
  ·have:=Option.some.inj h;subst this;exact List.mem_append_left _ hx
  ·cases h
theorem gF.right {now:Int->UInt64}{node:Int}{c:aA}{m:List Int}{s:List UInt8}(F:gF now node c m s):fV c=true:=by
 have hb:∀ x,nK x->lV x=true:=by
  intro x hx;unfold nK at hx;simp [lV];omega
 have hd:c.direct.all lV=true:=List.all_eq_true.2 λx hx=>hb x (F.wk.bH x (List.mem_cons_of_mem _ (DJ F.map x hx)));have hs:=F.size;have hf:=F.fits;obtain ⟨hk,hl⟩:=F.kind;unfold fV;rw [if_neg (by omega),hd,hb c.more (F.wk.bH _ List.mem_cons_self)];simp;omega
theorem gF.ok {now:Int->UInt64}{node:Int}{c:aA}{m:List Int}{s:List UInt8}(F:gF now node c m s):c.ok:=by
 have hs:=F.size;have hf:=F.fits;obtain ⟨hk,hl⟩:=F.kind;refine ⟨by unfold inI64;omega,by unfold inI64;omega,by unfold inI64;omega,λx hx=>?_,?_⟩
 ·have:=F.wk.bH x (List.mem_cons_of_mem _ (DJ F.map x hx));unfold nK at this;unfold inI64;omega
 ·have:=F.wk.bH _ List.mem_cons_self;unfold nK at this;unfold inI64;omega
theorem gF.mO {now:Int->UInt64}{node:Int}{c:aA}{m:List Int}{s:List UInt8}(F:gF now node c m s):mO now c:=by
 intro m' hm x hx;rw [F.map] at hm;have:=Option.some.inj hm;subst this;exact F.wk.bH x (List.mem_cons_of_mem _ hx)
def fu (s:List UInt8)(at_:Int)(data:List UInt8):List UInt8×Int:=
 if at_<0\/400<data.length then ([],1)
 else if data=[] then (s,0)
 else if 2688-(data.length:Int)<at_ then ([],10)
 else ((s++zeros (at_.toNat+data.length-s.length)).take at_.toNat++data++(s++zeros (at_.toNat+data.length-s.length)).drop (at_.toNat+data.length),0)
theorem Dh (n i:Nat):(zeros n)[i]?.getD 0=0:=by
 unfold zeros;rw [List.getElem?_replicate];split <;> rfl
theorem Ef (s:List UInt8)(n i:Nat):(s++zeros n)[i]?.getD 0=s[i]?.getD 0:=by
 by_cases h:i<s.length
 ·rw [List.getElem?_append_left h]
 ·rw [List.getElem?_append_right (by omega),Dh,List.getElem?_eq_none (by omega)];rfl
theorem RJ (s:List UInt8)(a:Nat)(data:List UInt8)(p:Nat) :
 ((s++zeros (a+data.length-s.length)).take a++data++(s++zeros (a+data.length-s.length)).drop (a+data.length))[p]?.getD 0=if a<=p/\p<a+data.length then data[p-a]?.getD 0 else s[p]?.getD 0:=by
 have hz:(zeros (a+data.length-s.length)).length=a+data.length-s.length:=by simp [zeros]
 have hL:(s++zeros (a+data.length-s.length)).length>=a+data.length:=by rw [List.length_append,hz];omega
 have ht:((s++zeros (a+data.length-s.length)).take a).length=a:=by rw [List.length_take];omega
 by_cases c1:p<a
 ·rw [List.append_assoc,List.getElem?_append_left (by omega),List.getElem?_take,if_pos c1,Ef,if_neg (by omega)]
 ·by_cases c2:p<a+data.length
  ·rw [List.getElem?_append_left (by rw [List.length_append];omega),List.getElem?_append_right (by omega),ht,if_pos ⟨by omega,c2⟩]
  ·rw [List.getElem?_append_right (by rw [List.length_append];omega),List.length_append,ht,List.getElem?_drop,if_neg (by omega),show a+data.length+(p-(a+data.length))=p by omega,Ef]
theorem Eg (s:List UInt8)(a:Nat)(data:List UInt8) :
 ((s++zeros (a+data.length-s.length)).take a++data++(s++zeros (a+data.length-s.length)).drop (a+data.length)).length=max s.length (a+data.length):=by
 have hz:(zeros (a+data.length-s.length)).length=a+data.length-s.length:=by simp [zeros]
 simp only [List.length_append,List.length_take,List.length_drop,hz];omega
structure Wrote (node:Int)(X:VS)(m:List Int)(at_:Int)(data s':List UInt8)(r:aA×Int×VS)(m':List Int):Prop where
 file:gF r.2.2.now node r.1 m' s'
 fr:Fr node X.now r.2.2.now
 x:r.2.2={ X with now:=r.2.2.now }
 holes:∀ j,j<21->(m'[j]?.getD (-1) = -1↔m[j]?.getD (-1) = -1/\¬ (data≠[]/\at_.toNat/128<=j/\j<(at_.toNat+data.length+127)/128))
theorem Dr {B:Int->UInt64}{node:Int}(hn:0<=node/\node<24){X:VS}{c:aA}{m:List Int}{s:List UInt8}(F:gF X.now node c m s)(at_:Int)(data:List UInt8) :
 ((fZ B X node c at_ data).2.1=9/\(fu s at_ data).2=0/\¬ Alone B node X) \/
 ((fZ B X node c at_ data).2.1=(fu s at_ data).2/\((fu s at_ data).2=0->∃ m',Wrote node X m at_ data (fu s at_ data).1 (fZ B X node c at_ data) m')):=by
 unfold fZ fu;by_cases h1:at_<0\/400<data.length
 ·rw [if_pos (.inr h1),if_pos h1];exact .inr ⟨rfl,λh=>by cases h⟩
 ·rw [if_neg (by rintro (x|x);exact x hn;exact h1 x),if_neg h1];by_cases h2:data=[]
  ·rw [if_pos h2,if_pos h2,F.map];refine .inr ⟨rfl,λ_=>⟨m,F,Fr.refl _ _,rfl,λj hj=>⟨λh=>⟨h,λx=>x.1 h2⟩,λh=>h.1⟩⟩⟩
  ·rw [if_neg h2,if_neg h2];have hdl:0<data.length:=by
    cases data with
    | nil=>exact absurd rfl h2
    | cons x l=>simp
   by_cases h3:2688-(data.length:Int)<at_
   ·rw [if_pos h3,if_pos h3];exact .inr ⟨rfl,λh=>by cases h⟩
   ·rw [if_neg h3,if_neg h3,F.map];simp only;obtain ⟨a,rfl⟩:∃ a:Nat,at_=(a:Int):=⟨at_.toNat,by omega⟩;have hfit:a+data.length<=2688:=by omega
    simp only [Int.toNat_natCast];rcases JP (B:=B) (a:=a) (data:=data) hn ((a+data.length+127)/128-a/128) (a/128) X m F.wk (by omega) (λ_=>by omega) (by omega) with ⟨e,hno⟩|R
    ·left
     rw [e];exact ⟨by simp,trivial,hno⟩
    ·rw [R.e];simp only [if_true];have hc:({ c with size:=max c.size ((a:Int)+data.length) }:aA).more=c.more:=rfl;rcases tY (B:=B) (c:={ c with size:=max c.size ((a:Int)+data.length) }) hn (hc ▸ R.wk) with ⟨e,hno,_⟩|K
     ·left
      exact ⟨e,trivial,λA=>hno (A.on R.fr (ig hn) (by rw [R.x]))⟩
     ·right
      refine ⟨K.e,λ_=>⟨(gX B node a data ((a+data.length+127)/128-a/128) (a/128) X m).2.2,?_,R.fr.trans K.fr (ig hn),by rw [K.x,R.x],λj hj=>?_⟩⟩
      ·have hcc:=K.c_;refine ⟨K.map,K.wk,?_,?_,?_,λp hp=>?_,λj hj hs=>?_,K.kY⟩
       ·rw [hcc];exact F.kind
       ·rw [hcc,Eg];have:=F.size;show max c.size ((a:Int)+data.length)=_;rw [this];omega
       ·rw [Eg];have:=F.fits;omega
       ·rw [K.aQ p hp,R.aQ p hp,RJ,F.aQ p hp];by_cases hc:a<=p/\p<a+data.length
        ·rw [if_pos hc,if_pos ⟨by omega,by omega,hc⟩]
        ·rw [if_neg hc,if_neg (λh=>hc h.2.2)]
       ·rw [Eg] at hs;exact (R.holes j hj).2 ⟨F.hol j hj (by omega),by omega⟩
      ·rw [R.holes j hj]
       constructor
       ·rintro ⟨x,y⟩;exact ⟨x,λz=>y ⟨z.2.1,by omega⟩⟩
       ·rintro ⟨x,y⟩;exact ⟨x,λz=>y ⟨h2,z.1,by omega⟩⟩
theorem iZ (x y:List UInt8):((ByteArray.mk x.toArray).toList==(ByteArray.mk y.toArray).toList)=decide (x=y):=by
 rw [yg];refine decide_eq_decide.2 ⟨λe=>?_,λe=>by rw [e]⟩;have:=congrArg (λb:ByteArray=>b.data.toList) e;simpa using this
theorem dP (l:List UInt8):(ByteArray.mk l.toArray).size=l.length:=by show l.toArray.size=_;simp
theorem qL (l:List UInt8)(i:Nat):ji ⟨l.toArray⟩ i=((l[i]?.getD 0).toNat:Int):=by simp [ji]
theorem Ed (l:List UInt8)(c:UInt8)(h:Heap):aC Tryz.prog 289 [.string ⟨l.toArray⟩,.int .u8 (c.toNat:Int)] h (λv h'=>Keeps [] h h'/\v=.int .i64 (Lib.indexByte l c)):=by
 refine aG aH Tryz.func289 rfl ok289 (by simp [Tryz.f289]) ?_;(conv=>whnf);refine aW.ext rfl (by kernel_rfl) (by kernel_rfl) (by kernel_rfl) (e:=Extern.BytealgIndexByte.indexByte) (by kernel_rfl) (aW.pure (λw _=>Lib.run_indexByteString (P:=Tryz.prog) _ _ w) ?_);(conv=>whnf);refine ⟨Keeps.refl _ _,?_⟩;simp
theorem Rw (l:List UInt8)(c:UInt8)(h:Heap):aC Tryz.prog 267 [.string ⟨l.toArray⟩,.int .u8 (c.toNat:Int)] h (λv h'=>Keeps [] h h'/\v=.int .i64 (Lib.indexByte l c)):=by
 refine aG aH Tryz.func267 rfl ok267 (by simp [Tryz.f267]) ?_;(conv=>whnf);refine ak.i (Ed l c h) λv h1 k1 hv=>?_;subst hv;(conv=>whnf);exact ⟨k1,rfl⟩
def jM (c:UInt8):Bool:=(decide (97<=c.toNat)&&decide (c.toNat<=122))||(decide (48<=c.toNat)&&decide (c.toNat<=57))||(decide (c=46)||(decide (c=45)||decide (c=95)))
theorem Rx:∀ c:UInt8,decide (0<=Lib.indexByte [46,45,95] c)=(decide (c=46)||(decide (c=45)||decide (c=95))):=by
 intro c;simp only [Lib.indexByte];by_cases h1:(46:UInt8)=c
 ·subst h1;decide
 by_cases h2:(45:UInt8)=c
 ·subst h2;decide
 by_cases h3:(95:UInt8)=c
 ·subst h3;decide
 have g1:¬ c=46:=λe=>h1 e.symm;have g2:¬ c=45:=λe=>h2 e.symm;have g3:¬ c=95:=λe=>h3 e.symm;simp [h1,h2,h3,g1,g2,g3]
theorem Ry (c:UInt8)(h:Heap):aC Tryz.prog 223 [.int .u8 (c.toNat:Int)] h (λv h'=>Keeps [] h h'/\v=.bool (jM c)):=by
 refine aG aH Tryz.func223 rfl ok223 (by simp [Tryz.f223]) ?_;(conv=>whnf);refine aV.pass ?_;(conv=>whnf);(try refine aV.pass ?_;conv=>whnf);refine aj.i (λh1=>?_) (λh1=>?_)
 ·(conv=>whnf);refine aj.t h1 ?_;(conv=>whnf);refine ⟨Keeps.refl _ _,?_⟩;have h2:97<=c.toNat/\c.toNat<=122:=by simp [dJ] at h1;omega
  simp [jM,h2]
 ·(conv=>whnf);(try refine aV.pass ?_;conv=>whnf);refine aj.i (λh3=>?_) (λh3=>?_)
  ·(conv=>whnf);refine ⟨Keeps.refl _ _,?_⟩;have h2:48<=c.toNat/\c.toNat<=57:=by simp [dJ] at h3;omega
   simp [jM,h2]
  ·(conv=>whnf);refine ak.i (Rw [46,45,95] c h) λv h4 k4 hv=>?_;subst hv;(conv=>whnf);refine ⟨k4,?_⟩;have h2:¬ (97<=c.toNat/\c.toNat<=122):=by simp [dJ] at h1;omega
   have h5:¬ (48<=c.toNat/\c.toNat<=57):=by simp [dJ] at h3;omega
   have e:jM c=(decide (c=46)||(decide (c=45)||decide (c=95))):=by
    unfold jM;rw [<-Bool.decide_and,<-Bool.decide_and,decide_eq_false h2,decide_eq_false h5];rfl
   rw [e,<-Rx]
def dI (l:List UInt8):Bool:=l.all jM&&(decide (l≠[])&&decide (l.length<=14)&&decide (l≠[46])&&decide (l≠[46,46]))
theorem DR (l:List UInt8)(hl:l.length<=140737488351232)(h:Heap):aC Tryz.prog 165 [.string ⟨l.toArray⟩] h (λv h'=>Keeps [] h h'/\v=.bool (dI l)):=by
 refine aG aH Tryz.func165 rfl ok165 (by simp [Tryz.f165]) ?_;(conv=>whnf);refine bP.on [0,5,6] [] (λi:Nat=>[(0,.v (.string ⟨l.toArray⟩)),(5,.v (.int .i64 (l.length:Int))),(6,.v (.int .i64 (i:Int)))]) (λ_=>[]) (λi h'=>i<=l.length/\Keeps [] h h'/\(l.take i).all jM=true) (λi=>l.length-i) 0 ?_ ?_
 ·(conv=>whnf);refine ⟨0,rfl,?_,rfl,Nat.zero_le _,Keeps.refl _ _,by simp⟩;rw [dP];rfl
 ·rintro i h1 ⟨hi,k1,ha⟩;(conv=>whnf);refine aj.i (λhd=>?_) (λhd=>?_)
  ·have hi1:i<l.length:=by simp at hd;omega
   (conv=>whnf);refine dO.i i rfl (by rw [dP];exact hi1) ?_;(conv=>whnf);rw [qL,List.getElem?_eq_getElem hi1,Option.getD_some];refine ak.i (Ry l[i] h1) λv h2 k2 hv=>?_;subst hv;have htk:(l.take (i+1)).all jM=jM l[i]:=by
    rw [List.take_succ_eq_append_getElem hi1,List.all_append,ha];simp
   (conv=>whnf);refine aj.i (λhs=>?_) (λhs=>?_)
   ·(conv=>whnf);refine ⟨k1.trans k2,?_⟩;have hf:l.all jM=false:=by
     have:jM l[i]=false:=by simpa using hs
     rw [<-Bool.not_eq_true,List.all_eq_true];intro hx;rw [hx _ (List.getElem_mem hi1)] at this;cases this
    simp [dI,hf]
   ·(conv=>whnf);refine ⟨l.length-(i+1),by omega,?_⟩;(conv=>whnf);refine ⟨i+1,rfl,by rw [wrapN (n:=i+1) (by simp) (by omega)],rfl,by omega,k1.trans k2,?_⟩;rw [htk];simpa using hs
  ·have hi1:i=l.length:=by simp at hd;omega
   subst hi1;rw [List.take_length] at ha;(conv=>whnf);refine ⟨k1,?_⟩;unfold dI;have hc:decide ((l.length:Int)<=14)=decide (l.length<=14):=decide_eq_decide.2 (by omega);have e0:(ByteArray.mk #[])=⟨([]:List UInt8).toArray⟩:=rfl;have e1:(ByteArray.mk #[46])=⟨([46]:List UInt8).toArray⟩:=rfl;have e2:(ByteArray.mk #[46,46])=⟨([46,46]:List UInt8).toArray⟩:=rfl;rw [ha,dP,hc,e0,e1,e2,iZ,iZ,iZ];simp only [dJ];by_cases h0:l=[] <;> by_cases h1:l.length<=14 <;> by_cases h2:l=[46] <;> by_cases h3:l=[46,46] <;> simp_all
def uw (l:List UInt8):UInt64:=l.foldl (λh c=>(h ^^^ c.toUInt64)*1099511628211) 14695981039346656037
theorem Rz (a:UInt64)(c:UInt8):Value.int .u64 (IntKind.u64.wrap (IntKind.u64.wrap (((BitVec.ofInt IntKind.u64.bits (a.toNat:Int) ^^^ BitVec.ofInt IntKind.u64.bits (IntKind.u64.wrap (c.toNat:Int))).toNat:Nat))*1099511628211))=wv ((a ^^^ c.toUInt64)*1099511628211):=by
 have hc:=c.toNat_lt;have ha:=a.toNat_lt;have e1:IntKind.u64.wrap (c.toNat:Int)=(c.toNat:Int):=by rw [qU];omega
 have hx:(BitVec.ofInt IntKind.u64.bits (a.toNat:Int) ^^^ BitVec.ofInt IntKind.u64.bits (c.toNat:Int)).toNat=(a ^^^ c.toUInt64).toNat:=by
  have e2:BitVec.ofInt IntKind.u64.bits (a.toNat:Int)=a.toBitVec:=by
   apply BitVec.eq_of_toNat_eq;simp [IntKind.bits]
  have e3:BitVec.ofInt IntKind.u64.bits (c.toNat:Int)=c.toUInt64.toBitVec:=by
   apply BitVec.eq_of_toNat_eq;simp [IntKind.bits]
  rw [e2,e3];rfl
 rw [e1,hx];unfold wv;refine congrArg (Value.int .u64) ?_;have hl:=(a ^^^ c.toUInt64).toNat_lt;rw [qU,qU,UInt64.toNat_mul];have:(UInt64.toNat 1099511628211)=1099511628211:=rfl;rw [this];omega
theorem RF (l:List UInt8)(hl:l.length<=140737488351232)(h:Heap):aC Tryz.prog 227 [.string ⟨l.toArray⟩] h (λv h'=>Keeps [] h h'/\v=wv (uw l)):=by
 refine aG aH Tryz.func227 rfl ok227 (by simp [Tryz.f227]) ?_;(conv=>whnf);refine aW.bytesOf rfl rfl rfl λb2 c2 h2 r2 fz2 e2 s2 hc2 o2 k2=>?_;(conv=>whnf);refine bP.on [3,7,8,9] [] (λi:Nat=>[(3,.v (wv (uw (l.take i)))),(7,.v (.slice (some ⟨b2,0,none⟩) l.length c2)),(8,.v (.int .i64 (l.length:Int))),(9,.v (.int .i64 (i:Int)))]) (λ_=>[]) (λi h'=>i<=l.length/\Keeps [] h2 h') (λi=>l.length-i) 0 ?_ ?_
 ·(conv=>whnf);refine ⟨0,rfl,?_,rfl,Nat.zero_le _,Keeps.refl _ _⟩;rw [dP,List.take_zero];rfl
 ·rintro i h3 ⟨hi,k3⟩;(conv=>whnf);refine aj.i (λhd=>?_) (λhd=>?_)
  ·have hi1:i<l.length:=by simp at hd;omega
   (conv=>whnf);refine aX.i i rfl hi1 rfl ?_;(conv=>whnf);refine ax.o (v:=.int .u8 (l[i].toNat:Int)) (k3.obj o2 (by simp)) ?_ ?_
   ·rw [nN];show (jQ ⟨l.toArray⟩++r2)[0+i*1]?=_;rw [show 0+i*1=i by omega,List.getElem?_append_left (by rw [uy,dP];exact hi1)];simp [jQ,hi1]
   (conv=>whnf);refine ⟨l.length-(i+1),by omega,?_⟩;(conv=>whnf);refine ⟨i+1,rfl,?_,rfl,by omega,k3⟩;rw [wrapN (n:=i+1) (by simp) (by omega),Rz];have e:uw (l.take (i+1))=(uw (l.take i) ^^^ l[i].toUInt64)*1099511628211:=by
    unfold uw;rw [List.take_succ_eq_append_getElem hi1,List.foldl_append];rfl
   rw [e]
  ·have hi1:i=l.length:=by simp at hd;omega
   subst hi1;(conv=>whnf);rw [List.take_length];exact ⟨k2.trans k3,rfl⟩
def bU (l:List UInt8):Nat:=(uw l).toNat%8
theorem qG (l:List UInt8):bU l<8:=Nat.mod_lt _ (by decide)
theorem xS (l:List UInt8)(hl:l.length<=140737488351232)(h:Heap):aC Tryz.prog 171 [.string ⟨l.toArray⟩,.int .i64 8] h (λv h'=>Keeps [] h h'/\v=.int .i64 (bU l:Int)):=by
 refine aG aH Tryz.func171 rfl ok171 (by simp [Tryz.f171]) ?_;(conv=>whnf);refine aj.f (by decide) ?_;(conv=>whnf);refine ak.i (RF l hl h) λv h1 k1 hv=>?_;subst hv;(conv=>whnf);refine dL.i (by decide) ?_;(conv=>whnf);refine ⟨k1,?_⟩;have hlt:=(uw l).toNat_lt;have e8:IntKind.u64.wrap 8=8:=by decide
 rw [e8,Int.tmod_eq_emod_of_nonneg (by omega)];unfold bU
 congr 1
 rw [dR (by omega) (by omega)];omega
def nz (c:UInt8):Bool:=decide (c≠0)
def oP (l:List UInt8):List UInt8:=l.takeWhile nz
def jN (l:List UInt8):List UInt8:=(l.dropWhile nz).drop 1
theorem JH:∀ l:List UInt8,(Lib.indexByte l 0 = -1/\oP l=l/\jN l=[])\/(∃ i:Nat,i<l.length/\Lib.indexByte l 0=(i:Int)/\l.take i=oP l/\l.drop (i+1)=jN l)
 | []=>.inl ⟨rfl,rfl,rfl⟩
 | c::l=>by
  by_cases hc:c=0
  ·subst hc;exact .inr ⟨0,by simp,by simp [Lib.indexByte],by simp [oP,nz],by simp [jN,nz]⟩
  ·have hb:(c==0)=false:=by simpa using hc
   have hn:nz c=true:=by simpa [nz] using hc
   rcases JH l with ⟨h1,h2,h3⟩|⟨i,h1,h2,h3,h4⟩
   ·refine .inl ⟨by simp [Lib.indexByte,hc,h1],?_,?_⟩
    ·unfold oP at h2 ⊢;rw [List.takeWhile_cons,if_pos hn,h2]
    ·unfold jN at h3 ⊢;rw [List.dropWhile_cons,if_pos hn];exact h3
   ·refine .inr ⟨i+1,by simpa using h1,?_,?_,?_⟩
    ·have:¬ ((i:Int) == -1)=true:=by simp
     simp [Lib.indexByte,hc,h2]
    ·unfold oP at h3 ⊢;rw [List.takeWhile_cons,if_pos hn,List.take_succ_cons,h3]
    ·unfold jN at h4 ⊢;rw [List.dropWhile_cons,if_pos hn,List.drop_succ_cons];exact h4
theorem Rk (l:List UInt8):(oP l).length<=l.length:=(List.takeWhile_prefix _).length_le
theorem index_spec (l:List UInt8)(h:Heap):aC Tryz.prog 266 [.string ⟨l.toArray⟩,.string ⟨#[0]⟩] h (λv h'=>Keeps [] h h'/\v=.int .i64 (Lib.indexByte l 0)):=by
 refine aG aH Tryz.func266 rfl ok266 (by simp [Tryz.f266]) ?_;(conv=>whnf);have e0:(ByteArray.mk #[0])=⟨([0]:List UInt8).toArray⟩:=rfl;refine aj.i (λh1=>?_) (λh1=>?_)
 ·(conv=>whnf);refine ⟨Keeps.refl _ _,?_⟩;have:l=[0]:=by
   have h1:((ByteArray.mk #[0]).toList==(ByteArray.mk l.toArray).toList)=true:=h1;rw [e0,iZ] at h1;simpa [eq_comm] using h1
  subst this;rfl
 ·(conv=>whnf);refine aj.t rfl ?_;(conv=>whnf);refine dO.i 0 rfl (by decide) ?_;(conv=>whnf);refine ak.i (Ed l 0 h) λv h1 k1 hv=>?_;subst hv;(conv=>whnf);exact ⟨k1,rfl⟩
theorem qQ (l:List UInt8)(i j:Nat):(ByteArray.extract ⟨l.toArray⟩ i j)=⟨((l.take j).drop i).toArray⟩:=qR l i j
theorem Rs (l:List UInt8)(hl:l.length<=140737488351232)(h:Heap):aC Tryz.prog 247 [.string ⟨l.toArray⟩,.string ⟨#[0]⟩] h (λv h'=>Keeps [] h h'/\∃ b,v=.tuple #[.string ⟨(oP l).toArray⟩,.string ⟨(jN l).toArray⟩,.bool b]):=by
 refine aG aH Tryz.func247 rfl ok247 (by simp [Tryz.f247]) ?_;(conv=>whnf);refine ak.i (index_spec l h) λv h1 k1 hv=>?_;subst hv;rcases JH l with ⟨g1,g2,g3⟩|⟨i,g0,g1,g2,g3⟩
 ·(conv=>whnf);refine aj.f (by rw [g1];rfl) ?_;(conv=>whnf);rw [g2,g3];exact ⟨k1,_,rfl⟩
 ·(conv=>whnf);refine aj.t (by rw [g1];simp) ?_;(conv=>whnf);refine dw.i 0 i rfl (by rw [g1]) (Nat.zero_le _) (by rw [dP];omega) ?_;(conv=>whnf);refine dw.i (i+1) l.length (by rw [g1,wrapN (n:=i+1) (by simp [ByteArray.size]) (by omega)]) (by rw [dP]) (by omega) (by rw [dP];omega) ?_;(conv=>whnf);refine ⟨k1,true,?_⟩;rw [qQ,qQ,List.drop_zero,List.take_length,g2,g3]
theorem Rm (l:List UInt8)(hl:l.length<=140737488351232)(h:Heap):aC Tryz.prog 215 [.string ⟨l.toArray⟩,.string ⟨#[0]⟩] h (λv h'=>Keeps [] h h'/\∃ b,v=.tuple #[.string ⟨(oP l).toArray⟩,.string ⟨(jN l).toArray⟩,.bool b]):=by
 refine aG aH Tryz.func215 rfl ok215 (by simp [Tryz.f215]) ?_;(conv=>whnf);refine ak.i (Rs l hl h) λv h1 k1 hv=>?_;obtain ⟨b,rfl⟩:=hv;(conv=>whnf);exact ⟨k1,b,rfl⟩
def ez (c:UInt8):Bool:=decide (c=0)
def oV (l:List UInt8):List UInt8:=(l.reverse.dropWhile ez).reverse
def AB (l:List UInt8):List UInt8:=(oV l).dropWhile ez
theorem JI (l:List UInt8)(c:UInt8):oV (l++[c])=if c=0 then oV l else l++[c]:=by
 unfold oV;rw [List.reverse_append];simp only [List.reverse_cons,List.reverse_nil,List.nil_append,List.singleton_append,List.dropWhile_cons];by_cases h:c=0
 ·simp [h,ez]
 ·simp [h,ez]
theorem JJ {α:Type}(p:α->Bool):∀ l:List α,l.dropWhile p=[]↔l.all p=true
 | []=>by simp
 | x::l=>by
  rw [List.dropWhile_cons,List.all_cons];by_cases h:p x=true
  ·rw [if_pos h,JJ p l,h];simp
  ·rw [if_neg h];simp [h]
theorem Ro (l:List UInt8):AB l=[]↔l.all ez=true:=by
 unfold AB;rw [JJ];unfold oV;rw [List.all_reverse];have:∀ m:List UInt8,((m.dropWhile ez).all ez=true)↔m.all ez=true:=by
  intro m
  induction m with
  | nil=>simp
  | cons x m ih=>
   rw [List.dropWhile_cons];split
   ·rename_i h;rw [ih,List.all_cons,h];simp
   ·rfl
 rw [this,List.all_reverse]
theorem Rt (l:List UInt8)(hl:l.length<=140737488351232)(h:Heap):aC Tryz.prog 249 [.string ⟨l.toArray⟩,.int .u8 0] h (λv h'=>Keeps [] h h'/\v=.string ⟨(oV l).toArray⟩):=by
 refine aG aH Tryz.func249 rfl ok249 (by simp [Tryz.f249]) ?_;(conv=>whnf);refine bP.on [0,1] [] (λi:Nat=>[(0,.v (.string ⟨(l.take i).toArray⟩)),(1,.v (.int .u8 0))]) (λ_=>[]) (λi h'=>i<=l.length/\Keeps [] h h'/\oV (l.take i)=oV l) (λi=>i) l.length ?_ ?_
 ·refine ⟨l.length,rfl,?_,rfl,Nat.le_refl _,Keeps.refl _ _,by rw [List.take_length]⟩;rw [List.take_length]
 ·rintro i h1 ⟨hi,k1,ht⟩;have hlen:(l.take i).length=i:=by rw [List.length_take];omega
  by_cases h0:i=0
  ·subst h0;(conv=>whnf);refine dO.u 0 (λhx=>by simp [ByteArray.size] at hx) ?_;(conv=>whnf);refine aj.f (by simp [ByteArray.size]) ?_;(conv=>whnf);refine ⟨k1,?_⟩;rw [<-ht];rfl
  ·have hw:IntKind.i64.wrap (((ByteArray.mk (l.take i).toArray).size:Int)-1)=((i-1:Nat):Int):=by
    rw [dP,hlen,dR (by omega) (by omega)];omega
   have hg:l.take i=l.take (i-1)++[l[i-1]'(by omega)]:=by
    rw [<-List.take_succ_eq_append_getElem (by omega)];congr 1;omega
   (conv=>whnf);refine dO.u (i-1) (λ_=>⟨hw,by rw [dP];omega⟩) ?_;have hb:ji ⟨(l.take i).toArray⟩ (i-1)=((l[i-1]'(by omega)).toNat:Int):=by
    rw [qL,List.getElem?_eq_getElem (by omega),Option.getD_some,List.getElem_take]
   (conv=>whnf);refine aj.i (λhd=>?_) (λhd=>?_)
   ·have hz:l[i-1]'(by omega)=0:=by
     have:ji ⟨(l.take i).toArray⟩ (i-1)=0:=by simp [dJ] at hd;exact hd.2
     rw [hb] at this;exact UInt8.toNat_inj.1 (by have h2:(UInt8.toNat 0)=0:=rfl;omega)
    (conv=>whnf);refine dw.i 0 (i-1) rfl hw (Nat.zero_le _) (by rw [dP];omega) ?_;(conv=>whnf);refine ⟨i-1,by omega,?_⟩;(conv=>whnf);refine ⟨i-1,rfl,?_,rfl,by omega,k1,?_⟩
    ·rw [qQ,List.drop_zero,List.take_take,Nat.min_eq_left (by omega)]
    ·rw [<-ht,hg,JI,if_pos hz]
   ·(conv=>whnf);refine ⟨k1,?_⟩;have hz:¬ l[i-1]'(by omega)=0:=by
     intro e;have:ji ⟨(l.take i).toArray⟩ (i-1)=0:=by rw [hb,e];rfl
     have hpos:0<(ByteArray.mk (l.take i).toArray).size:=by rw [dP,hlen];omega
     have hp:decide (((ByteArray.mk (l.take i).toArray).size:Int)>0)=true:=decide_eq_true (by omega);rw [hp,this] at hd;cases hd
    rw [<-ht,hg,JI,if_neg hz]
theorem Ru (l:List UInt8)(hl:l.length<=140737488351232)(h:Heap):aC Tryz.prog 248 [.string ⟨l.toArray⟩,.int .u8 0] h (λv h'=>Keeps [] h h'/\v=.string ⟨(l.dropWhile ez).toArray⟩):=by
 refine aG aH Tryz.func248 rfl ok248 (by simp [Tryz.f248]) ?_;(conv=>whnf);refine bP.on [0,1] [] (λi:Nat=>[(0,.v (.string ⟨(l.drop i).toArray⟩)),(1,.v (.int .u8 0))]) (λ_=>[]) (λi h'=>i<=l.length/\Keeps [] h h'/\(l.drop i).dropWhile ez=l.dropWhile ez) (λi=>l.length-i) 0 ?_ ?_
 ·refine ⟨0,rfl,?_,rfl,Nat.zero_le _,Keeps.refl _ _,by rw [List.drop_zero]⟩;rw [List.drop_zero]
 ·rintro i h1 ⟨hi,k1,ht⟩;have hlen:(l.drop i).length=l.length-i:=by rw [List.length_drop]
  by_cases h0:i=l.length
  ·have hnil:l.drop i=[]:=List.drop_eq_nil_of_le (by omega);rw [hnil] at ht ⊢;(conv=>whnf);refine dO.u 0 (λhx=>by simp [ByteArray.size] at hx) ?_;(conv=>whnf);refine aj.f (by simp [ByteArray.size]) ?_;(conv=>whnf);refine ⟨k1,?_⟩;rw [<-ht];rfl
  ·have hg:l.drop i=l[i]'(by omega)::l.drop (i+1):=List.drop_eq_getElem_cons (by omega);(conv=>whnf);refine dO.u 0 (λ_=>⟨rfl,by rw [dP];omega⟩) ?_;have hb:ji ⟨(l.drop i).toArray⟩ 0=((l[i]'(by omega)).toNat:Int):=by
    rw [qL,hg];rfl
   (conv=>whnf);refine aj.i (λhd=>?_) (λhd=>?_)
   ·have hz:l[i]'(by omega)=0:=by
     have:ji ⟨(l.drop i).toArray⟩ 0=0:=by simp [dJ] at hd;exact hd.2
     rw [hb] at this;exact UInt8.toNat_inj.1 (by have h2:(UInt8.toNat 0)=0:=rfl;omega)
    (conv=>whnf);refine dw.i 1 (l.length-i) rfl (by rw [dP,hlen]) (by omega) (by rw [dP];omega) ?_;(conv=>whnf);refine ⟨l.length-(i+1),by omega,?_⟩;(conv=>whnf);refine ⟨i+1,rfl,?_,rfl,by omega,k1,?_⟩
    ·rw [qQ,<-hlen,List.take_length,List.drop_drop]
    ·rw [<-ht,hg,List.dropWhile_cons,if_pos (by simp [ez,hz])]
   ·(conv=>whnf);refine ⟨k1,?_⟩;have hz:¬ l[i]'(by omega)=0:=by
     intro e;have:ji ⟨(l.drop i).toArray⟩ 0=0:=by rw [hb,e];rfl
     have hpos:0<(ByteArray.mk (l.drop i).toArray).size:=by rw [dP,hlen];omega
     have hp:decide (((ByteArray.mk (l.drop i).toArray).size:Int)>0)=true:=decide_eq_true (by omega);rw [hp,this] at hd;cases hd
    rw [<-ht,hg,List.dropWhile_cons,if_neg (by simp [ez,hz])]
theorem Rv (l:List UInt8):(oV l).length<=l.length:=by
 unfold oV;rw [List.length_reverse];exact Nat.le_trans (List.IsSuffix.length_le (List.dropWhile_suffix _)) (by simp)
theorem Rn (l:List UInt8)(hl:l.length<=140737488351232)(h:Heap):aC Tryz.prog 216 [.string ⟨l.toArray⟩,.string ⟨#[0]⟩] h (λv h'=>Keeps [] h h'/\v=.string ⟨(AB l).toArray⟩):=by
 have e0:(ByteArray.mk #[])=⟨([]:List UInt8).toArray⟩:=rfl;refine aG aH Tryz.func216 rfl ok216 (by simp [Tryz.f216]) ?_;(conv=>whnf);refine aj.i (λh1=>?_) (λh1=>?_)
 ·(conv=>whnf);refine ⟨Keeps.refl _ _,?_⟩;have:l=[]:=by
   rw [e0,iZ] at h1;by_cases h:l=[]
   ·exact h
   ·simp [h] at h1
  subst this;rfl
 ·(conv=>whnf);refine dO.u 0 (λ_=>⟨rfl,by decide⟩) ?_;(conv=>whnf);refine aj.t (by decide) ?_;(conv=>whnf);refine dO.i 0 rfl (by decide) ?_;(conv=>whnf);refine dO.i 0 rfl (by decide) ?_;(conv=>whnf);refine ak.i (Rt l hl h) λv h2 k2 hv=>?_;subst hv;(conv=>whnf);refine ak.i (Ru (oV l) (Nat.le_trans (Rv l) hl) h2) λv h3 k3 hv=>?_;subst hv;(conv=>whnf);exact ⟨k2.trans k3,rfl⟩
structure aF where
 name:List UInt8
 node:Int
deriving DecidableEq,Inhabited
def aF.ok (e:aF):Prop:=e.name.length<=140737488351232/\inI64 e.node
def aF.cells (e:aF):List Value:=[.string ⟨e.name.toArray⟩,.int .i64 e.node]
instance:Rp aF where
 n:=2
 iA _ vs x:=vs=x.cells/\x.ok
 len h:=by rw [h.1];rfl
 keep _ h:=h
instance:Flat aF:=⟨λh=>h⟩
theorem xO (b k:Nat)(hk:k<5)(h:Heap):aC Tryz.prog 154 [.slice (some ⟨b,0,none⟩) 16 16,.int .i64 (k:Int)] h (λv h'=>Keeps [] h h'/\v=.slice (some ⟨b,3*k,none⟩) 3 3):=by
 have hk':k=0\/k=1\/k=2\/k=3\/k=4:=by omega
 rcases hk' with rfl|rfl|rfl|rfl|rfl
 all_goals
  refine aG aH Tryz.func154 rfl ok154 (by simp [Tryz.f154]) ?_;(conv=>whnf);refine gJ.i (λw=>rfl) ?_;(conv=>whnf);exact ⟨Keeps.refl _ _,rfl⟩
def eD (ws:List UInt64)(i:Nat):UInt64:=ws[i]?.getD 0
theorem xX {ws:List UInt64}{i:Nat}(hi:i<ws.length):nth (ws.map wv) i=some (wv (eD ws i)):=by
 rw [nN];simp [eD,hi]
theorem Rj {h:Heap}{b:Nat}{ws:List UInt64}{T:TypeId}{fz:Nat×Nat}(o:h[b]?=some (.cells ⟨ws.map wv⟩ T fz))(off n:Nat)(hn:off+n<=ws.length)(hb:n<=1000000):Sl h (some ⟨b,off,none⟩) n n ((ws.drop off).take n):=by
 have hl:((ws.drop off).take n).length=n:=by simp;omega
 refine ⟨hl.symm,Nat.le_refl _,by omega,λi hi=>⟨b,off,rfl,[wv _],rfl,λj hj=>?_⟩⟩;have:j=0:=by simpa using hj
 subst this;rw [hl] at hi;show Heap.cell? h b (off+i*1+0)=_;rw [show off+i*1+0=off+i by omega];unfold Heap.cell?;rw [o];simp;refine ⟨_,?_,rfl⟩;rw [List.getElem?_eq_getElem (by omega)]
def eu (ws:List UInt64)(k:Nat):Bool:=decide (eD ws (3*k)=0)&&decide (eD ws (3*k+1)=0)&&decide (eD ws (3*k+2)=0)
theorem Jp {h:Heap}{b:Nat}{ws:List UInt64}{T:TypeId}{fz:Nat×Nat}(o:h[b]?=some (.cells ⟨ws.map wv⟩ T fz))(hl:ws.length=16)(k:Nat)(hk:k<5):aC Tryz.prog 153 [.slice (some ⟨b,3*k,none⟩) 3 3] h (λv h'=>Keeps [] h h'/\v=.bool (eu ws k)):=by
 refine aG aH Tryz.func153 rfl ok153 (by simp [Tryz.f153]) ?_;(conv=>whnf);refine aX.i 0 rfl (by decide) rfl ?_;(conv=>whnf);refine ax.o o (xX (i:=3*k+0*1) (by omega)) ?_;(conv=>whnf);refine aX.i 1 rfl (by decide) rfl ?_;(conv=>whnf);refine ax.o o (xX (i:=3*k+1*1) (by omega)) ?_;(conv=>whnf);refine aX.i 2 rfl (by decide) rfl ?_;(conv=>whnf);refine ax.o o (xX (i:=3*k+2*1) (by omega)) ?_;(conv=>whnf);refine ⟨Keeps.refl _ _,?_⟩;have e:=qO;unfold eu;rw [<-e,<-e,<-e,dJ,dJ];rfl
def jg (ws:List UInt64)(k:Nat):List UInt8:=iy [eD ws (3*k+1),eD ws (3*k+2)] 16
def jL (ws:List UInt64)(k:Nat):List UInt8:=oP (jg ws k)
def uf (ws:List UInt64)(k:Nat):Int:=IntKind.i64.wrap ((eD ws (3*k)).toNat:Int)
def jf (ws:List UInt64)(k:Nat):aF:=⟨jL ws k,uf ws k⟩
def lm (ws:List UInt64)(k place:Nat):Bool:=(jN (jg ws k)).all ez&&(dI (jL ws k)&&(decide (bU (jL ws k)=place%8)&&(decide (1<=(eD ws (3*k)).toNat)&&decide ((eD ws (3*k)).toNat<24))))
theorem JF (ws:List UInt64)(k:Nat):(jg ws k).length=16:=by simp [jg,iy]
theorem Js (ws:List UInt64)(k:Nat):(jL ws k).length<=16:=by
 have:=Rk (jg ws k);rw [JF] at this;exact this
theorem Rl (l:List UInt8):(jN l).length<=l.length:=by
 unfold jN;rw [List.length_drop];have:=(List.dropWhile_suffix nz (l:=l)).length_le;omega
theorem Jo {h:Heap}{b:Nat}{ws:List UInt64}{T:TypeId}{fz:Nat×Nat}(o:h[b]?=some (.cells ⟨ws.map wv⟩ T fz))(hl:ws.length=16)(k place:Nat)(hk:k<5)(hp:place<1000000) :
 aC Tryz.prog 155 [.slice (some ⟨b,3*k,none⟩) 3 3,.int .i64 (place:Int)] h (λv h'=>Keeps [] h h'/\v=.tuple #[.agg ⟨(jf ws k).cells⟩,.bool (lm ws k place)]):=by
 refine aG aH Tryz.func155 rfl ok155 (by simp [Tryz.f155]) ?_;(conv=>whnf);refine aL.i λb1 h1 e1 s1 o1 k1=>?_;(conv=>whnf);refine dw.i 1 3 rfl rfl (by decide) (by decide) ?_;have S:=Rj (k1.obj o (by simp)) (3*k+1) 2 (by omega) (by decide);have hw2:(ws.drop (3*k+1)).take 2=[eD ws (3*k+1),eD ws (3*k+2)]:=by
  apply List.ext_getElem
  ·simp;omega
  ·intro i i1 i2;have:i=0\/i=1:=by simp at i2;omega
   rcases this with rfl|rfl <;> simp [eD]
   ·rw [List.getElem?_eq_getElem (by omega)];rfl
   ·rw [List.getElem?_eq_getElem (by omega)];rfl
 rw [hw2] at S;(conv=>whnf);refine ak.i (JG S 16 (by decide) (by decide)) λv h2 k2 hv=>?_;subst hv;have ht:iy [eD ws (3*k+1),eD ws (3*k+2)] 16=jg ws k:=rfl;rw [ht];have hlen:=JF ws k;(conv=>whnf);refine ak.i (Rm (jg ws k) (by omega) h2) λv h3 k3 hv=>?_;obtain ⟨bb,rfl⟩:=hv;have hlb:=Rl (jg ws k);have hla:=Js ws k;have hn:oP (jg ws k)=jL ws k:=rfl;rw [hn];have o3:=((k1.trans k2).trans k3).obj o (by simp);(conv=>whnf);refine aj.t rfl ?_;(conv=>whnf);refine ak.i (Rn (jN (jg ws k)) (by omega) h3) λv h4 k4 hv=>?_;subst hv;have e0:(ByteArray.mk #[])=⟨([]:List UInt8).toArray⟩:=rfl;have hz:((ByteArray.mk (AB (jN (jg ws k))).toArray).toList==(ByteArray.mk #[]).toList)=(jN (jg ws k)).all ez:=by
  rw [e0,iZ];have:=Ro (jN (jg ws k));cases hx:(jN (jg ws k)).all ez
  ·rw [hx] at this;simp at this;exact decide_eq_false this
  ·rw [hx] at this;simp at this;exact decide_eq_true this
 have k14:=((k1.trans k2).trans k3).trans k4;have o4:=k14.obj o (by simp);have n0:nth (ws.map wv) (3*k+0*1)=some (wv (eD ws (3*k))):=xX (i:=3*k+0*1) (by omega);have Rq:(place:Int).tmod 8=((place%8:Nat):Int):=by rw [Int.tmod_eq_emod_of_nonneg (by omega)];omega
 have fin:∀ (h':Heap) (x:Bool),Keeps [] h h'->x=((jN (jg ws k)).all ez&&(dI (jL ws k)&&decide (bU (jL ws k)=place%8))) ->
  Keeps [] h h'/\(Value.tuple #[.agg ⟨[.string ⟨(jL ws k).toArray⟩,.int .i64 (IntKind.i64.wrap ((eD ws (3*k)).toNat:Int))]⟩,.bool (bif (bif x then decide (((eD ws (3*k)).toNat:Int)>=1) else false) then decide (((eD ws (3*k)).toNat:Int)<24) else false)])=.tuple #[.agg ⟨(jf ws k).cells⟩,.bool (lm ws k place)]:=by
  intro h' x kk hx;refine ⟨kk,?_⟩;have e1:decide (((eD ws (3*k)).toNat:Int)>=1)=decide (1<=(eD ws (3*k)).toNat):=decide_eq_decide.2 (by omega);have e2:decide (((eD ws (3*k)).toNat:Int)<24)=decide ((eD ws (3*k)).toNat<24):=decide_eq_decide.2 (by omega);rw [e1,e2,hx,dJ,dJ];unfold lm;simp only [Bool.and_assoc];rfl
 have nb:b∉[b1]:=by have:=eU o;simp;omega
 have z4:=((k2.trans k3).trans k4).size;(conv=>whnf);refine aj.i (λh5=>?_) (λh5=>?_)
 ·have g5:(jN (jg ws k)).all ez=true:=by rw [<-hz];exact h5
  (conv=>whnf);refine ak.i (DR (jL ws k) (by omega) h4) λv h6 k6 hv=>?_;subst hv;have o6:=k6.obj o4 (by simp);(conv=>whnf);refine aj.i (λh7=>?_) (λh7=>?_)
  ·have g7:dI (jL ws k)=true:=by rw [dJ] at h7;simpa using (Bool.and_eq_true _ _ ▸ h7).2
   (conv=>whnf);refine ak.i (xS (jL ws k) (by omega) h6) λv h8 k8 hv=>?_;subst hv;have o8:=k8.obj o6 (by simp);have z6:=k6.size;have z8:=k8.size;(conv=>whnf);refine dL.i (by decide) ?_
   repeat' ((conv=>whnf);first|refine aX.i 0 rfl (by decide) rfl ?_|refine ax.o o8 n0 ?_|refine ax.o ((by assumption:Keeps [b1] h8 _).obj o8 nb) n0 ?_|refine gI.i ?_ ?_|refine aK.i λh9 s9 k9=>?_)
   all_goals
    (conv=>whnf);refine fin _ _ (((k14.trans k6).trans k8).new1 k9 (by omega)) ?_;rw [hz,g5,g7,Rq];simp;rw [Bool.eq_iff_iff];simp;omega
  ·have g7:dI (jL ws k)=false:=by rw [h5] at h7;simpa using h7
   repeat' ((conv=>whnf);first|refine dL.i (by decide) ?_|refine aX.i 0 rfl (by decide) rfl ?_|refine ax.o o6 n0 ?_|refine ax.o ((by assumption:Keeps [b1] h6 _).obj o6 nb) n0 ?_|refine gI.i ?_ ?_|refine aK.i λh9 s9 k9=>?_)
   all_goals
    (conv=>whnf);have z6:=k6.size;refine fin _ _ ((k14.trans k6).new1 k9 (by omega)) ?_;rw [hz,g5,g7];simp
 ·have g5:(jN (jg ws k)).all ez=false:=by rw [<-hz];exact h5
  (conv=>whnf);refine aj.f ?_ ?_
  ·rw [h5];rfl
  repeat' ((conv=>whnf);first|refine dL.i (by decide) ?_|refine aX.i 0 rfl (by decide) rfl ?_|refine ax.o o4 n0 ?_|refine ax.o ((by assumption:Keeps [b1] h4 _).obj o4 nb) n0 ?_|refine gI.i ?_ ?_|refine aK.i λh9 s9 k9=>?_)
  all_goals
   (conv=>whnf);refine fin _ _ (k14.new1 k9 (by omega)) ?_;rw [hz,g5];simp
end Go.Proofs.YtoociceebodfeaaGreatDoor
