/-
  Joined texts: RenB, RenC.
-/
import Derived.Test.YtoociceebodfeaaGreatDoorJLawCRenamen
set_option linter.all false
set_option maxRecDepth 100000
set_option maxHeartbeats 4000000
namespace Go.Proofs.YtoociceebodfeaaGreatDoor
open Go Go.aN
theorem noLk0:iN (aB L0):=λx hx=>by
 have:x=⟨0,0,0,[],[]⟩\/x=⟨1,2,1,[],[]⟩:=by simpa [aB,L0] using hx
 rcases this with rfl|rfl <;> decide
theorem OQ {T T':List aD}{c:cK}{r:dz}(S:iN T)(h7:c.kind≠7)(h:(r.err≠0/\T'=T)\/(r.err=0/\fw T c r T')):iN T':=by
 rcases h with ⟨_,rfl⟩|⟨h0,D⟩
 ·exact S
 ·exact D.G7 S h7 h0
theorem CR (T:List aD)(p:List UInt8):(iU T ⟨14,p,[],[],0,0⟩).err=(aR (aO T) p false).2:=by
 unfold iU;simp only;split
 ·rename_i h;rw [h]
 ·rfl
theorem CU {T:List aD}{p:List UInt8}{x:Int}(h:aR (aO T) p false=(x,0)):iU T ⟨14,p,[],[],0,0⟩=⟨0,[],(tn T x).kind,(tn T x).links,(((tn T x).data.length+(tn T x).names.length:Nat):Int),[]⟩:=by
 unfold iU;simp only;rw [h,if_pos rfl]
theorem OT {T T':List aD}{p:List UInt8}{x:Int}(h:aR (aO T) p true=(x,0))(h':aR (aO T') p true=(x,0))(he:tn T' x=tn T x):pX T' ⟨15,p,[],[],0,0⟩=pX T ⟨15,p,[],[],0,0⟩:=by
 unfold pX lE tX;simp only;rw [h,h',he]
theorem lM.old {T T':List aD}(W:jq T)(NL:iN T){old name:List UInt8}(D:lM T old name 0 T'):(aR (aO T) old false).2=0:=by
 rcases D with ⟨_,d2⟩|⟨_,_,⟨d1,d2⟩|⟨d,nm,nd,Q,⟨_,d2⟩|⟨h0,_⟩⟩⟩
 ·cases d2
 ·exact absurd d2.symm d1
 ·cases d2
 ·obtain ⟨l1,hp1,hl1,hw1,hk1,hn1,_⟩:=CV Q.is;obtain ⟨e1,he1,hen1,_⟩:=Q.there W h0;rw [wZ (F:=aO T) NL.tn hp1 hl1 hw1 hk1 hn1 false,vw.2 ⟨e1,he1,hen1⟩]
theorem fM.ren {h:Heap}{V:VL}{M:aS}{X:VS}{S:FS}{T:List aD}{num:List Int}{N:Nat}(P:fM h V M X S T num N)(old name:List UInt8)(ho:old.length<=140737488351232)(hp:name.length<=140737488351232) :
 aC Tryz.prog 21 [.pointer (some ⟨V.v,0,none⟩),.string (ba old),.string (ba name)] h (λv h'=>Keeps [V.ob,V.sb,V.mb] h h'/\∃ e:Int,v=.int .i64 e/\∃ X' e' T',At h' V M X'/\lM T old name e' T' /\
  ((e=9/\e'=0)\/(e≠0/\e=e'/\fM h' V M X' S T num N)\/(e=0/\e'=0/\∃ S' num',fM h' V M X' S' T' num' (N+1)))):=by
 obtain ⟨rk,hr⟩:=P.rank;refine (G8 P.at_ P.fs P.rel.fc hr old name ho hp).mono λv h' ⟨k,X',A',R⟩=>⟨k,?_⟩;obtain ⟨e,rfl⟩:=R.int;have R10:fO M.read X S ⟨10,old,name,[],0,0⟩ (bI e) X':=(vc10 rfl).2 ⟨e,rfl,R⟩;obtain ⟨r',T',D,O⟩:=P.call A' R10;obtain ⟨e',rfl,D2⟩:=(rc10 rfl).1 D;refine ⟨e,rfl,X',e',T',A',D2,?_⟩;rcases O with ⟨h1,h2⟩|⟨h1,h2,_,VI⟩|⟨h1,h2,S',num',VI⟩
 ·exact .inl ⟨congrArg dz.err h1,h2⟩
 ·exact .inr (.inl ⟨h2,congrArg dz.err h1,VI⟩)
 ·have h3:e=e':=congrArg dz.err h1;have h2:e=0:=h2;exact .inr (.inr ⟨h2,by omega,S',num',VI⟩)
theorem OB {h:Heap}{a:Option Addr}{n c:Nat}{W:List cK}(SW:Sl h a n c W)(hp:∀ x∈W,x.path.length<=1048576/\x.path2.length<=1048576)(p0 p1:List UInt8)(hp0:p0.length<=140737488351232)(hp1:p1.length<=140737488351232):aC Tryz.prog 5 [.slice a n c,.agg ⟨[.string (ba p0),.string (ba p1)]⟩] h (λv h'=>Keeps [] h h'/\v=.bool true):=by
 refine aG aH Tryz.func5 rfl ok5 (by simp [Tryz.f5]) ?_;(conv=>whnf);refine aL.i λb0 h0 e0 s0 o0 k0=>?_;have z0:=k0.size;(conv=>whnf);refine ak.i (OU h0) λv h1 k1 hv=>?_;subst hv;(conv=>whnf);refine aj.f rfl ?_;(conv=>whnf);refine ak.i (G9 h1) λv h2 k2 hv=>?_;obtain ⟨w,t,bT,V,N,rfl,hw,ht,hT,A,hr,hu,hs,hlo,hab,jI,hV⟩:=hv;have k02:=k1.trans k2;have z1:=k1.size;have z2:=k2.size;have hw1:h0.size<=w:=by have:=hV V.v (by simp [VL.blocks]);omega
 have P0:=OV (h0:=h0) (by omega) hw ht hT A hu hs hab jI (λb hb=>by have:=hV b hb;omega) hw1;(conv=>whnf);refine aj.f rfl ?_;(conv=>whnf);refine ak.i (OW ((SW.keep k0).keep k02)) λv h3 k3 hv=>?_;obtain ⟨c3,rfl,S3⟩:=hv;have kh3:=k02.trans k3;have hm3:min n 60<=60:=Nat.min_le_right _ _;have hb3:0<min n 60->∀ b∈ay a,b<h0.size:=λhp=>(SW.keep k0).OX (by omega);have hp3:∀ x∈W.take 60,x.path.length<=1048576/\x.path2.length<=1048576:=λx hx=>hp x (List.mem_of_mem_take hx);generalize min n 60=n3 at *;generalize W.take 60=W at *;have hl3:=S3.hlen;(conv=>whnf);refine bP.on [0,3,5,6] [3] (λi:Nat=>[(0,.v (.slice a n3 c3)),(3,.lp 3 0),(5,.v (.pointer (some ⟨w,0,none⟩))),(6,.v (.int .i64 (i:Int)))]) (λ_=>[(3,b0,[.string (ba p0),.string (ba p1)])])
  (λi h'=>i<=n3/\Keeps [] h0 h'/\Sl h' a n3 c3 W/\∃ V M X S z t aT cT L num,lN h' h0.size w V M X S z t aT cT L num i/\X.now=M.read/\iN (aB L)) (λi=>n3-i) 0 ?_ ?_
 ·(conv=>whnf);exact ⟨0,rfl,rfl,rfl,Nat.zero_le _,kh3,S3,V,N,⟨fB,[],[],[],[]⟩,S0,min bT t,t,some ⟨bT,0,none⟩,2,L0,[0,1],P0.on k3,hr.symm,noLk0⟩
 ·rintro i h4 ⟨hi,k4,S4,V4,M4,X4,FS4,z4,t4,aT4,cT4,L4,num4,P4,hn4,nl4⟩;have hz4:=k4.size;(conv=>whnf);refine aj.i (λhd=>?_) (λhd=>?_)
  ·have hi1:i<W.length:=by simp at hd;omega
   obtain ⟨b5,o5,hb5,_,⟨rfl,hok⟩,hc5⟩:=S4.at_ i hi1;have hem:=List.getElem_mem hi1;have hps:=hp3 _ hem;have hnew:∀ x∈[w,V4.ob,V4.sb,V4.mb,V4.v,V4.mem.m,V4.mem.lb],h0.size<=x:=λx hx=>by
    rcases List.mem_cons.1 hx with rfl|hx
    ·exact P4.new.1
    ·refine P4.new.2 x ?_;simp only [List.mem_cons,List.not_mem_nil,or_false] at hx;rcases hx with rfl|rfl|rfl|rfl|rfl|rfl <;> simp [VL.blocks,ML.blocks]
   (conv=>whnf);refine aX.i i rfl (by omega) hb5 ?_;(conv=>whnf);refine ax.i (hc5 0 (by simp [cK.cells])) ?_;(conv=>whnf);refine aX.i i rfl (by omega) hb5 ?_;(conv=>whnf);refine fq.i (vs:=(W[i]'hi1).cells) rfl (λj hj=>hc5 j hj) ?_;(conv=>whnf);refine aj.i (λhk=>?_) (λhk=>?_)
   ·(conv=>whnf);refine ak.m (OY P4 hz4 hn4 (by omega) (W[i]'hi1) hok hps.1 hps.2) (λy hy hx=>by
     have:=hnew y hx;simp [au,aZ] at hy;omega) λv h6 k6 hv=>?_
    obtain ⟨rfl,V6,M6,X6,FS6,z6,t6,aT6,cT6,L6,num6,P6,hn6,r6,X16,RV6,hT⟩:=hv;have k06:Keeps [] h0 h6:=k4.cZ k6 hnew;(conv=>whnf);refine aj.f (by simp) ?_;(conv=>whnf);refine ⟨n3-(i+1),by omega,?_⟩;(conv=>whnf);exact ⟨i+1,rfl,by rw [wrapN (n:=i+1) (by simp) (by omega)],rfl,by omega,k06,S4.je k6 (λb hb hx=>by have:=hb3 (by omega) b hb;have:=hnew b hx;omega),V6,M6,X6,FS6,z6,t6,aT6,cT6,L6,num6,P6,hn6,OQ nl4 (by simpa using hk) hT⟩
   ·(conv=>whnf);refine aj.f (by rw [hk];rfl) ?_;(conv=>whnf);refine ⟨n3-(i+1),by omega,?_⟩;(conv=>whnf);exact ⟨i+1,rfl,by rw [wrapN (n:=i+1) (by simp) (by omega)],rfl,by omega,k4,S4,V4,M4,X4,FS4,z4,t4,aT4,cT4,L4,num4,⟨P4.obj,P4.at_,P4.fs,P4.rel,P4.jV.up,P4.tree,P4.ab,P4.calm,P4.new,P4.apart⟩,hn4,nl4⟩
  ·have VI:=P4.view;have VI4:=VI;have hap:=P4.apart;have o4:=P4.obj;have hw3:w∉[V4.ob,V4.sb,V4.mb]:=λhx=>hap (by
    simp only [List.mem_cons,List.not_mem_nil,or_false] at hx;rcases hx with rfl|rfl|rfl <;> simp [VL.blocks])
   have hw1:w∉[V4.sb]:=λhx=>hw3 (by simp at hx ⊢;exact .inr (.inl hx));have new3:∀ x∈[V4.ob,V4.sb,V4.mb],h0.size<=x:=λx hx=>P4.new.2 x (by
    simp only [List.mem_cons,List.not_mem_nil,or_false] at hx;rcases hx with rfl|rfl|rfl <;> simp [VL.blocks])
   have new1:∀ x∈[V4.sb],h0.size<=x:=λx hx=>new3 x (by simp at hx ⊢;exact .inr (.inl hx));clear P4;have WT:=VI.rel.tree;have hb0:b0<h0.size:=eU o0;have blt4:=VI.at_.blt;have hwl:=eU o4;have low3:∀ x∈[V4.ob,V4.sb,V4.mb],x<h4.size:=λx hx=>blt4 x (by
    simp only [List.mem_cons,List.not_mem_nil,or_false] at hx;rcases hx with rfl|rfl|rfl <;> simp [VL.blocks])
   have low1:∀ x∈[V4.sb],x<h4.size:=λx hx=>low3 x (by simp at hx ⊢;exact .inr (.inl hx));have oW:=o4;have KK:=k4;have zS:=Nat.le_refl h4.size;have zh:=k4.size;(conv=>whnf);refine ax.o oW rfl ?_;(conv=>whnf);refine dO.i 0 rfl (by decide) ?_;(conv=>whnf);refine iO.i rfl ?_
   repeat' first
    | ((conv=>whnf);refine gI.i ?_ ?_)
    | ((conv=>whnf);refine aL.i λb hS e s o k=>?_;have hbn:h4.size<=b:=(by omega);have oW:=k.obj oW (by simp);have VI:=VI.on k;have KK:=KK.trans k;have zz:=k.size;have zS:=Nat.le_trans zS zz)
   all_goals
    (conv=>whnf)
    refine ak.m (VI.stat p0 hp0) (λy hy hx=>by
     have:=new1 y hx;have:=low1 y hx;simp [au,aZ] at hy <;> omega) λv hS kS hv=>?_
    obtain ⟨⟨sS,VI⟩,rfl⟩:=hv;have oW:=kS.obj oW hw1;have KK:=KK.cZ kS new1;have zz:=kS.size;have zS:=Nat.le_trans zS zz
    repeat' ((conv=>whnf);refine aL.i λb hS e s o k=>?_;have hbn:h4.size<=b:=(by omega);have oW:=k.obj oW (by simp);have VI:=VI.on k;have KK:=KK.trans k;have zz:=k.size;have zS:=Nat.le_trans zS zz)
    (conv=>whnf)
    refine aK.i λhS sS kS=>?_;have oW:=kS.obj oW (by simp;omega);have VI:=VI.keep kS (λx hx=>by have:=blt4 x hx;simp;omega);have KK:=KK.cZ kS (λx hx=>by simp at hx;omega);have zz:=kS.size;have zS:=Nat.le_trans zS zz;(conv=>whnf);refine ax.o oW rfl ?_;(conv=>whnf);refine dO.i 0 rfl (by decide) ?_;(conv=>whnf);refine iO.i rfl ?_;(conv=>whnf);refine ak.m (VI.list p0 hp0) (λy hy hx=>by
     have:=new1 y hx;have:=low1 y hx;simp [au,aZ] at hy <;> omega) λv hS kS hv=>?_
    obtain ⟨⟨sS,VI⟩,aL0,cL,rfl⟩:=hv;have oW:=kS.obj oW hw1;have KK:=KK.cZ kS new1;have zz:=kS.size;have zS:=Nat.le_trans zS zz;(conv=>whnf);refine ax.o oW rfl ?_;(conv=>whnf);refine dO.i 1 rfl (by decide) ?_;(conv=>whnf);refine iO.i rfl ?_
    repeat' first
     | ((conv=>whnf);refine gI.i ?_ ?_)
     | ((conv=>whnf);refine aL.i λb hS e s o k=>?_;have hbn:h4.size<=b:=(by omega);have oW:=k.obj oW (by simp);have VI:=VI.on k;have KK:=KK.trans k;have zz:=k.size;have zS:=Nat.le_trans zS zz)
    all_goals
     (conv=>whnf)
     refine ak.m (VI.stat p1 hp1) (λy hy hx=>by
      have:=new1 y hx;have:=low1 y hx;simp [au,aZ] at hy <;> omega) λv hS kS hv=>?_
     obtain ⟨⟨sS,VI⟩,rfl⟩:=hv;have oW:=kS.obj oW hw1;have KK:=KK.cZ kS new1;have zz:=kS.size;have zS:=Nat.le_trans zS zz
     repeat' ((conv=>whnf);refine aL.i λb hS e s o k=>?_;have hbn:h4.size<=b:=(by omega);have oW:=k.obj oW (by simp);have VI:=VI.on k;have KK:=KK.trans k;have zz:=k.size;have zS:=Nat.le_trans zS zz)
     (conv=>whnf)
     refine aK.i λhS sS kS=>?_;have oW:=kS.obj oW (by simp;omega);have VI:=VI.keep kS (λx hx=>by have:=blt4 x hx;simp;omega);have KK:=KK.cZ kS (λx hx=>by simp at hx;omega);have zz:=kS.size;have zS:=Nat.le_trans zS zz;rw [CR,CR];(conv=>whnf);refine ax.o oW rfl ?_;(conv=>whnf);refine dO.i 0 rfl (by decide) ?_;(conv=>whnf);refine iO.i rfl ?_;(conv=>whnf);refine dO.i 1 rfl (by decide) ?_;(conv=>whnf);refine iO.i rfl ?_;(conv=>whnf);refine ak.m (VI.ren p0 p1 hp0 hp1) (λy hy hx=>by
      have:=new3 y hx;have:=low3 y hx;simp [au,aZ] at hy <;> omega) λv hS kS hv=>?_
     obtain ⟨f,rfl,XY,f',TY,AY,D,O⟩:=hv;have oW:=kS.obj oW hw3;have KK:=KK.cZ kS new3;have zz:=kS.size;have zS:=Nat.le_trans zS zz;by_cases hf:f=0
     ·have hE:lM (aB L4) p0 p1 0 TY->_:=λD=>lM.old WT nl4 D;rcases O with ⟨h9,_⟩|⟨h9,_⟩|⟨_,hf',SY,YJ,VI⟩
      ·omega
      ·exact absurd hf h9
      ·subst hf hf';have hE:=hE D;rw [hE];by_cases CW:(aR (aO (aB L4)) p1 false).2=0
       ·(conv=>whnf);refine aj.t (by rw [CW];rfl) ?_;(conv=>whnf);exact ⟨k0.trans KK,rfl⟩
       ·obtain ⟨x,g1,g2,g3,g4,OZ,g5⟩:=He VI4.rel nl4 D CW;have NT:=VI.rel.tree;have sa:=CU (g1 false);have sb:=CU (g2 false);rw [g4] at sb;rw [sa];(conv=>whnf);refine aj.f (by simp [CW]) ?_;(conv=>whnf);refine ax.o oW rfl ?_;(conv=>whnf);refine dO.i 1 rfl (by decide) ?_;(conv=>whnf);refine iO.i rfl ?_
        repeat' first
         | ((conv=>whnf);refine gI.i ?_ ?_)
         | ((conv=>whnf);refine aL.i λb hS e s o k=>?_;have hbn:h4.size<=b:=(by omega);have oW:=k.obj oW (by simp);have VI:=VI.on k;have KK:=KK.trans k;have zz:=k.size;have zS:=Nat.le_trans zS zz)
        all_goals
         (conv=>whnf)
         refine ak.m (VI.stat p1 hp1) (λy hy hx=>by
          have:=new1 y hx;have:=low1 y hx;simp [au,aZ] at hy <;> omega) λv hS kS hv=>?_
         obtain ⟨⟨sS,VI⟩,rfl⟩:=hv;have oW:=kS.obj oW hw1;have KK:=KK.cZ kS new1;have zz:=kS.size;have zS:=Nat.le_trans zS zz
         repeat' ((conv=>whnf);refine aL.i λb hS e s o k=>?_;have hbn:h4.size<=b:=(by omega);have oW:=k.obj oW (by simp);have VI:=VI.on k;have KK:=KK.trans k;have zz:=k.size;have zS:=Nat.le_trans zS zz)
         (conv=>whnf)
         refine aK.i λhS sS kS=>?_;have oW:=kS.obj oW (by simp;omega);have VI:=VI.keep kS (λx hx=>by have:=blt4 x hx;simp;omega);have KK:=KK.cZ kS (λx hx=>by simp at hx;omega);have zz:=kS.size;have zS:=Nat.le_trans zS zz;rw [sb];(conv=>whnf);refine ax.o oW rfl ?_;(conv=>whnf);refine dO.i 0 rfl (by decide) ?_;(conv=>whnf);refine iO.i rfl ?_
         repeat' first
          | ((conv=>whnf);refine gI.i ?_ ?_)
          | ((conv=>whnf);refine aL.i λb hS e s o k=>?_;have hbn:h4.size<=b:=(by omega);have oW:=k.obj oW (by simp);have VI:=VI.on k;have KK:=KK.trans k;have zz:=k.size;have zS:=Nat.le_trans zS zz)
         all_goals
          (conv=>whnf)
          refine ak.m (VI.stat p0 hp0) (λy hy hx=>by
           have:=new1 y hx;have:=low1 y hx;simp [au,aZ] at hy <;> omega) λv hS kS hv=>?_
          obtain ⟨⟨sS,VI⟩,rfl⟩:=hv;have oW:=kS.obj oW hw1;have KK:=KK.cZ kS new1;have zz:=kS.size;have zS:=Nat.le_trans zS zz
          repeat' ((conv=>whnf);refine aL.i λb hS e s o k=>?_;have hbn:h4.size<=b:=(by omega);have oW:=k.obj oW (by simp);have VI:=VI.on k;have KK:=KK.trans k;have zz:=k.size;have zS:=Nat.le_trans zS zz)
          (conv=>whnf)
          refine aK.i λhS sS kS=>?_;have oW:=kS.obj oW (by simp;omega);have VI:=VI.keep kS (λx hx=>by have:=blt4 x hx;simp;omega);have KK:=KK.cZ kS (λx hx=>by simp at hx;omega);have zz:=kS.size;have zS:=Nat.le_trans zS zz;rw [CR];(conv=>whnf);refine gJ.Hf (by kernel_rfl) (zN _ _ _ _ _ _ _ _) ?_;(conv=>whnf);refine aj.f (by simp [g3 false]) ?_;have O0:=VI;(conv=>whnf);refine ax.o oW rfl ?_;(conv=>whnf);refine dO.i 1 rfl (by decide) ?_;(conv=>whnf);refine iO.i rfl ?_;(conv=>whnf);refine dO.i 0 rfl (by decide) ?_;(conv=>whnf);refine iO.i rfl ?_;(conv=>whnf);refine ak.m (VI.ren p1 p0 hp1 hp0) (λy hy hx=>by
           have:=new3 y hx;have:=low3 y hx;simp [au,aZ] at hy <;> omega) λv hS kS hv=>?_
          obtain ⟨f,rfl,XZ,f',TZ,AZ,D,O⟩:=hv;have oW:=kS.obj oW hw3;have KK:=KK.cZ kS new3;have zz:=kS.size;have zS:=Nat.le_trans zS zz;have hf':=g5 _ _ NT D;rcases O with ⟨h9,_⟩|⟨h9,YK,_⟩|⟨h9,_,SZ,YL,VI⟩
          ·subst h9;(conv=>whnf);refine ax.o oW rfl ?_;(conv=>whnf);refine dO.i 0 rfl (by decide) ?_;(conv=>whnf);refine iO.i rfl ?_
           repeat' first
            | ((conv=>whnf);refine gI.i ?_ ?_)
            | ((conv=>whnf);refine aL.i λb hS e s o k=>?_;have hbn:h4.size<=b:=(by omega);have oW:=k.obj oW (by simp);have AZ:=AZ.on k;have KK:=KK.trans k;have zz:=k.size;have zS:=Nat.le_trans zS zz)
           all_goals
            (conv=>whnf)
            refine ak.m (O9 AZ p0 hp0) (λy hy hx=>by
             have:=new1 y hx;have:=low1 y hx;simp [au,aZ] at hy <;> omega) λv hS kS hv=>?_
            obtain ⟨⟨sS,AZ⟩,q1,q2,q3,q4,rfl⟩:=hv;have oW:=kS.obj oW hw1;have KK:=KK.cZ kS new1;have zz:=kS.size;have zS:=Nat.le_trans zS zz
            repeat' ((conv=>whnf);refine aL.i λb hS e s o k=>?_;have hbn:h4.size<=b:=(by omega);have oW:=k.obj oW (by simp);have AZ:=AZ.on k;have KK:=KK.trans k;have zz:=k.size;have zS:=Nat.le_trans zS zz)
            (conv=>whnf)
            refine aK.i λhS sS kS=>?_;have oW:=kS.obj oW (by simp;omega);have AZ:=AZ.keep kS (λx hx=>by have:=blt4 x hx;simp;omega);have KK:=KK.cZ kS (λx hx=>by simp at hx;omega);have zz:=kS.size;have zS:=Nat.le_trans zS zz;(conv=>whnf);refine ax.o oW rfl ?_;(conv=>whnf);refine dO.i 0 rfl (by decide) ?_;(conv=>whnf);refine iO.i rfl ?_;(conv=>whnf);refine ak.m (Pb AZ p0 hp0) (λy hy hx=>by
             have:=new1 y hx;have:=low1 y hx;simp [au,aZ] at hy <;> omega) λv hS kS hv=>?_
            obtain ⟨⟨sS,AZ⟩,aM,nM,cM,eM,rfl⟩:=hv;have oW:=kS.obj oW hw1;have KK:=KK.cZ kS new1;have zz:=kS.size;have zS:=Nat.le_trans zS zz;(conv=>whnf);refine gJ.w9 (by kernel_rfl) (zN _ _ _ _ _ _ _ _) ?_;(conv=>whnf);exact ⟨k0.trans KK,rfl⟩
          ·omega
          ·subst h9;subst hf';obtain ⟨y,j1,j2,j3,j4,_⟩:=He O0.rel OZ D (g3 false);have hyx:y=x:=by
            have:=(j1 false).symm.trans (g2 false);exact congrArg Prod.fst this
           subst hyx;have sc:=CU (j2 false);rw [j4,g4] at sc;have lc:=OT (g1 true) (j2 true) (j4.trans g4);(conv=>whnf);refine ax.o oW rfl ?_;(conv=>whnf);refine dO.i 0 rfl (by decide) ?_;(conv=>whnf);refine iO.i rfl ?_
           repeat' first
            | ((conv=>whnf);refine gI.i ?_ ?_)
            | ((conv=>whnf);refine aL.i λb hS e s o k=>?_;have hbn:h4.size<=b:=(by omega);have oW:=k.obj oW (by simp);have VI:=VI.on k;have KK:=KK.trans k;have zz:=k.size;have zS:=Nat.le_trans zS zz)
           all_goals
            (conv=>whnf)
            refine ak.m (VI.stat p0 hp0) (λy hy hx=>by
             have:=new1 y hx;have:=low1 y hx;simp [au,aZ] at hy <;> omega) λv hS kS hv=>?_
            obtain ⟨⟨sS,VI⟩,rfl⟩:=hv;have oW:=kS.obj oW hw1;have KK:=KK.cZ kS new1;have zz:=kS.size;have zS:=Nat.le_trans zS zz
            repeat' ((conv=>whnf);refine aL.i λb hS e s o k=>?_;have hbn:h4.size<=b:=(by omega);have oW:=k.obj oW (by simp);have VI:=VI.on k;have KK:=KK.trans k;have zz:=k.size;have zS:=Nat.le_trans zS zz)
            (conv=>whnf)
            refine aK.i λhS sS kS=>?_;have oW:=kS.obj oW (by simp;omega);have VI:=VI.keep kS (λx hx=>by have:=blt4 x hx;simp;omega);have KK:=KK.cZ kS (λx hx=>by simp at hx;omega);have zz:=kS.size;have zS:=Nat.le_trans zS zz;rw [sc];(conv=>whnf);refine ax.o oW rfl ?_;(conv=>whnf);refine dO.i 0 rfl (by decide) ?_;(conv=>whnf);refine iO.i rfl ?_;(conv=>whnf);refine ak.m (VI.list p0 hp0) (λy hy hx=>by
             have:=new1 y hx;have:=low1 y hx;simp [au,aZ] at hy <;> omega) λv hS kS hv=>?_
            obtain ⟨⟨sS,VI⟩,aL0,cL,rfl⟩:=hv;have oW:=kS.obj oW hw1;have KK:=KK.cZ kS new1;have zz:=kS.size;have zS:=Nat.le_trans zS zz;rw [lc];(conv=>whnf);refine gJ.w9 (by kernel_rfl) (zN _ _ _ _ _ _ _ _) ?_;(conv=>whnf);refine ⟨k0.trans KK,?_⟩;simp
     ·(conv=>whnf);refine aj.t (by simp [hf]) ?_;(conv=>whnf);refine ⟨k0.trans KK,?_⟩;simp [hf]
section
variable {H:Type} {enc:TypeId×Value->H} {W:World} {sp:Nat->Bool} {held:Bool}
theorem Oz {fuel:Nat}{cs:List Value}{x:DataW H×List MemPlace}(h:DataW.trod enc Tryz.prog W 0 sp held fuel 49 cs=some x)(hw:∀ m∈x.1.weights Tryz.prog 49,m<=reachBytes) :
 ∃ p0 p1:List UInt8,cs=[.string (ba p0),.string (ba p1)]/\p0.length<=140737488351232/\p1.length<=140737488351232:=by
 obtain ⟨hl,f',hp⟩:=OP Tryz.underlying49 h hw;have hl2:cs.length=2:=hl;obtain ⟨a,b,rfl⟩:∃ a b,cs=[a,b]:=by
  match cs,hl2 with
  | [a,b],_=>exact ⟨a,b,rfl⟩
 obtain ⟨y0,h0,w0⟩:=hp 0 (by decide);obtain ⟨y1,h1,w1⟩:=hp 1 (by decide);obtain ⟨s0,e0,g0⟩:=wY (W:=W) Tryz.underlying9 f' _ _ h0 w0;obtain ⟨s1,e1,g1⟩:=wY (W:=W) Tryz.underlying9 f' _ _ h1 w1;cases e0;cases e1;refine ⟨s0.data.toList,s1.data.toList,rfl,?_,?_⟩
 ·have:=g0;unfold lK at this;exact this
 ·have:=g1;unfold lK at this;exact this
end
end Go.Proofs.YtoociceebodfeaaGreatDoor
