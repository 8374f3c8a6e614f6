/-
  Joined texts: FomA, FomB, FomC, FomD, FomE, WalD, FileH, FileJ, FileN, WalA, WalB, CrdA, WalE, WalF, WalG, EntA, WrdA, CrdC, CrdD, CrdE.
-/
import Derived.Test.YtoociceebodfeaaGreatDoorJLawCRoomg
import Derived.Test.YtoociceebodfeaaGreatDoorJLawCRoome
import Derived.Test.YtoociceebodfeaaGreatDoorJLawCRoomd
import Derived.Test.YtoociceebodfeaaGreatDoorJLawCRoomf
set_option linter.all false
set_option maxRecDepth 100000
set_option maxHeartbeats 1000000
namespace Go.Proofs.YtoociceebodfeaaGreatDoor
open Go Go.aK
theorem Tx {h:Heap}{b o m xc:Nat}{l:List aD}(S:Sl h (some ⟨b,o,none⟩) m xc l):∀ j,j<(bS l).length->Heap.cell? h b (o+j)=(bS l)[j]?:=by
 intro j hj;have hl:=lJ l;obtain ⟨b',o',hb,cs,⟨rfl,_⟩,hc⟩:=S.at_ (j/2) (by omega);cases hb;have:=hc (j%2) (by simp [aD.cells];omega);rw [Ab l j (by omega),<-this]
 congr 1
 show _=o+j/2*2+j%2;omega
theorem oC {h:Heap}{a:Option Addr}{n c:Nat}{l1 l2:List aD}(O:Own h 93 2 a n c (bS l1)){x:Option Addr}{m xc:Nat}(S:Sl h x m xc l2)(hb:n+m<=100000){bs:List Nat}(hbs:∀ b∈aA a,b∉bs){ty:TypeId}{K:Value->Heap->Prop}
 (H:∀ a' c' h',Own h' 93 2 a' (n+m) c' (bS (l1++l2))->Keeps (aA a) h h'->(∀ b∈aA a',b∈aA a\/h.size<=b)->K (.slice a' (n+m) c') h') :
 aQ Tryz.prog (Builtin.append_ #[38,38] ty ⟨[.slice a n c,.slice x m xc]⟩) bs h K:=by
 have hm:=S.hlen;rcases Nat.eq_zero_or_pos m with h0|h0
 ·subst h0;have:l2=[]:=List.eq_nil_of_length_eq_zero hm.symm;subst this;have hnc:n<=c:=by
   rcases O with ⟨_,rfl,rfl,_⟩|⟨b,cs,_,_,_,_,_,h2⟩
   ·exact Nat.le_refl _
   ·exact h2
  refine aQ.append0 rfl rfl rfl hnc ?_;have:=H a c h (by rw [List.append_nil];exact O) (Keeps.refl _ _) (λb hb=>.inl hb);exact this
 ·obtain ⟨b,o,rfl⟩:=S.rR h0;refine jN (e:=93) (sz:=2) (aM:=24) (new:=bS l2) rfl rfl rfl rfl rfl rfl rfl O (by rw [lJ];omega) (Tx S) (Du l2) (by omega) (by omega) hbs ?_;intro a' c' h5 O5 k5 n5;exact H a' c' h5 (by rw [show bS (l1++l2)=bS l1++bS l2 from List.flatMap_append];exact O5) k5 n5
theorem pG (h:Heap):Own h 93 2 none 0 0 (bS []):=.inl ⟨rfl,rfl,rfl,rfl⟩
theorem Ty {h:Heap}{a:Option Addr}{n c:Nat}{l:List aD}(S:Sl h a n c l)(hn:n<=10000)(name:List UInt8)(hnl:name.length<=140737488351232)(target:Int)(ht:inI64 target)(hok:∀ e∈l,e.ok) :
 aC Tryz.prog 146 [.slice a n c,.string ⟨name.toArray⟩,.int .i64 target] h (λv h'=>Keeps [] h h'/\∃ a' c',v=.tuple #[.slice a' (lG l name target).1.length c',.int .i64 (lG l name target).2]/\Own h' 93 2 a' (lG l name target).1.length c' (bS (lG l name target).1)/\(∀ b∈aA a',h.size<=b)):=by
 have hl:=S.hlen;have hcap:=S.hcap;unfold lG;refine aH aI Tryz.func146 rfl ok146 (by simp [Tryz.f146]) ?_;(conv=>whnf);refine aj.i (λhd=>?_) (λhd=>?_)
 ·have h1:target<1\/24<=target:=by simp [dm] at hd;omega
  (conv=>whnf);rw [if_pos h1];exact ⟨Keeps.refl _ _,none,0,rfl,pG h,by simp [aA]⟩
 have h1:¬ (target<1\/24<=target):=by simp [dm] at hd;omega
 rw [if_neg h1];(conv=>whnf);refine ak.i (Ii name hnl h) λv h1 k1 hv=>?_;subst hv;(conv=>whnf);refine aj.i (λhr=>?_) (λhr=>?_)
 ·have h2:di name=false:=by simpa using hr
  (conv=>whnf);rw [if_pos h2];exact ⟨k1,none,0,rfl,pG h1,by simp [aA]⟩
 have h2:¬ di name=false:=by simpa using hr
 rw [if_neg h2];(conv=>whnf);refine ak.i (w9 (S.keep k1) (by omega) name hnl) λv h2 k2 hv=>?_;subst hv;have k02:=k1.trans k2;(conv=>whnf);refine aj.i (λhp=>?_) (λhp=>?_)
 ·(conv=>whnf);rw [if_pos hp];exact ⟨k02,none,0,rfl,pG h2,by simp [aA]⟩
 rw [if_neg (by rw [hp];decide)];have hkl:=vw l name;(conv=>whnf);refine dn.i 0 (aL l name) rfl rfl (Nat.zero_le _) (by omega) ?_;(conv=>whnf);refine dn.i (aL l name) n rfl rfl (by omega) (by omega) ?_;have P1:=(S.keep k02).part (l:=0) (r:=aL l name) (Nat.zero_le _) (by omega);rw [List.drop_zero] at P1;have P2:=(S.keep k02).part (l:=aL l name) (r:=n) (by omega) (Nat.le_refl _);rw [List.take_of_length_le (by omega:l.length<=n)] at P2;have one:∀ {hx:Heap} {b:Nat},hx[b]?=some (.cells ⟨cellsOf (.agg ⟨[.string ⟨name.toArray⟩,.int .i64 target]⟩)⟩ 93 (0,0))->Sl hx (some ⟨b,0,none⟩) 1 1 [(⟨name,target⟩:aD)]:=by
  intro hx b o;refine ⟨rfl,Nat.le_refl _,by simp,λi hi=>?_⟩;have:i=0:=by simpa using hi
  subst this;refine ⟨b,0,rfl,aD.cells ⟨name,target⟩,⟨rfl,hnl,ht⟩,λj hj=>?_⟩
  ·unfold Heap.cell?;rw [o];have:j=0\/j=1:=by simp [aD.cells] at hj;omega
   rcases this with rfl|rfl <;> rfl
 (conv=>whnf);refine iP.i ?c1 ?c2
 case' c1=>
  (conv=>whnf);refine oC (pG h2) P1 (by omega) (by simp [aA]) λa5 c5 h5 O5 k5 n5=>?_;have k25:Keeps [] h2 h5:=k5.mono (by simp [aA]);rw [List.nil_append] at O5;(conv=>whnf);refine aP.i λb6 h6 e6 s6 o6 k6=>?_;have O6:=O5.keep k6 (by simp);have S6:=one o6;have k26:=k25.trans k6;have z5:=k25.size;have hb6:h2.size<=b6:=by omega
  have n6:∀ b∈aA a5,h2.size<=b:=λb hb=>by
   rcases n5 b hb with h|h
   ·simp [aA] at h
   ·exact h
 case' c2=>
  (conv=>whnf);refine aP.i λb6 h5 e6 s5 o5 k5=>?_;(conv=>whnf);refine oC (pG h5) (P1.keep k5) (by omega) (by simp [aA]) λa5 c5 h6 O6 k6 n5=>?_;have k56:Keeps [] h5 h6:=k6.mono (by simp [aA]);rw [List.nil_append] at O6;have S6:=(one o5).keep k56;have k26:=k5.trans k56;have z5:=k5.size;have hb6:h2.size<=b6:=by omega
  have n6:∀ b∈aA a5,h2.size<=b:=λb hb=>by
   rcases n5 b hb with h|h
   ·simp [aA] at h
   ·omega
 all_goals
  (conv=>whnf);refine oC O6 S6 (by omega) (by simp [ax]) λa7 c7 h7 O7 k7 n7=>?_;have z7:=k7.size;have z6:=k26.size;have n7':∀ b∈aA a7,h2.size<=b:=λb hb=>by
   rcases n7 b hb with h|h
   ·exact n6 b h
   ·omega
  have k27:Keeps [] h2 h7:=k26.dK k7 (λb hb=>n6 b hb);(conv=>whnf);refine oC O7 (P2.keep k27) (by omega) (by simp [ax]) λa8 c8 h8 O8 k8 n8=>?_;have k28:Keeps [] h2 h8:=k27.dK k8 (λb hb=>n7' b hb);(conv=>whnf);have hlen:(bJ l ⟨name,target⟩).length=0+(aL l name-0)+1+(n-aL l name):=by
   rw [(ng l _).length_eq,List.length_cons];omega
  refine ⟨k02.trans k28,a8,c8,?_,?_,λb hb=>?_⟩
  ·simp only;rw [hlen]
  ·simp only;rw [hlen];have:List.take (aL l name) l++[(⟨name,target⟩:aD)]++List.drop (aL l name) l=bJ l ⟨name,target⟩:=by unfold bJ;simp
   rw [<-this];exact O8
  ·have z02:=k02.size;rcases n8 b hb with h|h
   ·have:=n7' b h;omega
   ·have:=k27.size;omega
theorem Tz (x y:aD):mG Tryz.prog 10000 93 (.agg ⟨x.cells⟩) (.agg ⟨y.cells⟩)=some (decide (x=y)):=by
 have h:mG Tryz.prog 10000 93 (.agg ⟨x.cells⟩) (.agg ⟨y.cells⟩)=some (((⟨x.name.toArray⟩:ByteArray).toList==(⟨y.name.toArray⟩:ByteArray).toList)&&((x.node==y.node)&&true)):=by kernel_rfl
 rw [h]
 congr 1
 rw [iX,Bool.eq_iff_iff];obtain ⟨a,b⟩:=x;obtain ⟨c,d⟩:=y;simp
theorem TA {h:Heap}{a:Option Addr}{n c:Nat}{l:List aD}(S:Sl h a n c l)(hn:n<=10000)(name:List UInt8)(hnl:name.length<=140737488351232) :
 aC Tryz.prog 147 [.slice a n c,.string ⟨name.toArray⟩] h (λv h'=>Keeps [] h h'/\∃ a' c',v=.tuple #[.slice a' (kr l name).1.length c',.int .i64 (kr l name).2.1,.int .i64 (kr l name).2.2]/\Own h' 93 2 a' (kr l name).1.length c' (bS (kr l name).1)/\(∀ b∈aA a',h.size<=b)):=by
 have hl:=S.hlen;have hcap:=S.hcap;unfold kr;refine aH aI Tryz.func147 rfl ok147 (by simp [Tryz.f147]) ?_;(conv=>whnf);refine ak.i (w9 S (by omega) name hnl) λv h2 k2 hv=>?_;subst hv;(conv=>whnf);refine aj.i (λhp=>?_) (λhp=>?_)
 ·have hp':¬ dz l name=true:=by simpa using hp
  (conv=>whnf);rw [if_neg hp'];exact ⟨k2,none,0,rfl,pG h2,by simp [aA]⟩
 have hp':dz l name=true:=by simpa using hp
 rw [if_pos hp'];obtain ⟨hkl,hnm⟩:=wz hp';have P1:=(S.keep k2).part (l:=0) (r:=aL l name) (Nat.zero_le _) (by omega);rw [List.drop_zero] at P1;have P2:=(S.keep k2).part (l:=aL l name+1) (r:=n) (by omega) (Nat.le_refl _);rw [List.take_of_length_le (by omega:l.length<=n)] at P2;have hw:IntKind.i64.wrap ((aL l name:Int)+1)=((aL l name+1:Nat):Int):=wrapN (by simp) (by omega);obtain ⟨b3,o3,hb3,cs,⟨rfl,hok⟩,hc3⟩:=(S.keep k2).at_ (aL l name) hkl;(conv=>whnf);refine dn.i 0 (aL l name) rfl rfl (Nat.zero_le _) (by omega) ?_;(conv=>whnf);refine dn.i (aL l name+1) n hw rfl (by omega) (by omega) ?_;(conv=>whnf);refine aR.i (aL l name) rfl (by omega) hb3 ?_;have nd:∀ {hx:Heap},Keeps [] h2 hx->Heap.cell? hx b3 (o3+aL l name*2+1)=some (.int .i64 (l[aL l name].node)):=λk=>(hc3.keep k) 1 (by simp [aD.cells]);have hlen:(l.eraseIdx (aL l name)).length=0+(aL l name-0)+(n-(aL l name+1)):=by
  rw [List.length_eraseIdx_of_lt hkl];omega
 have her:l.take (aL l name)++l.drop (aL l name+1)=l.eraseIdx (aL l name):=(List.eraseIdx_eq_take_drop_succ _ _).symm;have Ah:(l[aL l name]?.getD ⟨[],0⟩).node=l[aL l name].node:=by rw [List.getElem?_eq_getElem hkl];rfl
 (conv=>whnf);refine iP.i ?c1 ?c2
 case' c1=>
  (conv=>whnf);refine oC (pG h2) P1 (by omega) (by simp [aA]) λa5 c5 h5 O5 k5 n5=>?_;have k25:Keeps [] h2 h5:=k5.mono (by simp [aA]);rw [List.nil_append] at O5;have n5':∀ b∈aA a5,h2.size<=b:=λb hb=>by
   rcases n5 b hb with h|h
   ·simp [aA] at h
   ·exact h
  (conv=>whnf);refine iP.i ?d1 ?d2
  case' d1=>
   (conv=>whnf);refine oC O5 (P2.keep k25) (by omega) (by simp [ax]) λa6 c6 h6 O6 k6 n6=>?_;have k26:Keeps [] h2 h6:=k25.dK k6 (λb hb=>n5' b hb);(conv=>whnf);refine au.i (nd k26) ?_;(conv=>whnf);refine ⟨k2.trans k26,a6,c6,?_,?_,λb hb=>?_⟩
   ·simp only;rw [hlen,Ah]
   ·simp only;rw [hlen,<-her];exact O6
   ·have z2:=k2.size;have z5:=k25.size;rcases n6 b hb with h|h
    ·have:=n5' b h;omega
    ·omega
  case' d2=>
   (conv=>whnf);refine au.i (nd k25) ?_;(conv=>whnf);refine oC O5 (P2.keep k25) (by omega) (by simp [ax]) λa6 c6 h6 O6 k6 n6=>?_;have k26:Keeps [] h2 h6:=k25.dK k6 (λb hb=>n5' b hb);(conv=>whnf);refine ⟨k2.trans k26,a6,c6,?_,?_,λb hb=>?_⟩
   ·simp only;rw [hlen,Ah]
   ·simp only;rw [hlen,<-her];exact O6
   ·have z2:=k2.size;have z5:=k25.size;rcases n6 b hb with h|h
    ·have:=n5' b h;omega
    ·omega
 case' c2=>
  (conv=>whnf);refine au.i (nd (Keeps.refl _ _)) ?_;(conv=>whnf);refine oC (pG h2) P1 (by omega) (by simp [aA]) λa5 c5 h5 O5 k5 n5=>?_;have k25:Keeps [] h2 h5:=k5.mono (by simp [aA]);rw [List.nil_append] at O5;have n5':∀ b∈aA a5,h2.size<=b:=λb hb=>by
   rcases n5 b hb with h|h
   ·simp [aA] at h
   ·exact h
  (conv=>whnf);refine oC O5 (P2.keep k25) (by omega) (by simp [ax]) λa6 c6 h6 O6 k6 n6=>?_;have k26:Keeps [] h2 h6:=k25.dK k6 (λb hb=>n5' b hb);(conv=>whnf);refine ⟨k2.trans k26,a6,c6,?_,?_,λb hb=>?_⟩
  ·simp only;rw [hlen,Ah]
  ·simp only;rw [hlen,<-her];exact O6
  ·have z2:=k2.size;have z5:=k25.size;rcases n6 b hb with h|h
   ·have:=n5' b h;omega
   ·omega
theorem gY.TD {P:Program}{c:Option Bool}{t:TypeId}{x y:Operand}{xs ys:List Value}{r:Bool}{K:Value->Prop}(hm:P.eqGuardType P.depth t=false)(he:mG P 10000 t (.agg ⟨xs⟩) (.agg ⟨ys⟩)=some r)(hK:K (.bool (!r))) :
 gY c P (do eqGuard .neq t x y (.agg ⟨xs⟩) (.agg ⟨ys⟩);binOp .neq t (.agg ⟨xs⟩) (.agg ⟨ys⟩):Sem Value) K:=by
 refine gY.i (λw=>?_) hK;rw [Sem.run_bind,run_eqGuard_agg _ _ _ _ _ _ _ hm];simp only [Result.andThen_ok];rw [run_neq_struct,Fp _ _ _ _ _ w he];rfl
theorem TF {h:Heap}{a a2:Option Addr}{n n2 c c2:Nat}{l l2:List aD}(S:Sl h a n c l)(S2:Sl h a2 n2 c2 l2)(hn:n<=100000):aC Tryz.prog 56 [.slice a n c,.slice a2 n2 c2] h (λv h'=>Keeps [] h h'/\v=.bool (decide (l=l2))):=by
 have hl:=S.hlen;have hl2:=S2.hlen;refine aH aI Tryz.func56 rfl ok56 (by simp [Tryz.f56]) ?_;(conv=>whnf);refine aj.i (λhd=>?_) (λhd=>?_)
 ·have hne:n≠n2:=by simp at hd;omega
  (conv=>whnf);refine ⟨Keeps.refl _ _,?_⟩;rw [decide_eq_false (λe=>hne (by rw [hl,hl2,e]))]
 have he:n=n2:=by simp at hd;omega
 (conv=>whnf);refine bO.on [0,1,5] [] (λi:Nat=>[(0,.v (.slice a n c)),(1,.v (.slice a2 n2 c2)),(5,.v (.int .i64 (i:Int)))]) (λ_=>[]) (λi h'=>i<=n/\Keeps [] h h'/\l.take i=l2.take i) (λi=>n-i) 0 ?_ ?_
 ·(conv=>whnf);exact ⟨0,rfl,rfl,rfl,Nat.zero_le _,Keeps.refl _ _,by simp⟩
 ·rintro i h1 ⟨hi,k1,ht⟩;(conv=>whnf);refine aj.i (λhd=>?_) (λhd=>?_)
  ·have hi1:i<l.length:=by simp at hd;omega
   have hi2:i<l2.length:=by omega
   obtain ⟨b1,o1,hb1,_,⟨rfl,_⟩,hc1⟩:=(S.keep k1).at_ i hi1;obtain ⟨b2,o2,hb2,_,⟨rfl,_⟩,hc2⟩:=(S2.keep k1).at_ i hi2;(conv=>whnf);refine aR.i i rfl (by omega) hb1 ?_;(conv=>whnf);refine fq.i (vs:=l[i].cells) rfl (λj hj=>hc1 j hj) ?_;(conv=>whnf);refine aR.i i rfl (by omega) hb2 ?_;(conv=>whnf);refine fq.i (vs:=l2[i].cells) rfl (λj hj=>hc2 j hj) ?_;(conv=>whnf);refine gY.TD (by kernel_rfl) (Tz l[i] l2[i]) ?_;(conv=>whnf);refine aj.i (λhq=>?_) (λhq=>?_)
   ·(conv=>whnf);have hne:l[i]≠l2[i]:=by simpa using hq
    refine ⟨k1,?_⟩;rw [decide_eq_false (λe=>hne (by subst e;rfl))]
   ·have heq:l[i]=l2[i]:=by simpa using hq
    (conv=>whnf);refine ⟨n-(i+1),by omega,?_⟩;(conv=>whnf);refine ⟨i+1,rfl,by rw [wrapN (n:=i+1) (by simp) (by omega)],rfl,by omega,k1,?_⟩;rw [List.take_succ_eq_append_getElem hi1,List.take_succ_eq_append_getElem hi2,ht,heq]
  ·have hi1:i=n:=by simp at hd;omega
   subst hi1;(conv=>whnf);refine ⟨k1,?_⟩;rw [List.take_of_length_le (by omega),List.take_of_length_le (by omega)] at ht;rw [decide_eq_true ht]
def sM (X Y:VS):Prop:=Y.away=X.away/\Y.bG=X.bG
theorem Ls (B:Int->UInt64)(X:VS)(node:Int):sM X (bL B X node).2.2:=by
 unfold bL;split
 ·split <;> exact ⟨rfl,rfl⟩
 ·exact ⟨rfl,rfl⟩
theorem Tw (X:VS)(k:Int):sM X (fJ X k).2:=by
 unfold fJ;split
 ·split <;> exact ⟨rfl,rfl⟩
 ·exact ⟨rfl,rfl⟩
theorem Lu (B:Int->UInt64)(X:VS)(node:Int)(c:aB)(m:List Int):sM X (eH B X node c m).2.2:=by
 have ht:=Ls B X node;have hd:=Tw X c.more;unfold eH;split
 ·split
  ·split
   ·exact ⟨rfl,rfl⟩
   ·split
    ·exact hd
    ·exact hd
  ·by_cases hm:c.more = -1
   ·simp only [if_pos hm];split
    ·simp only;split <;> exact ht
    ·exact ht
   ·simp only [if_neg hm,if_true];split <;> exact ⟨rfl,rfl⟩
 ·exact ⟨rfl,rfl⟩
section
variable {H:Type} {enc:TypeId×Value->H} {W:World} {sp:Nat->Bool} {held:Bool}
end
def iq:List Int:=List.replicate 21 (-1)
theorem wU (i:Nat):aO iq i = -1:=by
 unfold aO iq;rw [List.getElem?_replicate];split <;> rfl
theorem _root_.Go.aK.Sl.xN {h:Heap}{a:Option Addr}{n c:Nat}{xs:List aD}(S:Sl h a n c xs)(hn:0<n):∀ b∈aA a,b<h.size:=by
 have hl:=S.hlen;obtain ⟨b,o,hb,cs,⟨rfl,_⟩,hc⟩:=S.at_ 0 (by omega);intro x hx;rw [hb] at hx;simp [aA] at hx;subst hx;exact xQ (hc 0 (by simp [aD.cells]))
section
variable {h0 h h':Heap} {F:List Nat} {f:Nat} {node:Int} {V:VL} {M:aU} {c:aB} {m:List Int} {l:List aD}
end
theorem Lr {now:Int->UInt64}{node:Int}{c:aB}{m:List Int}{l:List aD}(D:eG now node c m l)(name:List UInt8):oq now c name=((jm l name).1,dz l name,0):=by
 unfold oq;rw [D.open_,if_pos rfl];simp only;rw [rJ D.str]
theorem Tv {a b:Int}(ha:0<=a/\a<24)(hb:0<=b/\b<24)(h:w64 (a+1)=w64 (b+1)):a=b:=by
 have h1:=qz (a+1);have h2:=qz (b+1);rw [h] at h1;omega
theorem eG.other {now g:Int->UInt64}{x y:Int}(hx:0<=x/\x<24)(hy:0<=y/\y<24)(hne:x≠y){c:aB}{m:List Int}{l:List aD}(D:eG now y c m l)(R:Fr0 x now g):eG g y c m l:=by
 have hxy:w64 (y+1)≠w64 (x+1):=λe=>hne (Tv hx hy e.symm);have hy0:=ig hy;have key:∀ k,0<=k->k<96->now (200+k)=w64 (y+1)->g (200+k)=w64 (y+1)/\bV g (1288+k*16) 16=bV now (1288+k*16) 16:=by
  intro k h0 h1 h;obtain ⟨p,q⟩:=R.kQ k h0 h1 (by rw [h];exact hxy);refine ⟨?_,q (by rw [h];exact hy0)⟩;rcases p with p|⟨p,_⟩
  ·rw [p,h]
  ·exact absurd (h ▸ p) hy0
 have back:∀ k,0<=k->k<96->g (200+k)=w64 (y+1)->now (200+k)=w64 (y+1):=by
  intro k h0 h1 h;by_cases hm:now (200+k)=w64 (x+1)
  ·rcases R.mine k h0 h1 hm with p|p
   ·exact absurd (h.symm.trans p) hxy
   ·exact absurd (h.symm.trans p) hy0
  ·rcases (R.kQ k h0 h1 hm).1 with p|⟨_,p⟩
   ·rw [<-p,h]
   ·exact absurd (h.symm.trans p) hxy
 have hown:∀ k,k∈gI c.more m->0<=k/\k<96/\now (200+k)=w64 (y+1):=by
  intro k hk;obtain ⟨h1,h2⟩:=nA.1 hk;have hb:=D.wk.bH k (by rcases h1 with rfl|h1;exact List.mem_cons_self;exact List.mem_cons_of_mem _ h1);unfold nD at hb;exact ⟨by omega,by omega,(D.wk.own k (by omega) (by omega)).1 hk⟩
 have hml:=D.wk.len;have hblk:∀ i,i<21->aO m i ≠ -1->dh now (aO m i)=dh g (aO m i):=by
  intro i hi hu;have hm:aO m i∈m:=by
   unfold aO;rw [List.getElem?_eq_getElem (by omega)];exact List.getElem_mem _
  obtain ⟨k0,k1,ko⟩:=hown _ (nA.2 ⟨.inr hm,hu⟩);exact (key _ k0 k1 ko).2.symm
 refine ⟨?_,⟨D.wk.len,D.wk.bH,D.wk.jo,λk h0 h1=>?_⟩,D.kind,D.size,λi hi hu=>?_,?_,D.str,D.kR⟩
 ·have h:=D.map;unfold mapOf at h ⊢;by_cases hm:c.more = -1
  ·rw [if_pos hm] at h ⊢;exact h
  ·obtain ⟨k0,k1,ko⟩:=hown c.more (nA.2 ⟨.inl rfl,hm⟩);have e:dx g c.more=dx now c.more:=(key _ k0 k1 ko).2;rw [e];exact h
 ·rw [D.wk.own k h0 h1];exact ⟨λh=>(key k h0 h1 h).1,back k h0 h1⟩
 ·rw [<-hblk i hi hu];exact D.ok i hi hu
 ·rw [<-HV hblk];exact D.lH
section
variable {h0 h h':Heap} {F:List Nat} {V:VL} {M:aU} {f g:Nat} {x y:Int} {c d:aB} {m n:List Int} {l t:List aD}
end
set_option maxHeartbeats 2000000
theorem Hq {B:Int->UInt64}{X:VS}{node:Int}(h:(bL B X node).2.1≠0):(bL B X node).2.2=X:=by
 unfold bL at h ⊢;split
 ·rename_i hn;rw [if_pos hn] at h;split
  ·rename_i k hk;rw [hk] at h;simp at h
  ·rfl
 ·rfl
theorem Oy {B:Int->UInt64}{X:VS}{node:Int}(hn:0<=node/\node<24)(h:1<=bB B X 96):(bL B X node).2.1=0:=by
 unfold bL;rw [if_pos hn];cases hf:jW B X 96 0 with
 | none=>exact absurd hf (zJ h)
 | some k=>rfl
theorem count_le {p q:Nat->Bool}:∀ {n:Nat},(∀ j,j<n->p j=true->q j=true)->((List.range n).filter p).length<=((List.range n).filter q).length
 | 0,_=>by simp
 | n+1,h=>by
  rw [List.range_succ,List.filter_append,List.filter_append,List.length_append,List.length_append];have ih:=count_le (n:=n) λj hj=>h j (by omega);have:(([n].filter p).length<=([n].filter q).length):=by
   have:=h n (by omega);simp only [List.filter_cons,List.filter_nil];cases hp:p n with
   | false=>simp
   | true=>rw [this hp];simp
  omega
theorem CB {B:Int->UInt64}{X:VS}{k:Int}{ws:List UInt64}(hk:k = -1\/0<=k)(hw:ws.length<=16):bB B { X with now:=bX X.now k ws } 96=bB B X 96:=by
 unfold bB
 congr 1
 refine List.filter_congr λj hj=>?_;have hj':j<96:=by simpa using hj
 unfold gN;have:(bX X.now k ws) (200+(j:Int))=X.now (200+(j:Int)):=by
  unfold bX kz;rw [CJ hw,if_neg (by omega)]
 simp only [this]
theorem CK {B:Int->UInt64}{X:VS}{node:Int}:(bL B X node).2.2={ X with now:=(bL B X node).2.2.now }:=by
 unfold bL;split
 ·split <;> rfl
 ·rfl
theorem CO {B:Int->UInt64}{X:VS}{node:Int}(hn:0<=node/\node<24):bB B X 96<=bB B (bL B X node).2.2 96+1:=by
 by_cases h:(bL B X node).2.1=0
 ·rw [CP hn h];exact Nat.le_refl _
 ·rw [Hq h];exact Nat.le_succ _
theorem Hr {B:Int->UInt64}{node:Int}(hn:0<=node/\node<24){X:VS}{c:aB}{m:List Int}:bB B X 96<=bB B (eH B X node c m).2.2 96+1/\(eH B X node c m).2.2={ X with now:=(eH B X node c m).2.2.now }:=by
 unfold eH;split
 ·rename_i hc0;have hl:=hc0.2.1;by_cases hd:(m.drop 5).any eu=false
  ·rw [if_pos hd];by_cases hc:c.more = -1
   ·rw [if_pos hc];exact ⟨Nat.le_succ _,rfl⟩
   ·rw [if_neg hc];have hle:bB B X 96<=bB B (fJ X c.more).2 96/\(fJ X c.more).2={ X with now:=(fJ X c.more).2.now }:=by
     unfold fJ;split
     ·split
      ·exact ⟨Nat.le_refl _,rfl⟩
      ·refine ⟨?_,rfl⟩;unfold bB;refine count_le λj hj hp=>?_;unfold gN at hp ⊢;simp only [Bool.and_eq_true,decide_eq_true_eq] at hp ⊢;refine ⟨hp.1,hp.2.1,?_,hp.2.2.2⟩;have:=hp.2.2.1;unfold upd;split
       ·rfl
       ·exact this
     ·exact ⟨Nat.le_refl _,rfl⟩
    split
    ·exact ⟨by simp only;omega,hle.2⟩
    ·exact ⟨by simp only;omega,hle.2⟩
  ·rw [if_neg hd];by_cases hc:c.more = -1
   ·rw [if_pos hc];simp only;by_cases ht:(bL B X node).2.1=0
    ·rw [if_pos ht];have hr:=u7 ht;have:=CP hn ht;have hx:(bL B X node).2.2={ X with now:=(bL B X node).2.2.now }:=CK;simp only;rw [if_pos hr,CQ hr.1 (by simp [hl])];exact ⟨by omega,by rw [hx]⟩
    ·rw [if_neg ht,Hq ht];exact ⟨Nat.le_succ _,rfl⟩
   ·rw [if_neg hc];simp only [if_true];split
    ·rename_i hk;rw [CQ hk.1 (by simp [hl])];exact ⟨Nat.le_succ _,rfl⟩
    ·exact ⟨Nat.le_succ _,rfl⟩
 ·exact ⟨Nat.le_succ _,rfl⟩
theorem Oz {B:Int->UInt64}{X:VS}{node:Int}(hn:0<=node/\node<24){c:aB}{m:List Int}{l:List aD}(D:eG X.now node c m l)(name:List UInt8)(target:Int) :
 bB B X 96<=bB B (iU B X node c name target).2.2 96+2/\(iU B X node c name target).2.2={ X with now:=(iU B X node c name target).2.2.now }:=by
 have R:=D.wk.rH;unfold iU;rw [D.open_];simp only [ne_eq,not_true_eq_false,if_false];split
 ·exact ⟨Nat.le_add_right _ _,rfl⟩
 split
 ·exact ⟨Nat.le_add_right _ _,rfl⟩
 split
 ·exact ⟨Nat.le_add_right _ _,rfl⟩
 have fin:∀ (Y:VS) (k:Int) (ws:List UInt64) (mm:List Int) (cc:aB),(k = -1\/0<=k)->ws.length<=16->bB B X 96<=bB B Y 96+1->Y={ X with now:=Y.now } ->
  bB B X 96<=bB B (eH B { Y with now:=bX Y.now k ws } node cc mm).2.2 96+2/\(eH B { Y with now:=bX Y.now k ws } node cc mm).2.2={ X with now:=(eH B { Y with now:=bX Y.now k ws } node cc mm).2.2.now }:=by
  intro Y k ws mm cc hk hw hc hx;have FK:=Hr (B:=B) (X:={ Y with now:=bX Y.now k ws }) (c:=cc) (m:=mm) hn;rw [CB hk hw] at FK;refine ⟨by omega,?_⟩;have h2:=FK.2;rw [hx] at h2 ⊢;exact h2
 unfold jX;cases hs:gJ (wordsAt X.now m) m dZ 4 (bR name) with
 | some q=>
  obtain ⟨pl,k⟩:=q;simp only [not_true_eq_false,if_false,Int.toNat_natCast,ve];have hk0:=R.aO pl;have q3:=(vg hs).2.2.1;refine fin X _ _ _ _ (by omega) ?_ (Nat.le_succ _) rfl;have:=CR (new:=w64 target::dL name 2) (tF X.now (aO m pl)) q3 (by simp [oL]);exact Nat.le_of_eq this
 | none=>
  simp only;unfold ny;cases hg:kC m 4 (bR name) with
  | none=>
   simp only;exact ⟨Nat.le_add_right _ _,rfl⟩
  | some pl=>
   simp only;by_cases e0:(bL B X node).2.1=0
   ·rw [if_pos e0];simp only [not_true_eq_false,if_false,Int.toNat_natCast];have hr:=u7 e0;have q1:=(zK hg).1;have hl:=R.1;have hat:aO (m.set pl (bL B X node).1) pl=(bL B X node).1:=by rw [wV (by omega),if_pos rfl]
    refine fin (bL B X node).2.2 _ _ _ _ (by rw [hat];omega) ?_ (CO hn) CK;have hw:(pU (wordsAt X.now m) pl (pl:Int)).length=16:=by
     unfold pU;rw [if_pos rfl];simp
    have:=CR (k:=0) (new:=w64 target::dL name 2) hw (by decide) (by simp [oL]);exact Nat.le_of_eq this
   ·rw [if_neg e0];simp only;rw [if_pos e0];exact ⟨Nat.le_trans (CO hn) (Nat.le_succ _),CK⟩
theorem Ht {B:Int->UInt64}{node:Int}{X:VS}{c:aB}{m:List Int}(h:(eH B X node c m).2.1=0):(eH B X node c m).1.kind=c.kind/\(eH B X node c m).1.links=c.links/\(eH B X node c m).1.dR=c.dR:=by
 unfold eH at h ⊢;split at h
 ·rename_i h0;rw [if_pos h0];split at h
  ·rename_i h1;rw [if_pos h1];split at h
   ·rename_i h2;rw [if_pos h2];exact ⟨rfl,rfl,rfl⟩
   ·rename_i h2;rw [if_neg h2];split at h
    ·rename_i h3;rw [if_pos h3];exact ⟨rfl,rfl,rfl⟩
    ·rename_i h3;exact absurd h h3
  ·rename_i h1;rw [if_neg h1];by_cases h2:c.more = -1
   ·rw [if_pos h2] at h ⊢;simp only at h ⊢;by_cases h3:(bL B X node).2.1=0
    ·rw [if_pos h3];exact ⟨rfl,rfl,rfl⟩
    ·rw [if_neg h3] at h;exact absurd h h3
   ·rw [if_neg h2];simp [jY]
 ·simp at h
theorem Hu {B:Int->UInt64}{X:VS}{node:Int}{c:aB}{at_:Int}{data:List UInt8}(h:(fO B X node c at_ data).2.1=0):(fO B X node c at_ data).1.kind=c.kind/\(fO B X node c at_ data).1.links=c.links/\(fO B X node c at_ data).1.dR=c.dR:=by
 unfold fO at h ⊢;split at h
 ·simp at h
 rename_i h1;rw [if_neg h1];split at h
 ·rename_i h2;rw [if_pos h2];split at h
  ·simp at h
  ·exact ⟨rfl,rfl,rfl⟩
 rename_i h2;rw [if_neg h2];split at h
 ·simp at h
 rename_i h3;rw [if_neg h3];split at h
 ·simp at h
 ·rename_i m hm;simp only at h ⊢;split at h
  ·rename_i h5;rw [if_pos h5];exact Ht (c:={ c with size:=max c.size (at_+data.length) }) h
  ·rename_i h5;exact absurd h h5
theorem OA {B:Int->UInt64}{node more:Int}(hn:0<=node/\node<24){X:VS}{m:List Int}(W:Wk X.now node more m){a:Nat}{data:List UInt8}{i:Nat}(hi:i<21)(h1:128*i<a+data.length)(h2:a<128*i+128)(hf:1<=bB B X 96):bB B X 96<=bB B (iN B node a data i X m).2.1 96+1:=by
 have hl:=W.len;have e0:=Oy (B:=B) (X:=X) hn hf;unfold iN;have hbl:∀ (now:Int->UInt64) (k:Int),(dL (mq (dA now k) data a (a+data.length) (128*i)) 16).length<=16:=λnow k=>by rw [oL];exact Nat.le_refl _
 by_cases hm:m[i]?.getD 0 = -1
 ·rw [if_pos hm];simp only [e0,if_true];have hr:=u7 e0;have hat:(m.set i (bL B X node).1)[i]?.getD 0=(bL B X node).1:=by simp [hl,hi]
  rw [hat,CB (.inr hr.1) (hbl _ _)];exact CO hn
 ·rw [if_neg hm];simp only [if_true];have hr:=W.rH.aO i;have e:m[i]?.getD 0=aO m i:=getD_21 hl hi;rw [e,CB (by omega) (hbl _ _)];exact Nat.le_succ _
theorem CU {B:Int->UInt64}{node more:Int}(hn:0<=node/\node<24){a:Nat}{data:List UInt8}:∀ (f i:Nat) (X:VS) (m:List Int),Wk X.now node more m->i+f<=21->(0<f->128*(i+f-1)<a+data.length)->a<128*i+128->f<=bB B X 96 ->
 (gV B node a data f i X m).1=0/\bB B X 96<=bB B (gV B node a data f i X m).2.1 96+f/\Wk (gV B node a data f i X m).2.1.now node more (gV B node a data f i X m).2.2
 | 0,i,X,m,W,_,_,_,_=>⟨rfl,Nat.le_refl _,W⟩
 | f+1,i,X,m,W,hi,hd,ha,hf=>by
  have hd':=hd (Nat.succ_pos _);have c:=OA (B:=B) (data:=data) hn W (a:=a) (i:=i) (by omega) (by omega) ha (by omega);rcases Hw (B:=B) hn W (a:=a) (data:=data) (i:=i) (by omega) (by omega) ha with ⟨_,hno⟩|S
  ·exact absurd hno (zJ (by omega))
  ·unfold gV;rw [if_pos S.e];obtain ⟨r1,r2,r3⟩:=CU (B:=B) (a:=a) (data:=data) hn f (i+1) _ _ S.wk (by omega) (λ_=>by omega) (by omega) (by omega);exact ⟨r1,by omega,r3⟩
theorem Hy {B:Int->UInt64}{node:Int}(hn:0<=node/\node<24){X:VS}{c:aB}{m:List Int}{s:List UInt8}(F:gq X.now node c m s)(a:Nat)(data:List UInt8)(hroom:(a+data.length+127)/128-a/128+1<=bB B X 96) :
 (fO B X node c (a:Int) data).2.1=(eY s (a:Int) data).2 /\
 ((eY s (a:Int) data).2=0->bB B X 96<=bB B (fO B X node c (a:Int) data).2.2 96+((a+data.length+127)/128-a/128+1)/\∃ m',Wrote node X m (a:Int) data (eY s (a:Int) data).1 (fO B X node c (a:Int) data) m'):=by
 rcases CV (B:=B) hn F (a:Int) data with ⟨h9,h0,_⟩|⟨he,hw⟩
 ·exfalso;unfold eY at h0;unfold fO at h9;by_cases h1:(a:Int)<0\/400<data.length
  ·rw [if_pos h1] at h0;simp at h0
  rw [if_neg h1] at h0;rw [if_neg (by rintro (x|x);exact x hn;exact h1 x)] at h9;by_cases h2:data=[]
  ·rw [if_pos h2,F.map] at h9;simp at h9
  rw [if_neg h2] at h0 h9;by_cases h3:2688-(data.length:Int)<(a:Int)
  ·rw [if_pos h3] at h0;simp at h0
  rw [if_neg h3,F.map] at h9;simp only [Int.toNat_natCast] at h9;have hdl:0<data.length:=List.length_pos_iff.2 h2;obtain ⟨r1,r2,r3⟩:=CU (B:=B) hn (a:=a) (data:=data) ((a+data.length+127)/128-a/128) (a/128) X m F.wk (by omega) (λ_=>by omega) (by omega) (by omega);rw [r1] at h9;simp only [if_true] at h9;have K:=CW (B:=B) (c:={ c with size:=max c.size ((a:Int)+data.length) }) hn r3 (by omega);rw [K.e] at h9;cases h9
 ·refine ⟨he,λh0=>⟨?_,hw h0⟩⟩;unfold eY at h0;unfold fO;by_cases h1:(a:Int)<0\/400<data.length
  ·rw [if_pos h1] at h0;simp at h0
  rw [if_neg (by rintro (x|x);exact x hn;exact h1 x)];rw [if_neg h1] at h0;by_cases h2:data=[]
  ·rw [if_pos h2,F.map];simp only;omega
  rw [if_neg h2] at h0 ⊢;by_cases h3:2688-(data.length:Int)<(a:Int)
  ·rw [if_pos h3] at h0;simp at h0
  rw [if_neg h3,F.map];simp only [Int.toNat_natCast];have hdl:0<data.length:=List.length_pos_iff.2 h2;obtain ⟨r1,r2,r3⟩:=CU (B:=B) hn (a:=a) (data:=data) ((a+data.length+127)/128-a/128) (a/128) X m F.wk (by omega) (λ_=>by omega) (by omega) (by omega);rw [r1];simp only [if_true];have K:=(Hr (B:=B) (X:=(gV B node a data ((a+data.length+127)/128-a/128) (a/128) X m).2.1) (c:={ c with size:=max c.size ((a:Int)+data.length) }) (m:=(gV B node a data ((a+data.length+127)/128-a/128) (a/128) X m).2.2) hn).1;omega
def ja (s:List UInt8)(at_ n:Int):List UInt8×Int:=
 if at_<0\/n<0\/4096<n then ([],1)
 else if (s.length:Int)<=at_ then ([],0) else ((s.take (min (s.length:Int) (at_+n)).toNat).drop at_.toNat,0)
theorem gq.bytes {now:Int->UInt64}{node:Int}{c:aB}{m:List Int}{s:List UInt8}(F:gq now node c m s):(iA now m).take s.length=s:=by
 have hl:=Ai (now:=now) m;have hm:=F.wk.len;have hf:=F.fits;apply List.ext_getElem?;intro p;rw [List.getElem?_take];by_cases h:p<s.length
 ·rw [if_pos h,Jy m p (by omega),F.aM p (by omega)];simp [h]
 ·rw [if_neg h,List.getElem?_eq_none (by omega)]
theorem FB {now:Int->UInt64}{node:Int}{c:aB}{m:List Int}{s:List UInt8}(F:gq now node c m s)(at_ n:Int):rX now c at_ n=ja s at_ n:=by
 unfold rX ja;split
 ·rfl
 ·rename_i h;rw [F.map,F.size];simp only;split
  ·rfl
  ·rename_i h2;have hb:=F.bytes
   congr 2
   have e:(iA now m).take (min (s.length:Int) (at_+n)).toNat=s.take (min (s.length:Int) (at_+n)).toNat:=by
    generalize hX:(min (s.length:Int) (at_+n)).toNat=x;have e2:s.take x=((iA now m).take s.length).take x:=by rw [hb]
    rw [e2,List.take_take]
    congr 1;omega
   exact e
theorem gq.szr {now:Int->UInt64}{node:Int}{c:aB}{m:List Int}{s:List UInt8}(F:gq now node c m s):0<=c.size/\c.size<=2688:=by
 have:=F.size;have:=F.fits;omega
def m0:List Int:=List.replicate 21 (-1)
structure Lv (node more:Int)(X:VS)(m:List Int)(z:Nat)(size:Int)(i f:Nat)(r:Int×VS×List Int):Prop where
 e:r.1=0
 x:r.2.1={ X with now:=r.2.1.now }
 wk:Wk r.2.1.now node more r.2.2
 fr:Fr node X.now r.2.1.now
 xO:more ≠ -1->dx r.2.1.now more=dx X.now more
 aM:∀ p,p<2688->fb r.2.1.now r.2.2 p=if ((z:Int)<size)/\i<=p/128/\p/128<i+f/\z<=p then 0 else fb X.now m p
 holes:∀ j,j<21->(r.2.2[j]?.getD (-1) = -1↔m[j]?.getD (-1) = -1\/((z:Int)<size/\i<=j/\j<i+f/\z<=128*j))
theorem TL {node more:Int}(hn:0<=node/\node<24){X:VS}{m:List Int}(W:Wk X.now node more m){z:Nat}{size:Int}{i:Nat}(hi:i<21):Lv node more X m z size i 1 (kG z size i X m):=by
 have hl:=W.len;unfold kG;rw [getD_21 hl hi];by_cases h1:m[i]?.getD (-1) = -1\/size<=(z:Int)\/128*i+128<=z
 ·rw [if_pos h1];refine ⟨rfl,rfl,W,Fr.refl _ _,λ_=>rfl,λp hp=>?_,λj hj=>⟨.inl,λh=>?_⟩⟩
  ·simp only;split
   ·rename_i hc;have hpi:p/128=i:=by omega
    rcases h1 with h1|h1|h1
    ·unfold fb;rw [hpi,h1];unfold dA;rw [if_pos rfl,Cz]
    ·omega
    ·omega
   ·rfl
  ·rcases h with h|h
   ·exact h
   ·have:j=i:=by omega
    subst this;rcases h1 with h1|h1|h1
    ·exact h1
    ·omega
    ·omega
 ·rw [if_neg h1];have hm:m[i]?.getD (-1) ≠ -1:=λh=>h1 (.inl h);have hs:(z:Int)<size:=by
   refine Classical.byContradiction λh=>h1 (.inr (.inl (by omega)))
  have hz:¬ 128*i+128<=z:=λh=>h1 (.inr (.inr h));by_cases h2:z<=128*i
  ·rw [if_pos h2];obtain ⟨hk,ho,W1,F1,M1,B1⟩:=W.drop_at hn hi rfl hm;have hdr:fJ X (m[i]?.getD (-1))=(0,{ X with now:=upd X.now (200+m[i]?.getD (-1)) 0 }):=by
    unfold fJ;rw [if_pos hk,if_neg (by rw [ho];exact ig hn)]
   rw [hdr];refine ⟨rfl,rfl,W1,F1,M1,λp hp=>?_,λj hj=>?_⟩
   ·simp only;rw [B1 p hp];by_cases hpi:p/128=i
    ·rw [if_pos hpi,if_pos ⟨hs,by omega,by omega,by omega⟩]
    ·rw [if_neg hpi,if_neg (by omega)]
   ·simp only;by_cases hji:j=i
    ·subst hji;have:(m.set j (-1))[j]?.getD (-1) = -1:=by simp [hl,hj]
     rw [this];exact ⟨λ_=>.inr ⟨hs,by omega,by omega,h2⟩,λ_=>rfl⟩
    ·rw [List.getElem?_set_ne (λx=>hji x.symm)];exact ⟨.inl,λh=>by rcases h with h|h;exact h;omega⟩
  ·rw [if_neg h2];have hbl:=kS X.now (m[i]?.getD (-1));obtain ⟨W2,F2,M2,B2⟩:=W.put hi (l:=(dA X.now (m[i]?.getD (-1))).take (z-128*i)) (by rw [List.length_take];omega) rfl hm;refine ⟨rfl,rfl,W2,F2,M2,λp hp=>?_,λj hj=>?_⟩
   ·simp only;rw [B2 p hp];by_cases hpi:p/128=i
    ·rw [if_pos hpi,List.getElem?_take];by_cases hpz:z<=p
     ·rw [if_neg (by omega),if_pos ⟨hs,by omega,by omega,hpz⟩];rfl
     ·rw [if_pos (by omega),if_neg (by omega)];unfold fb;rw [hpi]
    ·rw [if_neg hpi,if_neg (by omega)]
   ·simp only;exact ⟨.inl,λh=>by rcases h with h|h;exact h;omega⟩
theorem Lx {node more:Int}(hn:0<=node/\node<24){z:Nat}{size:Int}:∀ (f i:Nat) (X:VS) (m:List Int),Wk X.now node more m->i+f<=21->Lv node more X m z size i f (kY z size f i X m)
 | 0,i,X,m,W,_=>by
  unfold kY;refine ⟨rfl,rfl,W,Fr.refl _ _,λ_=>rfl,λp hp=>?_,λj hj=>⟨.inl,λh=>by rcases h with h|h;exact h;omega⟩⟩;simp only;rw [if_neg (by omega)]
 | f+1,i,X,m,W,hf=>by
  unfold kY;have S:=TL hn W (z:=z) (size:=size) (i:=i) (by omega);rw [S.e];simp only [if_true];have R:=Lx (z:=z) (size:=size) hn f (i+1) (kG z size i X m).2.1 (kG z size i X m).2.2 S.wk (by omega);refine ⟨R.e,?_,R.wk,S.fr.trans R.fr (ig hn),λh=>(R.xO h).trans (S.xO h),λp hp=>?_,λj hj=>?_⟩
  ·rw [R.x,S.x]
  ·rw [R.aM p hp,S.aM p hp];by_cases c3:(z:Int)<size/\i+1<=p/128/\p/128<i+1+f/\z<=p
   ·rw [if_pos c3,if_pos ⟨c3.1,by omega,by omega,c3.2.2.2⟩]
   ·rw [if_neg c3];by_cases c4:(z:Int)<size/\i<=p/128/\p/128<i+1/\z<=p
    ·rw [if_pos c4,if_pos ⟨c4.1,c4.2.1,by omega,c4.2.2.2⟩]
    ·rw [if_neg c4,if_neg (by omega)]
  ·rw [R.holes j hj,S.holes j hj]
   constructor
   ·rintro ((h|h)|h)
    ·exact .inl h
    ·exact .inr ⟨h.1,by omega,by omega,h.2.2.2⟩
    ·exact .inr ⟨h.1,by omega,by omega,h.2.2.2⟩
   ·rintro (h|h)
    ·exact .inl (.inl h)
    ·by_cases hji:j=i
     ·exact .inl (.inr ⟨h.1,by omega,by omega,h.2.2.2⟩)
     ·exact .inr ⟨h.1,by omega,by omega,h.2.2.2⟩
def ic (s:List UInt8)(size:Int):List UInt8×Int:=
 if size<0 then ([],1)
 else if 2688<size then ([],10)
 else if size<=(s.length:Int) then (s.take size.toNat,0) else (s++zeros (size.toNat-s.length),0)
theorem TM (s:List UInt8)(z:Nat)(p:Nat):(if (z:Int)<=(s.length:Int) then s.take z else s++zeros (z-s.length))[p]?.getD 0=if (z:Int)<(s.length:Int)/\z<=p then 0 else s[p]?.getD 0:=by
 split
 ·rw [List.getElem?_take];by_cases h:p<z
  ·rw [if_pos h,if_neg (by omega)]
  ·rw [if_neg h];split
   ·rfl
   ·rw [List.getElem?_eq_none (by omega)]
 ·rw [DC,if_neg (by omega)]
theorem Fz (s:List UInt8)(z:Nat):(if (z:Int)<=(s.length:Int) then s.take z else s++zeros (z-s.length)).length=z:=by
 split
 ·rw [List.length_take];omega
 ·simp [zeros];omega
theorem LA {B:Int->UInt64}{node:Int}(hn:0<=node/\node<24){X:VS}{c:aB}{m:List Int}{s:List UInt8}(F:gq X.now node c m s)(size:Int) :
 (iY B X node c size).2.1=(ic s size).2/\((ic s size).2=0->∃ m',gq (iY B X node c size).2.2.now node (iY B X node c size).1 m' (ic s size).1/\Fr node X.now (iY B X node c size).2.2.now/\(iY B X node c size).2.2={ X with now:=(iY B X node c size).2.2.now } /\
  ∀ j:Nat,j<21->(m'[j]?.getD (-1) = -1↔m[j]?.getD (-1) = -1\/(size<s.length/\size<=128*(j:Int)))):=by
 unfold iY ic;by_cases h1:size<0
 ·rw [if_pos (.inr h1),if_pos h1];exact ⟨rfl,λh=>by cases h⟩
 ·rw [if_neg (by rintro (x|x);exact x hn;exact h1 x),if_neg h1];by_cases h2:2688<size
  ·rw [if_pos h2,if_pos h2];exact ⟨rfl,λh=>by cases h⟩
  ·rw [if_neg h2,if_neg h2,F.map];simp only;obtain ⟨z,rfl⟩:∃ z:Nat,size=(z:Int):=⟨size.toNat,by omega⟩;simp only [Int.toNat_natCast];have R:=Lx (z:=z) (size:=c.size) hn 21 0 X m F.wk (by omega);rw [R.e];simp only [if_true];have hsz:=F.size;have hfit:=F.fits;have hlr:=R.wk.len;have hc:({ c with size:=(z:Int) }:aB).more=c.more:=rfl;have hmono:(((kY z c.size 21 0 X m).2.2).drop 5).any eu=true->(m.drop 5).any eu=true:=by
    intro h;rw [List.any_eq_true] at h ⊢;obtain ⟨x,hx,hu⟩:=h;rw [List.mem_drop_iff_getElem] at hx;obtain ⟨j,hj,rfl⟩:=hx;have h5:5+j<21:=by omega
    have hh:=R.holes (5+j) h5;rw [R.wk.at_ h5,F.wk.at_ h5] at hh;have hne:=jB.1 hu;have hml:=F.wk.len;refine ⟨m[5+j],?_,jB.2 λe=>hne (hh.2 (.inl e))⟩;rw [List.mem_drop_iff_getElem];exact ⟨j,by omega,rfl⟩
   have TN:(if (z:Int)<=(s.length:Int) then (s.take z,(0:Int)) else (s++zeros (z-s.length),0))=(if (z:Int)<=(s.length:Int) then s.take z else s++zeros (z-s.length),0):=by split <;> rfl
   rw [TN];rcases tH (B:=B) (c:={ c with size:=(z:Int) }) hn (hc ▸ R.wk) with ⟨_,_,hmo,TP⟩|K
   ·exact absurd (F.kR.1 hmo) (by rw [hmono TP];decide)
   ·refine ⟨K.e,λ_=>⟨(kY z c.size 21 0 X m).2.2,?_,R.fr.trans K.fr (ig hn),by rw [K.x,R.x],λj hj=>?_⟩⟩
    ·have hcc:=K.c_;refine ⟨K.map,K.wk,?_,?_,?_,λp hp=>?_,λj hj hs=>?_,K.kR⟩
     ·rw [hcc];exact F.kind
     ·rw [hcc,Fz];rfl
     ·rw [Fz];omega
     ·rw [K.aM p hp,R.aM p hp,TM,F.aM p hp,hsz];by_cases hq:(z:Int)<(s.length:Int)/\z<=p
      ·rw [if_pos ⟨hq.1,by omega,by omega,hq.2⟩,if_pos hq]
      ·rw [if_neg (λh=>hq ⟨h.1,h.2.2.2⟩),if_neg hq]
     ·rw [Fz] at hs;refine (R.holes j hj).2 ?_;rw [hsz];by_cases hq:(z:Int)<(s.length:Int)
      ·exact .inr ⟨hq,by omega,by omega,hs⟩
      ·exact .inl (F.hol j hj (by omega))
    ·rw [R.holes j hj,hsz]
     constructor
     ·rintro (h|h)
      ·exact .inl h
      ·exact .inr ⟨h.1,by omega⟩
     ·rintro (h|h)
      ·exact .inl h
      ·exact .inr ⟨h.1,by omega,by omega,by omega⟩
theorem Cy {a b:Int}(ha:0<=a/\a<24)(hb:0<=b/\b<24)(h:w64 (a+1)=w64 (b+1)):a=b:=by
 have h1:=qz (a+1);have h2:=qz (b+1);rw [h] at h1;omega
theorem gq.other {now g:Int->UInt64}{x y:Int}(hx:0<=x/\x<24)(hy:0<=y/\y<24)(hne:x≠y){c:aB}{m:List Int}{s:List UInt8}(F:gq now y c m s)(R:Fr0 x now g):gq g y c m s:=by
 have hxy:w64 (y+1)≠w64 (x+1):=λe=>hne (Cy hx hy e.symm);have hy0:=ig hy;have key:∀ k,0<=k->k<96->now (200+k)=w64 (y+1)->g (200+k)=w64 (y+1)/\bV g (1288+k*16) 16=bV now (1288+k*16) 16:=by
  intro k h0 h1 h;obtain ⟨p,q⟩:=R.kQ k h0 h1 (by rw [h];exact hxy);refine ⟨?_,q (by rw [h];exact hy0)⟩;rcases p with p|⟨p,_⟩
  ·rw [p,h]
  ·exact absurd (h ▸ p) hy0
 have back:∀ k,0<=k->k<96->g (200+k)=w64 (y+1)->now (200+k)=w64 (y+1):=by
  intro k h0 h1 h;by_cases hm:now (200+k)=w64 (x+1)
  ·rcases R.mine k h0 h1 hm with p|p
   ·exact absurd (h.symm.trans p) hxy
   ·exact absurd (h.symm.trans p) hy0
  ·rcases (R.kQ k h0 h1 hm).1 with p|⟨_,p⟩
   ·rw [<-p,h]
   ·exact absurd (h.symm.trans p) hxy
 have hown:∀ k,k∈gI c.more m->0<=k/\k<96/\now (200+k)=w64 (y+1):=by
  intro k hk;obtain ⟨h1,h2⟩:=nA.1 hk;have hb:=F.wk.bH k (by rcases h1 with rfl|h1;exact List.mem_cons_self;exact List.mem_cons_of_mem _ h1);unfold nD at hb;exact ⟨by omega,by omega,(F.wk.own k (by omega) (by omega)).1 hk⟩
 refine ⟨?_,⟨F.wk.len,F.wk.bH,F.wk.jo,λk h0 h1=>?_⟩,F.kind,F.size,F.fits,λp hp=>?_,F.hol,F.kR⟩
 ·have h:=F.map;unfold mapOf at h ⊢;by_cases hm:c.more = -1
  ·rw [if_pos hm] at h ⊢;exact h
  ·obtain ⟨k0,k1,ko⟩:=hown c.more (nA.2 ⟨.inl rfl,hm⟩);have e:dx g c.more=dx now c.more:=(key _ k0 k1 ko).2;rw [e];exact h
 ·rw [F.wk.own k h0 h1];exact ⟨λh=>(key k h0 h1 h).1,back k h0 h1⟩
 ·rw [F.wk.Ad (λk hk h0 h1=>?_) p hp,F.aM p hp];exact (key k h0 h1 (hown k (nA.2 ⟨.inr hk,by omega⟩)).2.2).2
def dG:List UInt8->List (List UInt8)
 | []=>[[]]
 | c::l=>if c=47 then []::dG l else (match dG l with
  | []=>[[c]]
  | x::r=>(c::x)::r)
def bA (l:List (List UInt8)):List UInt8:=l.flatMap λx=>47::x
theorem yN (s:List UInt8):dG s≠[]:=by
 cases s with
 | nil=>simp [dG]
 | cons c l=>
  unfold dG;split
  ·simp
  ·split <;> simp
theorem BA:∀ s:List UInt8,bA (dG s)=47::s
 | []=>rfl
 | c::l=>by
  have ih:=BA l;unfold dG;by_cases h:c=47
  ·rw [if_pos h];show 47::[]++bA (dG l)=_;rw [ih,h];rfl
  ·rw [if_neg h];cases hc:dG l with
   | nil=>exact absurd hc (yN l)
   | cons x r=>
    rw [hc] at ih;simp only;have e:bA (x::r)=47::(x++bA r):=by simp [bA]
    rw [e] at ih;have e2:bA ((c::x)::r)=47::c::(x++bA r):=by simp [bA]
    rw [e2];have:=(List.cons.inj ih).2;rw [this]
theorem Fu:∀ {x:List UInt8},47∉x->dG x=[x]
 | [],_=>rfl
 | c::x,h=>by
  have h1:c≠47:=λe=>h (by simp [e]);have ih:=Fu (x:=x) (λe=>h (by simp [e]));unfold dG;rw [if_neg h1,ih]
theorem Fv:∀ {x:List UInt8} {s:List UInt8},47∉x->dG (x++47::s)=x::dG s
 | [],s,_=>by
  show dG (47::s)=_
  conv=>lhs;unfold dG
  rw [if_pos rfl]
 | c::x,s,h=>by
  have h1:c≠47:=λe=>h (by simp [e]);have ih:=Fv (x:=x) (s:=s) (λe=>h (by simp [e]));show dG (c::(x++47::s))=_
  conv=>lhs;unfold dG
  rw [if_neg h1,ih]
theorem Ll:∀ {l:List (List UInt8)} {x:List UInt8},(∀ y∈x::l,47∉y)->dG (x++bA l)=x::l
 | [],x,h=>by
  show dG (x++[])=_;rw [List.append_nil,Fu (h x (by simp))]
 | y::l,x,h=>by
  have e:bA (y::l)=47::(y++bA l):=by simp [bA]
  rw [e,Fv (h x (by simp)),Ll λz hz=>h z (by simp only [List.mem_cons] at hz ⊢;exact .inr hz)]
theorem Tm {x:List UInt8}(h:di x=true):47∉x:=by
 intro hm;unfold di at h;simp only [Bool.and_eq_true] at h;have:=List.all_eq_true.1 h.1 47 hm
 revert this
 decide
def bE (s:List UInt8):Option (List (List UInt8)):=
 match s with
 | []=>none
 | c::r=>if c≠47\/120<s.length then none else if r=[] then some [] else if (dG r).all di=true then some (dG r) else none
theorem GH {l:List (List UInt8)}(h:l.all di=true)(hl:(bA l).length<=120):bE (if l=[] then [47] else bA l)=some l:=by
 cases l with
 | nil=>simp [bE]
 | cons x r=>
  rw [if_neg (by simp)];have e:bA (x::r)=47::(x++bA r):=by simp [bA]
  have hn:∀ y∈x::r,47∉y:=λy hy=>Tm (List.all_eq_true.1 h y hy);have hx:x≠[]:=by
   intro e0;have:=List.all_eq_true.1 h x (by simp);rw [e0] at this
   revert this;decide
  rw [e] at hl ⊢;unfold bE;simp only;rw [if_neg (by simp only [ne_eq,not_true_eq_false,false_or];omega),if_neg (by simp [hx]),Ll hn,if_pos h]
theorem Fw:∀ {l:List (List UInt8)},(∀ x∈l,x≠[])->2*l.length<=(bA l).length
 | [],_=>by simp [bA]
 | x::l,h=>by
  have ih:=Fw (l:=l) λy hy=>h y (by simp [hy]);have hx:0<x.length:=List.length_pos_iff.2 (h x (by simp));have e:(bA (x::l)).length=x.length+1+(bA l).length:=by simp [bA];omega
  rw [e,List.length_cons];omega
theorem Lm {x:List UInt8}(h:di x=true):x≠[]:=by
 rintro rfl
 revert h;decide
theorem mg {s:List UInt8}{l:List (List UInt8)}(h:bE s=some l):l.length<=60/\l.all di=true/\s.length<=120/\(if l=[] then [47] else bA l)=s:=by
 unfold bE at h;split at h
 ·cases h
 ·rename_i c r;split at h
  ·cases h
  ·rename_i h1;split at h
   ·rename_i h2;cases h;subst h2;have h3:c=47:=by simpa using λe=>h1 (.inl e)
    exact ⟨by simp,rfl,by omega,by simp [h3]⟩
   ·rename_i h2;split at h
    ·rename_i h3;cases h;have hc:c=47:=by
      apply Classical.byContradiction;intro e;exact h1 (.inl e)
     have hj:=BA r;have hn:=Fw (l:=dG r) λx hx=>Lm (List.all_eq_true.1 h3 x hx);rw [hj] at hn;have hl:(c::r).length<=120:=by omega
     simp only [List.length_cons] at hn hl;refine ⟨by omega,h3,by simpa using hl,?_⟩;rw [if_neg (yN r),hj,hc]
    ·cases h
structure Fs where
 kind:Int->Int
 find:Int->List UInt8->Option Int
 data:Int->List UInt8
def dQ (F:Fs)(root:Int)(follow:Bool):Nat->Int->Nat->List (List UInt8)->Int×Int
 | 0,_,_,_=>(0,-1)
 | f+1,at_,links,l=>(match l with
  | []=>(at_,0)
  | name::rest=>
   if F.kind at_≠2 then (0,6)
   else (match F.find at_ name with
    | none=>(0,4)
    | some next=>
     if F.kind next≠3\/(rest=[]/\follow=false) then dQ F root follow f next links rest
     else if 8<links+1 then (0,11)
     else (match bE (F.data next) with
      | none=>(0,15)
      | some head=>dQ F root follow f root (links+1) (head++rest))))
structure Alike (F G:Fs)(φ:Int->Int)(S:Int->Prop):Prop where
 kind:∀ x,S x->G.kind (φ x)=F.kind x
 find:∀ x n,S x->F.kind x=2->G.find (φ x) n=(F.find x n).map φ
 stay:∀ x n y,S x->F.kind x=2->F.find x n=some y->S y
 data:∀ x,S x->F.kind x=3->G.data (φ x)=F.data x
theorem rF {F G:Fs}{φ:Int->Int}{S:Int->Prop}(A:Alike F G φ S){root:Int}(hr:S root){follow:Bool}:∀ (f:Nat) (at_:Int) (links:Nat) (l:List (List UInt8)),S at_ ->
 (dQ G (φ root) follow f (φ at_) links l).2=(dQ F root follow f at_ links l).2 /\
 ((dQ F root follow f at_ links l).2=0->(dQ G (φ root) follow f (φ at_) links l).1=φ (dQ F root follow f at_ links l).1/\S (dQ F root follow f at_ links l).1)
 | 0,at_,links,l,_=>⟨rfl,λh=>by cases h⟩
 | f+1,at_,links,[],hs=>⟨rfl,λ_=>⟨rfl,hs⟩⟩
 | f+1,at_,links,name::rest,hs=>by
  unfold dQ;simp only;by_cases hk:F.kind at_=2
  ·rw [A.kind at_ hs,A.find at_ name hs hk];rw [if_neg (by simp [hk]),if_neg (by simp [hk])];cases hf:F.find at_ name with
   | none=>exact ⟨rfl,λh=>by simp at h⟩
   | some next=>
    have hn:=A.stay at_ name next hs hk hf;simp only [Option.map_some];rw [A.kind next hn];by_cases hc:F.kind next≠3\/(rest=[]/\follow=false)
    ·rw [if_pos hc,if_pos hc];exact rF A hr f next links rest hn
    ·rw [if_neg hc,if_neg hc];have h3:F.kind next=3:=by
      by_cases e:F.kind next=3
      ·exact e
      ·exact absurd (.inl e) hc
     by_cases hl:8<links+1
     ·rw [if_pos hl,if_pos hl];exact ⟨rfl,λh=>by simp at h⟩
     ·rw [if_neg hl,if_neg hl,A.data next hn h3];cases hp:bE (F.data next) with
      | none=>exact ⟨rfl,λh=>by simp at h⟩
      | some head=>exact rF A hr f root (links+1) (head++rest) hr
  ·rw [A.kind at_ hs,if_pos hk,if_pos hk];exact ⟨rfl,λh=>by simp at h⟩
def mJ (width:Nat):UInt64:=UInt64.ofNat (2 ^ width-1)
def fM (w:UInt64)(at_ width:Nat)(v:UInt64):UInt64:=(w &&& ~~~(mJ width <<< UInt64.ofNat at_)) ||| (v <<< UInt64.ofNat at_)
def lS (w:UInt64)(at_ width:Nat):UInt64:=(w >>> UInt64.ofNat at_) &&& mJ width
theorem Tn {n:Nat}(h:n<=63):2 ^ n<18446744073709551616:=by
 have:2 ^ n<=2 ^ 63:=Nat.pow_le_pow_right (by decide) h;omega
theorem Fx {width:Nat}(h:width<=63):(mJ width).toNat=2 ^ width-1:=by
 unfold mJ;have:=Tn h;rw [UInt64.toNat_ofNat'];omega
theorem yO {n:Nat}(h:n<=63):(UInt64.ofNat n).toNat=n:=by
 rw [UInt64.toNat_ofNat'];omega
theorem Fy (w:UInt64){at_ width:Nat}(h1:at_<=63)(h2:width<=63):(lS w at_ width).toNat=w.toNat/2 ^ at_%2 ^ width:=by
 unfold lS;rw [UInt64.toNat_and,UInt64.toNat_shiftRight,yO h1,Fx h2,Nat.and_two_pow_sub_one_eq_mod,Nat.shiftRight_eq_div_pow];rw [Nat.mod_eq_of_lt (show at_<64 by omega)]
theorem qW {w v:UInt64}{at_ width:Nat}(h:at_+width<=64)(h1:1<=width)(h2:width<=63)(hw:w.toNat<2 ^ at_)(hv:v.toNat<2 ^ width):(fM w at_ width v).toNat=w.toNat+v.toNat*2 ^ at_:=by
 have ha:at_<=63:=by omega
 have hand:w &&& ~~~(mJ width <<< UInt64.ofNat at_)=w:=by
  apply UInt64.toBitVec_inj.1;apply BitVec.eq_of_getLsbD_eq;intro i hi;have hwb:w.toBitVec.getLsbD i=true->i<at_:=by
   intro hb;rcases Nat.lt_or_ge i at_ with h|h
   ·exact h
   ·have:w.toNat<2 ^ i:=Nat.lt_of_lt_of_le hw (Nat.pow_le_pow_right (by decide) h);have hf:w.toBitVec.getLsbD i=false:=by
     rw [BitVec.getLsbD];exact Nat.testBit_lt_two_pow this
    rw [hf] at hb;cases hb
  have hsh:(mJ width <<< UInt64.ofNat at_).toBitVec=(mJ width).toBitVec <<< at_:=by
   apply BitVec.eq_of_toNat_eq;have e:=UInt64.toNat_shiftLeft (mJ width) (UInt64.ofNat at_);rw [yO ha,Nat.mod_eq_of_lt (show at_<64 by omega)] at e;show (mJ width <<< UInt64.ofNat at_).toNat=_;rw [e,BitVec.toNat_shiftLeft];rfl
  rw [UInt64.toBitVec_and,UInt64.toBitVec_not,hsh];rw [BitVec.getLsbD_and,BitVec.getLsbD_not,BitVec.getLsbD_shiftLeft];cases hb:w.toBitVec.getLsbD i with
  | false=>rfl
  | true=>
   have:=hwb hb;simp [hi,this]
 unfold fM;rw [hand,UInt64.toNat_or,UInt64.toNat_shiftLeft,yO ha,Nat.mod_eq_of_lt (show at_<64 by omega)];have hlt:v.toNat*2 ^ at_<2 ^ 64:=by
  have h3:v.toNat*2 ^ at_<2 ^ width*2 ^ at_:=Nat.mul_lt_mul_of_pos_right hv (Nat.two_pow_pos _);rw [<-Nat.pow_add] at h3;exact Nat.lt_of_lt_of_le h3 (Nat.pow_le_pow_right (by decide) (by omega))
 rw [Nat.shiftLeft_eq,Nat.mod_eq_of_lt hlt,Nat.or_comm,<-Nat.shiftLeft_eq,<-Nat.shiftLeft_add_eq_or_of_lt hw,Nat.shiftLeft_eq,Nat.add_comm]
def uG (c:aB):UInt64:=fM (fM (fM 0 0 8 (w64 c.kind)) 8 16 (w64 c.links)) 24 32 (w64 c.size)
def yP (c:aB):UInt64:=fM (fM (fM (fM 0 0 16 (w64 (c.d0+1))) 16 16 (w64 (c.d1+1))) 32 16 (w64 (c.d2+1))) 48 16 (w64 (c.d3+1))
def yQ (c:aB):UInt64:=fM (fM 0 0 16 (w64 (c.d4+1))) 16 16 (w64 (c.more+1))
def fI (c:aB):List UInt64:=[uG c,c.dR,yP c,yQ c,0,0,0,0]
def mK (ws:List UInt64)(i at_ width:Nat):Int:=((lS (ws[i]?.getD 0) at_ width).toNat:Int)
def nQ (ws:List UInt64):aB:=⟨mK ws 0 0 8,mK ws 0 8 16,mK ws 0 24 32,ws[1]?.getD 0,mK ws 2 0 16-1,mK ws 2 16 16-1,mK ws 2 32 16-1,mK ws 2 48 16-1,mK ws 3 0 16-1,mK ws 3 16 16-1⟩
def iD (ws:List UInt64):Option aB:=if ws.length=8/\gu (nQ ws)=true/\fI (nQ ws)=ws then some (nQ ws) else none
structure rG (c:aB):Prop where
 k:0<=c.kind/\c.kind<=3
 l:0<=c.links/\c.links<=255
 s:0<=c.size/\c.size<=2688
 d0 : -1<=c.d0/\c.d0<96
 d1 : -1<=c.d1/\c.d1<96
 d2 : -1<=c.d2/\c.d2<96
 d3 : -1<=c.d3/\c.d3<96
 d4 : -1<=c.d4/\c.d4<96
 m : -1<=c.more/\c.more<96
theorem jS {x:Int}(h0:0<=x)(h1:x<4294967296):(w64 x).toNat=x.toNat:=by
 have:=qz x;omega
theorem Tp {c:aB}(B:rG c):(uG c).toNat=c.kind.toNat+c.links.toNat*256+c.size.toNat*16777216:=by
 have hk:=B.k;have hl:=B.l;have hs:=B.s;unfold uG;have e1:(fM 0 0 8 (w64 c.kind)).toNat=c.kind.toNat:=by
  rw [qW (by decide) (by decide) (by decide) (by decide) (by rw [jS hk.1 (by omega)];omega),jS hk.1 (by omega)];simp
 have e2:(fM (fM 0 0 8 (w64 c.kind)) 8 16 (w64 c.links)).toNat=c.kind.toNat+c.links.toNat*256:=by
  rw [qW (by decide) (by decide) (by decide) (by rw [e1];omega) (by rw [jS hl.1 (by omega)];omega),jS hl.1 (by omega),e1]
 rw [qW (by decide) (by decide) (by decide) (by rw [e2];omega) (by rw [jS hs.1 (by omega)];omega),jS hs.1 (by omega),e2]
theorem Tq {c:aB}(B:rG c):(yP c).toNat=(c.d0+1).toNat+(c.d1+1).toNat*65536+(c.d2+1).toNat*4294967296+(c.d3+1).toNat*281474976710656:=by
 have h0:=B.d0;have h1:=B.d1;have h2:=B.d2;have h3:=B.d3;unfold yP;have e1:(fM 0 0 16 (w64 (c.d0+1))).toNat=(c.d0+1).toNat:=by
  rw [qW (by decide) (by decide) (by decide) (by decide) (by rw [jS (by omega) (by omega)];omega),jS (by omega) (by omega)];simp
 have e2:(fM (fM 0 0 16 (w64 (c.d0+1))) 16 16 (w64 (c.d1+1))).toNat=(c.d0+1).toNat+(c.d1+1).toNat*65536:=by
  rw [qW (by decide) (by decide) (by decide) (by rw [e1];omega) (by rw [jS (by omega) (by omega)];omega),jS (by omega) (by omega),e1]
 have e3:(fM (fM (fM 0 0 16 (w64 (c.d0+1))) 16 16 (w64 (c.d1+1))) 32 16 (w64 (c.d2+1))).toNat=(c.d0+1).toNat+(c.d1+1).toNat*65536+(c.d2+1).toNat*4294967296:=by
  rw [qW (by decide) (by decide) (by decide) (by rw [e2];omega) (by rw [jS (by omega) (by omega)];omega),jS (by omega) (by omega),e2]
 rw [qW (by decide) (by decide) (by decide) (by rw [e3];omega) (by rw [jS (by omega) (by omega)];omega),jS (by omega) (by omega),e3]
theorem Tt {c:aB}(B:rG c):(yQ c).toNat=(c.d4+1).toNat+(c.more+1).toNat*65536:=by
 have h0:=B.d4;have h1:=B.m;unfold yQ;have e1:(fM 0 0 16 (w64 (c.d4+1))).toNat=(c.d4+1).toNat:=by
  rw [qW (by decide) (by decide) (by decide) (by decide) (by rw [jS (by omega) (by omega)];omega),jS (by omega) (by omega)];simp
 rw [qW (by decide) (by decide) (by decide) (by rw [e1];omega) (by rw [jS (by omega) (by omega)];omega),jS (by omega) (by omega),e1]
theorem uZ {c:aB}(h:gu c=true):rG c:=by
 unfold gu at h;split at h
 ·rename_i h0;have:=of_decide_eq_true h;rw [this]
  constructor <;> (show _<=_/\_) <;> simp [fU]
 ·rename_i h0;simp [aB.direct,lI] at h
  constructor <;> omega
theorem Lp {c:aB}(B:rG c):nQ (fI c)=c:=by
 have h1:=B.k;have h2:=B.l;have h3:=B.s;have h4:=B.d0;have h5:=B.d1;have h6:=B.d2;have h7:=B.d3;have h8:=B.d4;have h9:=B.m;have g:∀ i at_ width,at_<=63->width<=63->mK (fI c) i at_ width=(((((fI c)[i]?.getD 0).toNat/2 ^ at_%2 ^ width:Nat)):Int):=λi at_ width p q=>by unfold mK;rw [Fy _ p q]
 unfold nQ;rw [g 0 0 8 (by decide) (by decide),g 0 8 16 (by decide) (by decide),g 0 24 32 (by decide) (by decide),g 2 0 16 (by decide) (by decide),g 2 16 16 (by decide) (by decide),g 2 32 16 (by decide) (by decide),g 2 48 16 (by decide) (by decide),g 3 0 16 (by decide) (by decide),g 3 16 16 (by decide) (by decide)];have k0:(fI c)[0]?.getD 0=uG c:=rfl;have k1:(fI c)[1]?.getD 0=c.dR:=rfl;have k2:(fI c)[2]?.getD 0=yP c:=rfl;have k3:(fI c)[3]?.getD 0=yQ c:=rfl;rw [k0,k1,k2,k3,Tp B,Tq B,Tt B];obtain ⟨a,b,c',d,e,f,g',i,j,k⟩:=c;simp only at *
 congr 1 <;> omega
theorem sK {c:aB}(h:gu c=true):iD (fI c)=some c:=by
 have B:=uZ h;unfold iD;rw [Lp B,if_pos ⟨rfl,h,rfl⟩]
structure FS where
 C:Int->aB
 nm:Int->List aD
 aM:Int->List UInt8
def FS.put (S:FS)(n:Int)(c:aB)(l:List aD)(s:List UInt8):FS:=⟨λx=>if x=n then c else S.C x,λx=>if x=n then l else S.nm x,λx=>if x=n then s else S.aM x⟩
structure gU (now:Int->UInt64)(n:Int)(c:aB)(l:List aD)(s:List UInt8):Prop where
 kind:0<=c.kind/\c.kind<=3
 free:c.kind=0->c=fU c.dR/\∀ k,0<=k->k<96->now (200+k)≠w64 (n+1)
 dir:c.kind=2->∃ m,eG now n c m l
 file:c.kind=1\/c.kind=3->∃ m,gq now n c m s
structure bI (now:Int->UInt64)(S:FS):Prop where
 card:∀ n,0<=n->n<24->bV now (8+n*8) 8=fI (S.C n)
 node:∀ n,0<=n->n<24->gU now n (S.C n) (S.nm n) (S.aM n)
 zero:(S.C 0).kind=0
 own:∀ k,0<=k->k<96->now (200+k)=0\/∃ n,0<=n/\n<24/\now (200+k)=w64 (n+1)
theorem gU.right {now:Int->UInt64}{n:Int}{c:aB}{l:List aD}{s:List UInt8}(N:gU now n c l s):gu c=true:=by
 by_cases h0:c.kind=0
 ·have:=(N.free h0).1;unfold gu;rw [if_pos h0];exact decide_eq_true this
 ·by_cases h2:c.kind=2
  ·obtain ⟨m,D⟩:=N.dir h2;exact D.right.1
  ·have:=N.kind;obtain ⟨m,F⟩:=N.file (by omega);exact F.right
theorem Cx {c:aB}(B:rG c):c.ok:=by
 have h1:=B.k;have h2:=B.l;have h3:=B.s;have h4:=B.d0;have h5:=B.d1;have h6:=B.d2;have h7:=B.d3;have h8:=B.d4;have h9:=B.m;refine ⟨by unfold inI64;omega,by unfold inI64;omega,by unfold inI64;omega,λx hx=>?_,by unfold inI64;omega⟩;unfold aB.direct at hx;simp only [List.mem_cons,List.not_mem_nil,or_false] at hx;unfold inI64;omega
theorem gU.ok {now:Int->UInt64}{n:Int}{c:aB}{l:List aD}{s:List UInt8}(N:gU now n c l s):c.ok:=Cx (uZ N.right)
theorem gU.other {f g:Int->UInt64}{x y:Int}(hx:0<=x/\x<24)(hy:0<=y/\y<24)(hne:x≠y){c:aB}{l:List aD}{s:List UInt8}(N:gU f y c l s)(R:Fr0 x f g):gU g y c l s:=by
 refine ⟨N.kind,λh=>⟨(N.free h).1,λk h0 h1 e=>?_⟩,λh=>?_,λh=>?_⟩
 ·have hn:=(N.free h).2 k h0 h1;by_cases hm:f (200+k)=w64 (x+1)
  ·rcases R.mine k h0 h1 hm with p|p
   ·exact hne (Cy hx hy (p.symm.trans e))
   ·exact ig hy (e.symm.trans p)
  ·rcases (R.kQ k h0 h1 hm).1 with p|⟨_,p⟩
   ·exact hn (p ▸ e)
   ·exact hne (Cy hx hy (p.symm.trans e))
 ·obtain ⟨m,D⟩:=N.dir h;exact ⟨m,D.other hx hy hne R⟩
 ·obtain ⟨m,F⟩:=N.file h;exact ⟨m,F.other hx hy hne R⟩
theorem bI.put {f g:Int->UInt64}{S:FS}(I:bI f S){n:Int}(h0:0<=n/\n<24)(R:Fr0 n f g)(hc:∀ k,0<=k->k<24->k≠n->bV g (8+k*8) 8=bV f (8+k*8) 8){c:aB}{l:List aD}{s:List UInt8}
 (hn:bV g (8+n*8) 8=fI c) (N:gU g n c l s) (hz:n≠0):bI g (S.put n c l s):=by
 have hw:=ig h0;refine ⟨λk k0 k1=>?_,λk k0 k1=>?_,?_,λk k0 k1=>?_⟩
 ·show _=fI (if k=n then c else S.C k);by_cases e:k=n
  ·rw [if_pos e,e];exact hn
  ·rw [if_neg e,hc k k0 k1 e];exact I.card k k0 k1
 ·show gU g k (if k=n then c else S.C k) (if k=n then l else S.nm k) (if k=n then s else S.aM k);by_cases e:k=n
  ·rw [if_pos e,if_pos e,if_pos e,e];exact N
  ·rw [if_neg e,if_neg e,if_neg e];exact (I.node k k0 k1).other h0 ⟨k0,k1⟩ (λx=>e x.symm) R
 ·show (if (0:Int)=n then c else S.C 0).kind=0;rw [if_neg (λe=>hz e.symm)];exact I.zero
 ·by_cases hm:f (200+k)=w64 (n+1)
  ·rcases R.mine k k0 k1 hm with p|p
   ·exact .inr ⟨n,h0.1,h0.2,p⟩
   ·exact .inl p
  ·rcases (R.kQ k k0 k1 hm).1 with p|⟨_,p⟩
   ·rw [p];exact I.own k k0 k1
   ·exact .inr ⟨n,h0.1,h0.2,p⟩
def setW (now:Int->UInt64)(n:Int)(c:aB):Int->UInt64:=kz now (8+n*8) (fI c)
theorem u6 {now:Int->UInt64}{n:Int}(hn:n<24){c:aB}{a:Int}(ha:200<=a):setW now n c a=now a:=by
 unfold setW kz;rw [if_neg (by rw [show (fI c).length=8 from rfl];omega)]
theorem zH {now:Int->UInt64}{n:Int}{c:aB}:bV (setW now n c) (8+n*8) 8=fI c:=by
 unfold setW bV;apply List.ext_getElem
 ·rfl
 ·intro i h1 h2;have hi:i<8:=by simpa using h1
  rw [List.getElem_map,List.getElem_range];unfold kz;rw [if_pos ⟨by omega,by rw [show (fI c).length=8 from rfl];omega⟩];have:(8+n*8+(i:Int)-(8+n*8)).toNat=i:=by omega
  rw [this,List.getElem?_eq_getElem h2];rfl
theorem Ow {now:Int->UInt64}{n k:Int}{c:aB}(h:k≠n):bV (setW now n c) (8+k*8) 8=bV now (8+k*8) 8:=by
 unfold bV;refine List.map_congr_left λi hi=>?_;have hi:i<8:=by simpa using hi
 unfold setW kz;rw [if_neg (by rw [show (fI c).length=8 from rfl];omega)]
theorem bI.set {f g:Int->UInt64}{S:FS}(I:bI f S){n:Int}(h0:0<n/\n<24)(R:Fr n f g){c:aB}{l:List aD}{s:List UInt8}(N:gU g n c l s):bI (setW g n c) (S.put n c l s):=by
 have hn:0<=n/\n<24:=⟨by omega,h0.2⟩;have R2:Fr0 n f (setW g n c):=R.z.after λa ha=>u6 h0.2 ha;refine I.put hn R2 (λk k0 k1 hk=>?_) zH ?_ (by omega)
 ·rw [Ow hk];exact List.map_congr_left λi hi=>R.low _ (by
   have:i<8:=by simpa using hi
   omega)
 ·
  have hhi:∀ a,200<=a->setW g n c a=g a:=λa ha=>u6 h0.2 ha;obtain ⟨z,hz⟩:∃ z:Int,(0<=z/\z<24)/\z≠n:=⟨0,⟨by decide,by decide⟩,by omega⟩;exact N.other hz.1 hn hz.2 (Fr0.of z hhi)
theorem Hl {now:Int->UInt64}{node:Int}{kind:Int}(hk:kind=1\/kind=3)(v:UInt64)(h:∀ x,0<=x->x<96->now (200+x)≠w64 (node+1)):gq now node (cB kind v) m0 []:=by
 have hu:gI (cB kind v).more m0=[]:=by show gI (-1) m0=[];decide
 refine ⟨rfl,⟨rfl,?_,by rw [hu];exact List.nodup_nil,λx x0 x1=>by rw [hu];exact ⟨λh=>(nomatch h),λe=>absurd e (h x x0 x1)⟩⟩,⟨hk,by show (0:Int)<=1/\(1:Int)<=255;decide⟩,rfl,by simp,λp hp=>?_,λj hj _=>?_,?_⟩
 ·intro x hx
  left
  have:x∈List.replicate 22 (-1:Int):=hx;exact (List.mem_replicate.1 this).2
 ·unfold fb;have:m0[p/128]?.getD (-1) = -1:=by
   unfold m0;rw [List.getElem?_replicate];split <;> rfl
  rw [this];unfold dA;rw [if_pos rfl,Cz];rfl
 ·unfold m0;rw [List.getElem?_replicate];split <;> rfl
 ·exact ⟨λ_=>by decide,λ_=>rfl⟩
theorem Ox {now:Int->UInt64}{node:Int}(v:UInt64)(h:∀ x,0<=x->x<96->now (200+x)≠w64 (node+1)):eG now node (cB 2 v) iq []:=by
 have hu:gI (cB 2 v).more iq=[]:=by show gI (-1) iq=[];decide
 refine ⟨rfl,⟨rfl,?_,by rw [hu];exact List.nodup_nil,λx x0 x1=>by rw [hu];exact ⟨λh=>(nomatch h),λe=>absurd e (h x x0 x1)⟩⟩,⟨rfl,rfl⟩,rfl,λi hi hu=>absurd (wU i) hu,?_,List.Pairwise.nil,⟨λ_=>by decide,λ_=>rfl⟩⟩
 ·intro x hx
  left
  have:x∈List.replicate 22 (-1:Int):=hx;exact (List.mem_replicate.1 this).2
 ·have:dS now iq=[]:=by
   unfold dS;rw [List.flatMap_eq_nil_iff];intro i _;exact ni (wU i)
  rw [this]
theorem Ho {now:Int->UInt64}{n kind:Int}(hk:1<=kind/\kind<=3)(v:UInt64)(h:∀ x,0<=x->x<96->now (200+x)≠w64 (n+1)):gU now n (cB kind v) [] []:=by
 have hk':(cB kind v).kind=kind:=rfl;refine ⟨by rw [hk'];omega,λh0=>by rw [hk'] at h0;omega,λh2=>?_,λh13=>?_⟩
 ·rw [hk'] at h2;subst h2;exact ⟨iq,Ox v h⟩
 ·rw [hk'] at h13;exact ⟨m0,Hl h13 v h⟩
theorem zI {now:Int->UInt64}{n:Int}(v:UInt64)(h:∀ x,0<=x->x<96->now (200+x)≠w64 (n+1)):gU now n (fU v) [] []:=
 ⟨by show (0:Int)<=0/\(0:Int)<=3;decide,λ_=>⟨rfl,h⟩,λh2=>(by cases h2),λh13=>(by rcases h13 with h|h <;> cases h)⟩
theorem zG {F:Fs}{root:Int}{follow:Bool}:∀ (f:Nat) (at_:Int) (links:Nat) (l:List (List UInt8)),links<=8->(8-links)*61+l.length+1<=f->(dQ F root follow f at_ links l).2 ≠ -1
 | 0,_,_,_,_,h=>by omega
 | f+1,at_,links,[],_,_=>by unfold dQ;simp
 | f+1,at_,links,name::rest,hl,h=>by
  simp only [List.length_cons] at h;unfold dQ;simp only;split
  ·simp
  ·split
   ·simp
   ·split
    ·exact zG f _ _ _ hl (by omega)
    ·split
     ·simp
     ·split
      ·simp
      ·rename_i head hp;have:=(mg hp).1;exact zG f _ _ _ (by omega) (by rw [List.length_append];omega)
structure aF where
 id:Int
 kind:Int
 links:Int
 data:List UInt8
 names:List aD
def tn (T:List aF)(i:Int):aF:=T[i.toNat]?.getD ⟨0,0,0,[],[]⟩
def nu (num:List Int)(i:Int):Int:=num[i.toNat]?.getD 0
def aW (T:List aF):Fs:=⟨λi=>(tn T i).kind,λi name=>(cu (tn T i).names name).map (·.node),λi=>(tn T i).data⟩
def aX (S:FS):Fs:=⟨λi=>(S.C i).kind,λi name=>(cu (S.nm i) name).map (·.node),λi=>S.aM i⟩
def rn (num:List Int)(e:aD):aD:=⟨e.name,nu num e.node⟩
def inT (T:List aF)(i:Int):Prop:=1<=i/\i<T.length
structure qo (S:FS)(T:List aF)(num:List Int):Prop where
 len:num.length=T.length
 two:2<=T.length
 root:nu num 1=1/\(tn T 1).kind=2
 bH:∀ i,inT T i->1<=nu num i/\nu num i<24
 inj:∀ i j,inT T i->inT T j->nu num i=nu num j->i=j
 kind:∀ i,inT T i->(S.C (nu num i)).kind=(tn T i).kind/\1<=(tn T i).kind/\(tn T i).kind<=3
 dir:∀ i,inT T i->(tn T i).kind=2->S.nm (nu num i)=(tn T i).names.map (rn num)/\(∀ e∈(tn T i).names,inT T e.node)/\strict (tn T i).names
 data:∀ i,inT T i->(tn T i).kind≠2->(tn T i).data=S.aM (nu num i)
 kQ:∀ i,inT T i->(tn T i).kind≠2->(tn T i).names=[]
theorem Cw (num:List Int)(name:List UInt8):∀ l:List aD,cu (l.map (rn num)) name=(cu l name).map (rn num)
 | []=>rfl
 | x::l=>by
  have ih:=Cw num name l;unfold cu at ih ⊢;rw [List.map_cons,List.find?_cons,List.find?_cons];have:(rn num x).name=x.name:=rfl;rw [this];split
  ·rfl
  ·exact ih
theorem qo.alike {S:FS}{T:List aF}{num:List Int}(W:qo S T num):Alike (aW T) (aX S) (nu num) (inT T):=by
 refine ⟨λi hi=>(W.kind i hi).1,λi name hi hk=>?_,λi name y hi hk hf=>?_,λi hi hk=>?_⟩
 ·show (cu (S.nm (nu num i)) name).map (·.node)=((cu (tn T i).names name).map (·.node)).map (nu num);rw [(W.dir i hi hk).1,Cw,Option.map_map,Option.map_map];rfl
 ·have hf':(cu (tn T i).names name).map (·.node)=some y:=hf;cases he:cu (tn T i).names name with
  | none=>rw [he] at hf';cases hf'
  | some e=>
   rw [he] at hf';have:e.node=y:=by simpa using hf'
   rw [<-this];exact (W.dir i hi hk).2.1 e (List.mem_of_find?_eq_some he)
 ·have:(tn T i).kind=3:=hk;exact (W.data i hi (by omega)).symm
theorem zD (f:aD->aD)(hf:∀ e,(f e).name=e.name)(name:List UInt8):∀ l:List aD,aL (l.map f) name=aL l name
 | []=>rfl
 | x::l=>by
  have ih:=zD f hf name l;unfold aL at ih ⊢;rw [List.map_cons,List.takeWhile_cons,List.takeWhile_cons,hf x];split
  ·rw [List.length_cons,List.length_cons,ih]
  ·rfl
theorem zC (f:aD->aD)(hf:∀ e,(f e).name=e.name)(l:List aD)(e:aD):(bJ l e).map f=bJ (l.map f) (f e):=by
 unfold bJ;rw [hf e,zD f hf,List.map_append,List.map_cons,List.map_take,List.map_drop]
def oK (T:List aF)(d:Int)(l:List aD):List aF:=T.set d.toNat { tn T d with names:=l }
theorem Ou {T:List aF}{d:Int}(hd:inT T d)(l:List aD)(x:aF){i:Int}(hi:1<=i/\i<T.length+1):tn (oK T d l++[x]) i=if i=T.length then x else if i=d then { tn T d with names:=l } else tn T i:=by
 obtain ⟨d0,d1⟩:=hd;have hl:(oK T d l).length=T.length:=by unfold oK;simp
 unfold tn;by_cases e:i=T.length
 ·rw [if_pos e];have:i.toNat=(oK T d l).length:=by rw [hl];omega
  rw [this];simp
 ·rw [if_neg e,List.getElem?_append_left (by rw [hl];omega)];unfold oK;rw [List.getElem?_set];by_cases e2:i=d
  ·subst e2;rw [if_pos rfl,if_pos (by omega),if_pos rfl];rfl
  ·rw [if_neg (by omega),if_neg e2]
theorem Ov {num:List Int}{n:Int}{i:Int}(hi:1<=i/\i<num.length+1):nu (num++[n]) i=if i=num.length then n else nu num i:=by
 unfold nu;by_cases e:i=num.length
 ·rw [if_pos e];have:i.toNat=num.length:=by omega
  rw [this];simp
 ·rw [if_neg e,List.getElem?_append_left (by omega)]
theorem qo.grow {S S':FS}{T:List aF}{num:List Int}(W:qo S T num){d n kind:Int}{name data:List UInt8}(hd:inT T d)(hk:(tn T d).kind=2)(hn0:(S.C n).kind=0)(hn:1<=n/\n<24)(hp:dz (tn T d).names name=false)(hkind:1<=kind/\kind<=3)
 (hS:∀ x,x≠n->x≠nu num d->(S'.C x).kind=(S.C x).kind/\S'.nm x=S.nm x/\S'.aM x=S.aM x)
 (h1:(S'.C (nu num d)).kind=2/\S'.nm (nu num d)=bJ (S.nm (nu num d)) ⟨name,n⟩)
 (h2:(S'.C n).kind=kind/\(kind≠2->S'.aM n=data)/\(kind=2->S'.nm n=[])) :
 qo S' (oK T d (bJ (tn T d).names ⟨name,(T.length:Int)⟩)++[⟨n,kind,1,data,[]⟩]) (num++[n]):=by
 have hl:=W.len;have wS:=W.two;obtain ⟨d0,d1⟩:=hd;have hL:(oK T d (bJ (tn T d).names ⟨name,(T.length:Int)⟩)++[(⟨n,kind,1,data,[]⟩:aF)]).length=T.length+1:=by unfold oK;simp
 have hin:∀ i,inT (oK T d (bJ (tn T d).names ⟨name,(T.length:Int)⟩)++[(⟨n,kind,1,data,[]⟩:aF)]) i↔inT T i\/i=T.length:=by
  intro i;unfold inT;rw [hL];omega
 have hne:∀ i,inT T i->nu num i≠n:=by
  intro i hi e;have:=(W.kind i hi).1;have h3:=(W.kind i hi).2.1;rw [e,hn0] at this;omega
 have htn:∀ i,inT T i\/i=T.length->tn (oK T d (bJ (tn T d).names ⟨name,(T.length:Int)⟩)++[(⟨n,kind,1,data,[]⟩:aF)]) i=if i=T.length then ⟨n,kind,1,data,[]⟩ else if i=d then { tn T d with names:=bJ (tn T d).names ⟨name,(T.length:Int)⟩ } else tn T i:=
  λi hi=>Ou ⟨d0,d1⟩ _ _ (by unfold inT at hi;omega)
 have hnu:∀ i,inT T i\/i=T.length->nu (num++[n]) i=if i=T.length then n else nu num i:=λi hi=>by
  have:=Ov (num:=num) (n:=n) (i:=i) (by unfold inT at hi;omega);rw [hl] at this;exact this
 have hdn:nu num d≠n:=hne d ⟨d0,d1⟩;have hlt:∀ i,inT T i->i≠T.length:=λi hi=>by unfold inT at hi;omega
 refine ⟨by rw [hL,List.length_append,hl];rfl,by rw [hL];omega,?_,λi hi=>?_,λi j hi hj e=>?_,λi hi=>?_,λi hi hki=>?_,λi hi hki=>?_,λi hi hki=>?_⟩
 ·have zF:inT T 1:=⟨by omega,by omega⟩;rw [hnu 1 (.inl zF),htn 1 (.inl zF),if_neg (hlt 1 zF),if_neg (hlt 1 zF)];refine ⟨W.root.1,?_⟩;split
  ·exact hk
  ·exact W.root.2
 ·have hi':=(hin i).1 hi;rw [hnu i hi'];by_cases e:i=T.length
  ·rw [if_pos e];exact hn
  ·rw [if_neg e];exact W.bH i (hi'.resolve_right e)
 ·have hi':=(hin i).1 hi;have hj':=(hin j).1 hj;rw [hnu i hi',hnu j hj'] at e;by_cases ei:i=T.length
  ·by_cases ej:j=T.length
   ·omega
   ·rw [if_pos ei,if_neg ej] at e;exact absurd e.symm (hne j (hj'.resolve_right ej))
  ·by_cases ej:j=T.length
   ·rw [if_neg ei,if_pos ej] at e;exact absurd e (hne i (hi'.resolve_right ei))
   ·rw [if_neg ei,if_neg ej] at e;exact W.inj i j (hi'.resolve_right ei) (hj'.resolve_right ej) e
 ·have hi':=(hin i).1 hi;rw [hnu i hi',htn i hi'];by_cases e:i=T.length
  ·rw [if_pos e,if_pos e];exact ⟨h2.1,hkind.1,hkind.2⟩
  ·have hi2:=hi'.resolve_right e;rw [if_neg e,if_neg e];by_cases e2:i=d
   ·rw [if_pos e2,e2];exact ⟨h1.1.trans hk.symm,(W.kind d ⟨d0,d1⟩).2⟩
   ·rw [if_neg e2];rw [(hS (nu num i) (hne i hi2) (λx=>e2 (W.inj i d hi2 ⟨d0,d1⟩ x))).1];exact W.kind i hi2
 ·have hi':=(hin i).1 hi;rw [htn i hi'] at hki;rw [hnu i hi',htn i hi'];have hrn:∀ e:aD,inT T e.node->rn (num++[n]) e=rn num e:=by
   intro e he;unfold rn;rw [hnu e.node (.inl he),if_neg (hlt _ he)]
  by_cases e:i=T.length
  ·rw [if_pos e] at hki ⊢;rw [if_pos e];exact ⟨h2.2.2 hki,by simp,List.Pairwise.nil⟩
  ·have hi2:=hi'.resolve_right e;rw [if_neg e] at hki ⊢;rw [if_neg e];by_cases e2:i=d
   ·rw [if_pos e2];subst e2;obtain ⟨q1,q2,q3⟩:=W.dir i hi2 hk;refine ⟨?_,λe he=>(hin _).2 ?_,wR q3 hp⟩
    ·rw [h1.2,q1];show _=(bJ (tn T i).names ⟨name,(T.length:Int)⟩).map (rn (num++[n]));rw [zC (rn (num++[n])) (λ_=>rfl)];have e1:(tn T i).names.map (rn (num++[n]))=(tn T i).names.map (rn num):=List.map_congr_left λe he=>hrn e (q2 e he);have e3:rn (num++[n]) ⟨name,(T.length:Int)⟩=⟨name,n⟩:=by
      unfold rn;rw [hnu _ (.inr rfl),if_pos rfl]
     rw [e1,e3]
    ·have he':e∈bJ (tn T i).names ⟨name,(T.length:Int)⟩:=he;rcases List.mem_cons.1 ((ng _ _).mem_iff.1 he') with rfl|h
     ·exact .inr rfl
     ·exact .inl (q2 e h)
   ·rw [if_neg e2] at hki ⊢;obtain ⟨q1,q2,q3⟩:=W.dir i hi2 hki;refine ⟨?_,λe he=>(hin _).2 (.inl (q2 e he)),q3⟩;rw [(hS (nu num i) (hne i hi2) (λx=>e2 (W.inj i d hi2 ⟨d0,d1⟩ x))).2.1,q1];exact (List.map_congr_left λe he=>hrn e (q2 e he)).symm
 ·have hi':=(hin i).1 hi;rw [htn i hi'] at hki;rw [hnu i hi',htn i hi'];by_cases e:i=T.length
  ·rw [if_pos e] at hki ⊢;rw [if_pos e];exact (h2.2.1 hki).symm
  ·have hi2:=hi'.resolve_right e;rw [if_neg e] at hki ⊢;rw [if_neg e];by_cases e2:i=d
   ·rw [if_pos e2] at hki;exact absurd hk hki
   ·rw [if_neg e2] at hki ⊢;rw [(hS (nu num i) (hne i hi2) (λx=>e2 (W.inj i d hi2 ⟨d0,d1⟩ x))).2.2];exact W.data i hi2 hki
 ·have hi':=(hin i).1 hi;rw [htn i hi'] at hki ⊢;by_cases e:i=T.length
  ·rw [if_pos e]
  ·have hi2:=hi'.resolve_right e;rw [if_neg e] at hki ⊢;by_cases e2:i=d
   ·rw [if_pos e2] at hki;exact absurd hk hki
   ·rw [if_neg e2] at hki ⊢;exact W.kQ i hi2 hki
end Go.Proofs.YtoociceebodfeaaGreatDoor
namespace Go.aK
def UK (h:Heap)(r:Nat)(m:List (Int×Value))(n:Int)(born:Int):Prop:=
 ∃ (es:Array MapEntry) (cl j:Nat) (hj:j<es.size),h[r]?=some (.map es cl)/\es.toList.map (λe=>(e.key,e.val))=m.map (λp=>(Value.int .i64 p.1,p.2))/\(m.map (·.1)).Nodup/\(es.toList.map (·.born)).Nodup/\(∀ e∈es.toList,e.born<cl) /\
  (m[j]?).map (·.1)=some n/\born=((es[j]'hj).born:Int)/\(es[j]'hj).key=.int .i64 n
def Ma (h:Heap)(r:Nat)(m:List (Int×Value))(n:Int)(born:Int):Prop:=(gL m n=none/\xD h r m n born)\/UK h r m n born
theorem UL {α:Type}(a:Array α)(j:Nat)(f g:α->α)(h:∀ hj:j<a.size,f a[j]=g a[j]):a.modify j f=a.modify j g:=by
 apply Array.ext
 ·simp
 ·intro i i1 i2;rw [Array.getElem_modify,Array.getElem_modify];split
  ·rename_i e;subst e;exact h (by simpa using i1)
  ·rfl
theorem aQ.LQ {P:Program}{T kT eT:TypeId}{i:TypeInfo}{z:Value}(hu:P.underlying T=some (.map kT eT))(hk:P.underlying kT=some (.int .i64))(hi:P.info? eT=some i)(hz:i.zero=some z){h:Heap}{r:Nat}{m:List (Int×Value)}(o:dB h r m){n:Int}{bs:List Nat}(hb:r∉bs)
 {K:Value->Heap->Prop} (H:∀ h' v born,h'.size=h.size->Ma h' r m n born->Keeps [r] h h'->K (.tuple #[v,.int .i64 born]) h'):aQ P (Instr.mapEntry T (.map (some r)) (.int .i64 n)) bs h K:=by
 by_cases hn:gL m n=none
 ·refine aQ.Iu hu hk hi hz o ((zY m n).1 hn) hb λh' born s p k=>H h' z born s (.inl ⟨hn,p⟩) k
 ·unfold aQ;intro hlt w hw;subst hw;have hr:=o.lt;obtain ⟨es,cl,h1,h2,h3,h4,h5⟩:=o;obtain ⟨q,h6,h7,h8⟩:=vD es.toList m n 0 h2;obtain ⟨p,rfl⟩:∃ p,q=some p:=by
   cases q with
   | none=>exact absurd (by simpa using h7.symm) hn
   | some p=>exact ⟨p,rfl⟩
  obtain ⟨j,hj1,hj2,hj3⟩:=h8 p rfl;have hj:p.1=j:=by omega
  have hjl:j<es.size:=by simpa using hj2
  have hkey:(es[j]'hjl).key=.int .i64 n:=by
   have:=congrArg (λl=>l[j]?) h2;simp only [List.getElem?_map] at this;cases hm:m[j]? with
   | none=>rw [hm] at hj3;simp at hj3
   | some q=>
    rw [hm] at this hj3;simp at hj3;simp [hjl] at this;rw [this.1,hj3]
  have hmod:(es.modify j λe=>{ e with key:=.int .i64 n })=es:=by
   apply Array.ext
   ·simp
   ·intro i i1 i2;rw [Array.getElem_modify];split
    ·rename_i e;subst e;cases he:es[j]'hjl;rw [he] at hkey;simp at hkey;simp [hkey]
    ·rfl
  refine ⟨.tuple #[p.2,.int .i64 ((es[j]'hjl).born:Int)],{ w with heap:=w.heap.setIfInBounds r (.map es cl) },?_,⟨rfl,rfl,rfl⟩,λb hb'=>?_,H _ _ _ (by simp) (.inr ⟨es,cl,j,hjl,by rw [j4 _ _ _ _ hr,if_pos rfl],h2,h3,h4,h5,hj3,rfl,hkey⟩) (rW _ _ _ hr)⟩
  ·simp only [Instr.mapEntry,Sem.run_bind,dJ P T w hu,Result.andThen_ok,qD h1];rw [tO hk (.inl ⟨_,rfl⟩)];simp only [Result.andThen_ok,tN hk h6 w];rw [hj];have hold:((es[j]?).map (·.key)).getD (Value.int .i64 n)=.int .i64 n:=by simp [hjl,hkey]
   have hbn:((es[j]?).map (λx=>(x.born:Int))).getD 0=((es[j]'hjl).born:Int):=by simp [hjl]
   simp only [hold,hbn,Instr.keyThatStays,Instr.sameBits,beq_self_eq_true,Bool.and_self,if_true,Sem.run_bind,Sem.run_pure,Result.andThen_ok];have he2:(es.modify j λe=>{ key:=Value.int IntKind.i64 n,val:=e.val,born:=e.born })=es:=hmod;rw [he2,rV h1];rfl
  ·show (w.heap.setIfInBounds r _)[b]?=_;rw [j4 _ _ _ _ hr,if_neg (by intro e;subst e;exact hb hb')]
theorem aQ.LU {P:Program}{T:TypeId}{h:Heap}{r:Nat}{m:List (Int×Value)}{n born:Int}(o:Ma h r m n born){v:Value}{bs:List Nat}(hb:r∉bs)
 {K:Unit->Heap->Prop} (H:∀ h',h'.size=h.size->dB h' r (jr m n v)->Keeps [r] h h'->K () h'):aQ P (Instr.entryStore T (.map (some r)) (.int .i64 born) v) bs h K:=by
 rcases o with ⟨hn,o⟩|o
 ·exact aQ.entryStore o hb λh' s M k=>H h' s (by rw [Bv m n v hn];exact M) k
 ·unfold aQ;intro hlt w hw;subst hw;obtain ⟨es,cl,j,hj,h1,h2,h3,h4,h5,h6,rfl,hkey⟩:=o;have hr:=eU h1;have hg:=qD (P:=P) h1;have hfind:es.findIdx? (λe=>(e.born:Int)==((es[j]'hj).born:Int))=some j:=by
   rw [Array.findIdx?_eq_some_iff_getElem];refine ⟨hj,by simp,λi hi=>?_⟩;have hne:(es[i]'(by omega)).born≠(es[j]'hj).born:=by
    intro e;have hp:=List.pairwise_iff_getElem.1 h4 i j (by simpa using (by omega:i<es.size)) (by simpa using hj) hi;simp at hp;exact hp e
   simp;omega
  have hmod:(es.modify j λe=>{ e with val:=v })=es.modify j λe=>{ e with key:=.int .i64 n,val:=v }:=UL _ _ _ _ λhj'=>by
   cases he:es[j]'hj';rw [he] at hkey;simp at hkey;simp [hkey]
  have hs:=rV (P:=P) h1 (.map (es.modify j λe=>{ e with val:=v }) cl);refine ⟨(),{ w with heap:=w.heap.setIfInBounds r (.map (es.modify j λe=>{ e with val:=v }) cl) },?_,⟨rfl,rfl,rfl⟩,λb hb'=>?_,H _ (by simp) ⟨es.modify j λe=>{ e with val:=v },cl,by rw [j4 _ _ _ _ hr,if_pos rfl],?_,?_,?_,?_⟩ (rW _ _ _ hr)⟩
  ·simp [Instr.entryStore,hg,asInt,asIntOf,hfind,hs]
  ·show (w.heap.setIfInBounds r _)[b]?=_;rw [j4 _ _ _ _ hr,if_neg (by intro e;subst e;exact hb hb')]
  ·rw [hmod,Array.toList_modify];exact Fb es.toList m n v j h2 h3 h6
  ·rw [Fa];have:n∈m.map (·.1):=by
    simp only [Option.map_eq_some_iff] at h6;obtain ⟨q,hq,rfl⟩:=h6;exact List.mem_map.2 ⟨q,List.mem_of_getElem? hq,rfl⟩
   rw [if_pos this];exact h3
  ·have:(es.modify j λe=>{ e with val:=v }).toList.map (·.born)=es.toList.map (·.born):=by
    rw [Array.toList_modify];apply List.ext_getElem?;intro i;simp only [List.getElem?_map,List.getElem?_modify];cases es.toList[i]? with
    | none=>simp
    | some e=>by_cases hij:j=i <;> simp [hij]
   rw [this];exact h4
  ·intro e he;rw [Array.toList_modify] at he;obtain ⟨i,hi⟩:=List.getElem?_of_mem he;rw [List.getElem?_modify] at hi;cases hee:es.toList[i]? with
   | none=>rw [hee] at hi;simp at hi
   | some e0=>
    rw [hee] at hi;simp at hi;have:=h5 e0 (List.mem_of_getElem? hee);rw [<-hi];split <;> simpa using this
end Go.aK
namespace Go.Proofs.YtoociceebodfeaaGreatDoor
open Go Go.aK
def lT (at_ width:Nat):Prop:=at_+width<=64/\1<=width/\width<=32/\(width=8\/width=16\/width=32)
theorem L8 (at_ width:Nat)(hf:lT at_ width)(h:Heap):aC Tryz.prog 193 [.int .i64 (at_:Int),.int .i64 (width:Int)] h (λv h'=>Keeps [] h h'/\v=wv (mJ width)):=by
 unfold lT at hf;have e:IntKind.i64.wrap (64-(width:Int))=((64-width:Nat):Int):=wrapN (by omega) (by omega);refine aH aI Tryz.func193 rfl ok193 (by simp [Tryz.f193]) ?_;(conv=>whnf);refine aj.f (by simp [dm,e];omega) ?_;(conv=>whnf);refine dD.i (by rw [e];omega) ?_;(conv=>whnf);refine ⟨Keeps.refl _ _,?_⟩;rw [e];rcases hf.2.2.2 with rfl|rfl|rfl <;> rfl
theorem UI (n:Nat)(hn:n<65536)(h:Heap):aC Tryz.prog 192 [.int .u64 (n:Int)] h (λv h'=>Keeps [] h h'/\∃ L:Nat,v=.int .i64 (L:Int)/\L<=16/\(n<256->L<=8)):=by
 refine aH aI Tryz.func192 rfl ok192 (by simp [Tryz.f192]) ?_;(conv=>whnf);refine aS.pass ?_;(conv=>whnf);(try refine aS.pass ?_;conv=>whnf);refine aj.f (by simp;omega) ?_;(conv=>whnf);(try refine aS.pass ?_;conv=>whnf);refine aj.f (by simp;omega) ?_;(conv=>whnf);(try refine aS.pass ?_;conv=>whnf);refine aj.i (λhc=>?_) (λhc=>?_)
 ·(conv=>whnf);refine dD.i (by decide) ?_;(conv=>whnf);have e:IntKind.u8.wrap ((n:Int).fdiv (2 ^ min (Int.toNat 8) IntKind.u64.bits))=((n/256:Nat):Int):=by
   have:(2:Int) ^ min (Int.toNat 8) IntKind.u64.bits=256:=by decide
   rw [this];have h2:(n:Int).fdiv 256=((n/256:Nat):Int):=by rw [Int.fdiv_eq_ediv_of_nonneg _ (by decide)];simp
   rw [h2];rw [wrap_u8];omega
  generalize hB:ByteArray.mk _=B;have hs:B.size=256:=by rw [<-hB];rfl
  have hv:∀ j,j<256->0<=jf B j/\jf B j<=8:=by rw [<-hB];decide +kernel
  refine fC.i (n/256) e (by omega) ?_;(conv=>whnf);have ⟨b0,b1⟩:=hv (n/256) (by omega);refine ⟨Keeps.refl _ _,(8+jf B (n/256)).toNat,?_,by omega,λhn=>?_⟩
  ·rw [dO (x:=(0:Int)+8) (by omega) (by omega),dO (x:=jf B (n/256)) (by omega) (by omega),dO (by omega) (by omega)]
   (first|(congr 1;done)|(congr 1;omega))
  ·simp at hc;omega
 ·(conv=>whnf);have e:IntKind.u8.wrap (n:Int)=((n:Nat):Int):=by
   simp at hc;rw [wrap_u8];omega
  generalize hB:ByteArray.mk _=B;have hs:B.size=256:=by rw [<-hB];rfl
  have hv:∀ j,j<256->0<=jf B j/\jf B j<=8:=by rw [<-hB];decide +kernel
  have hn2:n<256:=by simp at hc;omega
  refine fC.i n e (by omega) ?_;(conv=>whnf);have ⟨b0,b1⟩:=hv n hn2;refine ⟨Keeps.refl _ _,(jf B n).toNat,?_,by omega,λhn=>by omega⟩;rw [dO (x:=jf B n) (by omega) (by omega),dO (by omega) (by omega)]
  (first|(congr 1;done)|(congr 1;omega))
theorem wD (x:UInt64):BitVec.ofInt 64 (x.toNat:Int)=x.toBitVec:=by
 apply BitVec.eq_of_toNat_eq;rw [BitVec.toNat_ofInt];have:=x.toNat_lt;show ((x.toNat:Int)%((2 ^ 64:Nat):Int)).toNat=x.toNat;omega
theorem L9 (x:UInt64){n:Nat}(h:n<=63):IntKind.u64.wrap ((x.toNat:Int)*2 ^ min ((n:Int)).toNat IntKind.u64.bits)=(((x <<< UInt64.ofNat n).toNat:Nat):Int):=by
 have hb:IntKind.u64.bits=64:=rfl;have hm:min ((n:Int)).toNat IntKind.u64.bits=n:=by rw [hb];omega
 rw [hm,UInt64.toNat_shiftLeft,yO h,Nat.mod_eq_of_lt (show n<64 by omega),Nat.shiftLeft_eq,qI];have:(x.toNat:Int)*2 ^ n=((x.toNat*2 ^ n:Nat):Int):=by simp
 rw [this];omega
theorem UJ (x:UInt64){n:Nat}(h:n<=63):((x.toNat:Int)).fdiv (2 ^ min ((n:Int)).toNat IntKind.u64.bits)=(((x >>> UInt64.ofNat n).toNat:Nat):Int):=by
 have hb:IntKind.u64.bits=64:=rfl;have hm:min ((n:Int)).toNat IntKind.u64.bits=n:=by rw [hb];omega
 rw [hm,UInt64.toNat_shiftRight,yO h,Nat.mod_eq_of_lt (show n<64 by omega),Nat.shiftRight_eq_div_pow,Int.fdiv_eq_ediv_of_nonneg _ (Int.le_of_lt (Int.pow_pos (by decide)))];simp
theorem FR (x:UInt64):IntKind.u64.wrap (x.toBitVec.toNat:Int)=(x.toNat:Int):=by
 have:=x.toNat_lt;rw [qI];show ((x.toNat:Nat):Int)%_=_;omega
theorem LW (w:UInt64)(at_ width:Nat)(hf:lT at_ width)(h:Heap):aC Tryz.prog 121 [wv w,.int .i64 (at_:Int),.int .i64 (width:Int)] h (λv h'=>Keeps [] h h'/\v=.tuple #[wv (lS w at_ width),.int .i64 0]):=by
 refine aH aI Tryz.func121 rfl ok121 (by simp [Tryz.f121]) ?_;(conv=>whnf);refine ak.i (L8 at_ width hf h) λv h1 k1 hv=>?_;subst hv;unfold lT at hf;have hm:(mJ width).toNat=2 ^ width-1:=Fx (by omega);have hp:2<=2 ^ width:=by
  have:2 ^ 1<=2 ^ width:=Nat.pow_le_pow_right (by decide) hf.2.1;simpa using this
 (conv=>whnf);refine aj.f (by simp;omega) ?_;(conv=>whnf);refine dD.i (by omega) ?_;(conv=>whnf);refine ⟨k1,?_⟩;have hb:IntKind.u64.bits=64:=rfl;have e:=FR (lS w at_ width);unfold lS at e;rw [UInt64.toBitVec_and] at e;rw [UJ w (show at_<=63 by omega),hb,wD,wD,e];rfl
theorem UE (w:UInt64)(at_ width:Nat)(hf:lT at_ width)(v:UInt64)(hv:v.toNat<2 ^ width)(hs:v.toNat<65536)(h:Heap):aC Tryz.prog 196 [wv w,.int .i64 (at_:Int),.int .i64 (width:Int),wv v] h (λr h'=>Keeps [] h h'/\r=.tuple #[wv (fM w at_ width v),.int .i64 0]):=by
 refine aH aI Tryz.func196 rfl ok196 (by simp [Tryz.f196]) ?_;(conv=>whnf);refine ak.i (L8 at_ width hf h) λr h1 k1 hr=>?_;subst hr;unfold lT at hf;have hm:(mJ width).toNat=2 ^ width-1:=Fx (by omega);have hp:2<=2 ^ width:=by
  have:2 ^ 1<=2 ^ width:=Nat.pow_le_pow_right (by decide) hf.2.1;simpa using this
 (conv=>whnf);(try refine aS.pass ?_;conv=>whnf);refine aj.f (by simp;omega) ?_;(conv=>whnf);refine ak.i (UI v.toNat hs h1) λr h2 k2 hr=>?_;obtain ⟨L,rfl,l1,l2⟩:=hr;have hL:L<=width:=by
  rcases hf.2.2.2 with rfl|rfl|rfl
  ·exact l2 (by simpa using hv)
  ·exact l1
  ·omega
 (conv=>whnf);refine aj.f (by simp;omega) ?_;(conv=>whnf);refine dD.i (by omega) ?_;(conv=>whnf);refine dD.i (by omega) ?_;(conv=>whnf);refine ⟨k1.trans k2,?_⟩;have hb:IntKind.u64.bits=64:=rfl;rw [L9 (mJ width) (show at_<=63 by omega),L9 v (show at_<=63 by omega),hb,wD,wD,wD,<-UInt64.toBitVec_not,<-UInt64.toBitVec_and,FR (w &&& ~~~(mJ width <<< UInt64.ofNat at_)),wD,<-UInt64.toBitVec_or,FR];rfl
def iL (i:Nat):Nat:=if i<3 then 0 else 2+(i-3)/4
def nS (i:Nat):Nat:=if i=0 then 0 else if i=1 then 8 else if i=2 then 24 else 16*((i-3)%4)
def jT (i:Nat):Nat:=if i=0 then 8 else if i=1 then 16 else if i=2 then 32 else 16
def uM (i:Nat):List Value:=[.int .i64 (iL i),.int .i64 (nS i),.int .i64 (jT i)]
def qh:Nat->List Value
 | 0=>[]
 | n+1=>qh n++uM n
theorem LY (h:Heap):aC Tryz.prog 120 [] h (λv h'=>Keeps [] h h'/\∃ b c fz sp,v=.slice (some ⟨b,0,none⟩) 9 c/\9<=c/\h.size<=b/\h'[b]?=some (.cells ⟨qh 9++sp⟩ 189 fz)):=by
 refine aH aI Tryz.func120 rfl ok120 (by simp [Tryz.f120]) ?_;(conv=>whnf);refine aP.i λb1 h1 e1 s1 o1 k1=>?_;(conv=>whnf);refine bO.on [1,7] [] (λq:Nat×Option Addr×Nat=>[(1,.v (.slice q.2.1 (3+q.1) q.2.2)),(7,.v (.int .i64 (q.1:Int)))]) (λ_=>[])
  (λq h'=>q.1<=6/\Keeps [] h h'/\Own h' 189 3 q.2.1 (3+q.1) q.2.2 (qh (3+q.1))/\∀ b∈aA q.2.1,h.size<=b) (λq=>6-q.1) (0,some ⟨b1,0,none⟩,3) ?_ ?_
 ·(conv=>whnf);refine ⟨(0,some ⟨b1,0,none⟩,3),rfl,rfl,rfl,Nat.zero_le _,k1,?_,λb hb=>by simp [aA] at hb;omega⟩;exact .inr ⟨b1,_,rfl,o1,rfl,rfl,rfl,Nat.le_refl _⟩
 ·rintro ⟨i,ai,ci⟩ h2 ⟨hi,k2,O2,n2⟩;simp only at hi O2 n2;(conv=>whnf);refine aj.i (λhc=>?_) (λhc=>?_)
  ·have hi6:i<6:=by simp at hc;omega
   (conv=>whnf);refine dD.i (by decide) ?_;(conv=>whnf);refine dD.i (by decide) ?_;(conv=>whnf);refine aP.i λb3 h3 e3 s3 o3 k3=>?_;have hval:([.int .i64 (IntKind.i64.wrap (2+IntKind.i64.wrap ((i:Int).tdiv 4))),.int .i64 (IntKind.i64.wrap (16*((i:Int).tmod 4))),.int .i64 16]:List Value)=uM (3+i):=by
    have:i=0\/i=1\/i=2\/i=3\/i=4\/i=5:=by omega
    rcases this with rfl|rfl|rfl|rfl|rfl|rfl <;> rfl
   (conv=>whnf);refine jN (e:=189) (sz:=3) (aM:=24) (n:=1) (new:=uM (3+i)) rfl rfl rfl rfl rfl rfl rfl (O2.keep k3 (by simp)) rfl (λj hj=>?_) rfl (by omega) (by decide) (by simp [ax]) ?_
   ·rw [<-hval];have nJ:h3[b3]?=some (.cells ⟨[.int .i64 (IntKind.i64.wrap (2+IntKind.i64.wrap ((i:Int).tdiv 4))),.int .i64 (IntKind.i64.wrap (16*((i:Int).tmod 4))),.int .i64 16]⟩ 189 (0,0)):=o3;simp only [Heap.cell?,nJ];rw [Nat.zero_add];simp
   intro a5 c5 h5 O5 k5 n5;(conv=>whnf);refine ⟨6-(i+1),by omega,?_⟩;(conv=>whnf);refine ⟨(i+1,a5,c5),rfl,?_,rfl,by simp only;omega,(k2.trans k3).dK k5 n2,?_,λb hb=>?_⟩
   ·simp only;rw [wrapN (x:=(i:Int)+1) (n:=i+1) (by simp) (by omega)];rfl
   ·exact O5
   ·rcases n5 b hb with h|h
    ·exact n2 b h
    ·have:=k2.size;omega
  ·have hi6:i=6:=by simp at hc;omega
   subst hi6;(conv=>whnf);rcases O2 with ⟨_,h,_⟩|⟨b,c,rfl,o,t,l1,_,cl⟩
   ·cases h
   ·refine ⟨k2,b,ci,(0,0),c.drop 27,rfl,cl,n2 b (by simp [aA]),?_⟩;rw [o];have:c=qh 9++c.drop 27:=by
     have e:(qh (3+6)).length=27:=rfl;rw [e] at t;rw [show qh 9=qh (3+6) from rfl,<-t,List.take_append_drop]
    rw [<-this]
def numsL (c:aB):List Int:=[c.kind,c.links,c.size,c.d0+1,c.d1+1,c.d2+1,c.d3+1,c.d4+1,c.more+1]
theorem UD (c:aB)(B:rG c)(h:Heap):aC Tryz.prog 195 [.agg ⟨c.cells⟩] h (λv h'=>Keeps [] h h'/\∃ b q,v=.slice (some ⟨b,0,none⟩) 9 q/\Sl h' (some ⟨b,0,none⟩) 9 q (numsL c)/\h.size<=b):=by
 have B0:=B.d0;have B1:=B.d1;have B2:=B.d2;have B3:=B.d3;have B4:=B.d4;have Bm:=B.m;refine aH aI Tryz.func195 rfl ok195 (by simp [Tryz.f195]) ?_;(conv=>whnf);refine aP.i λb1 h1 e1 s1 o1 k1=>?_;(conv=>whnf);refine aP.i λb2 h2 e2 s2 o2 k2=>?_;(conv=>whnf);refine bO.on [1,3,14,15] [1] (λq:Nat×Option Addr×Nat=>[(1,.lp 1 0),(3,.v (.slice q.2.1 (3+q.1) q.2.2)),(14,.v (.agg ⟨[.int .i64 c.d0,.int .i64 c.d1,.int .i64 c.d2,.int .i64 c.d3,.int .i64 c.d4]⟩)),(15,.v (.int .i64 (q.1:Int)))]) (λ_=>[(1,b1,c.cells)])
  (λq h'=>q.1<=5/\Keeps [] h1 h'/\Own h' 3 1 q.2.1 (3+q.1) q.2.2 (((numsL c).take (3+q.1)).map λx=>.int .i64 x)/\∀ b∈aA q.2.1,h1.size<=b) (λq=>5-q.1) (0,some ⟨b2,0,none⟩,3) ?_ ?_
 ·(conv=>whnf);refine ⟨(0,some ⟨b2,0,none⟩,3),rfl,rfl,rfl,Nat.zero_le _,k2,?_,λb hb=>by simp [aA] at hb;omega⟩;exact .inr ⟨b2,_,rfl,o2,rfl,rfl,rfl,Nat.le_refl _⟩
 ·rintro ⟨i,ai,ci⟩ h3 ⟨hi,k3,O3,n3⟩;simp only at hi O3 n3;(conv=>whnf);refine aj.i (λhc=>?_) (λhc=>?_)
  ·have hi5:i<5:=by simp at hc;omega
   (conv=>whnf);refine fC.i i rfl hi5 ?_;(conv=>whnf);refine oU.i (v:=.int .i64 (c.direct[i]'(by simpa [aB.direct] using hi5))) ?_ ?_
   ·have:i=0\/i=1\/i=2\/i=3\/i=4:=by omega
    rcases this with rfl|rfl|rfl|rfl|rfl <;> rfl
   (conv=>whnf);refine aP.i λb4 h4 e4 s4 o4 k4=>?_;have hw:IntKind.i64.wrap ((c.direct[i]'(by simpa [aB.direct] using hi5))+1)=(numsL c)[3+i]'(by simp [numsL];omega):=by
    have:i=0\/i=1\/i=2\/i=3\/i=4:=by omega
    rcases this with rfl|rfl|rfl|rfl|rfl <;> exact dO (by simp [aB.direct];omega) (by simp [aB.direct];omega)
   (conv=>whnf);refine jN (e:=3) (sz:=1) (aM:=8) (n:=1) (new:=[.int .i64 ((numsL c)[3+i]'(by simp [numsL];omega))]) rfl rfl rfl rfl rfl rfl rfl (O3.keep k4 (by simp)) rfl (λj hj=>?_) rfl (by omega) (by decide) (λx hx hm=>by
    have:=n3 x hx;have e:x=b1:=by simpa [ax] using hm
    omega) ?_
   ·rw [<-hw];have mP:h4[b4]?=some (.cells ⟨[.int .i64 (IntKind.i64.wrap ((c.direct[i]'(by simpa [aB.direct] using hi5))+1))]⟩ 3 (0,0)):=o4;simp only [Heap.cell?,mP];rw [Nat.zero_add];simp
   intro a5 c5 h5 O5 k5 n5;(conv=>whnf);refine ⟨5-(i+1),by omega,?_⟩;(conv=>whnf);refine ⟨(i+1,a5,c5),rfl,?_,rfl,by simp only;omega,(k3.trans k4).dK k5 n3,?_,λb hb=>?_⟩
   ·simp only;rw [wrapN (x:=(i:Int)+1) (n:=i+1) (by simp) (by omega)];rfl
   ·simp only;rw [show 3+(i+1)=(3+i)+1 by omega,List.take_succ_eq_append_getElem (by simp [numsL];omega),List.map_append];exact O5
   ·rcases n5 b hb with h|h
    ·exact n3 b h
    ·have:=k3.size;omega
  ·have hi5:i=5:=by simp at hc;omega
   subst hi5;(conv=>whnf);refine aP.i λb4 h4 e4 s4 o4 k4=>?_;have hw:IntKind.i64.wrap (c.more+1)=c.more+1:=dO (by omega) (by omega);(conv=>whnf);refine jN (e:=3) (sz:=1) (aM:=8) (n:=1) (new:=[.int .i64 (c.more+1)]) rfl rfl rfl rfl rfl rfl rfl (O3.keep k4 (by simp)) rfl (λj hj=>?_) rfl (by omega) (by decide) (λx hx hm=>by
    have:=n3 x hx;have e:x=b1:=by simpa [ax] using hm
    omega) ?_
   ·rw [<-hw];have mP:h4[b4]?=some (.cells ⟨[.int .i64 (IntKind.i64.wrap (c.more+1))]⟩ 3 (0,0)):=o4;simp only [Heap.cell?,mP];rw [Nat.zero_add];simp
   intro a5 c5 h5 O5 k5 n5;(conv=>whnf);have n5':∀ b∈aA a5,h.size<=b:=λb hb=>by
    rcases n5 b hb with h|h
    ·have:=n3 b h;omega
    ·have:=k3.size;omega
   have Q:Own h5 3 1 a5 9 c5 ((numsL c).map λx=>.int .i64 x):=O5;have R:=Q.sl (α:=Int) (xs:=numsL c) (D6 _ _ (by
    intro x hx;have h1:=B.k;have h2:=B.l;have h3:=B.s;simp only [numsL,List.mem_cons,List.not_mem_nil,or_false] at hx;unfold inI64;omega)) rfl (by decide) (by simp [numsL])
   rcases O5 with ⟨_,h,_⟩|⟨b,cs,rfl,_⟩
   ·cases h
   ·exact ⟨k1.trans ((k3.trans k4).dK k5 n3),b,c5,rfl,R,n5' b (by simp [aA])⟩
theorem FP (v:UInt64)(h:Heap):aC Tryz.prog 210 [wv v] h (λr h'=>Keeps [] h h'/\r=.agg ⟨(fU v).cells⟩):=by
 refine aH aI Tryz.func210 rfl ok210 (by simp [Tryz.f210]) ?_;(conv=>whnf);refine aP.i λb1 h1 e1 s1 o1 k1=>?_;(conv=>whnf);refine aP.i λb2 h2 e2 s2 o2 k2=>?_;(conv=>whnf);refine aN.i λh3 s3 k3=>?_;(conv=>whnf);refine bO.on [2,3,7] [2,3] (λi:Nat=>[(2,.lp 2 0),(3,.lp 3 0),(7,.v (.int .i64 (i:Int)))]) (λi=>[(2,b1,aB.zero.cells),(3,b2,[.int .i64 0,.int .i64 0,.int .i64 0,wv v,.int .i64 (if 0<i then -1 else 0),.int .i64 (if 1<i then -1 else 0),.int .i64 (if 2<i then -1 else 0),.int .i64 (if 3<i then -1 else 0),.int .i64 (if 4<i then -1 else 0),.int .i64 (-1)])])
  (λi h'=>i<=5/\Keeps [] h h'/\h3.size<=h'.size) (λi=>5-i) 0 ?_ ?_
 ·(conv=>whnf);exact ⟨0,rfl,rfl,rfl,Nat.zero_le _,((k1.trans k2).new1 k3 (by omega)),Nat.le_refl _⟩
 ·rintro i h4 ⟨hi,k4,z4⟩;(conv=>whnf);refine aj.i (λhc=>?_) (λhc=>?_)
  ·have hi5:i<5:=by simp at hc;omega
   (conv=>whnf);refine fC.i i rfl hi5 ?_;(conv=>whnf);refine dD.i (by show 4+i*1+1<=10;omega) ?_;(conv=>whnf);refine aN.i λh5 s5 k5=>?_;(conv=>whnf);refine ⟨5-(i+1),by omega,?_⟩;(conv=>whnf);refine ⟨i+1,rfl,by rw [wrapN (x:=(i:Int)+1) (n:=i+1) (by simp) (by omega)],?_,by omega,k4.new1 k5 (by omega),by omega⟩;have:i=0\/i=1\/i=2\/i=3\/i=4:=by omega
   rcases this with rfl|rfl|rfl|rfl|rfl <;> rfl
  ·have hi5:i=5:=by simp at hc;omega
   subst hi5;(conv=>whnf);refine aN.i λh5 s5 k5=>?_;(conv=>whnf);exact ⟨k4.new1 k5 (by omega),rfl⟩
theorem FO (kind:Int)(v:UInt64)(h:Heap):aC Tryz.prog 141 [.int .i64 kind,wv v] h (λr h'=>Keeps [] h h'/\r=.tuple (if 1<=kind/\kind<=3 then #[.agg ⟨(cB kind v).cells⟩,.int .i64 0] else #[.agg ⟨aB.zero.cells⟩,.int .i64 1])):=by
 refine aH aI Tryz.func141 rfl ok141 (by simp [Tryz.f141]) ?_;(conv=>whnf);refine aP.i λb1 h1 e1 s1 o1 k1=>?_;by_cases hk:1<=kind/\kind<=3
 ·rw [if_pos hk];have hk3:kind=1\/kind=2\/kind=3:=by omega
  rcases hk3 with rfl|rfl|rfl
  case' inl=>
   (conv=>whnf);(try refine aS.pass ?_;conv=>whnf);refine aj.t rfl ?_
  case' inr.inl=>
   (conv=>whnf);(try refine aS.pass ?_;conv=>whnf);refine aj.f rfl ?_;(conv=>whnf);(try refine aS.pass ?_;conv=>whnf);refine aj.t rfl ?_
  case' inr.inr=>
   (conv=>whnf);(try refine aS.pass ?_;conv=>whnf);refine aj.f rfl ?_;(conv=>whnf);(try refine aS.pass ?_;conv=>whnf);refine aj.f rfl ?_
  all_goals
   (conv=>whnf);(try refine aS.pass ?_;conv=>whnf);refine aj.t rfl ?_;(conv=>whnf);refine ak.i (FP v h1) λv2 h2 k2 hv=>?_;subst hv;(conv=>whnf);refine aP.i λb3 h3 e3 s3 o3 k3=>?_;(conv=>whnf);refine aN.i λh4 s4 k4=>?_;(conv=>whnf);refine aN.i λh5 s5 k5=>?_;(conv=>whnf);refine aN.i λh6 s6 k6=>?_;(conv=>whnf);refine aN.i λh7 s7 k7=>?_;(conv=>whnf);have z2:=k2.size;exact ⟨((((k1.trans (k2.trans k3)).new1 k4 (by omega)).new1 k5 (by omega)).new1 k6 (by omega)).new1 k7 (by omega),rfl⟩
 ·rw [if_neg hk];(conv=>whnf);(try refine aS.pass ?_;conv=>whnf);refine aj.f (by simp;omega) ?_;(conv=>whnf);(try refine aS.pass ?_;conv=>whnf);refine aj.f (by simp;omega) ?_;(conv=>whnf);(try refine aS.pass ?_;conv=>whnf);refine aj.f (by simp;omega) ?_;(conv=>whnf);refine aN.i λh2 s2 k2=>?_;(conv=>whnf);exact ⟨k1.new1 k2 (by omega),rfl⟩
theorem LZ (n:Int)(h:Heap):aC Tryz.prog 242 [.int .i64 n] h (λv h'=>Keeps [] h h'/\v=.bool (iy n)):=by
 refine aH aI Tryz.func242 rfl ok242 (by simp [Tryz.f242]) ?_;(conv=>whnf);refine ⟨Keeps.refl _ _,?_⟩
 congr 1
theorem UF {h:Heap}{a:Option Addr}{n c:Nat}{xs:List Int}(S:Sl h a n c xs)(hn:n<=1000000000) :
 aC Tryz.prog 232 [.slice a n c,.func (.func 242) #[] #[]] h (λv h'=>Keeps [] h h'/\v=.int .i64 (kZ iy xs 0)):=by
 have hl:=S.hlen;refine aH aI Tryz.func232 rfl ok232 (by simp [Tryz.f232]) ?_;(conv=>whnf);refine bO.on [0,1,7,8] [] (λi:Nat=>[(0,.v (.slice a n c)),(1,.v (.func (.func 242) #[] #[])),(7,.v (.int .i64 (n:Int))),(8,.v (.int .i64 (i:Int)))]) (λ_=>[])
  (λi h'=>i<=n/\Keeps [] h h'/\kZ iy xs 0=kZ iy (xs.drop i) i) (λi=>n-i) 0 ?_ ?_
 ·(conv=>whnf);exact ⟨0,rfl,rfl,rfl,Nat.zero_le _,Keeps.refl _ _,rfl⟩
 ·rintro i h2 ⟨hi,k2,hI⟩;(conv=>whnf);refine aj.i (λhc=>?_) (λhc=>?_)
  ·have hi1:i<xs.length:=by simp at hc;omega
   obtain ⟨b,off,hb,_,hcell⟩:=(S.keep k2).at1 i hi1;rw [List.drop_eq_getElem_cons hi1] at hI;simp only [kZ] at hI;(conv=>whnf);refine aR.i i rfl (by omega) hb ?_;(conv=>whnf);refine au.i hcell ?_;(conv=>whnf);refine ak.i (LZ xs[i] h2) λv h3 k3 hv=>?_;subst hv;(conv=>whnf);refine aj.i (λhd=>?_) (λhd=>?_)
   ·(conv=>whnf);rw [if_pos (by simpa using hd)] at hI;exact ⟨k2.trans k3,by rw [hI]⟩
   ·rw [if_neg (by simpa using hd)] at hI;(conv=>whnf);refine ⟨n-(i+1),by omega,?_⟩;(conv=>whnf);exact ⟨i+1,rfl,by rw [wrapN (n:=i+1) (by simp) (by omega)],rfl,by omega,k2.trans k3,hI⟩
  ·have hi1:i=xs.length:=by simp at hc;omega
   (conv=>whnf);refine ⟨k2,?_⟩;rw [hI,hi1,List.drop_length];rfl
theorem UG {h:Heap}{a:Option Addr}{n c:Nat}{xs:List Int}(S:Sl h a n c xs)(hn:n<=1000000000) :
 aC Tryz.prog 179 [.slice a n c,.func (.func 242) #[] #[]] h (λv h'=>Keeps [] h h'/\v=.bool (xs.any iy)):=by
 refine aH aI Tryz.func179 rfl ok179 (by simp [Tryz.f179]) ?_;(conv=>whnf);refine ak.i (UF S hn) λv h1 k1 hv=>?_;subst hv;(conv=>whnf);refine ⟨k1,?_⟩;rw [<-D7 iy xs 0]
theorem UH (a b:aB):mG Tryz.prog 10000 65 (.agg ⟨[.int .i64 a.d0,.int .i64 a.d1,.int .i64 a.d2,.int .i64 a.d3,.int .i64 a.d4]⟩) (.agg ⟨[.int .i64 b.d0,.int .i64 b.d1,.int .i64 b.d2,.int .i64 b.d3,.int .i64 b.d4]⟩)=some (decide (a.direct=b.direct)):=by
 have h:mG Tryz.prog 10000 65 (.agg ⟨[.int .i64 a.d0,.int .i64 a.d1,.int .i64 a.d2,.int .i64 a.d3,.int .i64 a.d4]⟩) (.agg ⟨[.int .i64 b.d0,.int .i64 b.d1,.int .i64 b.d2,.int .i64 b.d3,.int .i64 b.d4]⟩)=some ((a.d0==b.d0)&&((a.d1==b.d1)&&((a.d2==b.d2)&&((a.d3==b.d3)&&((a.d4==b.d4)&&true))))):=rfl;rw [h]
 congr 1
 rw [Bool.eq_iff_iff];simp [aB.direct]
theorem UC (c:aB)(h:Heap)(hc:c.ok):aC Tryz.prog 194 [.agg ⟨c.cells⟩] h (λv h'=>Keeps [] h h'/\v=.bool (gu c)):=by
 refine aH aI Tryz.func194 rfl ok194 (by simp [Tryz.f194]) ?_;(conv=>whnf);refine aP.i λb1 h1 e1 s1 o1 k1=>?_;(conv=>whnf);refine au.o o1 rfl ?_;(conv=>whnf);(try refine aS.pass ?_;conv=>whnf);refine aj.i (λhd=>?_) (λhd=>?_)
 ·have h0:c.kind=0:=by simpa using hd
  (conv=>whnf);refine au.o o1 rfl ?_;(conv=>whnf);refine ak.i (FP c.dR h1) λv h2 k2 hv=>?_;subst hv;(conv=>whnf);refine aP.i λb3 h3 e3 s3 o3 k3=>?_;(conv=>whnf);refine aN.i λh4 s4 k4=>?_;have k14:Keeps [] h1 h4:=(k2.trans k3).new1 k4 (by have:=k2.size;omega);(conv=>whnf);refine fq.o (k14.obj o1 (by simp)) rfl ?_;(conv=>whnf);refine gY.Fq (by kernel_rfl) (UH c (fU c.dR)) ?_;(conv=>whnf);refine fq.o (k14.obj o1 (by simp)) rfl ?_;(conv=>whnf);refine gY.Fq (by kernel_rfl) (QW c (fU c.dR)) ?_;(conv=>whnf);refine ⟨k1.trans k14,?_⟩;unfold gu;rw [if_pos h0,dI]
  congr 1
  by_cases e:c=fU c.dR
  ·rw [decide_eq_true e,<-e];simp
  ·rw [decide_eq_false e];simp
 ·have h0:¬ c.kind=0:=by simpa using hd
  by_cases hk:1<=c.kind/\c.kind<=3
  ·have hk3:c.kind=1\/c.kind=2\/c.kind=3:=by omega
   have fin:∀ b:Bool,(b=true↔(0<=c.links/\c.links<=255/\0<=c.size/\c.size<=2688)/\iy c.more=false/\c.direct.any iy=false)->Value.bool b=Value.bool (gu c):=by
    intro b hb
    congr 1
    rw [Bool.eq_iff_iff,hb];unfold gu;rw [if_neg h0];have hd:(c.direct.any iy=false)↔c.direct.all lI=true:=by
     rw [List.any_eq_false,List.all_eq_true];refine ⟨λh x hx=>?_,λh x hx=>?_⟩
     ·have:=h x hx;simp [iy,lI] at this ⊢;omega
     ·have:=h x hx;simp [iy,lI] at this ⊢;omega
    rw [hd];simp [iy,lI]
    constructor
    ·rintro ⟨a1,a2,a3⟩;exact ⟨a3,by omega⟩
    ·rintro ⟨a1,a2⟩;exact ⟨by omega,by omega,a1⟩
   rcases hk3 with hk3|hk3|hk3
   case' inl=>
    (conv=>whnf);(try refine aS.pass ?_;conv=>whnf);refine aj.t (by rw [hk3];rfl) ?_
   case' inr.inl=>
    (conv=>whnf);(try refine aS.pass ?_;conv=>whnf);refine aj.f (by rw [hk3];rfl) ?_;(conv=>whnf);(try refine aS.pass ?_;conv=>whnf);refine aj.t (by rw [hk3];rfl) ?_
   case' inr.inr=>
    (conv=>whnf);(try refine aS.pass ?_;conv=>whnf);refine aj.f (by rw [hk3];rfl) ?_;(conv=>whnf);(try refine aS.pass ?_;conv=>whnf);refine aj.f (by rw [hk3];rfl) ?_
   all_goals
    (conv=>whnf);(try refine aS.pass ?_;conv=>whnf);refine aj.t (by first|rfl|(rw [hk3];rfl)) ?_;(conv=>whnf);refine au.o o1 rfl ?_;(conv=>whnf);refine au.o o1 rfl ?_;(conv=>whnf);refine au.o o1 rfl ?_;(conv=>whnf);refine au.o o1 rfl ?_;(conv=>whnf);refine au.o o1 rfl ?_;have S5:∀ h',Keeps [] h1 h'->Sl h' (some ⟨b1,4,none⟩) 5 5 c.direct:=λh' kk=>⟨rfl,Nat.le_refl _,by simp [aB.direct],λi hi=>⟨b1,4,rfl,[.int .i64 c.direct[i]],⟨rfl,hc.2.2.2.1 _ (List.getElem_mem hi)⟩,λj hj=>by
     have hj0:j=0:=by simpa using hj
     subst hj0;have o14:=kk.obj o1 (by simp);simp only [Heap.cell?,o14];have hi':i<5:=hi;have:i=0\/i=1\/i=2\/i=3\/i=4:=by omega
     rcases this with rfl|rfl|rfl|rfl|rfl <;> rfl⟩⟩
    (conv=>whnf);refine aj.i (λg1=>?_) (λg1=>?_)
    ·(conv=>whnf);refine ak.i (LZ c.more h1) λv h2 k2 hv=>?_;subst hv;(conv=>whnf);refine gY.i (v:=.slice (some ⟨b1,4,none⟩) 5 5) (λw=>rfl) ?_;(conv=>whnf);refine aj.i (λg2=>?_) (λg2=>?_)
     ·(conv=>whnf);refine ak.i (UG (S5 h2 k2) (by decide)) λv h3 k3 hv=>?_;subst hv;(conv=>whnf);refine ⟨k1.trans (k2.trans k3),fin _ ?_⟩;simp [dI] at g1 g2 ⊢
      constructor
      ·rintro ⟨⟨⟨⟨⟨a,b⟩,c⟩,d⟩,e⟩,f⟩;exact ⟨⟨a,b,c,d⟩,e,f⟩
      ·rintro ⟨⟨a,b,c,d⟩,e,f⟩;exact ⟨⟨⟨⟨⟨a,b⟩,c⟩,d⟩,e⟩,f⟩
     ·(conv=>whnf);refine ⟨k1.trans k2,fin _ ?_⟩;simp [dI] at g1 g2 ⊢;have:=g2 g1.1.1.1 g1.1.1.2 g1.1.2 g1.2;rw [this];simp
    ·(conv=>whnf);refine gY.i (v:=.slice (some ⟨b1,4,none⟩) 5 5) (λw=>rfl) ?_;(conv=>whnf);refine aj.i (λg2=>?_) (λg2=>?_)
     ·exfalso;simp [dI] at g1 g2;have:=g1 g2.1.1.1 g2.1.1.2 g2.1.2;omega
     ·(conv=>whnf);refine ⟨k1,fin _ ?_⟩;simp [dI] at g1 g2 ⊢
      constructor
      ·rintro ⟨⟨⟨a,b⟩,c⟩,d⟩;have:=g1 a b c;omega
      ·rintro ⟨⟨a,b,c,d⟩,_⟩;have:=g1 a b c;omega
  ·(conv=>whnf);(try refine aS.pass ?_;conv=>whnf);refine aj.f (by simp;omega) ?_;(conv=>whnf);(try refine aS.pass ?_;conv=>whnf);refine aj.f (by simp;omega) ?_;(conv=>whnf);(try refine aS.pass ?_;conv=>whnf);refine aj.f (by simp;omega) ?_;(conv=>whnf);refine ⟨k1,?_⟩;unfold gu;rw [if_neg h0];have:(decide (1<=c.kind)&&decide (c.kind<=3))=false:=by simp;omega
   rw [this];simp
set_option maxHeartbeats 4000000
def Uy (c:aB):Nat->UInt64
 | 0=>0
 | 1=>fM 0 0 8 (w64 c.kind)
 | 2=>fM (fM 0 0 8 (w64 c.kind)) 8 16 (w64 c.links)
 | _+3=>uG c
def Uz (c:aB):Nat->UInt64
 | 0=>0
 | 1=>0
 | 2=>0
 | 3=>0
 | 4=>fM 0 0 16 (w64 (c.d0+1))
 | 5=>fM (fM 0 0 16 (w64 (c.d0+1))) 16 16 (w64 (c.d1+1))
 | 6=>fM (fM (fM 0 0 16 (w64 (c.d0+1))) 16 16 (w64 (c.d1+1))) 32 16 (w64 (c.d2+1))
 | _+7=>yP c
def UA (c:aB):Nat->UInt64
 | 0=>0
 | 1=>0
 | 2=>0
 | 3=>0
 | 4=>0
 | 5=>0
 | 6=>0
 | 7=>0
 | 8=>fM 0 0 16 (w64 (c.d4+1))
 | _+9=>yQ c
def cWi (c:aB)(i:Nat):List UInt64:=[Uy c i,c.dR,Uz c i,UA c i,0,0,0,0]
theorem UB {c:aB}(B:rG c):∀ i (hi:i<(numsL c).length),0<=(numsL c)[i]/\(numsL c)[i]<65536/\(numsL c)[i]<2 ^ jT i:=by
 intro i hi;have h1:=B.k;have h2:=B.l;have h3:=B.s;have h4:=B.d0;have h5:=B.d1;have h6:=B.d2;have h7:=B.d3;have h8:=B.d4;have h9:=B.m;have hi':i<9:=hi;have:i=0\/i=1\/i=2\/i=3\/i=4\/i=5\/i=6\/i=7\/i=8:=by omega
 rcases this with rfl|rfl|rfl|rfl|rfl|rfl|rfl|rfl|rfl <;> simp [numsL,jT] <;> omega
theorem FM (c:aB)(hc:c.ok)(h:Heap):aC Tryz.prog 122 [.agg ⟨c.cells⟩] h (λv h'=>Keeps [] h h' /\
 if gu c=true then ∃ b,v=.tuple #[.slice (some ⟨b,0,none⟩) 8 8,.int .i64 0]/\h.size<=b/\h'[b]?=some (.cells ⟨(fI c).map wv⟩ 46 (0,0)) else v=.tuple #[.slice none 0 0,.int .i64 1]):=by
 refine aH aI Tryz.func122 rfl ok122 (by simp [Tryz.f122]) ?_;(conv=>whnf);refine aP.i λb1 h1 e1 s1 o1 k1=>?_;(conv=>whnf);refine ak.i (UC c h1 hc) λv h2 k2 hv=>?_;subst hv;cases hr:gu c with
 | false=>
  (conv=>whnf);refine aj.t rfl ?_;(conv=>whnf);exact ⟨k1.trans k2,rfl⟩
 | true=>
  have B:=uZ hr;(conv=>whnf);refine aj.f rfl ?_;(conv=>whnf);refine aQ.make (n:=8) rfl rfl rfl rfl rfl (by decide) (by decide) λb3 h3 e3 s3 o3 k3=>?_;have z2:=k2.size;(conv=>whnf);refine aR.i 1 rfl (by decide) rfl ?_;(conv=>whnf);refine dM.i o3 (Nat.le_of_ble_eq_true rfl) (by simp [ax,aZ];omega) λh4 s4 o4 k4=>?_;have k04:Keeps [] h h4:=(k1.trans (k2.trans k3)).new1 k4 (by omega);(conv=>whnf);refine ak.i (UD c B h4) λv h5 k5 hv=>?_;obtain ⟨b5,q5,rfl,S5,hb5⟩:=hv;have mP:h4[b3]?=some (.cells ⟨(cWi c 0).map wv⟩ 46 (0,0)):=o4;(conv=>whnf);refine bO.on [4,19,20,21] [] (λi:Nat=>[(4,.v (.slice (some ⟨b3,0,none⟩) 8 8)),(19,.v (.slice (some ⟨b5,0,none⟩) 9 q5)),(20,.v (.int .i64 9)),(21,.v (.int .i64 (i:Int)))]) (λ_=>[])
   (λi h'=>i<=9/\Keeps [b3] h4 h'/\h5.size<=h'.size/\Sl h' (some ⟨b5,0,none⟩) 9 q5 (numsL c)/\h'[b3]?=some (.cells ⟨(cWi c i).map wv⟩ 46 (0,0))) (λi=>9-i) 0 ?_ ?_
  ·(conv=>whnf);exact ⟨0,rfl,rfl,rfl,Nat.zero_le _,k5.mono (by simp),Nat.le_refl _,S5,k5.obj mP (by simp)⟩
  ·rintro i h6 ⟨hi,k6,z6,S6,o6⟩;(conv=>whnf);refine aj.i (λhd=>?_) (λhd=>?_)
   ·have hi9:i<9:=by simp at hd;omega
    obtain ⟨n0,n1,n2⟩:=UB B i hi9;obtain ⟨b,off,hb',_,hcell⟩:=S6.at1 i hi9;(conv=>whnf);refine aR.i i rfl hi9 hb' ?_;(conv=>whnf);refine au.i hcell ?_;(conv=>whnf);refine ak.i (LY h6) λv h7 k7 hv=>?_;obtain ⟨bf,cf,fz,sp,rfl,hcf,hbf,o7⟩:=hv;(conv=>whnf);refine aR.i i rfl hi9 rfl ?_;have xI:=k7.obj o6 (by simp);have FQ:oW 3 (oZ (0+i*3) (qh 9++sp))=some (uM i):=by
     have:i=0\/i=1\/i=2\/i=3\/i=4\/i=5\/i=6\/i=7\/i=8:=by omega
     rcases this with rfl|rfl|rfl|rfl|rfl|rfl|rfl|rfl|rfl <;> rfl
    (conv=>whnf);refine fq.o (vs:=uM i) o7 FQ ?_;(conv=>whnf);refine aP.i λb8 h8 e8 s8 o8 k8=>?_;(conv=>whnf);refine aN.i λh9 s9 k9=>?_;have k79:Keeps [] h7 h9:=k8.new1 k9 (by omega);have hA:iL i<8:=by
     unfold iL;split <;> omega
    have hF:lT (nS i) (jT i):=by
     have:i=0\/i=1\/i=2\/i=3\/i=4\/i=5\/i=6\/i=7\/i=8:=by omega
     rcases this with rfl|rfl|rfl|rfl|rfl|rfl|rfl|rfl|rfl <;> (unfold lT;decide)
    have hcl:(cWi c i).length=8:=rfl;(conv=>whnf);refine aR.i (iL i) rfl hA rfl ?_;(conv=>whnf);refine au.o (v:=wv ((cWi c i)[iL i]'(by omega))) (k79.obj xI (by simp)) ?_ ?_
    ·rw [nG];show ((cWi c i).map wv)[0+iL i*1]?=_;rw [show 0+iL i*1=iL i by omega];simp [hA,hcl]
    (conv=>whnf);rw [<-zW];have hws:(w64 (numsL c)[i]).toNat<65536/\(w64 (numsL c)[i]).toNat<2 ^ jT i:=by
     rw [jS n0 (by omega)];have h2:(((numsL c)[i].toNat:Nat):Int)<((2 ^ jT i:Nat):Int):=by
      rw [Int.toNat_of_nonneg n0]
      exact_mod_cast n2
     omega
    refine ak.i (UE _ (nS i) (jT i) hF _ hws.2 hws.1 h9) λv h10 k10 hv=>?_;subst hv;(conv=>whnf);refine aj.f rfl ?_;have hnew:(cWi c i).set (iL i) (fM ((cWi c i)[iL i]'(by omega)) (nS i) (jT i) (w64 (numsL c)[i]))=cWi c (i+1):=by
     have:i=0\/i=1\/i=2\/i=3\/i=4\/i=5\/i=6\/i=7\/i=8:=by omega
     rcases this with rfl|rfl|rfl|rfl|rfl|rfl|rfl|rfl|rfl <;> rfl
    (conv=>whnf);refine aR.i (iL i) rfl hA rfl ?_;have k610:Keeps [] h6 h10:=k7.trans (k79.trans k10);(conv=>whnf);refine dM.i (k610.obj o6 (by simp)) ?_ ?_ λh11 s11 o11 k11=>?_
    ·show 0+iL i*1+1<=_;simp [hcl];omega
    ·have:=eU o6;have:=k7.size;simp [ax,aZ];omega
    (conv=>whnf);refine ⟨9-(i+1),by omega,?_⟩;(conv=>whnf);refine ⟨i+1,rfl,by rw [wrapN (x:=(i:Int)+1) (n:=i+1) (by simp) (by omega)],rfl,by omega,(k6.trans (k610.mono (by simp))).trans k11,by have:=k610.size;omega,(S6.keep k610).jF k11 (λx hx hm=>?_),?_⟩
    ·simp [aA] at hx hm;omega
    ·have e5:bF (0+iL i*1) [wv (fM ((cWi c i)[iL i]'(by omega)) (nS i) (jT i) (w64 (numsL c)[i]))] ((cWi c i).map wv)=(cWi c (i+1)).map wv:=by
      rw [show 0+iL i*1=iL i by omega,xW _ _ _ (by simp [hcl];omega),<-hnew,List.map_set]
     rw [<-e5];exact o11
   ·have hi9:i=9:=by simp at hd;omega
    subst hi9;(conv=>whnf);exact ⟨k04.dK k6 (by
     intro x hx;have:x=b3:=by simpa using hx
     omega),b3,rfl,by omega,o6⟩
end Go.Proofs.YtoociceebodfeaaGreatDoor
