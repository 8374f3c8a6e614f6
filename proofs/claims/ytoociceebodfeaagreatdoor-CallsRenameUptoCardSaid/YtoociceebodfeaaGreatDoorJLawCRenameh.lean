/-
  Joined texts: FomA, FomB, FomC, FomD, FomE, WalD, FileH, FileJ, FileN, WalA, WalB, CrdA, WalE, WalF, WalG, EntA, WrdA, CrdC, CrdD, CrdE.
-/
import Derived.Test.YtoociceebodfeaaGreatDoorJLawCRenameg
import Derived.Test.YtoociceebodfeaaGreatDoorJLawCRenamee
import Derived.Test.YtoociceebodfeaaGreatDoorJLawCRenamed
import Derived.Test.YtoociceebodfeaaGreatDoorJLawCRenamef
set_option linter.all false
set_option maxRecDepth 100000
set_option maxHeartbeats 1000000
namespace Go.Proofs.YtoociceebodfeaaGreatDoor
open Go Go.aN
theorem UC {h:Heap}{b o m xc:Nat}{l:List aF}(S:Sl h (some ⟨b,o,none⟩) m xc l):∀ j,j<(bV l).length->Heap.cell? h b (o+j)=(bV l)[j]?:=by
 intro j hj;have hl:=lW l;obtain ⟨b',o',hb,cs,⟨rfl,_⟩,hc⟩:=S.at_ (j/2) (by omega);cases hb;have:=hc (j%2) (by simp [aF.cells];omega);rw [AA l j (by omega),<-this]
 congr 1
 show _=o+j/2*2+j%2;omega
theorem oH {h:Heap}{a:Option Addr}{n c:Nat}{l1 l2:List aF}(O:Own h 93 2 a n c (bV l1)){x:Option Addr}{m xc:Nat}(S:Sl h x m xc l2)(hb:n+m<=100000){bs:List Nat}(hbs:∀ b∈ay a,b∉bs){ty:TypeId}{K:Value->Heap->Prop}
 (H:∀ a' c' h',Own h' 93 2 a' (n+m) c' (bV (l1++l2))->Keeps (ay a) h h'->(∀ b∈ay a',b∈ay a\/h.size<=b)->K (.slice a' (n+m) c') h') :
 aW Tryz.prog (Builtin.append_ #[38,38] ty ⟨[.slice a n c,.slice x m xc]⟩) bs h K:=by
 have hm:=S.hlen;rcases Nat.eq_zero_or_pos m with h0|h0
 ·subst h0;have:l2=[]:=List.eq_nil_of_length_eq_zero hm.symm;subst this;have hnc:n<=c:=by
   rcases O with ⟨_,rfl,rfl,_⟩|⟨b,cs,_,_,_,_,_,h2⟩
   ·exact Nat.le_refl _
   ·exact h2
  refine aW.append0 rfl rfl rfl hnc ?_;have:=H a c h (by rw [List.append_nil];exact O) (Keeps.refl _ _) (λb hb=>.inl hb);exact this
 ·obtain ⟨b,o,rfl⟩:=S.rX h0;refine jO (e:=93) (sz:=2) (aQ:=24) (new:=bV l2) rfl rfl rfl rfl rfl rfl rfl O (by rw [lW];omega) (UC S) (D7 l2) (by omega) (by omega) hbs ?_;intro a' c' h5 O5 k5 n5;exact H a' c' h5 (by rw [show bV (l1++l2)=bV l1++bV l2 from List.flatMap_append];exact O5) k5 n5
theorem pK (h:Heap):Own h 93 2 none 0 0 (bV []):=.inl ⟨rfl,rfl,rfl,rfl⟩
theorem UD {h:Heap}{a:Option Addr}{n c:Nat}{l:List aF}(S:Sl h a n c l)(hn:n<=10000)(name:List UInt8)(hnl:name.length<=140737488351232)(target:Int)(ht:inI64 target)(hok:∀ e∈l,e.ok) :
 aC Tryz.prog 146 [.slice a n c,.string ⟨name.toArray⟩,.int .i64 target] h (λv h'=>Keeps [] h h'/\∃ a' c',v=.tuple #[.slice a' (lT l name target).1.length c',.int .i64 (lT l name target).2]/\Own h' 93 2 a' (lT l name target).1.length c' (bV (lT l name target).1)/\(∀ b∈ay a',h.size<=b)):=by
 have hl:=S.hlen;have hcap:=S.hcap;unfold lT;refine aG aH Tryz.func146 rfl ok146 (by simp [Tryz.f146]) ?_;(conv=>whnf);refine aj.i (λhd=>?_) (λhd=>?_)
 ·have h1:target<1\/24<=target:=by simp [dm] at hd;omega
  (conv=>whnf);rw [if_pos h1];exact ⟨Keeps.refl _ _,none,0,rfl,pK h,by simp [ay]⟩
 have h1:¬ (target<1\/24<=target):=by simp [dm] at hd;omega
 rw [if_neg h1];(conv=>whnf);refine ak.i (Jc name hnl h) λv h1 k1 hv=>?_;subst hv;(conv=>whnf);refine aj.i (λhr=>?_) (λhr=>?_)
 ·have h2:dI name=false:=by simpa using hr
  (conv=>whnf);rw [if_pos h2];exact ⟨k1,none,0,rfl,pK h1,by simp [ay]⟩
 have h2:¬ dI name=false:=by simpa using hr
 rw [if_neg h2];(conv=>whnf);refine ak.i (xI (S.keep k1) (by omega) name hnl) λv h2 k2 hv=>?_;subst hv;have k02:=k1.trans k2;(conv=>whnf);refine aj.i (λhp=>?_) (λhp=>?_)
 ·(conv=>whnf);rw [if_pos hp];exact ⟨k02,none,0,rfl,pK h2,by simp [ay]⟩
 rw [if_neg (by rw [hp];decide)];have hkl:=vK l name;(conv=>whnf);refine dw.i 0 (aP l name) rfl rfl (Nat.zero_le _) (by omega) ?_;(conv=>whnf);refine dw.i (aP l name) n rfl rfl (by omega) (by omega) ?_;have P1:=(S.keep k02).part (l:=0) (r:=aP l name) (Nat.zero_le _) (by omega);rw [List.drop_zero] at P1;have P2:=(S.keep k02).part (l:=aP l name) (r:=n) (by omega) (Nat.le_refl _);rw [List.take_of_length_le (by omega:l.length<=n)] at P2;have one:∀ {hx:Heap} {b:Nat},hx[b]?=some (.cells ⟨cellsOf (.agg ⟨[.string ⟨name.toArray⟩,.int .i64 target]⟩)⟩ 93 (0,0))->Sl hx (some ⟨b,0,none⟩) 1 1 [(⟨name,target⟩:aF)]:=by
  intro hx b o;refine ⟨rfl,Nat.le_refl _,by simp,λi hi=>?_⟩;have:i=0:=by simpa using hi
  subst this;refine ⟨b,0,rfl,aF.cells ⟨name,target⟩,⟨rfl,hnl,ht⟩,λj hj=>?_⟩
  ·unfold Heap.cell?;rw [o];have:j=0\/j=1:=by simp [aF.cells] at hj;omega
   rcases this with rfl|rfl <;> rfl
 (conv=>whnf);refine gI.i ?c1 ?c2
 case' c1=>
  (conv=>whnf);refine oH (pK h2) P1 (by omega) (by simp [ay]) λa5 c5 h5 O5 k5 n5=>?_;have k25:Keeps [] h2 h5:=k5.mono (by simp [ay]);rw [List.nil_append] at O5;(conv=>whnf);refine aL.i λb6 h6 e6 s6 o6 k6=>?_;have O6:=O5.keep k6 (by simp);have S6:=one o6;have k26:=k25.trans k6;have z5:=k25.size;have hb6:h2.size<=b6:=by omega
  have n6:∀ b∈ay a5,h2.size<=b:=λb hb=>by
   rcases n5 b hb with h|h
   ·simp [ay] at h
   ·exact h
 case' c2=>
  (conv=>whnf);refine aL.i λb6 h5 e6 s5 o5 k5=>?_;(conv=>whnf);refine oH (pK h5) (P1.keep k5) (by omega) (by simp [ay]) λa5 c5 h6 O6 k6 n5=>?_;have k56:Keeps [] h5 h6:=k6.mono (by simp [ay]);rw [List.nil_append] at O6;have S6:=(one o5).keep k56;have k26:=k5.trans k56;have z5:=k5.size;have hb6:h2.size<=b6:=by omega
  have n6:∀ b∈ay a5,h2.size<=b:=λb hb=>by
   rcases n5 b hb with h|h
   ·simp [ay] at h
   ·omega
 all_goals
  (conv=>whnf);refine oH O6 S6 (by omega) (by simp [au]) λa7 c7 h7 O7 k7 n7=>?_;have z7:=k7.size;have z6:=k26.size;have n7':∀ b∈ay a7,h2.size<=b:=λb hb=>by
   rcases n7 b hb with h|h
   ·exact n6 b h
   ·omega
  have k27:Keeps [] h2 h7:=k26.cZ k7 (λb hb=>n6 b hb);(conv=>whnf);refine oH O7 (P2.keep k27) (by omega) (by simp [au]) λa8 c8 h8 O8 k8 n8=>?_;have k28:Keeps [] h2 h8:=k27.cZ k8 (λb hb=>n7' b hb);(conv=>whnf);have hlen:(bD l ⟨name,target⟩).length=0+(aP l name-0)+1+(n-aP l name):=by
   rw [(mF l _).length_eq,List.length_cons];omega
  refine ⟨k02.trans k28,a8,c8,?_,?_,λb hb=>?_⟩
  ·simp only;rw [hlen]
  ·simp only;rw [hlen];have:List.take (aP l name) l++[(⟨name,target⟩:aF)]++List.drop (aP l name) l=bD l ⟨name,target⟩:=by unfold bD;simp
   rw [<-this];exact O8
  ·have z02:=k02.size;rcases n8 b hb with h|h
   ·have:=n7' b h;omega
   ·have:=k27.size;omega
theorem UE (x y:aF):mP Tryz.prog 10000 93 (.agg ⟨x.cells⟩) (.agg ⟨y.cells⟩)=some (decide (x=y)):=by
 have h:mP Tryz.prog 10000 93 (.agg ⟨x.cells⟩) (.agg ⟨y.cells⟩)=some (((⟨x.name.toArray⟩:ByteArray).toList==(⟨y.name.toArray⟩:ByteArray).toList)&&((x.node==y.node)&&true)):=by kernel_rfl
 rw [h]
 congr 1
 rw [iZ,Bool.eq_iff_iff];obtain ⟨a,b⟩:=x;obtain ⟨c,d⟩:=y;simp
theorem UF {h:Heap}{a:Option Addr}{n c:Nat}{l:List aF}(S:Sl h a n c l)(hn:n<=10000)(name:List UInt8)(hnl:name.length<=140737488351232) :
 aC Tryz.prog 147 [.slice a n c,.string ⟨name.toArray⟩] h (λv h'=>Keeps [] h h'/\∃ a' c',v=.tuple #[.slice a' (kE l name).1.length c',.int .i64 (kE l name).2.1,.int .i64 (kE l name).2.2]/\Own h' 93 2 a' (kE l name).1.length c' (bV (kE l name).1)/\(∀ b∈ay a',h.size<=b)):=by
 have hl:=S.hlen;have hcap:=S.hcap;unfold kE;refine aG aH Tryz.func147 rfl ok147 (by simp [Tryz.f147]) ?_;(conv=>whnf);refine ak.i (xI S (by omega) name hnl) λv h2 k2 hv=>?_;subst hv;(conv=>whnf);refine aj.i (λhp=>?_) (λhp=>?_)
 ·have hp':¬ dA l name=true:=by simpa using hp
  (conv=>whnf);rw [if_neg hp'];exact ⟨k2,none,0,rfl,pK h2,by simp [ay]⟩
 have hp':dA l name=true:=by simpa using hp
 rw [if_pos hp'];obtain ⟨hkl,hnm⟩:=tQ hp';have P1:=(S.keep k2).part (l:=0) (r:=aP l name) (Nat.zero_le _) (by omega);rw [List.drop_zero] at P1;have P2:=(S.keep k2).part (l:=aP l name+1) (r:=n) (by omega) (Nat.le_refl _);rw [List.take_of_length_le (by omega:l.length<=n)] at P2;have hw:IntKind.i64.wrap ((aP l name:Int)+1)=((aP l name+1:Nat):Int):=wrapN (by simp) (by omega);obtain ⟨b3,o3,hb3,cs,⟨rfl,hok⟩,hc3⟩:=(S.keep k2).at_ (aP l name) hkl;(conv=>whnf);refine dw.i 0 (aP l name) rfl rfl (Nat.zero_le _) (by omega) ?_;(conv=>whnf);refine dw.i (aP l name+1) n hw rfl (by omega) (by omega) ?_;(conv=>whnf);refine aX.i (aP l name) rfl (by omega) hb3 ?_;have nd:∀ {hx:Heap},Keeps [] h2 hx->Heap.cell? hx b3 (o3+aP l name*2+1)=some (.int .i64 (l[aP l name].node)):=λk=>(hc3.keep k) 1 (by simp [aF.cells]);have hlen:(l.eraseIdx (aP l name)).length=0+(aP l name-0)+(n-(aP l name+1)):=by
  rw [List.length_eraseIdx_of_lt hkl];omega
 have her:l.take (aP l name)++l.drop (aP l name+1)=l.eraseIdx (aP l name):=(List.eraseIdx_eq_take_drop_succ _ _).symm;have AU:(l[aP l name]?.getD ⟨[],0⟩).node=l[aP l name].node:=by rw [List.getElem?_eq_getElem hkl];rfl
 (conv=>whnf);refine gI.i ?c1 ?c2
 case' c1=>
  (conv=>whnf);refine oH (pK h2) P1 (by omega) (by simp [ay]) λa5 c5 h5 O5 k5 n5=>?_;have k25:Keeps [] h2 h5:=k5.mono (by simp [ay]);rw [List.nil_append] at O5;have n5':∀ b∈ay a5,h2.size<=b:=λb hb=>by
   rcases n5 b hb with h|h
   ·simp [ay] at h
   ·exact h
  (conv=>whnf);refine gI.i ?d1 ?d2
  case' d1=>
   (conv=>whnf);refine oH O5 (P2.keep k25) (by omega) (by simp [au]) λa6 c6 h6 O6 k6 n6=>?_;have k26:Keeps [] h2 h6:=k25.cZ k6 (λb hb=>n5' b hb);(conv=>whnf);refine ax.i (nd k26) ?_;(conv=>whnf);refine ⟨k2.trans k26,a6,c6,?_,?_,λb hb=>?_⟩
   ·simp only;rw [hlen,AU]
   ·simp only;rw [hlen,<-her];exact O6
   ·have z2:=k2.size;have z5:=k25.size;rcases n6 b hb with h|h
    ·have:=n5' b h;omega
    ·omega
  case' d2=>
   (conv=>whnf);refine ax.i (nd k25) ?_;(conv=>whnf);refine oH O5 (P2.keep k25) (by omega) (by simp [au]) λa6 c6 h6 O6 k6 n6=>?_;have k26:Keeps [] h2 h6:=k25.cZ k6 (λb hb=>n5' b hb);(conv=>whnf);refine ⟨k2.trans k26,a6,c6,?_,?_,λb hb=>?_⟩
   ·simp only;rw [hlen,AU]
   ·simp only;rw [hlen,<-her];exact O6
   ·have z2:=k2.size;have z5:=k25.size;rcases n6 b hb with h|h
    ·have:=n5' b h;omega
    ·omega
 case' c2=>
  (conv=>whnf);refine ax.i (nd (Keeps.refl _ _)) ?_;(conv=>whnf);refine oH (pK h2) P1 (by omega) (by simp [ay]) λa5 c5 h5 O5 k5 n5=>?_;have k25:Keeps [] h2 h5:=k5.mono (by simp [ay]);rw [List.nil_append] at O5;have n5':∀ b∈ay a5,h2.size<=b:=λb hb=>by
   rcases n5 b hb with h|h
   ·simp [ay] at h
   ·exact h
  (conv=>whnf);refine oH O5 (P2.keep k25) (by omega) (by simp [au]) λa6 c6 h6 O6 k6 n6=>?_;have k26:Keeps [] h2 h6:=k25.cZ k6 (λb hb=>n5' b hb);(conv=>whnf);refine ⟨k2.trans k26,a6,c6,?_,?_,λb hb=>?_⟩
  ·simp only;rw [hlen,AU]
  ·simp only;rw [hlen,<-her];exact O6
  ·have z2:=k2.size;have z5:=k25.size;rcases n6 b hb with h|h
   ·have:=n5' b h;omega
   ·omega
theorem gJ.Hf {P:Program}{c:Option Bool}{t:TypeId}{x y:Operand}{xs ys:List Value}{r:Bool}{K:Value->Prop}(hm:P.eqGuardType P.depth t=false)(he:mP P 10000 t (.agg ⟨xs⟩) (.agg ⟨ys⟩)=some r)(hK:K (.bool (!r))) :
 gJ c P (do eqGuard .neq t x y (.agg ⟨xs⟩) (.agg ⟨ys⟩);binOp .neq t (.agg ⟨xs⟩) (.agg ⟨ys⟩):Sem Value) K:=by
 refine gJ.i (λw=>?_) hK;rw [Sem.run_bind,run_eqGuard_agg _ _ _ _ _ _ _ hm];simp only [Result.andThen_ok];rw [run_neq_struct,FQ _ _ _ _ _ w he];rfl
theorem UG {h:Heap}{a a2:Option Addr}{n n2 c c2:Nat}{l l2:List aF}(S:Sl h a n c l)(S2:Sl h a2 n2 c2 l2)(hn:n<=100000):aC Tryz.prog 56 [.slice a n c,.slice a2 n2 c2] h (λv h'=>Keeps [] h h'/\v=.bool (decide (l=l2))):=by
 have hl:=S.hlen;have hl2:=S2.hlen;refine aG aH Tryz.func56 rfl ok56 (by simp [Tryz.f56]) ?_;(conv=>whnf);refine aj.i (λhd=>?_) (λhd=>?_)
 ·have hne:n≠n2:=by simp at hd;omega
  (conv=>whnf);refine ⟨Keeps.refl _ _,?_⟩;rw [decide_eq_false (λe=>hne (by rw [hl,hl2,e]))]
 have he:n=n2:=by simp at hd;omega
 (conv=>whnf);refine bP.on [0,1,5] [] (λi:Nat=>[(0,.v (.slice a n c)),(1,.v (.slice a2 n2 c2)),(5,.v (.int .i64 (i:Int)))]) (λ_=>[]) (λi h'=>i<=n/\Keeps [] h h'/\l.take i=l2.take i) (λi=>n-i) 0 ?_ ?_
 ·(conv=>whnf);exact ⟨0,rfl,rfl,rfl,Nat.zero_le _,Keeps.refl _ _,by simp⟩
 ·rintro i h1 ⟨hi,k1,ht⟩;(conv=>whnf);refine aj.i (λhd=>?_) (λhd=>?_)
  ·have hi1:i<l.length:=by simp at hd;omega
   have hi2:i<l2.length:=by omega
   obtain ⟨b1,o1,hb1,_,⟨rfl,_⟩,hc1⟩:=(S.keep k1).at_ i hi1;obtain ⟨b2,o2,hb2,_,⟨rfl,_⟩,hc2⟩:=(S2.keep k1).at_ i hi2;(conv=>whnf);refine aX.i i rfl (by omega) hb1 ?_;(conv=>whnf);refine fq.i (vs:=l[i].cells) rfl (λj hj=>hc1 j hj) ?_;(conv=>whnf);refine aX.i i rfl (by omega) hb2 ?_;(conv=>whnf);refine fq.i (vs:=l2[i].cells) rfl (λj hj=>hc2 j hj) ?_;(conv=>whnf);refine gJ.Hf (by kernel_rfl) (UE l[i] l2[i]) ?_;(conv=>whnf);refine aj.i (λhq=>?_) (λhq=>?_)
   ·(conv=>whnf);have hne:l[i]≠l2[i]:=by simpa using hq
    refine ⟨k1,?_⟩;rw [decide_eq_false (λe=>hne (by subst e;rfl))]
   ·have heq:l[i]=l2[i]:=by simpa using hq
    (conv=>whnf);refine ⟨n-(i+1),by omega,?_⟩;(conv=>whnf);refine ⟨i+1,rfl,by rw [wrapN (n:=i+1) (by simp) (by omega)],rfl,by omega,k1,?_⟩;rw [List.take_succ_eq_append_getElem hi1,List.take_succ_eq_append_getElem hi2,ht,heq]
  ·have hi1:i=n:=by simp at hd;omega
   subst hi1;(conv=>whnf);refine ⟨k1,?_⟩;rw [List.take_of_length_le (by omega),List.take_of_length_le (by omega)] at ht;rw [decide_eq_true ht]
def sQ (X Y:VS):Prop:=Y.away=X.away/\Y.bG=X.bG
theorem Mg (B:Int->UInt64)(X:VS)(node:Int):sQ X (bL B X node).2.2:=by
 unfold bL;split
 ·split <;> exact ⟨rfl,rfl⟩
 ·exact ⟨rfl,rfl⟩
theorem UB (X:VS)(k:Int):sQ X (fQ X k).2:=by
 unfold fQ;split
 ·split <;> exact ⟨rfl,rfl⟩
 ·exact ⟨rfl,rfl⟩
theorem Mh (B:Int->UInt64)(X:VS)(node:Int)(c:aA)(m:List Int):sQ X (eH B X node c m).2.2:=by
 have ht:=Mg B X node;have hd:=UB X c.more;unfold eH;split
 ·split
  ·split
   ·exact ⟨rfl,rfl⟩
   ·split
    ·exact hd
    ·exact hd
  ·by_cases hm:c.more = -1
   ·simp only [if_pos hm];split
    ·simp only;split <;> exact ht
    ·exact ht
   ·simp only [if_neg hm,if_true];split <;> exact ⟨rfl,rfl⟩
 ·exact ⟨rfl,rfl⟩
section
variable {H:Type} {enc:TypeId×Value->H} {W:World} {sp:Nat->Bool} {held:Bool}
end
def iw:List Int:=List.replicate 21 (-1)
theorem xB (i:Nat):aU iw i = -1:=by
 unfold aU iw;rw [List.getElem?_replicate];split <;> rfl
theorem _root_.Go.aN.Sl.yc {h:Heap}{a:Option Addr}{n c:Nat}{xs:List aF}(S:Sl h a n c xs)(hn:0<n):∀ b∈ay a,b<h.size:=by
 have hl:=S.hlen;obtain ⟨b,o,hb,cs,⟨rfl,_⟩,hc⟩:=S.at_ 0 (by omega);intro x hx;rw [hb] at hx;simp [ay] at hx;subst hx;exact vU (hc 0 (by simp [aF.cells]))
section
variable {h0 h h':Heap} {F:List Nat} {f:Nat} {node:Int} {V:VL} {M:aS} {c:aA} {m:List Int} {l:List aF}
end
theorem Mf {now:Int->UInt64}{node:Int}{c:aA}{m:List Int}{l:List aF}(D:eG now node c m l)(name:List UInt8):nL now c name=((jr l name).1,dA l name,0):=by
 unfold nL;rw [D.open_,if_pos rfl];simp only;rw [rR D.str]
theorem UA {a b:Int}(ha:0<=a/\a<24)(hb:0<=b/\b<24)(h:w64 (a+1)=w64 (b+1)):a=b:=by
 have h1:=qJ (a+1);have h2:=qJ (b+1);rw [h] at h1;omega
theorem eG.other {now g:Int->UInt64}{x y:Int}(hx:0<=x/\x<24)(hy:0<=y/\y<24)(hne:x≠y){c:aA}{m:List Int}{l:List aF}(D:eG now y c m l)(R:Fr0 x now g):eG g y c m l:=by
 have hxy:w64 (y+1)≠w64 (x+1):=λe=>hne (UA hx hy e.symm);have hy0:=ig hy;have key:∀ k,0<=k->k<96->now (200+k)=w64 (y+1)->g (200+k)=w64 (y+1)/\bW g (1288+k*16) 16=bW now (1288+k*16) 16:=by
  intro k h0 h1 h;obtain ⟨p,q⟩:=R.kX k h0 h1 (by rw [h];exact hxy);refine ⟨?_,q (by rw [h];exact hy0)⟩;rcases p with p|⟨p,_⟩
  ·rw [p,h]
  ·exact absurd (h ▸ p) hy0
 have back:∀ k,0<=k->k<96->g (200+k)=w64 (y+1)->now (200+k)=w64 (y+1):=by
  intro k h0 h1 h;by_cases hm:now (200+k)=w64 (x+1)
  ·rcases R.mine k h0 h1 hm with p|p
   ·exact absurd (h.symm.trans p) hxy
   ·exact absurd (h.symm.trans p) hy0
  ·rcases (R.kX k h0 h1 hm).1 with p|⟨_,p⟩
   ·rw [<-p,h]
   ·exact absurd (h.symm.trans p) hxy
 have hown:∀ k,k∈iq c.more m->0<=k/\k<96/\now (200+k)=w64 (y+1):=by
  intro k hk;obtain ⟨h1,h2⟩:=nI.1 hk;have hb:=D.wk.bH k (by rcases h1 with rfl|h1;exact List.mem_cons_self;exact List.mem_cons_of_mem _ h1);unfold nK at hb;exact ⟨by omega,by omega,(D.wk.own k (by omega) (by omega)).1 hk⟩
 have hml:=D.wk.len;have hblk:∀ i,i<21->aU m i ≠ -1->di now (aU m i)=di g (aU m i):=by
  intro i hi hu;have hm:aU m i∈m:=by
   unfold aU;rw [List.getElem?_eq_getElem (by omega)];exact List.getElem_mem _
  obtain ⟨k0,k1,ko⟩:=hown _ (nI.2 ⟨.inr hm,hu⟩);exact (key _ k0 k1 ko).2.symm
 refine ⟨?_,⟨D.wk.len,D.wk.bH,D.wk.jv,λk h0 h1=>?_⟩,D.kind,D.size,λi hi hu=>?_,?_,D.str,D.kY⟩
 ·have h:=D.map;unfold mapOf at h ⊢;by_cases hm:c.more = -1
  ·rw [if_pos hm] at h ⊢;exact h
  ·obtain ⟨k0,k1,ko⟩:=hown c.more (nI.2 ⟨.inl rfl,hm⟩);have e:dB g c.more=dB now c.more:=(key _ k0 k1 ko).2;rw [e];exact h
 ·rw [D.wk.own k h0 h1];exact ⟨λh=>(key k h0 h1 h).1,back k h0 h1⟩
 ·rw [<-hblk i hi hu];exact D.ok i hi hu
 ·rw [<-IK hblk];exact D.lU
section
variable {h0 h h':Heap} {F:List Nat} {V:VL} {M:aS} {f g:Nat} {x y:Int} {c d:aA} {m n:List Int} {l t:List aF}
end
set_option maxHeartbeats 2000000
theorem IA {B:Int->UInt64}{X:VS}{node:Int}(h:(bL B X node).2.1≠0):(bL B X node).2.2=X:=by
 unfold bL at h ⊢;split
 ·rename_i hn;rw [if_pos hn] at h;split
  ·rename_i k hk;rw [hk] at h;simp at h
  ·rfl
 ·rfl
theorem PL {B:Int->UInt64}{X:VS}{node:Int}(hn:0<=node/\node<24)(h:1<=bE B X 96):(bL B X node).2.1=0:=by
 unfold bL;rw [if_pos hn];cases hf:jZ B X 96 0 with
 | none=>exact absurd hf (Ae h)
 | some k=>rfl
theorem count_le {p q:Nat->Bool}:∀ {n:Nat},(∀ j,j<n->p j=true->q j=true)->((List.range n).filter p).length<=((List.range n).filter q).length
 | 0,_=>by simp
 | n+1,h=>by
  rw [List.range_succ,List.filter_append,List.filter_append,List.length_append,List.length_append];have ih:=count_le (n:=n) λj hj=>h j (by omega);have:(([n].filter p).length<=([n].filter q).length):=by
   have:=h n (by omega);simp only [List.filter_cons,List.filter_nil];cases hp:p n with
   | false=>simp
   | true=>rw [this hp];simp
  omega
theorem Di {B:Int->UInt64}{X:VS}{k:Int}{ws:List UInt64}(hk:k = -1\/0<=k)(hw:ws.length<=16):bE B { X with now:=bZ X.now k ws } 96=bE B X 96:=by
 unfold bE
 congr 1
 refine List.filter_congr λj hj=>?_;have hj':j<96:=by simpa using hj
 unfold iF;have:(bZ X.now k ws) (200+(j:Int))=X.now (200+(j:Int)):=by
  unfold bZ kG;rw [Dj hw,if_neg (by omega)]
 simp only [this]
theorem Dk {B:Int->UInt64}{X:VS}{node:Int}:(bL B X node).2.2={ X with now:=(bL B X node).2.2.now }:=by
 unfold bL;split
 ·split <;> rfl
 ·rfl
theorem Dl {B:Int->UInt64}{X:VS}{node:Int}(hn:0<=node/\node<24):bE B X 96<=bE B (bL B X node).2.2 96+1:=by
 by_cases h:(bL B X node).2.1=0
 ·rw [Dm hn h];exact Nat.le_refl _
 ·rw [IA h];exact Nat.le_succ _
theorem IB {B:Int->UInt64}{node:Int}(hn:0<=node/\node<24){X:VS}{c:aA}{m:List Int}:bE B X 96<=bE B (eH B X node c m).2.2 96+1/\(eH B X node c m).2.2={ X with now:=(eH B X node c m).2.2.now }:=by
 unfold eH;split
 ·rename_i hc0;have hl:=hc0.2.1;by_cases hd:(m.drop 5).any eO=false
  ·rw [if_pos hd];by_cases hc:c.more = -1
   ·rw [if_pos hc];exact ⟨Nat.le_succ _,rfl⟩
   ·rw [if_neg hc];have hle:bE B X 96<=bE B (fQ X c.more).2 96/\(fQ X c.more).2={ X with now:=(fQ X c.more).2.now }:=by
     unfold fQ;split
     ·split
      ·exact ⟨Nat.le_refl _,rfl⟩
      ·refine ⟨?_,rfl⟩;unfold bE;refine count_le λj hj hp=>?_;unfold iF at hp ⊢;simp only [Bool.and_eq_true,decide_eq_true_eq] at hp ⊢;refine ⟨hp.1,hp.2.1,?_,hp.2.2.2⟩;have:=hp.2.2.1;unfold upd;split
       ·rfl
       ·exact this
     ·exact ⟨Nat.le_refl _,rfl⟩
    split
    ·exact ⟨by simp only;omega,hle.2⟩
    ·exact ⟨by simp only;omega,hle.2⟩
  ·rw [if_neg hd];by_cases hc:c.more = -1
   ·rw [if_pos hc];simp only;by_cases ht:(bL B X node).2.1=0
    ·rw [if_pos ht];have hr:=vF ht;have:=Dm hn ht;have hx:(bL B X node).2.2={ X with now:=(bL B X node).2.2.now }:=Dk;simp only;rw [if_pos hr,Dn hr.1 (by simp [hl])];exact ⟨by omega,by rw [hx]⟩
    ·rw [if_neg ht,IA ht];exact ⟨Nat.le_succ _,rfl⟩
   ·rw [if_neg hc];simp only [if_true];split
    ·rename_i hk;rw [Dn hk.1 (by simp [hl])];exact ⟨Nat.le_succ _,rfl⟩
    ·exact ⟨Nat.le_succ _,rfl⟩
 ·exact ⟨Nat.le_succ _,rfl⟩
theorem PN {B:Int->UInt64}{X:VS}{node:Int}(hn:0<=node/\node<24){c:aA}{m:List Int}{l:List aF}(D:eG X.now node c m l)(name:List UInt8)(target:Int) :
 bE B X 96<=bE B (iW B X node c name target).2.2 96+2/\(iW B X node c name target).2.2={ X with now:=(iW B X node c name target).2.2.now }:=by
 have R:=D.wk.rQ;unfold iW;rw [D.open_];simp only [ne_eq,not_true_eq_false,if_false];split
 ·exact ⟨Nat.le_add_right _ _,rfl⟩
 split
 ·exact ⟨Nat.le_add_right _ _,rfl⟩
 split
 ·exact ⟨Nat.le_add_right _ _,rfl⟩
 have fin:∀ (Y:VS) (k:Int) (ws:List UInt64) (mm:List Int) (cc:aA),(k = -1\/0<=k)->ws.length<=16->bE B X 96<=bE B Y 96+1->Y={ X with now:=Y.now } ->
  bE B X 96<=bE B (eH B { Y with now:=bZ Y.now k ws } node cc mm).2.2 96+2/\(eH B { Y with now:=bZ Y.now k ws } node cc mm).2.2={ X with now:=(eH B { Y with now:=bZ Y.now k ws } node cc mm).2.2.now }:=by
  intro Y k ws mm cc hk hw hc hx;have FK:=IB (B:=B) (X:={ Y with now:=bZ Y.now k ws }) (c:=cc) (m:=mm) hn;rw [Di hk hw] at FK;refine ⟨by omega,?_⟩;have h2:=FK.2;rw [hx] at h2 ⊢;exact h2
 unfold j5;cases hs:gP (wordsAt X.now m) m eu 4 (bU name) with
 | some q=>
  obtain ⟨pl,k⟩:=q;simp only [not_true_eq_false,if_false,Int.toNat_natCast,vG];have hk0:=R.aU pl;have q3:=(vH hs).2.2.1;refine fin X _ _ _ _ (by omega) ?_ (Nat.le_succ _) rfl;have:=Dp (new:=w64 target::dM name 2) (tV X.now (aU m pl)) q3 (by simp [oO]);exact Nat.le_of_eq this
 | none=>
  simp only;unfold nH;cases hg:kH m 4 (bU name) with
  | none=>
   simp only;exact ⟨Nat.le_add_right _ _,rfl⟩
  | some pl=>
   simp only;by_cases e0:(bL B X node).2.1=0
   ·rw [if_pos e0];simp only [not_true_eq_false,if_false,Int.toNat_natCast];have hr:=vF e0;have q1:=(Af hg).1;have hl:=R.1;have hat:aU (m.set pl (bL B X node).1) pl=(bL B X node).1:=by rw [xC (by omega),if_pos rfl]
    refine fin (bL B X node).2.2 _ _ _ _ (by rw [hat];omega) ?_ (Dl hn) Dk;have hw:(qa (wordsAt X.now m) pl (pl:Int)).length=16:=by
     unfold qa;rw [if_pos rfl];simp
    have:=Dp (k:=0) (new:=w64 target::dM name 2) hw (by decide) (by simp [oO]);exact Nat.le_of_eq this
   ·rw [if_neg e0];simp only;rw [if_pos e0];exact ⟨Nat.le_trans (Dl hn) (Nat.le_succ _),Dk⟩
theorem IC {B:Int->UInt64}{node:Int}{X:VS}{c:aA}{m:List Int}(h:(eH B X node c m).2.1=0):(eH B X node c m).1.kind=c.kind/\(eH B X node c m).1.links=c.links/\(eH B X node c m).1.dU=c.dU:=by
 unfold eH at h ⊢;split at h
 ·rename_i h0;rw [if_pos h0];split at h
  ·rename_i h1;rw [if_pos h1];split at h
   ·rename_i h2;rw [if_pos h2];exact ⟨rfl,rfl,rfl⟩
   ·rename_i h2;rw [if_neg h2];split at h
    ·rename_i h3;rw [if_pos h3];exact ⟨rfl,rfl,rfl⟩
    ·rename_i h3;exact absurd h h3
  ·rename_i h1;rw [if_neg h1];by_cases h2:c.more = -1
   ·rw [if_pos h2] at h ⊢;simp only at h ⊢;by_cases h3:(bL B X node).2.1=0
    ·rw [if_pos h3];exact ⟨rfl,rfl,rfl⟩
    ·rw [if_neg h3] at h;exact absurd h h3
   ·rw [if_neg h2];simp [j6]
 ·simp at h
theorem IE {B:Int->UInt64}{X:VS}{node:Int}{c:aA}{at_:Int}{data:List UInt8}(h:(fZ B X node c at_ data).2.1=0):(fZ B X node c at_ data).1.kind=c.kind/\(fZ B X node c at_ data).1.links=c.links/\(fZ B X node c at_ data).1.dU=c.dU:=by
 unfold fZ at h ⊢;split at h
 ·simp at h
 rename_i h1;rw [if_neg h1];split at h
 ·rename_i h2;rw [if_pos h2];split at h
  ·simp at h
  ·exact ⟨rfl,rfl,rfl⟩
 rename_i h2;rw [if_neg h2];split at h
 ·simp at h
 rename_i h3;rw [if_neg h3];split at h
 ·simp at h
 ·rename_i m hm;simp only at h ⊢;split at h
  ·rename_i h5;rw [if_pos h5];exact IC (c:={ c with size:=max c.size (at_+data.length) }) h
  ·rename_i h5;exact absurd h h5
theorem PO {B:Int->UInt64}{node more:Int}(hn:0<=node/\node<24){X:VS}{m:List Int}(W:Wk X.now node more m){a:Nat}{data:List UInt8}{i:Nat}(hi:i<21)(h1:128*i<a+data.length)(h2:a<128*i+128)(hf:1<=bE B X 96):bE B X 96<=bE B (iP B node a data i X m).2.1 96+1:=by
 have hl:=W.len;have e0:=PL (B:=B) (X:=X) hn hf;unfold iP;have hbl:∀ (now:Int->UInt64) (k:Int),(dM (mH (dD now k) data a (a+data.length) (128*i)) 16).length<=16:=λnow k=>by rw [oO];exact Nat.le_refl _
 by_cases hm:m[i]?.getD 0 = -1
 ·rw [if_pos hm];simp only [e0,if_true];have hr:=vF e0;have hat:(m.set i (bL B X node).1)[i]?.getD 0=(bL B X node).1:=by simp [hl,hi]
  rw [hat,Di (.inr hr.1) (hbl _ _)];exact Dl hn
 ·rw [if_neg hm];simp only [if_true];have hr:=W.rQ.aU i;have e:m[i]?.getD 0=aU m i:=getD_21 hl hi;rw [e,Di (by omega) (hbl _ _)];exact Nat.le_succ _
theorem Dq {B:Int->UInt64}{node more:Int}(hn:0<=node/\node<24){a:Nat}{data:List UInt8}:∀ (f i:Nat) (X:VS) (m:List Int),Wk X.now node more m->i+f<=21->(0<f->128*(i+f-1)<a+data.length)->a<128*i+128->f<=bE B X 96 ->
 (gX B node a data f i X m).1=0/\bE B X 96<=bE B (gX B node a data f i X m).2.1 96+f/\Wk (gX B node a data f i X m).2.1.now node more (gX B node a data f i X m).2.2
 | 0,i,X,m,W,_,_,_,_=>⟨rfl,Nat.le_refl _,W⟩
 | f+1,i,X,m,W,hi,hd,ha,hf=>by
  have hd':=hd (Nat.succ_pos _);have c:=PO (B:=B) (data:=data) hn W (a:=a) (i:=i) (by omega) (by omega) ha (by omega);rcases IG (B:=B) hn W (a:=a) (data:=data) (i:=i) (by omega) (by omega) ha with ⟨_,hno⟩|S
  ·exact absurd hno (Ae (by omega))
  ·unfold gX;rw [if_pos S.e];obtain ⟨r1,r2,r3⟩:=Dq (B:=B) (a:=a) (data:=data) hn f (i+1) _ _ S.wk (by omega) (λ_=>by omega) (by omega) (by omega);exact ⟨r1,by omega,r3⟩
theorem II {B:Int->UInt64}{node:Int}(hn:0<=node/\node<24){X:VS}{c:aA}{m:List Int}{s:List UInt8}(F:gF X.now node c m s)(a:Nat)(data:List UInt8)(hroom:(a+data.length+127)/128-a/128+1<=bE B X 96) :
 (fZ B X node c (a:Int) data).2.1=(fu s (a:Int) data).2 /\
 ((fu s (a:Int) data).2=0->bE B X 96<=bE B (fZ B X node c (a:Int) data).2.2 96+((a+data.length+127)/128-a/128+1)/\∃ m',Wrote node X m (a:Int) data (fu s (a:Int) data).1 (fZ B X node c (a:Int) data) m'):=by
 rcases Dr (B:=B) hn F (a:Int) data with ⟨h9,h0,_⟩|⟨he,hw⟩
 ·exfalso;unfold fu at h0;unfold fZ at h9;by_cases h1:(a:Int)<0\/400<data.length
  ·rw [if_pos h1] at h0;simp at h0
  rw [if_neg h1] at h0;rw [if_neg (by rintro (x|x);exact x hn;exact h1 x)] at h9;by_cases h2:data=[]
  ·rw [if_pos h2,F.map] at h9;simp at h9
  rw [if_neg h2] at h0 h9;by_cases h3:2688-(data.length:Int)<(a:Int)
  ·rw [if_pos h3] at h0;simp at h0
  rw [if_neg h3,F.map] at h9;simp only [Int.toNat_natCast] at h9;have hdl:0<data.length:=List.length_pos_iff.2 h2;obtain ⟨r1,r2,r3⟩:=Dq (B:=B) hn (a:=a) (data:=data) ((a+data.length+127)/128-a/128) (a/128) X m F.wk (by omega) (λ_=>by omega) (by omega) (by omega);rw [r1] at h9;simp only [if_true] at h9;have K:=Dt (B:=B) (c:={ c with size:=max c.size ((a:Int)+data.length) }) hn r3 (by omega);rw [K.e] at h9;cases h9
 ·refine ⟨he,λh0=>⟨?_,hw h0⟩⟩;unfold fu at h0;unfold fZ;by_cases h1:(a:Int)<0\/400<data.length
  ·rw [if_pos h1] at h0;simp at h0
  rw [if_neg (by rintro (x|x);exact x hn;exact h1 x)];rw [if_neg h1] at h0;by_cases h2:data=[]
  ·rw [if_pos h2,F.map];simp only;omega
  rw [if_neg h2] at h0 ⊢;by_cases h3:2688-(data.length:Int)<(a:Int)
  ·rw [if_pos h3] at h0;simp at h0
  rw [if_neg h3,F.map];simp only [Int.toNat_natCast];have hdl:0<data.length:=List.length_pos_iff.2 h2;obtain ⟨r1,r2,r3⟩:=Dq (B:=B) hn (a:=a) (data:=data) ((a+data.length+127)/128-a/128) (a/128) X m F.wk (by omega) (λ_=>by omega) (by omega) (by omega);rw [r1];simp only [if_true];have K:=(IB (B:=B) (X:=(gX B node a data ((a+data.length+127)/128-a/128) (a/128) X m).2.1) (c:={ c with size:=max c.size ((a:Int)+data.length) }) (m:=(gX B node a data ((a+data.length+127)/128-a/128) (a/128) X m).2.2) hn).1;omega
def jd (s:List UInt8)(at_ n:Int):List UInt8×Int:=
 if at_<0\/n<0\/4096<n then ([],1)
 else if (s.length:Int)<=at_ then ([],0) else ((s.take (min (s.length:Int) (at_+n)).toNat).drop at_.toNat,0)
theorem gF.bytes {now:Int->UInt64}{node:Int}{c:aA}{m:List Int}{s:List UInt8}(F:gF now node c m s):(iC now m).take s.length=s:=by
 have hl:=AX (now:=now) m;have hm:=F.wk.len;have hf:=F.fits;apply List.ext_getElem?;intro p;rw [List.getElem?_take];by_cases h:p<s.length
 ·rw [if_pos h,J2 m p (by omega),F.aQ p (by omega)];simp [h]
 ·rw [if_neg h,List.getElem?_eq_none (by omega)]
theorem FY {now:Int->UInt64}{node:Int}{c:aA}{m:List Int}{s:List UInt8}(F:gF now node c m s)(at_ n:Int):oZ now c at_ n=jd s at_ n:=by
 unfold oZ jd;split
 ·rfl
 ·rename_i h;rw [F.map,F.size];simp only;split
  ·rfl
  ·rename_i h2;have hb:=F.bytes
   congr 2
   have e:(iC now m).take (min (s.length:Int) (at_+n)).toNat=s.take (min (s.length:Int) (at_+n)).toNat:=by
    generalize hX:(min (s.length:Int) (at_+n)).toNat=x;have e2:s.take x=((iC now m).take s.length).take x:=by rw [hb]
    rw [e2,List.take_take]
    congr 1;omega
   exact e
theorem gF.szr {now:Int->UInt64}{node:Int}{c:aA}{m:List Int}{s:List UInt8}(F:gF now node c m s):0<=c.size/\c.size<=2688:=by
 have:=F.size;have:=F.fits;omega
def m0:List Int:=List.replicate 21 (-1)
structure Mi (node more:Int)(X:VS)(m:List Int)(z:Nat)(size:Int)(i f:Nat)(r:Int×VS×List Int):Prop where
 e:r.1=0
 x:r.2.1={ X with now:=r.2.1.now }
 wk:Wk r.2.1.now node more r.2.2
 fr:Fr node X.now r.2.1.now
 yh:more ≠ -1->dB r.2.1.now more=dB X.now more
 aQ:∀ p,p<2688->fb r.2.1.now r.2.2 p=if ((z:Int)<size)/\i<=p/128/\p/128<i+f/\z<=p then 0 else fb X.now m p
 holes:∀ j,j<21->(r.2.2[j]?.getD (-1) = -1↔m[j]?.getD (-1) = -1\/((z:Int)<size/\i<=j/\j<i+f/\z<=128*j))
theorem UM {node more:Int}(hn:0<=node/\node<24){X:VS}{m:List Int}(W:Wk X.now node more m){z:Nat}{size:Int}{i:Nat}(hi:i<21):Mi node more X m z size i 1 (kL z size i X m):=by
 have hl:=W.len;unfold kL;rw [getD_21 hl hi];by_cases h1:m[i]?.getD (-1) = -1\/size<=(z:Int)\/128*i+128<=z
 ·rw [if_pos h1];refine ⟨rfl,rfl,W,Fr.refl _ _,λ_=>rfl,λp hp=>?_,λj hj=>⟨.inl,λh=>?_⟩⟩
  ·simp only;split
   ·rename_i hc;have hpi:p/128=i:=by omega
    rcases h1 with h1|h1|h1
    ·unfold fb;rw [hpi,h1];unfold dD;rw [if_pos rfl,Dh]
    ·omega
    ·omega
   ·rfl
  ·rcases h with h|h
   ·exact h
   ·have:j=i:=by omega
    subst this;rcases h1 with h1|h1|h1
    ·exact h1
    ·omega
    ·omega
 ·rw [if_neg h1];have hm:m[i]?.getD (-1) ≠ -1:=λh=>h1 (.inl h);have hs:(z:Int)<size:=by
   refine Classical.byContradiction λh=>h1 (.inr (.inl (by omega)))
  have hz:¬ 128*i+128<=z:=λh=>h1 (.inr (.inr h));by_cases h2:z<=128*i
  ·rw [if_pos h2];obtain ⟨hk,ho,W1,F1,M1,B1⟩:=W.drop_at hn hi rfl hm;have hdr:fQ X (m[i]?.getD (-1))=(0,{ X with now:=upd X.now (200+m[i]?.getD (-1)) 0 }):=by
    unfold fQ;rw [if_pos hk,if_neg (by rw [ho];exact ig hn)]
   rw [hdr];refine ⟨rfl,rfl,W1,F1,M1,λp hp=>?_,λj hj=>?_⟩
   ·simp only;rw [B1 p hp];by_cases hpi:p/128=i
    ·rw [if_pos hpi,if_pos ⟨hs,by omega,by omega,by omega⟩]
    ·rw [if_neg hpi,if_neg (by omega)]
   ·simp only;by_cases hji:j=i
    ·subst hji;have:(m.set j (-1))[j]?.getD (-1) = -1:=by simp [hl,hj]
     rw [this];exact ⟨λ_=>.inr ⟨hs,by omega,by omega,h2⟩,λ_=>rfl⟩
    ·rw [List.getElem?_set_ne (λx=>hji x.symm)];exact ⟨.inl,λh=>by rcases h with h|h;exact h;omega⟩
  ·rw [if_neg h2];have hbl:=kZ X.now (m[i]?.getD (-1));obtain ⟨W2,F2,M2,B2⟩:=W.put hi (l:=(dD X.now (m[i]?.getD (-1))).take (z-128*i)) (by rw [List.length_take];omega) rfl hm;refine ⟨rfl,rfl,W2,F2,M2,λp hp=>?_,λj hj=>?_⟩
   ·simp only;rw [B2 p hp];by_cases hpi:p/128=i
    ·rw [if_pos hpi,List.getElem?_take];by_cases hpz:z<=p
     ·rw [if_neg (by omega),if_pos ⟨hs,by omega,by omega,hpz⟩];rfl
     ·rw [if_pos (by omega),if_neg (by omega)];unfold fb;rw [hpi]
    ·rw [if_neg hpi,if_neg (by omega)]
   ·simp only;exact ⟨.inl,λh=>by rcases h with h|h;exact h;omega⟩
theorem Mj {node more:Int}(hn:0<=node/\node<24){z:Nat}{size:Int}:∀ (f i:Nat) (X:VS) (m:List Int),Wk X.now node more m->i+f<=21->Mi node more X m z size i f (lC z size f i X m)
 | 0,i,X,m,W,_=>by
  unfold lC;refine ⟨rfl,rfl,W,Fr.refl _ _,λ_=>rfl,λp hp=>?_,λj hj=>⟨.inl,λh=>by rcases h with h|h;exact h;omega⟩⟩;simp only;rw [if_neg (by omega)]
 | f+1,i,X,m,W,hf=>by
  unfold lC;have S:=UM hn W (z:=z) (size:=size) (i:=i) (by omega);rw [S.e];simp only [if_true];have R:=Mj (z:=z) (size:=size) hn f (i+1) (kL z size i X m).2.1 (kL z size i X m).2.2 S.wk (by omega);refine ⟨R.e,?_,R.wk,S.fr.trans R.fr (ig hn),λh=>(R.yh h).trans (S.yh h),λp hp=>?_,λj hj=>?_⟩
  ·rw [R.x,S.x]
  ·rw [R.aQ p hp,S.aQ p hp];by_cases c3:(z:Int)<size/\i+1<=p/128/\p/128<i+1+f/\z<=p
   ·rw [if_pos c3,if_pos ⟨c3.1,by omega,by omega,c3.2.2.2⟩]
   ·rw [if_neg c3];by_cases c4:(z:Int)<size/\i<=p/128/\p/128<i+1/\z<=p
    ·rw [if_pos c4,if_pos ⟨c4.1,c4.2.1,by omega,c4.2.2.2⟩]
    ·rw [if_neg c4,if_neg (by omega)]
  ·rw [R.holes j hj,S.holes j hj]
   constructor
   ·rintro ((h|h)|h)
    ·exact .inl h
    ·exact .inr ⟨h.1,by omega,by omega,h.2.2.2⟩
    ·exact .inr ⟨h.1,by omega,by omega,h.2.2.2⟩
   ·rintro (h|h)
    ·exact .inl (.inl h)
    ·by_cases hji:j=i
     ·exact .inl (.inr ⟨h.1,by omega,by omega,h.2.2.2⟩)
     ·exact .inr ⟨h.1,by omega,by omega,h.2.2.2⟩
def ic (s:List UInt8)(size:Int):List UInt8×Int:=
 if size<0 then ([],1)
 else if 2688<size then ([],10)
 else if size<=(s.length:Int) then (s.take size.toNat,0) else (s++zeros (size.toNat-s.length),0)
theorem UN (s:List UInt8)(z:Nat)(p:Nat):(if (z:Int)<=(s.length:Int) then s.take z else s++zeros (z-s.length))[p]?.getD 0=if (z:Int)<(s.length:Int)/\z<=p then 0 else s[p]?.getD 0:=by
 split
 ·rw [List.getElem?_take];by_cases h:p<z
  ·rw [if_pos h,if_neg (by omega)]
  ·rw [if_neg h];split
   ·rfl
   ·rw [List.getElem?_eq_none (by omega)]
 ·rw [Ef,if_neg (by omega)]
theorem FX (s:List UInt8)(z:Nat):(if (z:Int)<=(s.length:Int) then s.take z else s++zeros (z-s.length)).length=z:=by
 split
 ·rw [List.length_take];omega
 ·simp [zeros];omega
theorem Ml {B:Int->UInt64}{node:Int}(hn:0<=node/\node<24){X:VS}{c:aA}{m:List Int}{s:List UInt8}(F:gF X.now node c m s)(size:Int) :
 (ja B X node c size).2.1=(ic s size).2/\((ic s size).2=0->∃ m',gF (ja B X node c size).2.2.now node (ja B X node c size).1 m' (ic s size).1/\Fr node X.now (ja B X node c size).2.2.now/\(ja B X node c size).2.2={ X with now:=(ja B X node c size).2.2.now } /\
  ∀ j:Nat,j<21->(m'[j]?.getD (-1) = -1↔m[j]?.getD (-1) = -1\/(size<s.length/\size<=128*(j:Int)))):=by
 unfold ja ic;by_cases h1:size<0
 ·rw [if_pos (.inr h1),if_pos h1];exact ⟨rfl,λh=>by cases h⟩
 ·rw [if_neg (by rintro (x|x);exact x hn;exact h1 x),if_neg h1];by_cases h2:2688<size
  ·rw [if_pos h2,if_pos h2];exact ⟨rfl,λh=>by cases h⟩
  ·rw [if_neg h2,if_neg h2,F.map];simp only;obtain ⟨z,rfl⟩:∃ z:Nat,size=(z:Int):=⟨size.toNat,by omega⟩;simp only [Int.toNat_natCast];have R:=Mj (z:=z) (size:=c.size) hn 21 0 X m F.wk (by omega);rw [R.e];simp only [if_true];have hsz:=F.size;have hfit:=F.fits;have hlr:=R.wk.len;have hc:({ c with size:=(z:Int) }:aA).more=c.more:=rfl;have hmono:(((lC z c.size 21 0 X m).2.2).drop 5).any eO=true->(m.drop 5).any eO=true:=by
    intro h;rw [List.any_eq_true] at h ⊢;obtain ⟨x,hx,hu⟩:=h;rw [List.mem_drop_iff_getElem] at hx;obtain ⟨j,hj,rfl⟩:=hx;have h5:5+j<21:=by omega
    have hh:=R.holes (5+j) h5;rw [R.wk.at_ h5,F.wk.at_ h5] at hh;have hne:=jE.1 hu;have hml:=F.wk.len;refine ⟨m[5+j],?_,jE.2 λe=>hne (hh.2 (.inl e))⟩;rw [List.mem_drop_iff_getElem];exact ⟨j,by omega,rfl⟩
   have UO:(if (z:Int)<=(s.length:Int) then (s.take z,(0:Int)) else (s++zeros (z-s.length),0))=(if (z:Int)<=(s.length:Int) then s.take z else s++zeros (z-s.length),0):=by split <;> rfl
   rw [UO];rcases tY (B:=B) (c:={ c with size:=(z:Int) }) hn (hc ▸ R.wk) with ⟨_,_,hmo,UQ⟩|K
   ·exact absurd (F.kY.1 hmo) (by rw [hmono UQ];decide)
   ·refine ⟨K.e,λ_=>⟨(lC z c.size 21 0 X m).2.2,?_,R.fr.trans K.fr (ig hn),by rw [K.x,R.x],λj hj=>?_⟩⟩
    ·have hcc:=K.c_;refine ⟨K.map,K.wk,?_,?_,?_,λp hp=>?_,λj hj hs=>?_,K.kY⟩
     ·rw [hcc];exact F.kind
     ·rw [hcc,FX];rfl
     ·rw [FX];omega
     ·rw [K.aQ p hp,R.aQ p hp,UN,F.aQ p hp,hsz];by_cases hq:(z:Int)<(s.length:Int)/\z<=p
      ·rw [if_pos ⟨hq.1,by omega,by omega,hq.2⟩,if_pos hq]
      ·rw [if_neg (λh=>hq ⟨h.1,h.2.2.2⟩),if_neg hq]
     ·rw [FX] at hs;refine (R.holes j hj).2 ?_;rw [hsz];by_cases hq:(z:Int)<(s.length:Int)
      ·exact .inr ⟨hq,by omega,by omega,hs⟩
      ·exact .inl (F.hol j hj (by omega))
    ·rw [R.holes j hj,hsz]
     constructor
     ·rintro (h|h)
      ·exact .inl h
      ·exact .inr ⟨h.1,by omega⟩
     ·rintro (h|h)
      ·exact .inl h
      ·exact .inr ⟨h.1,by omega,by omega,by omega⟩
theorem Dg {a b:Int}(ha:0<=a/\a<24)(hb:0<=b/\b<24)(h:w64 (a+1)=w64 (b+1)):a=b:=by
 have h1:=qJ (a+1);have h2:=qJ (b+1);rw [h] at h1;omega
theorem gF.other {now g:Int->UInt64}{x y:Int}(hx:0<=x/\x<24)(hy:0<=y/\y<24)(hne:x≠y){c:aA}{m:List Int}{s:List UInt8}(F:gF now y c m s)(R:Fr0 x now g):gF g y c m s:=by
 have hxy:w64 (y+1)≠w64 (x+1):=λe=>hne (Dg hx hy e.symm);have hy0:=ig hy;have key:∀ k,0<=k->k<96->now (200+k)=w64 (y+1)->g (200+k)=w64 (y+1)/\bW g (1288+k*16) 16=bW now (1288+k*16) 16:=by
  intro k h0 h1 h;obtain ⟨p,q⟩:=R.kX k h0 h1 (by rw [h];exact hxy);refine ⟨?_,q (by rw [h];exact hy0)⟩;rcases p with p|⟨p,_⟩
  ·rw [p,h]
  ·exact absurd (h ▸ p) hy0
 have back:∀ k,0<=k->k<96->g (200+k)=w64 (y+1)->now (200+k)=w64 (y+1):=by
  intro k h0 h1 h;by_cases hm:now (200+k)=w64 (x+1)
  ·rcases R.mine k h0 h1 hm with p|p
   ·exact absurd (h.symm.trans p) hxy
   ·exact absurd (h.symm.trans p) hy0
  ·rcases (R.kX k h0 h1 hm).1 with p|⟨_,p⟩
   ·rw [<-p,h]
   ·exact absurd (h.symm.trans p) hxy
 have hown:∀ k,k∈iq c.more m->0<=k/\k<96/\now (200+k)=w64 (y+1):=by
  intro k hk;obtain ⟨h1,h2⟩:=nI.1 hk;have hb:=F.wk.bH k (by rcases h1 with rfl|h1;exact List.mem_cons_self;exact List.mem_cons_of_mem _ h1);unfold nK at hb;exact ⟨by omega,by omega,(F.wk.own k (by omega) (by omega)).1 hk⟩
 refine ⟨?_,⟨F.wk.len,F.wk.bH,F.wk.jv,λk h0 h1=>?_⟩,F.kind,F.size,F.fits,λp hp=>?_,F.hol,F.kY⟩
 ·have h:=F.map;unfold mapOf at h ⊢;by_cases hm:c.more = -1
  ·rw [if_pos hm] at h ⊢;exact h
  ·obtain ⟨k0,k1,ko⟩:=hown c.more (nI.2 ⟨.inl rfl,hm⟩);have e:dB g c.more=dB now c.more:=(key _ k0 k1 ko).2;rw [e];exact h
 ·rw [F.wk.own k h0 h1];exact ⟨λh=>(key k h0 h1 h).1,back k h0 h1⟩
 ·rw [F.wk.AJ (λk hk h0 h1=>?_) p hp,F.aQ p hp];exact (key k h0 h1 (hown k (nI.2 ⟨.inr hk,by omega⟩)).2.2).2
def dH:List UInt8->List (List UInt8)
 | []=>[[]]
 | c::l=>if c=47 then []::dH l else (match dH l with
  | []=>[[c]]
  | x::r=>(c::x)::r)
def bM (l:List (List UInt8)):List UInt8:=l.flatMap λx=>47::x
theorem za (s:List UInt8):dH s≠[]:=by
 cases s with
 | nil=>simp [dH]
 | cons c l=>
  unfold dH;split
  ·simp
  ·split <;> simp
theorem Ce:∀ s:List UInt8,bM (dH s)=47::s
 | []=>rfl
 | c::l=>by
  have ih:=Ce l;unfold dH;by_cases h:c=47
  ·rw [if_pos h];show 47::[]++bM (dH l)=_;rw [ih,h];rfl
  ·rw [if_neg h];cases hc:dH l with
   | nil=>exact absurd hc (za l)
   | cons x r=>
    rw [hc] at ih;simp only;have e:bM (x::r)=47::(x++bM r):=by simp [bM]
    rw [e] at ih;have e2:bM ((c::x)::r)=47::c::(x++bM r):=by simp [bM]
    rw [e2];have:=(List.cons.inj ih).2;rw [this]
theorem FR:∀ {x:List UInt8},47∉x->dH x=[x]
 | [],_=>rfl
 | c::x,h=>by
  have h1:c≠47:=λe=>h (by simp [e]);have ih:=FR (x:=x) (λe=>h (by simp [e]));unfold dH;rw [if_neg h1,ih]
theorem FT:∀ {x:List UInt8} {s:List UInt8},47∉x->dH (x++47::s)=x::dH s
 | [],s,_=>by
  show dH (47::s)=_
  conv=>lhs;unfold dH
  rw [if_pos rfl]
 | c::x,s,h=>by
  have h1:c≠47:=λe=>h (by simp [e]);have ih:=FT (x:=x) (s:=s) (λe=>h (by simp [e]));show dH (c::(x++47::s))=_
  conv=>lhs;unfold dH
  rw [if_neg h1,ih]
theorem Mc:∀ {l:List (List UInt8)} {x:List UInt8},(∀ y∈x::l,47∉y)->dH (x++bM l)=x::l
 | [],x,h=>by
  show dH (x++[])=_;rw [List.append_nil,FR (h x (by simp))]
 | y::l,x,h=>by
  have e:bM (y::l)=47::(y++bM l):=by simp [bM]
  rw [e,FT (h x (by simp)),Mc λz hz=>h z (by simp only [List.mem_cons] at hz ⊢;exact .inr hz)]
theorem Uu {x:List UInt8}(h:dI x=true):47∉x:=by
 intro hm;unfold dI at h;simp only [Bool.and_eq_true] at h;have:=List.all_eq_true.1 h.1 47 hm
 revert this
 decide
def bC (s:List UInt8):Option (List (List UInt8)):=
 match s with
 | []=>none
 | c::r=>if c≠47\/120<s.length then none else if r=[] then some [] else if (dH r).all dI=true then some (dH r) else none
theorem Uv {l:List (List UInt8)}(h:l.all dI=true)(hl:(bM l).length<=120):bC (if l=[] then [47] else bM l)=some l:=by
 cases l with
 | nil=>simp [bC]
 | cons x r=>
  rw [if_neg (by simp)];have e:bM (x::r)=47::(x++bM r):=by simp [bM]
  have hn:∀ y∈x::r,47∉y:=λy hy=>Uu (List.all_eq_true.1 h y hy);have hx:x≠[]:=by
   intro e0;have:=List.all_eq_true.1 h x (by simp);rw [e0] at this
   revert this;decide
  rw [e] at hl ⊢;unfold bC;simp only;rw [if_neg (by simp only [ne_eq,not_true_eq_false,false_or];omega),if_neg (by simp [hx]),Mc hn,if_pos h]
theorem FU:∀ {l:List (List UInt8)},(∀ x∈l,x≠[])->2*l.length<=(bM l).length
 | [],_=>by simp [bM]
 | x::l,h=>by
  have ih:=FU (l:=l) λy hy=>h y (by simp [hy]);have hx:0<x.length:=List.length_pos_iff.2 (h x (by simp));have e:(bM (x::l)).length=x.length+1+(bM l).length:=by simp [bM];omega
  rw [e,List.length_cons];omega
theorem Md {x:List UInt8}(h:dI x=true):x≠[]:=by
 rintro rfl
 revert h;decide
theorem jX {s:List UInt8}{l:List (List UInt8)}(h:bC s=some l):l.length<=60/\l.all dI=true/\s.length<=120/\(if l=[] then [47] else bM l)=s:=by
 unfold bC at h;split at h
 ·cases h
 ·rename_i c r;split at h
  ·cases h
  ·rename_i h1;split at h
   ·rename_i h2;cases h;subst h2;have h3:c=47:=by simpa using λe=>h1 (.inl e)
    exact ⟨by simp,rfl,by omega,by simp [h3]⟩
   ·rename_i h2;split at h
    ·rename_i h3;cases h;have hc:c=47:=by
      apply Classical.byContradiction;intro e;exact h1 (.inl e)
     have hj:=Ce r;have hn:=FU (l:=dH r) λx hx=>Md (List.all_eq_true.1 h3 x hx);rw [hj] at hn;have hl:(c::r).length<=120:=by omega
     simp only [List.length_cons] at hn hl;refine ⟨by omega,h3,by simpa using hl,?_⟩;rw [if_neg (za r),hj,hc]
    ·cases h
structure Fs where
 kind:Int->Int
 find:Int->List UInt8->Option Int
 data:Int->List UInt8
def dn (F:Fs)(root:Int)(follow:Bool):Nat->Int->Nat->List (List UInt8)->Int×Int
 | 0,_,_,_=>(0,-1)
 | f+1,at_,links,l=>(match l with
  | []=>(at_,0)
  | name::rest=>
   if F.kind at_≠2 then (0,6)
   else (match F.find at_ name with
    | none=>(0,4)
    | some next=>
     if F.kind next≠3\/(rest=[]/\follow=false) then dn F root follow f next links rest
     else if 8<links+1 then (0,11)
     else (match bC (F.data next) with
      | none=>(0,15)
      | some head=>dn F root follow f root (links+1) (head++rest))))
structure Alike (F G:Fs)(φ:Int->Int)(S:Int->Prop):Prop where
 kind:∀ x,S x->G.kind (φ x)=F.kind x
 find:∀ x n,S x->F.kind x=2->G.find (φ x) n=(F.find x n).map φ
 stay:∀ x n y,S x->F.kind x=2->F.find x n=some y->S y
 data:∀ x,S x->F.kind x=3->G.data (φ x)=F.data x
theorem qE {F G:Fs}{φ:Int->Int}{S:Int->Prop}(A:Alike F G φ S){root:Int}(hr:S root){follow:Bool}:∀ (f:Nat) (at_:Int) (links:Nat) (l:List (List UInt8)),S at_ ->
 (dn G (φ root) follow f (φ at_) links l).2=(dn F root follow f at_ links l).2 /\
 ((dn F root follow f at_ links l).2=0->(dn G (φ root) follow f (φ at_) links l).1=φ (dn F root follow f at_ links l).1/\S (dn F root follow f at_ links l).1)
 | 0,at_,links,l,_=>⟨rfl,λh=>by cases h⟩
 | f+1,at_,links,[],hs=>⟨rfl,λ_=>⟨rfl,hs⟩⟩
 | f+1,at_,links,name::rest,hs=>by
  unfold dn;simp only;by_cases hk:F.kind at_=2
  ·rw [A.kind at_ hs,A.find at_ name hs hk];rw [if_neg (by simp [hk]),if_neg (by simp [hk])];cases hf:F.find at_ name with
   | none=>exact ⟨rfl,λh=>by simp at h⟩
   | some next=>
    have hn:=A.stay at_ name next hs hk hf;simp only [Option.map_some];rw [A.kind next hn];by_cases hc:F.kind next≠3\/(rest=[]/\follow=false)
    ·rw [if_pos hc,if_pos hc];exact qE A hr f next links rest hn
    ·rw [if_neg hc,if_neg hc];have h3:F.kind next=3:=by
      by_cases e:F.kind next=3
      ·exact e
      ·exact absurd (.inl e) hc
     by_cases hl:8<links+1
     ·rw [if_pos hl,if_pos hl];exact ⟨rfl,λh=>by simp at h⟩
     ·rw [if_neg hl,if_neg hl,A.data next hn h3];cases hp:bC (F.data next) with
      | none=>exact ⟨rfl,λh=>by simp at h⟩
      | some head=>exact qE A hr f root (links+1) (head++rest) hr
  ·rw [A.kind at_ hs,if_pos hk,if_pos hk];exact ⟨rfl,λh=>by simp at h⟩
def mW (width:Nat):UInt64:=UInt64.ofNat (2 ^ width-1)
def fU (w:UInt64)(at_ width:Nat)(v:UInt64):UInt64:=(w &&& ~~~(mW width <<< UInt64.ofNat at_)) ||| (v <<< UInt64.ofNat at_)
def l7 (w:UInt64)(at_ width:Nat):UInt64:=(w >>> UInt64.ofNat at_) &&& mW width
theorem Uw {n:Nat}(h:n<=63):2 ^ n<18446744073709551616:=by
 have:2 ^ n<=2 ^ 63:=Nat.pow_le_pow_right (by decide) h;omega
theorem FV {width:Nat}(h:width<=63):(mW width).toNat=2 ^ width-1:=by
 unfold mW;have:=Uw h;rw [UInt64.toNat_ofNat'];omega
theorem zb {n:Nat}(h:n<=63):(UInt64.ofNat n).toNat=n:=by
 rw [UInt64.toNat_ofNat'];omega
theorem FW (w:UInt64){at_ width:Nat}(h1:at_<=63)(h2:width<=63):(l7 w at_ width).toNat=w.toNat/2 ^ at_%2 ^ width:=by
 unfold l7;rw [UInt64.toNat_and,UInt64.toNat_shiftRight,zb h1,FV h2,Nat.and_two_pow_sub_one_eq_mod,Nat.shiftRight_eq_div_pow];rw [Nat.mod_eq_of_lt (show at_<64 by omega)]
theorem rD {w v:UInt64}{at_ width:Nat}(h:at_+width<=64)(h1:1<=width)(h2:width<=63)(hw:w.toNat<2 ^ at_)(hv:v.toNat<2 ^ width):(fU w at_ width v).toNat=w.toNat+v.toNat*2 ^ at_:=by
 have ha:at_<=63:=by omega
 have hand:w &&& ~~~(mW width <<< UInt64.ofNat at_)=w:=by
  apply UInt64.toBitVec_inj.1;apply BitVec.eq_of_getLsbD_eq;intro i hi;have hwb:w.toBitVec.getLsbD i=true->i<at_:=by
   intro hb;rcases Nat.lt_or_ge i at_ with h|h
   ·exact h
   ·have:w.toNat<2 ^ i:=Nat.lt_of_lt_of_le hw (Nat.pow_le_pow_right (by decide) h);have hf:w.toBitVec.getLsbD i=false:=by
     rw [BitVec.getLsbD];exact Nat.testBit_lt_two_pow this
    rw [hf] at hb;cases hb
  have hsh:(mW width <<< UInt64.ofNat at_).toBitVec=(mW width).toBitVec <<< at_:=by
   apply BitVec.eq_of_toNat_eq;have e:=UInt64.toNat_shiftLeft (mW width) (UInt64.ofNat at_);rw [zb ha,Nat.mod_eq_of_lt (show at_<64 by omega)] at e;show (mW width <<< UInt64.ofNat at_).toNat=_;rw [e,BitVec.toNat_shiftLeft];rfl
  rw [UInt64.toBitVec_and,UInt64.toBitVec_not,hsh];rw [BitVec.getLsbD_and,BitVec.getLsbD_not,BitVec.getLsbD_shiftLeft];cases hb:w.toBitVec.getLsbD i with
  | false=>rfl
  | true=>
   have:=hwb hb;simp [hi,this]
 unfold fU;rw [hand,UInt64.toNat_or,UInt64.toNat_shiftLeft,zb ha,Nat.mod_eq_of_lt (show at_<64 by omega)];have hlt:v.toNat*2 ^ at_<2 ^ 64:=by
  have h3:v.toNat*2 ^ at_<2 ^ width*2 ^ at_:=Nat.mul_lt_mul_of_pos_right hv (Nat.two_pow_pos _);rw [<-Nat.pow_add] at h3;exact Nat.lt_of_lt_of_le h3 (Nat.pow_le_pow_right (by decide) (by omega))
 rw [Nat.shiftLeft_eq,Nat.mod_eq_of_lt hlt,Nat.or_comm,<-Nat.shiftLeft_eq,<-Nat.shiftLeft_add_eq_or_of_lt hw,Nat.shiftLeft_eq,Nat.add_comm]
def uR (c:aA):UInt64:=fU (fU (fU 0 0 8 (w64 c.kind)) 8 16 (w64 c.links)) 24 32 (w64 c.size)
def ze (c:aA):UInt64:=fU (fU (fU (fU 0 0 16 (w64 (c.d0+1))) 16 16 (w64 (c.d1+1))) 32 16 (w64 (c.d2+1))) 48 16 (w64 (c.d3+1))
def zf (c:aA):UInt64:=fU (fU 0 0 16 (w64 (c.d4+1))) 16 16 (w64 (c.more+1))
def fP (c:aA):List UInt64:=[uR c,c.dU,ze c,zf c,0,0,0,0]
def mX (ws:List UInt64)(i at_ width:Nat):Int:=((l7 (ws[i]?.getD 0) at_ width).toNat:Int)
def nW (ws:List UInt64):aA:=⟨mX ws 0 0 8,mX ws 0 8 16,mX ws 0 24 32,ws[1]?.getD 0,mX ws 2 0 16-1,mX ws 2 16 16-1,mX ws 2 32 16-1,mX ws 2 48 16-1,mX ws 3 0 16-1,mX ws 3 16 16-1⟩
def gU (ws:List UInt64):Option aA:=if ws.length=8/\fV (nW ws)=true/\fP (nW ws)=ws then some (nW ws) else none
structure rP (c:aA):Prop where
 k:0<=c.kind/\c.kind<=3
 l:0<=c.links/\c.links<=255
 s:0<=c.size/\c.size<=2688
 d0 : -1<=c.d0/\c.d0<96
 d1 : -1<=c.d1/\c.d1<96
 d2 : -1<=c.d2/\c.d2<96
 d3 : -1<=c.d3/\c.d3<96
 d4 : -1<=c.d4/\c.d4<96
 m : -1<=c.more/\c.more<96
theorem jT {x:Int}(h0:0<=x)(h1:x<4294967296):(w64 x).toNat=x.toNat:=by
 have:=qJ x;omega
theorem Ux {c:aA}(B:rP c):(uR c).toNat=c.kind.toNat+c.links.toNat*256+c.size.toNat*16777216:=by
 have hk:=B.k;have hl:=B.l;have hs:=B.s;unfold uR;have e1:(fU 0 0 8 (w64 c.kind)).toNat=c.kind.toNat:=by
  rw [rD (by decide) (by decide) (by decide) (by decide) (by rw [jT hk.1 (by omega)];omega),jT hk.1 (by omega)];simp
 have e2:(fU (fU 0 0 8 (w64 c.kind)) 8 16 (w64 c.links)).toNat=c.kind.toNat+c.links.toNat*256:=by
  rw [rD (by decide) (by decide) (by decide) (by rw [e1];omega) (by rw [jT hl.1 (by omega)];omega),jT hl.1 (by omega),e1]
 rw [rD (by decide) (by decide) (by decide) (by rw [e2];omega) (by rw [jT hs.1 (by omega)];omega),jT hs.1 (by omega),e2]
theorem Uy {c:aA}(B:rP c):(ze c).toNat=(c.d0+1).toNat+(c.d1+1).toNat*65536+(c.d2+1).toNat*4294967296+(c.d3+1).toNat*281474976710656:=by
 have h0:=B.d0;have h1:=B.d1;have h2:=B.d2;have h3:=B.d3;unfold ze;have e1:(fU 0 0 16 (w64 (c.d0+1))).toNat=(c.d0+1).toNat:=by
  rw [rD (by decide) (by decide) (by decide) (by decide) (by rw [jT (by omega) (by omega)];omega),jT (by omega) (by omega)];simp
 have e2:(fU (fU 0 0 16 (w64 (c.d0+1))) 16 16 (w64 (c.d1+1))).toNat=(c.d0+1).toNat+(c.d1+1).toNat*65536:=by
  rw [rD (by decide) (by decide) (by decide) (by rw [e1];omega) (by rw [jT (by omega) (by omega)];omega),jT (by omega) (by omega),e1]
 have e3:(fU (fU (fU 0 0 16 (w64 (c.d0+1))) 16 16 (w64 (c.d1+1))) 32 16 (w64 (c.d2+1))).toNat=(c.d0+1).toNat+(c.d1+1).toNat*65536+(c.d2+1).toNat*4294967296:=by
  rw [rD (by decide) (by decide) (by decide) (by rw [e2];omega) (by rw [jT (by omega) (by omega)];omega),jT (by omega) (by omega),e2]
 rw [rD (by decide) (by decide) (by decide) (by rw [e3];omega) (by rw [jT (by omega) (by omega)];omega),jT (by omega) (by omega),e3]
theorem Uz {c:aA}(B:rP c):(zf c).toNat=(c.d4+1).toNat+(c.more+1).toNat*65536:=by
 have h0:=B.d4;have h1:=B.m;unfold zf;have e1:(fU 0 0 16 (w64 (c.d4+1))).toNat=(c.d4+1).toNat:=by
  rw [rD (by decide) (by decide) (by decide) (by decide) (by rw [jT (by omega) (by omega)];omega),jT (by omega) (by omega)];simp
 rw [rD (by decide) (by decide) (by decide) (by rw [e1];omega) (by rw [jT (by omega) (by omega)];omega),jT (by omega) (by omega),e1]
theorem tT {c:aA}(h:fV c=true):rP c:=by
 unfold fV at h;split at h
 ·rename_i h0;have:=of_decide_eq_true h;rw [this]
  constructor <;> (show _<=_/\_) <;> simp [gu]
 ·rename_i h0;simp [aA.direct,lV] at h
  constructor <;> omega
theorem Me {c:aA}(B:rP c):nW (fP c)=c:=by
 have h1:=B.k;have h2:=B.l;have h3:=B.s;have h4:=B.d0;have h5:=B.d1;have h6:=B.d2;have h7:=B.d3;have h8:=B.d4;have h9:=B.m;have g:∀ i at_ width,at_<=63->width<=63->mX (fP c) i at_ width=(((((fP c)[i]?.getD 0).toNat/2 ^ at_%2 ^ width:Nat)):Int):=λi at_ width p q=>by unfold mX;rw [FW _ p q]
 unfold nW;rw [g 0 0 8 (by decide) (by decide),g 0 8 16 (by decide) (by decide),g 0 24 32 (by decide) (by decide),g 2 0 16 (by decide) (by decide),g 2 16 16 (by decide) (by decide),g 2 32 16 (by decide) (by decide),g 2 48 16 (by decide) (by decide),g 3 0 16 (by decide) (by decide),g 3 16 16 (by decide) (by decide)];have k0:(fP c)[0]?.getD 0=uR c:=rfl;have k1:(fP c)[1]?.getD 0=c.dU:=rfl;have k2:(fP c)[2]?.getD 0=ze c:=rfl;have k3:(fP c)[3]?.getD 0=zf c:=rfl;rw [k0,k1,k2,k3,Ux B,Uy B,Uz B];obtain ⟨a,b,c',d,e,f,g',i,j,k⟩:=c;simp only at *
 congr 1 <;> omega
theorem sP {c:aA}(h:fV c=true):gU (fP c)=some c:=by
 have B:=tT h;unfold gU;rw [Me B,if_pos ⟨rfl,h,rfl⟩]
structure FS where
 C:Int->aA
 nm:Int->List aF
 aQ:Int->List UInt8
def FS.put (S:FS)(n:Int)(c:aA)(l:List aF)(s:List UInt8):FS:=⟨λx=>if x=n then c else S.C x,λx=>if x=n then l else S.nm x,λx=>if x=n then s else S.aQ x⟩
structure gW (now:Int->UInt64)(n:Int)(c:aA)(l:List aF)(s:List UInt8):Prop where
 kind:0<=c.kind/\c.kind<=3
 free:c.kind=0->c=gu c.dU/\∀ k,0<=k->k<96->now (200+k)≠w64 (n+1)
 dir:c.kind=2->∃ m,eG now n c m l
 file:c.kind=1\/c.kind=3->∃ m,gF now n c m s
structure bK (now:Int->UInt64)(S:FS):Prop where
 card:∀ n,0<=n->n<24->bW now (8+n*8) 8=fP (S.C n)
 node:∀ n,0<=n->n<24->gW now n (S.C n) (S.nm n) (S.aQ n)
 zero:(S.C 0).kind=0
 own:∀ k,0<=k->k<96->now (200+k)=0\/∃ n,0<=n/\n<24/\now (200+k)=w64 (n+1)
theorem gW.right {now:Int->UInt64}{n:Int}{c:aA}{l:List aF}{s:List UInt8}(N:gW now n c l s):fV c=true:=by
 by_cases h0:c.kind=0
 ·have:=(N.free h0).1;unfold fV;rw [if_pos h0];exact decide_eq_true this
 ·by_cases h2:c.kind=2
  ·obtain ⟨m,D⟩:=N.dir h2;exact D.right.1
  ·have:=N.kind;obtain ⟨m,F⟩:=N.file (by omega);exact F.right
theorem Ab {c:aA}(B:rP c):c.ok:=by
 have h1:=B.k;have h2:=B.l;have h3:=B.s;have h4:=B.d0;have h5:=B.d1;have h6:=B.d2;have h7:=B.d3;have h8:=B.d4;have h9:=B.m;refine ⟨by unfold inI64;omega,by unfold inI64;omega,by unfold inI64;omega,λx hx=>?_,by unfold inI64;omega⟩;unfold aA.direct at hx;simp only [List.mem_cons,List.not_mem_nil,or_false] at hx;unfold inI64;omega
theorem gW.ok {now:Int->UInt64}{n:Int}{c:aA}{l:List aF}{s:List UInt8}(N:gW now n c l s):c.ok:=Ab (tT N.right)
theorem gW.other {f g:Int->UInt64}{x y:Int}(hx:0<=x/\x<24)(hy:0<=y/\y<24)(hne:x≠y){c:aA}{l:List aF}{s:List UInt8}(N:gW f y c l s)(R:Fr0 x f g):gW g y c l s:=by
 refine ⟨N.kind,λh=>⟨(N.free h).1,λk h0 h1 e=>?_⟩,λh=>?_,λh=>?_⟩
 ·have hn:=(N.free h).2 k h0 h1;by_cases hm:f (200+k)=w64 (x+1)
  ·rcases R.mine k h0 h1 hm with p|p
   ·exact hne (Dg hx hy (p.symm.trans e))
   ·exact ig hy (e.symm.trans p)
  ·rcases (R.kX k h0 h1 hm).1 with p|⟨_,p⟩
   ·exact hn (p ▸ e)
   ·exact hne (Dg hx hy (p.symm.trans e))
 ·obtain ⟨m,D⟩:=N.dir h;exact ⟨m,D.other hx hy hne R⟩
 ·obtain ⟨m,F⟩:=N.file h;exact ⟨m,F.other hx hy hne R⟩
theorem bK.put {f g:Int->UInt64}{S:FS}(I:bK f S){n:Int}(h0:0<=n/\n<24)(R:Fr0 n f g)(hc:∀ k,0<=k->k<24->k≠n->bW g (8+k*8) 8=bW f (8+k*8) 8){c:aA}{l:List aF}{s:List UInt8}
 (hn:bW g (8+n*8) 8=fP c) (N:gW g n c l s) (hz:n≠0):bK g (S.put n c l s):=by
 have hw:=ig h0;refine ⟨λk k0 k1=>?_,λk k0 k1=>?_,?_,λk k0 k1=>?_⟩
 ·show _=fP (if k=n then c else S.C k);by_cases e:k=n
  ·rw [if_pos e,e];exact hn
  ·rw [if_neg e,hc k k0 k1 e];exact I.card k k0 k1
 ·show gW g k (if k=n then c else S.C k) (if k=n then l else S.nm k) (if k=n then s else S.aQ k);by_cases e:k=n
  ·rw [if_pos e,if_pos e,if_pos e,e];exact N
  ·rw [if_neg e,if_neg e,if_neg e];exact (I.node k k0 k1).other h0 ⟨k0,k1⟩ (λx=>e x.symm) R
 ·show (if (0:Int)=n then c else S.C 0).kind=0;rw [if_neg (λe=>hz e.symm)];exact I.zero
 ·by_cases hm:f (200+k)=w64 (n+1)
  ·rcases R.mine k k0 k1 hm with p|p
   ·exact .inr ⟨n,h0.1,h0.2,p⟩
   ·exact .inl p
  ·rcases (R.kX k k0 k1 hm).1 with p|⟨_,p⟩
   ·rw [p];exact I.own k k0 k1
   ·exact .inr ⟨n,h0.1,h0.2,p⟩
def setW (now:Int->UInt64)(n:Int)(c:aA):Int->UInt64:=kG now (8+n*8) (fP c)
theorem vD {now:Int->UInt64}{n:Int}(hn:n<24){c:aA}{a:Int}(ha:200<=a):setW now n c a=now a:=by
 unfold setW kG;rw [if_neg (by rw [show (fP c).length=8 from rfl];omega)]
theorem Ac {now:Int->UInt64}{n:Int}{c:aA}:bW (setW now n c) (8+n*8) 8=fP c:=by
 unfold setW bW;apply List.ext_getElem
 ·rfl
 ·intro i h1 h2;have hi:i<8:=by simpa using h1
  rw [List.getElem_map,List.getElem_range];unfold kG;rw [if_pos ⟨by omega,by rw [show (fP c).length=8 from rfl];omega⟩];have:(8+n*8+(i:Int)-(8+n*8)).toNat=i:=by omega
  rw [this,List.getElem?_eq_getElem h2];rfl
theorem PI {now:Int->UInt64}{n k:Int}{c:aA}(h:k≠n):bW (setW now n c) (8+k*8) 8=bW now (8+k*8) 8:=by
 unfold bW;refine List.map_congr_left λi hi=>?_;have hi:i<8:=by simpa using hi
 unfold setW kG;rw [if_neg (by rw [show (fP c).length=8 from rfl];omega)]
theorem bK.set {f g:Int->UInt64}{S:FS}(I:bK f S){n:Int}(h0:0<n/\n<24)(R:Fr n f g){c:aA}{l:List aF}{s:List UInt8}(N:gW g n c l s):bK (setW g n c) (S.put n c l s):=by
 have hn:0<=n/\n<24:=⟨by omega,h0.2⟩;have R2:Fr0 n f (setW g n c):=R.z.after λa ha=>vD h0.2 ha;refine I.put hn R2 (λk k0 k1 hk=>?_) Ac ?_ (by omega)
 ·rw [PI hk];exact List.map_congr_left λi hi=>R.low _ (by
   have:i<8:=by simpa using hi
   omega)
 ·
  have hhi:∀ a,200<=a->setW g n c a=g a:=λa ha=>vD h0.2 ha;obtain ⟨z,hz⟩:∃ z:Int,(0<=z/\z<24)/\z≠n:=⟨0,⟨by decide,by decide⟩,by omega⟩;exact N.other hz.1 hn hz.2 (Fr0.of z hhi)
theorem Iw {now:Int->UInt64}{node:Int}{kind:Int}(hk:kind=1\/kind=3)(v:UInt64)(h:∀ x,0<=x->x<96->now (200+x)≠w64 (node+1)):gF now node (cB kind v) m0 []:=by
 have hu:iq (cB kind v).more m0=[]:=by show iq (-1) m0=[];decide
 refine ⟨rfl,⟨rfl,?_,by rw [hu];exact List.nodup_nil,λx x0 x1=>by rw [hu];exact ⟨λh=>(nomatch h),λe=>absurd e (h x x0 x1)⟩⟩,⟨hk,by show (0:Int)<=1/\(1:Int)<=255;decide⟩,rfl,by simp,λp hp=>?_,λj hj _=>?_,?_⟩
 ·intro x hx
  left
  have:x∈List.replicate 22 (-1:Int):=hx;exact (List.mem_replicate.1 this).2
 ·unfold fb;have:m0[p/128]?.getD (-1) = -1:=by
   unfold m0;rw [List.getElem?_replicate];split <;> rfl
  rw [this];unfold dD;rw [if_pos rfl,Dh];rfl
 ·unfold m0;rw [List.getElem?_replicate];split <;> rfl
 ·exact ⟨λ_=>by decide,λ_=>rfl⟩
theorem PK {now:Int->UInt64}{node:Int}(v:UInt64)(h:∀ x,0<=x->x<96->now (200+x)≠w64 (node+1)):eG now node (cB 2 v) iw []:=by
 have hu:iq (cB 2 v).more iw=[]:=by show iq (-1) iw=[];decide
 refine ⟨rfl,⟨rfl,?_,by rw [hu];exact List.nodup_nil,λx x0 x1=>by rw [hu];exact ⟨λh=>(nomatch h),λe=>absurd e (h x x0 x1)⟩⟩,⟨rfl,rfl⟩,rfl,λi hi hu=>absurd (xB i) hu,?_,List.Pairwise.nil,⟨λ_=>by decide,λ_=>rfl⟩⟩
 ·intro x hx
  left
  have:x∈List.replicate 22 (-1:Int):=hx;exact (List.mem_replicate.1 this).2
 ·have:dV now iw=[]:=by
   unfold dV;rw [List.flatMap_eq_nil_iff];intro i _;exact nG (xB i)
  rw [this]
theorem Iz {now:Int->UInt64}{n kind:Int}(hk:1<=kind/\kind<=3)(v:UInt64)(h:∀ x,0<=x->x<96->now (200+x)≠w64 (n+1)):gW now n (cB kind v) [] []:=by
 have hk':(cB kind v).kind=kind:=rfl;refine ⟨by rw [hk'];omega,λh0=>by rw [hk'] at h0;omega,λh2=>?_,λh13=>?_⟩
 ·rw [hk'] at h2;subst h2;exact ⟨iw,PK v h⟩
 ·rw [hk'] at h13;exact ⟨m0,Iw h13 v h⟩
theorem Ad {now:Int->UInt64}{n:Int}(v:UInt64)(h:∀ x,0<=x->x<96->now (200+x)≠w64 (n+1)):gW now n (gu v) [] []:=
 ⟨by show (0:Int)<=0/\(0:Int)<=3;decide,λ_=>⟨rfl,h⟩,λh2=>(by cases h2),λh13=>(by rcases h13 with h|h <;> cases h)⟩
theorem Aa {F:Fs}{root:Int}{follow:Bool}:∀ (f:Nat) (at_:Int) (links:Nat) (l:List (List UInt8)),links<=8->(8-links)*61+l.length+1<=f->(dn F root follow f at_ links l).2 ≠ -1
 | 0,_,_,_,_,h=>by omega
 | f+1,at_,links,[],_,_=>by unfold dn;simp
 | f+1,at_,links,name::rest,hl,h=>by
  simp only [List.length_cons] at h;unfold dn;simp only;split
  ·simp
  ·split
   ·simp
   ·split
    ·exact Aa f _ _ _ hl (by omega)
    ·split
     ·simp
     ·split
      ·simp
      ·rename_i head hp;have:=(jX hp).1;exact Aa f _ _ _ (by omega) (by rw [List.length_append];omega)
structure aD where
 id:Int
 kind:Int
 links:Int
 data:List UInt8
 names:List aF
def tn (T:List aD)(i:Int):aD:=T[i.toNat]?.getD ⟨0,0,0,[],[]⟩
def nu (num:List Int)(i:Int):Int:=num[i.toNat]?.getD 0
def aO (T:List aD):Fs:=⟨λi=>(tn T i).kind,λi name=>(bR (tn T i).names name).map (·.node),λi=>(tn T i).data⟩
def aY (S:FS):Fs:=⟨λi=>(S.C i).kind,λi name=>(bR (S.nm i) name).map (·.node),λi=>S.aQ i⟩
def rn (num:List Int)(e:aF):aF:=⟨e.name,nu num e.node⟩
def inT (T:List aD)(i:Int):Prop:=1<=i/\i<T.length
structure qF (S:FS)(T:List aD)(num:List Int):Prop where
 len:num.length=T.length
 two:2<=T.length
 root:nu num 1=1/\(tn T 1).kind=2
 bH:∀ i,inT T i->1<=nu num i/\nu num i<24
 inj:∀ i j,inT T i->inT T j->nu num i=nu num j->i=j
 kind:∀ i,inT T i->(S.C (nu num i)).kind=(tn T i).kind/\1<=(tn T i).kind/\(tn T i).kind<=3
 dir:∀ i,inT T i->(tn T i).kind=2->S.nm (nu num i)=(tn T i).names.map (rn num)/\(∀ e∈(tn T i).names,inT T e.node)/\strict (tn T i).names
 data:∀ i,inT T i->(tn T i).kind≠2->(tn T i).data=S.aQ (nu num i)
 kX:∀ i,inT T i->(tn T i).kind≠2->(tn T i).names=[]
theorem Df (num:List Int)(name:List UInt8):∀ l:List aF,bR (l.map (rn num)) name=(bR l name).map (rn num)
 | []=>rfl
 | x::l=>by
  have ih:=Df num name l;unfold bR at ih ⊢;rw [List.map_cons,List.find?_cons,List.find?_cons];have:(rn num x).name=x.name:=rfl;rw [this];split
  ·rfl
  ·exact ih
theorem qF.alike {S:FS}{T:List aD}{num:List Int}(W:qF S T num):Alike (aO T) (aY S) (nu num) (inT T):=by
 refine ⟨λi hi=>(W.kind i hi).1,λi name hi hk=>?_,λi name y hi hk hf=>?_,λi hi hk=>?_⟩
 ·show (bR (S.nm (nu num i)) name).map (·.node)=((bR (tn T i).names name).map (·.node)).map (nu num);rw [(W.dir i hi hk).1,Df,Option.map_map,Option.map_map];rfl
 ·have hf':(bR (tn T i).names name).map (·.node)=some y:=hf;cases he:bR (tn T i).names name with
  | none=>rw [he] at hf';cases hf'
  | some e=>
   rw [he] at hf';have:e.node=y:=by simpa using hf'
   rw [<-this];exact (W.dir i hi hk).2.1 e (List.mem_of_find?_eq_some he)
 ·have:(tn T i).kind=3:=hk;exact (W.data i hi (by omega)).symm
theorem zY (f:aF->aF)(hf:∀ e,(f e).name=e.name)(name:List UInt8):∀ l:List aF,aP (l.map f) name=aP l name
 | []=>rfl
 | x::l=>by
  have ih:=zY f hf name l;unfold aP at ih ⊢;rw [List.map_cons,List.takeWhile_cons,List.takeWhile_cons,hf x];split
  ·rw [List.length_cons,List.length_cons,ih]
  ·rfl
theorem zX (f:aF->aF)(hf:∀ e,(f e).name=e.name)(l:List aF)(e:aF):(bD l e).map f=bD (l.map f) (f e):=by
 unfold bD;rw [hf e,zY f hf,List.map_append,List.map_cons,List.map_take,List.map_drop]
def mG (T:List aD)(d:Int)(l:List aF):List aD:=T.set d.toNat { tn T d with names:=l }
theorem PE {T:List aD}{d:Int}(hd:inT T d)(l:List aF)(x:aD){i:Int}(hi:1<=i/\i<T.length+1):tn (mG T d l++[x]) i=if i=T.length then x else if i=d then { tn T d with names:=l } else tn T i:=by
 obtain ⟨d0,d1⟩:=hd;have hl:(mG T d l).length=T.length:=by unfold mG;simp
 unfold tn;by_cases e:i=T.length
 ·rw [if_pos e];have:i.toNat=(mG T d l).length:=by rw [hl];omega
  rw [this];simp
 ·rw [if_neg e,List.getElem?_append_left (by rw [hl];omega)];unfold mG;rw [List.getElem?_set];by_cases e2:i=d
  ·subst e2;rw [if_pos rfl,if_pos (by omega),if_pos rfl];rfl
  ·rw [if_neg (by omega),if_neg e2]
theorem PG {num:List Int}{n:Int}{i:Int}(hi:1<=i/\i<num.length+1):nu (num++[n]) i=if i=num.length then n else nu num i:=by
 unfold nu;by_cases e:i=num.length
 ·rw [if_pos e];have:i.toNat=num.length:=by omega
  rw [this];simp
 ·rw [if_neg e,List.getElem?_append_left (by omega)]
theorem qF.grow {S S':FS}{T:List aD}{num:List Int}(W:qF S T num){d n kind:Int}{name data:List UInt8}(hd:inT T d)(hk:(tn T d).kind=2)(hn0:(S.C n).kind=0)(hn:1<=n/\n<24)(hp:dA (tn T d).names name=false)(hkind:1<=kind/\kind<=3)
 (hS:∀ x,x≠n->x≠nu num d->(S'.C x).kind=(S.C x).kind/\S'.nm x=S.nm x/\S'.aQ x=S.aQ x)
 (h1:(S'.C (nu num d)).kind=2/\S'.nm (nu num d)=bD (S.nm (nu num d)) ⟨name,n⟩)
 (h2:(S'.C n).kind=kind/\(kind≠2->S'.aQ n=data)/\(kind=2->S'.nm n=[])) :
 qF S' (mG T d (bD (tn T d).names ⟨name,(T.length:Int)⟩)++[⟨n,kind,1,data,[]⟩]) (num++[n]):=by
 have hl:=W.len;have xw:=W.two;obtain ⟨d0,d1⟩:=hd;have hL:(mG T d (bD (tn T d).names ⟨name,(T.length:Int)⟩)++[(⟨n,kind,1,data,[]⟩:aD)]).length=T.length+1:=by unfold mG;simp
 have hin:∀ i,inT (mG T d (bD (tn T d).names ⟨name,(T.length:Int)⟩)++[(⟨n,kind,1,data,[]⟩:aD)]) i↔inT T i\/i=T.length:=by
  intro i;unfold inT;rw [hL];omega
 have hne:∀ i,inT T i->nu num i≠n:=by
  intro i hi e;have:=(W.kind i hi).1;have h3:=(W.kind i hi).2.1;rw [e,hn0] at this;omega
 have htn:∀ i,inT T i\/i=T.length->tn (mG T d (bD (tn T d).names ⟨name,(T.length:Int)⟩)++[(⟨n,kind,1,data,[]⟩:aD)]) i=if i=T.length then ⟨n,kind,1,data,[]⟩ else if i=d then { tn T d with names:=bD (tn T d).names ⟨name,(T.length:Int)⟩ } else tn T i:=
  λi hi=>PE ⟨d0,d1⟩ _ _ (by unfold inT at hi;omega)
 have hnu:∀ i,inT T i\/i=T.length->nu (num++[n]) i=if i=T.length then n else nu num i:=λi hi=>by
  have:=PG (num:=num) (n:=n) (i:=i) (by unfold inT at hi;omega);rw [hl] at this;exact this
 have hdn:nu num d≠n:=hne d ⟨d0,d1⟩;have hlt:∀ i,inT T i->i≠T.length:=λi hi=>by unfold inT at hi;omega
 refine ⟨by rw [hL,List.length_append,hl];rfl,by rw [hL];omega,?_,λi hi=>?_,λi j hi hj e=>?_,λi hi=>?_,λi hi hki=>?_,λi hi hki=>?_,λi hi hki=>?_⟩
 ·have zZ:inT T 1:=⟨by omega,by omega⟩;rw [hnu 1 (.inl zZ),htn 1 (.inl zZ),if_neg (hlt 1 zZ),if_neg (hlt 1 zZ)];refine ⟨W.root.1,?_⟩;split
  ·exact hk
  ·exact W.root.2
 ·have hi':=(hin i).1 hi;rw [hnu i hi'];by_cases e:i=T.length
  ·rw [if_pos e];exact hn
  ·rw [if_neg e];exact W.bH i (hi'.resolve_right e)
 ·have hi':=(hin i).1 hi;have hj':=(hin j).1 hj;rw [hnu i hi',hnu j hj'] at e;by_cases ei:i=T.length
  ·by_cases ej:j=T.length
   ·omega
   ·rw [if_pos ei,if_neg ej] at e;exact absurd e.symm (hne j (hj'.resolve_right ej))
  ·by_cases ej:j=T.length
   ·rw [if_neg ei,if_pos ej] at e;exact absurd e (hne i (hi'.resolve_right ei))
   ·rw [if_neg ei,if_neg ej] at e;exact W.inj i j (hi'.resolve_right ei) (hj'.resolve_right ej) e
 ·have hi':=(hin i).1 hi;rw [hnu i hi',htn i hi'];by_cases e:i=T.length
  ·rw [if_pos e,if_pos e];exact ⟨h2.1,hkind.1,hkind.2⟩
  ·have hi2:=hi'.resolve_right e;rw [if_neg e,if_neg e];by_cases e2:i=d
   ·rw [if_pos e2,e2];exact ⟨h1.1.trans hk.symm,(W.kind d ⟨d0,d1⟩).2⟩
   ·rw [if_neg e2];rw [(hS (nu num i) (hne i hi2) (λx=>e2 (W.inj i d hi2 ⟨d0,d1⟩ x))).1];exact W.kind i hi2
 ·have hi':=(hin i).1 hi;rw [htn i hi'] at hki;rw [hnu i hi',htn i hi'];have hrn:∀ e:aF,inT T e.node->rn (num++[n]) e=rn num e:=by
   intro e he;unfold rn;rw [hnu e.node (.inl he),if_neg (hlt _ he)]
  by_cases e:i=T.length
  ·rw [if_pos e] at hki ⊢;rw [if_pos e];exact ⟨h2.2.2 hki,by simp,List.Pairwise.nil⟩
  ·have hi2:=hi'.resolve_right e;rw [if_neg e] at hki ⊢;rw [if_neg e];by_cases e2:i=d
   ·rw [if_pos e2];subst e2;obtain ⟨q1,q2,q3⟩:=W.dir i hi2 hk;refine ⟨?_,λe he=>(hin _).2 ?_,vC q3 hp⟩
    ·rw [h1.2,q1];show _=(bD (tn T i).names ⟨name,(T.length:Int)⟩).map (rn (num++[n]));rw [zX (rn (num++[n])) (λ_=>rfl)];have e1:(tn T i).names.map (rn (num++[n]))=(tn T i).names.map (rn num):=List.map_congr_left λe he=>hrn e (q2 e he);have e3:rn (num++[n]) ⟨name,(T.length:Int)⟩=⟨name,n⟩:=by
      unfold rn;rw [hnu _ (.inr rfl),if_pos rfl]
     rw [e1,e3]
    ·have he':e∈bD (tn T i).names ⟨name,(T.length:Int)⟩:=he;rcases List.mem_cons.1 ((mF _ _).mem_iff.1 he') with rfl|h
     ·exact .inr rfl
     ·exact .inl (q2 e h)
   ·rw [if_neg e2] at hki ⊢;obtain ⟨q1,q2,q3⟩:=W.dir i hi2 hki;refine ⟨?_,λe he=>(hin _).2 (.inl (q2 e he)),q3⟩;rw [(hS (nu num i) (hne i hi2) (λx=>e2 (W.inj i d hi2 ⟨d0,d1⟩ x))).2.1,q1];exact (List.map_congr_left λe he=>hrn e (q2 e he)).symm
 ·have hi':=(hin i).1 hi;rw [htn i hi'] at hki;rw [hnu i hi',htn i hi'];by_cases e:i=T.length
  ·rw [if_pos e] at hki ⊢;rw [if_pos e];exact (h2.2.1 hki).symm
  ·have hi2:=hi'.resolve_right e;rw [if_neg e] at hki ⊢;rw [if_neg e];by_cases e2:i=d
   ·rw [if_pos e2] at hki;exact absurd hk hki
   ·rw [if_neg e2] at hki ⊢;rw [(hS (nu num i) (hne i hi2) (λx=>e2 (W.inj i d hi2 ⟨d0,d1⟩ x))).2.2];exact W.data i hi2 hki
 ·have hi':=(hin i).1 hi;rw [htn i hi'] at hki ⊢;by_cases e:i=T.length
  ·rw [if_pos e]
  ·have hi2:=hi'.resolve_right e;rw [if_neg e] at hki ⊢;by_cases e2:i=d
   ·rw [if_pos e2] at hki;exact absurd hk hki
   ·rw [if_neg e2] at hki ⊢;exact W.kX i hi2 hki
end Go.Proofs.YtoociceebodfeaaGreatDoor
namespace Go.aN
def Vy (h:Heap)(r:Nat)(m:List (Int×Value))(n:Int)(born:Int):Prop:=
 ∃ (es:Array MapEntry) (cl j:Nat) (hj:j<es.size),h[r]?=some (.map es cl)/\es.toList.map (λe=>(e.key,e.val))=m.map (λp=>(Value.int .i64 p.1,p.2))/\(m.map (·.1)).Nodup/\(es.toList.map (·.born)).Nodup/\(∀ e∈es.toList,e.born<cl) /\
  (m[j]?).map (·.1)=some n/\born=((es[j]'hj).born:Int)/\(es[j]'hj).key=.int .i64 n
def MR (h:Heap)(r:Nat)(m:List (Int×Value))(n:Int)(born:Int):Prop:=(gT m n=none/\xR h r m n born)\/Vy h r m n born
theorem Vz {α:Type}(a:Array α)(j:Nat)(f g:α->α)(h:∀ hj:j<a.size,f a[j]=g a[j]):a.modify j f=a.modify j g:=by
 apply Array.ext
 ·simp
 ·intro i i1 i2;rw [Array.getElem_modify,Array.getElem_modify];split
  ·rename_i e;subst e;exact h (by simpa using i1)
  ·rfl
theorem aW.MG {P:Program}{T kT eT:TypeId}{i:TypeInfo}{z:Value}(hu:P.underlying T=some (.map kT eT))(hk:P.underlying kT=some (.int .i64))(hi:P.info? eT=some i)(hz:i.zero=some z){h:Heap}{r:Nat}{m:List (Int×Value)}(o:dF h r m){n:Int}{bs:List Nat}(hb:r∉bs)
 {K:Value->Heap->Prop} (H:∀ h' v born,h'.size=h.size->MR h' r m n born->Keeps [r] h h'->K (.tuple #[v,.int .i64 born]) h'):aW P (Instr.mapEntry T (.map (some r)) (.int .i64 n)) bs h K:=by
 by_cases hn:gT m n=none
 ·refine aW.Jk hu hk hi hz o ((Av m n).1 hn) hb λh' born s p k=>H h' z born s (.inl ⟨hn,p⟩) k
 ·unfold aW;intro hlt w hw;subst hw;have hr:=o.lt;obtain ⟨es,cl,h1,h2,h3,h4,h5⟩:=o;obtain ⟨q,h6,h7,h8⟩:=vP es.toList m n 0 h2;obtain ⟨p,rfl⟩:∃ p,q=some p:=by
   cases q with
   | none=>exact absurd (by simpa using h7.symm) hn
   | some p=>exact ⟨p,rfl⟩
  obtain ⟨j,hj1,hj2,hj3⟩:=h8 p rfl;have hj:p.1=j:=by omega
  have hjl:j<es.size:=by simpa using hj2
  have hkey:(es[j]'hjl).key=.int .i64 n:=by
   have:=congrArg (λl=>l[j]?) h2;simp only [List.getElem?_map] at this;cases hm:m[j]? with
   | none=>rw [hm] at hj3;simp at hj3
   | some q=>
    rw [hm] at this hj3;simp at hj3;simp [hjl] at this;rw [this.1,hj3]
  have hmod:(es.modify j λe=>{ e with key:=.int .i64 n })=es:=by
   apply Array.ext
   ·simp
   ·intro i i1 i2;rw [Array.getElem_modify];split
    ·rename_i e;subst e;cases he:es[j]'hjl;rw [he] at hkey;simp at hkey;simp [hkey]
    ·rfl
  refine ⟨.tuple #[p.2,.int .i64 ((es[j]'hjl).born:Int)],{ w with heap:=w.heap.setIfInBounds r (.map es cl) },?_,⟨rfl,rfl,rfl⟩,λb hb'=>?_,H _ _ _ (by simp) (.inr ⟨es,cl,j,hjl,by rw [ku _ _ _ _ hr,if_pos rfl],h2,h3,h4,h5,hj3,rfl,hkey⟩) (sj _ _ _ hr)⟩
  ·simp only [Instr.mapEntry,Sem.run_bind,dK P T w hu,Result.andThen_ok,qN h1];rw [uj hk (.inl ⟨_,rfl⟩)];simp only [Result.andThen_ok,uh hk h6 w];rw [hj];have hold:((es[j]?).map (·.key)).getD (Value.int .i64 n)=.int .i64 n:=by simp [hjl,hkey]
   have hbn:((es[j]?).map (λx=>(x.born:Int))).getD 0=((es[j]'hjl).born:Int):=by simp [hjl]
   simp only [hold,hbn,Instr.keyThatStays,Instr.sameBits,beq_self_eq_true,Bool.and_self,if_true,Sem.run_bind,Sem.run_pure,Result.andThen_ok];have he2:(es.modify j λe=>{ key:=Value.int IntKind.i64 n,val:=e.val,born:=e.born })=es:=hmod;rw [he2,r9 h1];rfl
  ·show (w.heap.setIfInBounds r _)[b]?=_;rw [ku _ _ _ _ hr,if_neg (by intro e;subst e;exact hb hb')]
theorem aW.MH {P:Program}{T:TypeId}{h:Heap}{r:Nat}{m:List (Int×Value)}{n born:Int}(o:MR h r m n born){v:Value}{bs:List Nat}(hb:r∉bs)
 {K:Unit->Heap->Prop} (H:∀ h',h'.size=h.size->dF h' r (jy m n v)->Keeps [r] h h'->K () h'):aW P (Instr.entryStore T (.map (some r)) (.int .i64 born) v) bs h K:=by
 rcases o with ⟨hn,o⟩|o
 ·exact aW.entryStore o hb λh' s M k=>H h' s (by rw [Ca m n v hn];exact M) k
 ·unfold aW;intro hlt w hw;subst hw;obtain ⟨es,cl,j,hj,h1,h2,h3,h4,h5,h6,rfl,hkey⟩:=o;have hr:=eU h1;have hg:=qN (P:=P) h1;have hfind:es.findIdx? (λe=>(e.born:Int)==((es[j]'hj).born:Int))=some j:=by
   rw [Array.findIdx?_eq_some_iff_getElem];refine ⟨hj,by simp,λi hi=>?_⟩;have hne:(es[i]'(by omega)).born≠(es[j]'hj).born:=by
    intro e;have hp:=List.pairwise_iff_getElem.1 h4 i j (by simpa using (by omega:i<es.size)) (by simpa using hj) hi;simp at hp;exact hp e
   simp;omega
  have hmod:(es.modify j λe=>{ e with val:=v })=es.modify j λe=>{ e with key:=.int .i64 n,val:=v }:=Vz _ _ _ _ λhj'=>by
   cases he:es[j]'hj';rw [he] at hkey;simp at hkey;simp [hkey]
  have hs:=r9 (P:=P) h1 (.map (es.modify j λe=>{ e with val:=v }) cl);refine ⟨(),{ w with heap:=w.heap.setIfInBounds r (.map (es.modify j λe=>{ e with val:=v }) cl) },?_,⟨rfl,rfl,rfl⟩,λb hb'=>?_,H _ (by simp) ⟨es.modify j λe=>{ e with val:=v },cl,by rw [ku _ _ _ _ hr,if_pos rfl],?_,?_,?_,?_⟩ (sj _ _ _ hr)⟩
  ·simp [Instr.entryStore,hg,asInt,asIntOf,hfind,hs]
  ·show (w.heap.setIfInBounds r _)[b]?=_;rw [ku _ _ _ _ hr,if_neg (by intro e;subst e;exact hb hb')]
  ·rw [hmod,Array.toList_modify];exact FL es.toList m n v j h2 h3 h6
  ·rw [FJ];have:n∈m.map (·.1):=by
    simp only [Option.map_eq_some_iff] at h6;obtain ⟨q,hq,rfl⟩:=h6;exact List.mem_map.2 ⟨q,List.mem_of_getElem? hq,rfl⟩
   rw [if_pos this];exact h3
  ·have:(es.modify j λe=>{ e with val:=v }).toList.map (·.born)=es.toList.map (·.born):=by
    rw [Array.toList_modify];apply List.ext_getElem?;intro i;simp only [List.getElem?_map,List.getElem?_modify];cases es.toList[i]? with
    | none=>simp
    | some e=>by_cases hij:j=i <;> simp [hij]
   rw [this];exact h4
  ·intro e he;rw [Array.toList_modify] at he;obtain ⟨i,hi⟩:=List.getElem?_of_mem he;rw [List.getElem?_modify] at hi;cases hee:es.toList[i]? with
   | none=>rw [hee] at hi;simp at hi
   | some e0=>
    rw [hee] at hi;simp at hi;have:=h5 e0 (List.mem_of_getElem? hee);rw [<-hi];split <;> simpa using this
end Go.aN
namespace Go.Proofs.YtoociceebodfeaaGreatDoor
open Go Go.aN
def l8 (at_ width:Nat):Prop:=at_+width<=64/\1<=width/\width<=32/\(width=8\/width=16\/width=32)
theorem MP (at_ width:Nat)(hf:l8 at_ width)(h:Heap):aC Tryz.prog 193 [.int .i64 (at_:Int),.int .i64 (width:Int)] h (λv h'=>Keeps [] h h'/\v=wv (mW width)):=by
 unfold l8 at hf;have e:IntKind.i64.wrap (64-(width:Int))=((64-width:Nat):Int):=wrapN (by omega) (by omega);refine aG aH Tryz.func193 rfl ok193 (by simp [Tryz.f193]) ?_;(conv=>whnf);refine aj.f (by simp [dm,e];omega) ?_;(conv=>whnf);refine dL.i (by rw [e];omega) ?_;(conv=>whnf);refine ⟨Keeps.refl _ _,?_⟩;rw [e];rcases hf.2.2.2 with rfl|rfl|rfl <;> rfl
theorem Vw (n:Nat)(hn:n<65536)(h:Heap):aC Tryz.prog 192 [.int .u64 (n:Int)] h (λv h'=>Keeps [] h h'/\∃ L:Nat,v=.int .i64 (L:Int)/\L<=16/\(n<256->L<=8)):=by
 refine aG aH Tryz.func192 rfl ok192 (by simp [Tryz.f192]) ?_;(conv=>whnf);refine aV.pass ?_;(conv=>whnf);(try refine aV.pass ?_;conv=>whnf);refine aj.f (by simp;omega) ?_;(conv=>whnf);(try refine aV.pass ?_;conv=>whnf);refine aj.f (by simp;omega) ?_;(conv=>whnf);(try refine aV.pass ?_;conv=>whnf);refine aj.i (λhc=>?_) (λhc=>?_)
 ·(conv=>whnf);refine dL.i (by decide) ?_;(conv=>whnf);have e:IntKind.u8.wrap ((n:Int).fdiv (2 ^ min (Int.toNat 8) IntKind.u64.bits))=((n/256:Nat):Int):=by
   have:(2:Int) ^ min (Int.toNat 8) IntKind.u64.bits=256:=by decide
   rw [this];have h2:(n:Int).fdiv 256=((n/256:Nat):Int):=by rw [Int.fdiv_eq_ediv_of_nonneg _ (by decide)];simp
   rw [h2];rw [wrap_u8];omega
  generalize hB:ByteArray.mk _=B;have hs:B.size=256:=by rw [<-hB];rfl
  have hv:∀ j,j<256->0<=ji B j/\ji B j<=8:=by rw [<-hB];decide +kernel
  refine dO.i (n/256) e (by omega) ?_;(conv=>whnf);have ⟨b0,b1⟩:=hv (n/256) (by omega);refine ⟨Keeps.refl _ _,(8+ji B (n/256)).toNat,?_,by omega,λhn=>?_⟩
  ·rw [dR (x:=(0:Int)+8) (by omega) (by omega),dR (x:=ji B (n/256)) (by omega) (by omega),dR (by omega) (by omega)]
   (first|(congr 1;done)|(congr 1;omega))
  ·simp at hc;omega
 ·(conv=>whnf);have e:IntKind.u8.wrap (n:Int)=((n:Nat):Int):=by
   simp at hc;rw [wrap_u8];omega
  generalize hB:ByteArray.mk _=B;have hs:B.size=256:=by rw [<-hB];rfl
  have hv:∀ j,j<256->0<=ji B j/\ji B j<=8:=by rw [<-hB];decide +kernel
  have hn2:n<256:=by simp at hc;omega
  refine dO.i n e (by omega) ?_;(conv=>whnf);have ⟨b0,b1⟩:=hv n hn2;refine ⟨Keeps.refl _ _,(ji B n).toNat,?_,by omega,λhn=>by omega⟩;rw [dR (x:=ji B n) (by omega) (by omega),dR (by omega) (by omega)]
  (first|(congr 1;done)|(congr 1;omega))
theorem wN (x:UInt64):BitVec.ofInt 64 (x.toNat:Int)=x.toBitVec:=by
 apply BitVec.eq_of_toNat_eq;rw [BitVec.toNat_ofInt];have:=x.toNat_lt;show ((x.toNat:Int)%((2 ^ 64:Nat):Int)).toNat=x.toNat;omega
theorem MQ (x:UInt64){n:Nat}(h:n<=63):IntKind.u64.wrap ((x.toNat:Int)*2 ^ min ((n:Int)).toNat IntKind.u64.bits)=(((x <<< UInt64.ofNat n).toNat:Nat):Int):=by
 have hb:IntKind.u64.bits=64:=rfl;have hm:min ((n:Int)).toNat IntKind.u64.bits=n:=by rw [hb];omega
 rw [hm,UInt64.toNat_shiftLeft,zb h,Nat.mod_eq_of_lt (show n<64 by omega),Nat.shiftLeft_eq,qU];have:(x.toNat:Int)*2 ^ n=((x.toNat*2 ^ n:Nat):Int):=by simp
 rw [this];omega
theorem Vx (x:UInt64){n:Nat}(h:n<=63):((x.toNat:Int)).fdiv (2 ^ min ((n:Int)).toNat IntKind.u64.bits)=(((x >>> UInt64.ofNat n).toNat:Nat):Int):=by
 have hb:IntKind.u64.bits=64:=rfl;have hm:min ((n:Int)).toNat IntKind.u64.bits=n:=by rw [hb];omega
 rw [hm,UInt64.toNat_shiftRight,zb h,Nat.mod_eq_of_lt (show n<64 by omega),Nat.shiftRight_eq_div_pow,Int.fdiv_eq_ediv_of_nonneg _ (Int.le_of_lt (Int.pow_pos (by decide)))];simp
theorem Gi (x:UInt64):IntKind.u64.wrap (x.toBitVec.toNat:Int)=(x.toNat:Int):=by
 have:=x.toNat_lt;rw [qU];show ((x.toNat:Nat):Int)%_=_;omega
theorem MJ (w:UInt64)(at_ width:Nat)(hf:l8 at_ width)(h:Heap):aC Tryz.prog 121 [wv w,.int .i64 (at_:Int),.int .i64 (width:Int)] h (λv h'=>Keeps [] h h'/\v=.tuple #[wv (l7 w at_ width),.int .i64 0]):=by
 refine aG aH Tryz.func121 rfl ok121 (by simp [Tryz.f121]) ?_;(conv=>whnf);refine ak.i (MP at_ width hf h) λv h1 k1 hv=>?_;subst hv;unfold l8 at hf;have hm:(mW width).toNat=2 ^ width-1:=FV (by omega);have hp:2<=2 ^ width:=by
  have:2 ^ 1<=2 ^ width:=Nat.pow_le_pow_right (by decide) hf.2.1;simpa using this
 (conv=>whnf);refine aj.f (by simp;omega) ?_;(conv=>whnf);refine dL.i (by omega) ?_;(conv=>whnf);refine ⟨k1,?_⟩;have hb:IntKind.u64.bits=64:=rfl;have e:=Gi (l7 w at_ width);unfold l7 at e;rw [UInt64.toBitVec_and] at e;rw [Vx w (show at_<=63 by omega),hb,wN,wN,e];rfl
theorem Vs (w:UInt64)(at_ width:Nat)(hf:l8 at_ width)(v:UInt64)(hv:v.toNat<2 ^ width)(hs:v.toNat<65536)(h:Heap):aC Tryz.prog 196 [wv w,.int .i64 (at_:Int),.int .i64 (width:Int),wv v] h (λr h'=>Keeps [] h h'/\r=.tuple #[wv (fU w at_ width v),.int .i64 0]):=by
 refine aG aH Tryz.func196 rfl ok196 (by simp [Tryz.f196]) ?_;(conv=>whnf);refine ak.i (MP at_ width hf h) λr h1 k1 hr=>?_;subst hr;unfold l8 at hf;have hm:(mW width).toNat=2 ^ width-1:=FV (by omega);have hp:2<=2 ^ width:=by
  have:2 ^ 1<=2 ^ width:=Nat.pow_le_pow_right (by decide) hf.2.1;simpa using this
 (conv=>whnf);(try refine aV.pass ?_;conv=>whnf);refine aj.f (by simp;omega) ?_;(conv=>whnf);refine ak.i (Vw v.toNat hs h1) λr h2 k2 hr=>?_;obtain ⟨L,rfl,l1,l2⟩:=hr;have hL:L<=width:=by
  rcases hf.2.2.2 with rfl|rfl|rfl
  ·exact l2 (by simpa using hv)
  ·exact l1
  ·omega
 (conv=>whnf);refine aj.f (by simp;omega) ?_;(conv=>whnf);refine dL.i (by omega) ?_;(conv=>whnf);refine dL.i (by omega) ?_;(conv=>whnf);refine ⟨k1.trans k2,?_⟩;have hb:IntKind.u64.bits=64:=rfl;rw [MQ (mW width) (show at_<=63 by omega),MQ v (show at_<=63 by omega),hb,wN,wN,wN,<-UInt64.toBitVec_not,<-UInt64.toBitVec_and,Gi (w &&& ~~~(mW width <<< UInt64.ofNat at_)),wN,<-UInt64.toBitVec_or,Gi];rfl
def iL (i:Nat):Nat:=if i<3 then 0 else 2+(i-3)/4
def nY (i:Nat):Nat:=if i=0 then 0 else if i=1 then 8 else if i=2 then 24 else 16*((i-3)%4)
def jU (i:Nat):Nat:=if i=0 then 8 else if i=1 then 16 else if i=2 then 32 else 16
def uW (i:Nat):List Value:=[.int .i64 (iL i),.int .i64 (nY i),.int .i64 (jU i)]
def qx:Nat->List Value
 | 0=>[]
 | n+1=>qx n++uW n
theorem MN (h:Heap):aC Tryz.prog 120 [] h (λv h'=>Keeps [] h h'/\∃ b c fz sp,v=.slice (some ⟨b,0,none⟩) 9 c/\9<=c/\h.size<=b/\h'[b]?=some (.cells ⟨qx 9++sp⟩ 189 fz)):=by
 refine aG aH Tryz.func120 rfl ok120 (by simp [Tryz.f120]) ?_;(conv=>whnf);refine aL.i λb1 h1 e1 s1 o1 k1=>?_;(conv=>whnf);refine bP.on [1,7] [] (λq:Nat×Option Addr×Nat=>[(1,.v (.slice q.2.1 (3+q.1) q.2.2)),(7,.v (.int .i64 (q.1:Int)))]) (λ_=>[])
  (λq h'=>q.1<=6/\Keeps [] h h'/\Own h' 189 3 q.2.1 (3+q.1) q.2.2 (qx (3+q.1))/\∀ b∈ay q.2.1,h.size<=b) (λq=>6-q.1) (0,some ⟨b1,0,none⟩,3) ?_ ?_
 ·(conv=>whnf);refine ⟨(0,some ⟨b1,0,none⟩,3),rfl,rfl,rfl,Nat.zero_le _,k1,?_,λb hb=>by simp [ay] at hb;omega⟩;exact .inr ⟨b1,_,rfl,o1,rfl,rfl,rfl,Nat.le_refl _⟩
 ·rintro ⟨i,ai,ci⟩ h2 ⟨hi,k2,O2,n2⟩;simp only at hi O2 n2;(conv=>whnf);refine aj.i (λhc=>?_) (λhc=>?_)
  ·have hi6:i<6:=by simp at hc;omega
   (conv=>whnf);refine dL.i (by decide) ?_;(conv=>whnf);refine dL.i (by decide) ?_;(conv=>whnf);refine aL.i λb3 h3 e3 s3 o3 k3=>?_;have hval:([.int .i64 (IntKind.i64.wrap (2+IntKind.i64.wrap ((i:Int).tdiv 4))),.int .i64 (IntKind.i64.wrap (16*((i:Int).tmod 4))),.int .i64 16]:List Value)=uW (3+i):=by
    have:i=0\/i=1\/i=2\/i=3\/i=4\/i=5:=by omega
    rcases this with rfl|rfl|rfl|rfl|rfl|rfl <;> rfl
   (conv=>whnf);refine jO (e:=189) (sz:=3) (aQ:=24) (n:=1) (new:=uW (3+i)) rfl rfl rfl rfl rfl rfl rfl (O2.keep k3 (by simp)) rfl (λj hj=>?_) rfl (by omega) (by decide) (by simp [au]) ?_
   ·rw [<-hval];have nQ:h3[b3]?=some (.cells ⟨[.int .i64 (IntKind.i64.wrap (2+IntKind.i64.wrap ((i:Int).tdiv 4))),.int .i64 (IntKind.i64.wrap (16*((i:Int).tmod 4))),.int .i64 16]⟩ 189 (0,0)):=o3;simp only [Heap.cell?,nQ];rw [Nat.zero_add];simp
   intro a5 c5 h5 O5 k5 n5;(conv=>whnf);refine ⟨6-(i+1),by omega,?_⟩;(conv=>whnf);refine ⟨(i+1,a5,c5),rfl,?_,rfl,by simp only;omega,(k2.trans k3).cZ k5 n2,?_,λb hb=>?_⟩
   ·simp only;rw [wrapN (x:=(i:Int)+1) (n:=i+1) (by simp) (by omega)];rfl
   ·exact O5
   ·rcases n5 b hb with h|h
    ·exact n2 b h
    ·have:=k2.size;omega
  ·have hi6:i=6:=by simp at hc;omega
   subst hi6;(conv=>whnf);rcases O2 with ⟨_,h,_⟩|⟨b,c,rfl,o,t,l1,_,cl⟩
   ·cases h
   ·refine ⟨k2,b,ci,(0,0),c.drop 27,rfl,cl,n2 b (by simp [ay]),?_⟩;rw [o];have:c=qx 9++c.drop 27:=by
     have e:(qx (3+6)).length=27:=rfl;rw [e] at t;rw [show qx 9=qx (3+6) from rfl,<-t,List.take_append_drop]
    rw [<-this]
def numsL (c:aA):List Int:=[c.kind,c.links,c.size,c.d0+1,c.d1+1,c.d2+1,c.d3+1,c.d4+1,c.more+1]
theorem Vr (c:aA)(B:rP c)(h:Heap):aC Tryz.prog 195 [.agg ⟨c.cells⟩] h (λv h'=>Keeps [] h h'/\∃ b q,v=.slice (some ⟨b,0,none⟩) 9 q/\Sl h' (some ⟨b,0,none⟩) 9 q (numsL c)/\h.size<=b):=by
 have B0:=B.d0;have B1:=B.d1;have B2:=B.d2;have B3:=B.d3;have B4:=B.d4;have Bm:=B.m;refine aG aH Tryz.func195 rfl ok195 (by simp [Tryz.f195]) ?_;(conv=>whnf);refine aL.i λb1 h1 e1 s1 o1 k1=>?_;(conv=>whnf);refine aL.i λb2 h2 e2 s2 o2 k2=>?_;(conv=>whnf);refine bP.on [1,3,14,15] [1] (λq:Nat×Option Addr×Nat=>[(1,.lp 1 0),(3,.v (.slice q.2.1 (3+q.1) q.2.2)),(14,.v (.agg ⟨[.int .i64 c.d0,.int .i64 c.d1,.int .i64 c.d2,.int .i64 c.d3,.int .i64 c.d4]⟩)),(15,.v (.int .i64 (q.1:Int)))]) (λ_=>[(1,b1,c.cells)])
  (λq h'=>q.1<=5/\Keeps [] h1 h'/\Own h' 3 1 q.2.1 (3+q.1) q.2.2 (((numsL c).take (3+q.1)).map λx=>.int .i64 x)/\∀ b∈ay q.2.1,h1.size<=b) (λq=>5-q.1) (0,some ⟨b2,0,none⟩,3) ?_ ?_
 ·(conv=>whnf);refine ⟨(0,some ⟨b2,0,none⟩,3),rfl,rfl,rfl,Nat.zero_le _,k2,?_,λb hb=>by simp [ay] at hb;omega⟩;exact .inr ⟨b2,_,rfl,o2,rfl,rfl,rfl,Nat.le_refl _⟩
 ·rintro ⟨i,ai,ci⟩ h3 ⟨hi,k3,O3,n3⟩;simp only at hi O3 n3;(conv=>whnf);refine aj.i (λhc=>?_) (λhc=>?_)
  ·have hi5:i<5:=by simp at hc;omega
   (conv=>whnf);refine dO.i i rfl hi5 ?_;(conv=>whnf);refine iO.i (v:=.int .i64 (c.direct[i]'(by simpa [aA.direct] using hi5))) ?_ ?_
   ·have:i=0\/i=1\/i=2\/i=3\/i=4:=by omega
    rcases this with rfl|rfl|rfl|rfl|rfl <;> rfl
   (conv=>whnf);refine aL.i λb4 h4 e4 s4 o4 k4=>?_;have hw:IntKind.i64.wrap ((c.direct[i]'(by simpa [aA.direct] using hi5))+1)=(numsL c)[3+i]'(by simp [numsL];omega):=by
    have:i=0\/i=1\/i=2\/i=3\/i=4:=by omega
    rcases this with rfl|rfl|rfl|rfl|rfl <;> exact dR (by simp [aA.direct];omega) (by simp [aA.direct];omega)
   (conv=>whnf);refine jO (e:=3) (sz:=1) (aQ:=8) (n:=1) (new:=[.int .i64 ((numsL c)[3+i]'(by simp [numsL];omega))]) rfl rfl rfl rfl rfl rfl rfl (O3.keep k4 (by simp)) rfl (λj hj=>?_) rfl (by omega) (by decide) (λx hx hm=>by
    have:=n3 x hx;have e:x=b1:=by simpa [au] using hm
    omega) ?_
   ·rw [<-hw];have ng:h4[b4]?=some (.cells ⟨[.int .i64 (IntKind.i64.wrap ((c.direct[i]'(by simpa [aA.direct] using hi5))+1))]⟩ 3 (0,0)):=o4;simp only [Heap.cell?,ng];rw [Nat.zero_add];simp
   intro a5 c5 h5 O5 k5 n5;(conv=>whnf);refine ⟨5-(i+1),by omega,?_⟩;(conv=>whnf);refine ⟨(i+1,a5,c5),rfl,?_,rfl,by simp only;omega,(k3.trans k4).cZ k5 n3,?_,λb hb=>?_⟩
   ·simp only;rw [wrapN (x:=(i:Int)+1) (n:=i+1) (by simp) (by omega)];rfl
   ·simp only;rw [show 3+(i+1)=(3+i)+1 by omega,List.take_succ_eq_append_getElem (by simp [numsL];omega),List.map_append];exact O5
   ·rcases n5 b hb with h|h
    ·exact n3 b h
    ·have:=k3.size;omega
  ·have hi5:i=5:=by simp at hc;omega
   subst hi5;(conv=>whnf);refine aL.i λb4 h4 e4 s4 o4 k4=>?_;have hw:IntKind.i64.wrap (c.more+1)=c.more+1:=dR (by omega) (by omega);(conv=>whnf);refine jO (e:=3) (sz:=1) (aQ:=8) (n:=1) (new:=[.int .i64 (c.more+1)]) rfl rfl rfl rfl rfl rfl rfl (O3.keep k4 (by simp)) rfl (λj hj=>?_) rfl (by omega) (by decide) (λx hx hm=>by
    have:=n3 x hx;have e:x=b1:=by simpa [au] using hm
    omega) ?_
   ·rw [<-hw];have ng:h4[b4]?=some (.cells ⟨[.int .i64 (IntKind.i64.wrap (c.more+1))]⟩ 3 (0,0)):=o4;simp only [Heap.cell?,ng];rw [Nat.zero_add];simp
   intro a5 c5 h5 O5 k5 n5;(conv=>whnf);have n5':∀ b∈ay a5,h.size<=b:=λb hb=>by
    rcases n5 b hb with h|h
    ·have:=n3 b h;omega
    ·have:=k3.size;omega
   have Q:Own h5 3 1 a5 9 c5 ((numsL c).map λx=>.int .i64 x):=O5;have R:=Q.sl (α:=Int) (xs:=numsL c) (Ev _ _ (by
    intro x hx;have h1:=B.k;have h2:=B.l;have h3:=B.s;simp only [numsL,List.mem_cons,List.not_mem_nil,or_false] at hx;unfold inI64;omega)) rfl (by decide) (by simp [numsL])
   rcases O5 with ⟨_,h,_⟩|⟨b,cs,rfl,_⟩
   ·cases h
   ·exact ⟨k1.trans ((k3.trans k4).cZ k5 n3),b,c5,rfl,R,n5' b (by simp [ay])⟩
theorem Gg (v:UInt64)(h:Heap):aC Tryz.prog 210 [wv v] h (λr h'=>Keeps [] h h'/\r=.agg ⟨(gu v).cells⟩):=by
 refine aG aH Tryz.func210 rfl ok210 (by simp [Tryz.f210]) ?_;(conv=>whnf);refine aL.i λb1 h1 e1 s1 o1 k1=>?_;(conv=>whnf);refine aL.i λb2 h2 e2 s2 o2 k2=>?_;(conv=>whnf);refine aK.i λh3 s3 k3=>?_;(conv=>whnf);refine bP.on [2,3,7] [2,3] (λi:Nat=>[(2,.lp 2 0),(3,.lp 3 0),(7,.v (.int .i64 (i:Int)))]) (λi=>[(2,b1,aA.zero.cells),(3,b2,[.int .i64 0,.int .i64 0,.int .i64 0,wv v,.int .i64 (if 0<i then -1 else 0),.int .i64 (if 1<i then -1 else 0),.int .i64 (if 2<i then -1 else 0),.int .i64 (if 3<i then -1 else 0),.int .i64 (if 4<i then -1 else 0),.int .i64 (-1)])])
  (λi h'=>i<=5/\Keeps [] h h'/\h3.size<=h'.size) (λi=>5-i) 0 ?_ ?_
 ·(conv=>whnf);exact ⟨0,rfl,rfl,rfl,Nat.zero_le _,((k1.trans k2).new1 k3 (by omega)),Nat.le_refl _⟩
 ·rintro i h4 ⟨hi,k4,z4⟩;(conv=>whnf);refine aj.i (λhc=>?_) (λhc=>?_)
  ·have hi5:i<5:=by simp at hc;omega
   (conv=>whnf);refine dO.i i rfl hi5 ?_;(conv=>whnf);refine dL.i (by show 4+i*1+1<=10;omega) ?_;(conv=>whnf);refine aK.i λh5 s5 k5=>?_;(conv=>whnf);refine ⟨5-(i+1),by omega,?_⟩;(conv=>whnf);refine ⟨i+1,rfl,by rw [wrapN (x:=(i:Int)+1) (n:=i+1) (by simp) (by omega)],?_,by omega,k4.new1 k5 (by omega),by omega⟩;have:i=0\/i=1\/i=2\/i=3\/i=4:=by omega
   rcases this with rfl|rfl|rfl|rfl|rfl <;> rfl
  ·have hi5:i=5:=by simp at hc;omega
   subst hi5;(conv=>whnf);refine aK.i λh5 s5 k5=>?_;(conv=>whnf);exact ⟨k4.new1 k5 (by omega),rfl⟩
theorem Gf (kind:Int)(v:UInt64)(h:Heap):aC Tryz.prog 141 [.int .i64 kind,wv v] h (λr h'=>Keeps [] h h'/\r=.tuple (if 1<=kind/\kind<=3 then #[.agg ⟨(cB kind v).cells⟩,.int .i64 0] else #[.agg ⟨aA.zero.cells⟩,.int .i64 1])):=by
 refine aG aH Tryz.func141 rfl ok141 (by simp [Tryz.f141]) ?_;(conv=>whnf);refine aL.i λb1 h1 e1 s1 o1 k1=>?_;by_cases hk:1<=kind/\kind<=3
 ·rw [if_pos hk];have hk3:kind=1\/kind=2\/kind=3:=by omega
  rcases hk3 with rfl|rfl|rfl
  case' inl=>
   (conv=>whnf);(try refine aV.pass ?_;conv=>whnf);refine aj.t rfl ?_
  case' inr.inl=>
   (conv=>whnf);(try refine aV.pass ?_;conv=>whnf);refine aj.f rfl ?_;(conv=>whnf);(try refine aV.pass ?_;conv=>whnf);refine aj.t rfl ?_
  case' inr.inr=>
   (conv=>whnf);(try refine aV.pass ?_;conv=>whnf);refine aj.f rfl ?_;(conv=>whnf);(try refine aV.pass ?_;conv=>whnf);refine aj.f rfl ?_
  all_goals
   (conv=>whnf);(try refine aV.pass ?_;conv=>whnf);refine aj.t rfl ?_;(conv=>whnf);refine ak.i (Gg v h1) λv2 h2 k2 hv=>?_;subst hv;(conv=>whnf);refine aL.i λb3 h3 e3 s3 o3 k3=>?_;(conv=>whnf);refine aK.i λh4 s4 k4=>?_;(conv=>whnf);refine aK.i λh5 s5 k5=>?_;(conv=>whnf);refine aK.i λh6 s6 k6=>?_;(conv=>whnf);refine aK.i λh7 s7 k7=>?_;(conv=>whnf);have z2:=k2.size;exact ⟨((((k1.trans (k2.trans k3)).new1 k4 (by omega)).new1 k5 (by omega)).new1 k6 (by omega)).new1 k7 (by omega),rfl⟩
 ·rw [if_neg hk];(conv=>whnf);(try refine aV.pass ?_;conv=>whnf);refine aj.f (by simp;omega) ?_;(conv=>whnf);(try refine aV.pass ?_;conv=>whnf);refine aj.f (by simp;omega) ?_;(conv=>whnf);(try refine aV.pass ?_;conv=>whnf);refine aj.f (by simp;omega) ?_;(conv=>whnf);refine aK.i λh2 s2 k2=>?_;(conv=>whnf);exact ⟨k1.new1 k2 (by omega),rfl⟩
theorem MO (n:Int)(h:Heap):aC Tryz.prog 242 [.int .i64 n] h (λv h'=>Keeps [] h h'/\v=.bool (iB n)):=by
 refine aG aH Tryz.func242 rfl ok242 (by simp [Tryz.f242]) ?_;(conv=>whnf);refine ⟨Keeps.refl _ _,?_⟩
 congr 1
theorem Vt {h:Heap}{a:Option Addr}{n c:Nat}{xs:List Int}(S:Sl h a n c xs)(hn:n<=1000000000) :
 aC Tryz.prog 232 [.slice a n c,.func (.func 242) #[] #[]] h (λv h'=>Keeps [] h h'/\v=.int .i64 (lD iB xs 0)):=by
 have hl:=S.hlen;refine aG aH Tryz.func232 rfl ok232 (by simp [Tryz.f232]) ?_;(conv=>whnf);refine bP.on [0,1,7,8] [] (λi:Nat=>[(0,.v (.slice a n c)),(1,.v (.func (.func 242) #[] #[])),(7,.v (.int .i64 (n:Int))),(8,.v (.int .i64 (i:Int)))]) (λ_=>[])
  (λi h'=>i<=n/\Keeps [] h h'/\lD iB xs 0=lD iB (xs.drop i) i) (λi=>n-i) 0 ?_ ?_
 ·(conv=>whnf);exact ⟨0,rfl,rfl,rfl,Nat.zero_le _,Keeps.refl _ _,rfl⟩
 ·rintro i h2 ⟨hi,k2,hI⟩;(conv=>whnf);refine aj.i (λhc=>?_) (λhc=>?_)
  ·have hi1:i<xs.length:=by simp at hc;omega
   obtain ⟨b,off,hb,_,hcell⟩:=(S.keep k2).at1 i hi1;rw [List.drop_eq_getElem_cons hi1] at hI;simp only [lD] at hI;(conv=>whnf);refine aX.i i rfl (by omega) hb ?_;(conv=>whnf);refine ax.i hcell ?_;(conv=>whnf);refine ak.i (MO xs[i] h2) λv h3 k3 hv=>?_;subst hv;(conv=>whnf);refine aj.i (λhd=>?_) (λhd=>?_)
   ·(conv=>whnf);rw [if_pos (by simpa using hd)] at hI;exact ⟨k2.trans k3,by rw [hI]⟩
   ·rw [if_neg (by simpa using hd)] at hI;(conv=>whnf);refine ⟨n-(i+1),by omega,?_⟩;(conv=>whnf);exact ⟨i+1,rfl,by rw [wrapN (n:=i+1) (by simp) (by omega)],rfl,by omega,k2.trans k3,hI⟩
  ·have hi1:i=xs.length:=by simp at hc;omega
   (conv=>whnf);refine ⟨k2,?_⟩;rw [hI,hi1,List.drop_length];rfl
theorem Vu {h:Heap}{a:Option Addr}{n c:Nat}{xs:List Int}(S:Sl h a n c xs)(hn:n<=1000000000) :
 aC Tryz.prog 179 [.slice a n c,.func (.func 242) #[] #[]] h (λv h'=>Keeps [] h h'/\v=.bool (xs.any iB)):=by
 refine aG aH Tryz.func179 rfl ok179 (by simp [Tryz.f179]) ?_;(conv=>whnf);refine ak.i (Vt S hn) λv h1 k1 hv=>?_;subst hv;(conv=>whnf);refine ⟨k1,?_⟩;rw [<-Ew iB xs 0]
theorem Vv (a b:aA):mP Tryz.prog 10000 65 (.agg ⟨[.int .i64 a.d0,.int .i64 a.d1,.int .i64 a.d2,.int .i64 a.d3,.int .i64 a.d4]⟩) (.agg ⟨[.int .i64 b.d0,.int .i64 b.d1,.int .i64 b.d2,.int .i64 b.d3,.int .i64 b.d4]⟩)=some (decide (a.direct=b.direct)):=by
 have h:mP Tryz.prog 10000 65 (.agg ⟨[.int .i64 a.d0,.int .i64 a.d1,.int .i64 a.d2,.int .i64 a.d3,.int .i64 a.d4]⟩) (.agg ⟨[.int .i64 b.d0,.int .i64 b.d1,.int .i64 b.d2,.int .i64 b.d3,.int .i64 b.d4]⟩)=some ((a.d0==b.d0)&&((a.d1==b.d1)&&((a.d2==b.d2)&&((a.d3==b.d3)&&((a.d4==b.d4)&&true))))):=rfl;rw [h]
 congr 1
 rw [Bool.eq_iff_iff];simp [aA.direct]
theorem Vq (c:aA)(h:Heap)(hc:c.ok):aC Tryz.prog 194 [.agg ⟨c.cells⟩] h (λv h'=>Keeps [] h h'/\v=.bool (fV c)):=by
 refine aG aH Tryz.func194 rfl ok194 (by simp [Tryz.f194]) ?_;(conv=>whnf);refine aL.i λb1 h1 e1 s1 o1 k1=>?_;(conv=>whnf);refine ax.o o1 rfl ?_;(conv=>whnf);(try refine aV.pass ?_;conv=>whnf);refine aj.i (λhd=>?_) (λhd=>?_)
 ·have h0:c.kind=0:=by simpa using hd
  (conv=>whnf);refine ax.o o1 rfl ?_;(conv=>whnf);refine ak.i (Gg c.dU h1) λv h2 k2 hv=>?_;subst hv;(conv=>whnf);refine aL.i λb3 h3 e3 s3 o3 k3=>?_;(conv=>whnf);refine aK.i λh4 s4 k4=>?_;have k14:Keeps [] h1 h4:=(k2.trans k3).new1 k4 (by have:=k2.size;omega);(conv=>whnf);refine fq.o (k14.obj o1 (by simp)) rfl ?_;(conv=>whnf);refine gJ.w9 (by kernel_rfl) (Vv c (gu c.dU)) ?_;(conv=>whnf);refine fq.o (k14.obj o1 (by simp)) rfl ?_;(conv=>whnf);refine gJ.w9 (by kernel_rfl) (R6 c (gu c.dU)) ?_;(conv=>whnf);refine ⟨k1.trans k14,?_⟩;unfold fV;rw [if_pos h0,dJ]
  congr 1
  by_cases e:c=gu c.dU
  ·rw [decide_eq_true e,<-e];simp
  ·rw [decide_eq_false e];simp
 ·have h0:¬ c.kind=0:=by simpa using hd
  by_cases hk:1<=c.kind/\c.kind<=3
  ·have hk3:c.kind=1\/c.kind=2\/c.kind=3:=by omega
   have fin:∀ b:Bool,(b=true↔(0<=c.links/\c.links<=255/\0<=c.size/\c.size<=2688)/\iB c.more=false/\c.direct.any iB=false)->Value.bool b=Value.bool (fV c):=by
    intro b hb
    congr 1
    rw [Bool.eq_iff_iff,hb];unfold fV;rw [if_neg h0];have hd:(c.direct.any iB=false)↔c.direct.all lV=true:=by
     rw [List.any_eq_false,List.all_eq_true];refine ⟨λh x hx=>?_,λh x hx=>?_⟩
     ·have:=h x hx;simp [iB,lV] at this ⊢;omega
     ·have:=h x hx;simp [iB,lV] at this ⊢;omega
    rw [hd];simp [iB,lV]
    constructor
    ·rintro ⟨a1,a2,a3⟩;exact ⟨a3,by omega⟩
    ·rintro ⟨a1,a2⟩;exact ⟨by omega,by omega,a1⟩
   rcases hk3 with hk3|hk3|hk3
   case' inl=>
    (conv=>whnf);(try refine aV.pass ?_;conv=>whnf);refine aj.t (by rw [hk3];rfl) ?_
   case' inr.inl=>
    (conv=>whnf);(try refine aV.pass ?_;conv=>whnf);refine aj.f (by rw [hk3];rfl) ?_;(conv=>whnf);(try refine aV.pass ?_;conv=>whnf);refine aj.t (by rw [hk3];rfl) ?_
   case' inr.inr=>
    (conv=>whnf);(try refine aV.pass ?_;conv=>whnf);refine aj.f (by rw [hk3];rfl) ?_;(conv=>whnf);(try refine aV.pass ?_;conv=>whnf);refine aj.f (by rw [hk3];rfl) ?_
   all_goals
    (conv=>whnf);(try refine aV.pass ?_;conv=>whnf);refine aj.t (by first|rfl|(rw [hk3];rfl)) ?_;(conv=>whnf);refine ax.o o1 rfl ?_;(conv=>whnf);refine ax.o o1 rfl ?_;(conv=>whnf);refine ax.o o1 rfl ?_;(conv=>whnf);refine ax.o o1 rfl ?_;(conv=>whnf);refine ax.o o1 rfl ?_;have S5:∀ h',Keeps [] h1 h'->Sl h' (some ⟨b1,4,none⟩) 5 5 c.direct:=λh' kk=>⟨rfl,Nat.le_refl _,by simp [aA.direct],λi hi=>⟨b1,4,rfl,[.int .i64 c.direct[i]],⟨rfl,hc.2.2.2.1 _ (List.getElem_mem hi)⟩,λj hj=>by
     have hj0:j=0:=by simpa using hj
     subst hj0;have o14:=kk.obj o1 (by simp);simp only [Heap.cell?,o14];have hi':i<5:=hi;have:i=0\/i=1\/i=2\/i=3\/i=4:=by omega
     rcases this with rfl|rfl|rfl|rfl|rfl <;> rfl⟩⟩
    (conv=>whnf);refine aj.i (λg1=>?_) (λg1=>?_)
    ·(conv=>whnf);refine ak.i (MO c.more h1) λv h2 k2 hv=>?_;subst hv;(conv=>whnf);refine gJ.i (v:=.slice (some ⟨b1,4,none⟩) 5 5) (λw=>rfl) ?_;(conv=>whnf);refine aj.i (λg2=>?_) (λg2=>?_)
     ·(conv=>whnf);refine ak.i (Vu (S5 h2 k2) (by decide)) λv h3 k3 hv=>?_;subst hv;(conv=>whnf);refine ⟨k1.trans (k2.trans k3),fin _ ?_⟩;simp [dJ] at g1 g2 ⊢
      constructor
      ·rintro ⟨⟨⟨⟨⟨a,b⟩,c⟩,d⟩,e⟩,f⟩;exact ⟨⟨a,b,c,d⟩,e,f⟩
      ·rintro ⟨⟨a,b,c,d⟩,e,f⟩;exact ⟨⟨⟨⟨⟨a,b⟩,c⟩,d⟩,e⟩,f⟩
     ·(conv=>whnf);refine ⟨k1.trans k2,fin _ ?_⟩;simp [dJ] at g1 g2 ⊢;have:=g2 g1.1.1.1 g1.1.1.2 g1.1.2 g1.2;rw [this];simp
    ·(conv=>whnf);refine gJ.i (v:=.slice (some ⟨b1,4,none⟩) 5 5) (λw=>rfl) ?_;(conv=>whnf);refine aj.i (λg2=>?_) (λg2=>?_)
     ·exfalso;simp [dJ] at g1 g2;have:=g1 g2.1.1.1 g2.1.1.2 g2.1.2;omega
     ·(conv=>whnf);refine ⟨k1,fin _ ?_⟩;simp [dJ] at g1 g2 ⊢
      constructor
      ·rintro ⟨⟨⟨a,b⟩,c⟩,d⟩;have:=g1 a b c;omega
      ·rintro ⟨⟨a,b,c,d⟩,_⟩;have:=g1 a b c;omega
  ·(conv=>whnf);(try refine aV.pass ?_;conv=>whnf);refine aj.f (by simp;omega) ?_;(conv=>whnf);(try refine aV.pass ?_;conv=>whnf);refine aj.f (by simp;omega) ?_;(conv=>whnf);(try refine aV.pass ?_;conv=>whnf);refine aj.f (by simp;omega) ?_;(conv=>whnf);refine ⟨k1,?_⟩;unfold fV;rw [if_neg h0];have:(decide (1<=c.kind)&&decide (c.kind<=3))=false:=by simp;omega
   rw [this];simp
set_option maxHeartbeats 4000000
def Vm (c:aA):Nat->UInt64
 | 0=>0
 | 1=>fU 0 0 8 (w64 c.kind)
 | 2=>fU (fU 0 0 8 (w64 c.kind)) 8 16 (w64 c.links)
 | _+3=>uR c
def Vn (c:aA):Nat->UInt64
 | 0=>0
 | 1=>0
 | 2=>0
 | 3=>0
 | 4=>fU 0 0 16 (w64 (c.d0+1))
 | 5=>fU (fU 0 0 16 (w64 (c.d0+1))) 16 16 (w64 (c.d1+1))
 | 6=>fU (fU (fU 0 0 16 (w64 (c.d0+1))) 16 16 (w64 (c.d1+1))) 32 16 (w64 (c.d2+1))
 | _+7=>ze c
def Vo (c:aA):Nat->UInt64
 | 0=>0
 | 1=>0
 | 2=>0
 | 3=>0
 | 4=>0
 | 5=>0
 | 6=>0
 | 7=>0
 | 8=>fU 0 0 16 (w64 (c.d4+1))
 | _+9=>zf c
def cWi (c:aA)(i:Nat):List UInt64:=[Vm c i,c.dU,Vn c i,Vo c i,0,0,0,0]
theorem Vp {c:aA}(B:rP c):∀ i (hi:i<(numsL c).length),0<=(numsL c)[i]/\(numsL c)[i]<65536/\(numsL c)[i]<2 ^ jU i:=by
 intro i hi;have h1:=B.k;have h2:=B.l;have h3:=B.s;have h4:=B.d0;have h5:=B.d1;have h6:=B.d2;have h7:=B.d3;have h8:=B.d4;have h9:=B.m;have hi':i<9:=hi;have:i=0\/i=1\/i=2\/i=3\/i=4\/i=5\/i=6\/i=7\/i=8:=by omega
 rcases this with rfl|rfl|rfl|rfl|rfl|rfl|rfl|rfl|rfl <;> simp [numsL,jU] <;> omega
theorem Gc (c:aA)(hc:c.ok)(h:Heap):aC Tryz.prog 122 [.agg ⟨c.cells⟩] h (λv h'=>Keeps [] h h' /\
 if fV c=true then ∃ b,v=.tuple #[.slice (some ⟨b,0,none⟩) 8 8,.int .i64 0]/\h.size<=b/\h'[b]?=some (.cells ⟨(fP c).map wv⟩ 46 (0,0)) else v=.tuple #[.slice none 0 0,.int .i64 1]):=by
 refine aG aH Tryz.func122 rfl ok122 (by simp [Tryz.f122]) ?_;(conv=>whnf);refine aL.i λb1 h1 e1 s1 o1 k1=>?_;(conv=>whnf);refine ak.i (Vq c h1 hc) λv h2 k2 hv=>?_;subst hv;cases hr:fV c with
 | false=>
  (conv=>whnf);refine aj.t rfl ?_;(conv=>whnf);exact ⟨k1.trans k2,rfl⟩
 | true=>
  have B:=tT hr;(conv=>whnf);refine aj.f rfl ?_;(conv=>whnf);refine aW.make (n:=8) rfl rfl rfl rfl rfl (by decide) (by decide) λb3 h3 e3 s3 o3 k3=>?_;have z2:=k2.size;(conv=>whnf);refine aX.i 1 rfl (by decide) rfl ?_;(conv=>whnf);refine dN.i o3 (Nat.le_of_ble_eq_true rfl) (by simp [au,aZ];omega) λh4 s4 o4 k4=>?_;have k04:Keeps [] h h4:=(k1.trans (k2.trans k3)).new1 k4 (by omega);(conv=>whnf);refine ak.i (Vr c B h4) λv h5 k5 hv=>?_;obtain ⟨b5,q5,rfl,S5,hb5⟩:=hv;have ng:h4[b3]?=some (.cells ⟨(cWi c 0).map wv⟩ 46 (0,0)):=o4;(conv=>whnf);refine bP.on [4,19,20,21] [] (λi:Nat=>[(4,.v (.slice (some ⟨b3,0,none⟩) 8 8)),(19,.v (.slice (some ⟨b5,0,none⟩) 9 q5)),(20,.v (.int .i64 9)),(21,.v (.int .i64 (i:Int)))]) (λ_=>[])
   (λi h'=>i<=9/\Keeps [b3] h4 h'/\h5.size<=h'.size/\Sl h' (some ⟨b5,0,none⟩) 9 q5 (numsL c)/\h'[b3]?=some (.cells ⟨(cWi c i).map wv⟩ 46 (0,0))) (λi=>9-i) 0 ?_ ?_
  ·(conv=>whnf);exact ⟨0,rfl,rfl,rfl,Nat.zero_le _,k5.mono (by simp),Nat.le_refl _,S5,k5.obj ng (by simp)⟩
  ·rintro i h6 ⟨hi,k6,z6,S6,o6⟩;(conv=>whnf);refine aj.i (λhd=>?_) (λhd=>?_)
   ·have hi9:i<9:=by simp at hd;omega
    obtain ⟨n0,n1,n2⟩:=Vp B i hi9;obtain ⟨b,off,hb',_,hcell⟩:=S6.at1 i hi9;(conv=>whnf);refine aX.i i rfl hi9 hb' ?_;(conv=>whnf);refine ax.i hcell ?_;(conv=>whnf);refine ak.i (MN h6) λv h7 k7 hv=>?_;obtain ⟨bf,cf,fz,sp,rfl,hcf,hbf,o7⟩:=hv;(conv=>whnf);refine aX.i i rfl hi9 rfl ?_;have xW:=k7.obj o6 (by simp);have Gh:pu 3 (pz (0+i*3) (qx 9++sp))=some (uW i):=by
     have:i=0\/i=1\/i=2\/i=3\/i=4\/i=5\/i=6\/i=7\/i=8:=by omega
     rcases this with rfl|rfl|rfl|rfl|rfl|rfl|rfl|rfl|rfl <;> rfl
    (conv=>whnf);refine fq.o (vs:=uW i) o7 Gh ?_;(conv=>whnf);refine aL.i λb8 h8 e8 s8 o8 k8=>?_;(conv=>whnf);refine aK.i λh9 s9 k9=>?_;have k79:Keeps [] h7 h9:=k8.new1 k9 (by omega);have hA:iL i<8:=by
     unfold iL;split <;> omega
    have hF:l8 (nY i) (jU i):=by
     have:i=0\/i=1\/i=2\/i=3\/i=4\/i=5\/i=6\/i=7\/i=8:=by omega
     rcases this with rfl|rfl|rfl|rfl|rfl|rfl|rfl|rfl|rfl <;> (unfold l8;decide)
    have hcl:(cWi c i).length=8:=rfl;(conv=>whnf);refine aX.i (iL i) rfl hA rfl ?_;(conv=>whnf);refine ax.o (v:=wv ((cWi c i)[iL i]'(by omega))) (k79.obj xW (by simp)) ?_ ?_
    ·rw [nN];show ((cWi c i).map wv)[0+iL i*1]?=_;rw [show 0+iL i*1=iL i by omega];simp [hA,hcl]
    (conv=>whnf);rw [<-Ar];have hws:(w64 (numsL c)[i]).toNat<65536/\(w64 (numsL c)[i]).toNat<2 ^ jU i:=by
     rw [jT n0 (by omega)];have h2:(((numsL c)[i].toNat:Nat):Int)<((2 ^ jU i:Nat):Int):=by
      rw [Int.toNat_of_nonneg n0]
      exact_mod_cast n2
     omega
    refine ak.i (Vs _ (nY i) (jU i) hF _ hws.2 hws.1 h9) λv h10 k10 hv=>?_;subst hv;(conv=>whnf);refine aj.f rfl ?_;have hnew:(cWi c i).set (iL i) (fU ((cWi c i)[iL i]'(by omega)) (nY i) (jU i) (w64 (numsL c)[i]))=cWi c (i+1):=by
     have:i=0\/i=1\/i=2\/i=3\/i=4\/i=5\/i=6\/i=7\/i=8:=by omega
     rcases this with rfl|rfl|rfl|rfl|rfl|rfl|rfl|rfl|rfl <;> rfl
    (conv=>whnf);refine aX.i (iL i) rfl hA rfl ?_;have k610:Keeps [] h6 h10:=k7.trans (k79.trans k10);(conv=>whnf);refine dN.i (k610.obj o6 (by simp)) ?_ ?_ λh11 s11 o11 k11=>?_
    ·show 0+iL i*1+1<=_;simp [hcl];omega
    ·have:=eU o6;have:=k7.size;simp [au,aZ];omega
    (conv=>whnf);refine ⟨9-(i+1),by omega,?_⟩;(conv=>whnf);refine ⟨i+1,rfl,by rw [wrapN (x:=(i:Int)+1) (n:=i+1) (by simp) (by omega)],rfl,by omega,(k6.trans (k610.mono (by simp))).trans k11,by have:=k610.size;omega,(S6.keep k610).je k11 (λx hx hm=>?_),?_⟩
    ·simp [ay] at hx hm;omega
    ·have e5:bF (0+iL i*1) [wv (fU ((cWi c i)[iL i]'(by omega)) (nY i) (jU i) (w64 (numsL c)[i]))] ((cWi c i).map wv)=(cWi c (i+1)).map wv:=by
      rw [show 0+iL i*1=iL i by omega,yB _ _ _ (by simp [hcl];omega),<-hnew,List.map_set]
     rw [<-e5];exact o11
   ·have hi9:i=9:=by simp at hd;omega
    subst hi9;(conv=>whnf);exact ⟨k04.cZ k6 (by
     intro x hx;have:x=b3:=by simpa using hx
     omega),b3,rfl,by omega,o6⟩
end Go.Proofs.YtoociceebodfeaaGreatDoor
