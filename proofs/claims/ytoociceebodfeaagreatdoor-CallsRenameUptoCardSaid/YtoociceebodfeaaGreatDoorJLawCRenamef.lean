/-
  Joined texts: FolY, FolS, FolD, FolE, FolF, FolG, FolH, FolI, FolJ, FolK, FolL.
-/
import Derived.Shelf.SlLaysF0
import Derived.Test.YtoociceebodfeaaGreatDoorProg
import Derived.Shelf.SlSortCmp.NoneTotal
import Derived.Laws.Cover1
import Derived.Test.YtoociceebodfeaaGreatDoorJLawCRenamee
set_option linter.all false
namespace Go.Proofs.YtoociceebodfeaaGreatDoor
open Go Go.Shelf
def Ri:Go.Shelf.Ren:=⟨fun|6=>156|15=>118|14=>217|28=>191|29=>192|20=>255|21=>256|22=>257|23=>258|24=>259|25=>260|26=>261|27=>262|46=>285|47=>238|48=>239|49=>286|50=>287|57=>300|n=>n,fun|22=>38|24=>93|25=>230|3=>3|39=>183|0=>0|53=>258|55=>46|4=>4|46=>252|45=>251|50=>200|5=>5|9=>9|66=>294|70=>298|76=>324|77=>325|n=>n,λn=>n⟩
theorem JE:SlLaysF0.n6 Tryz.prog Ri:={
 mixed:=by kernel_rfl,
 f6:=⟨Tryz.f156.name,by decide,Tryz.func156.trans (congrArg some (by kernel_rfl))⟩,
 f14:=⟨Tryz.f217.name,by decide,Tryz.func217.trans (congrArg some (by kernel_rfl))⟩,
 f15:=Tryz.func118.trans (congrArg some (by kernel_rfl)),
 f20:=⟨Tryz.f255.name,by decide,Tryz.func255.trans (congrArg some (by kernel_rfl))⟩,
 f21:=⟨Tryz.f256.name,by decide,Tryz.func256.trans (congrArg some (by kernel_rfl))⟩,
 f22:=⟨Tryz.f257.name,by decide,Tryz.func257.trans (congrArg some (by kernel_rfl))⟩,
 f23:=⟨Tryz.f258.name,by decide,Tryz.func258.trans (congrArg some (by kernel_rfl))⟩,
 f24:=⟨Tryz.f259.name,by decide,Tryz.func259.trans (congrArg some (by kernel_rfl))⟩,
 f25:=⟨Tryz.f260.name,by decide,Tryz.func260.trans (congrArg some (by kernel_rfl))⟩,
 f26:=⟨Tryz.f261.name,by decide,Tryz.func261.trans (congrArg some (by kernel_rfl))⟩,
 f27:=⟨Tryz.f262.name,by decide,Tryz.func262.trans (congrArg some (by kernel_rfl))⟩,
 f28:=Tryz.func191.trans (congrArg some (by kernel_rfl)),
 f29:=Tryz.func192.trans (congrArg some (by kernel_rfl)),
 f46:=⟨Tryz.f285.name,by decide,Tryz.func285.trans (congrArg some (by kernel_rfl))⟩,
 f47:=Tryz.func238.trans (congrArg some (by kernel_rfl)),
 f48:=Tryz.func239.trans (congrArg some (by kernel_rfl)),
 f49:=⟨Tryz.f286.name,by decide,Tryz.func286.trans (congrArg some (by kernel_rfl))⟩,
 f50:=⟨Tryz.f287.name,by decide,Tryz.func287.trans (congrArg some (by kernel_rfl))⟩,
 f57:=⟨Tryz.f300.name,by decide,Tryz.func300.trans (congrArg some (by kernel_rfl))⟩,
 t0:=Tryz.underlying0,
 a0:=Tryz.isAgg0,
 z0:=Tryz.sizeOf0,
 v0:=Tryz.zeroValue0,
 t3:=Tryz.underlying3,
 a3:=Tryz.isAgg3,
 z3:=Tryz.sizeOf3,
 v3:=Tryz.zeroValue3,
 t4:=Tryz.underlying4,
 a4:=Tryz.isAgg4,
 z4:=Tryz.sizeOf4,
 v4:=Tryz.zeroValue4,
 t5:=Tryz.underlying5,
 a5:=Tryz.isAgg5,
 z5:=Tryz.sizeOf5,
 v5:=Tryz.zeroValue5,
 t9:=Tryz.underlying9,
 a9:=Tryz.isAgg9,
 z9:=Tryz.sizeOf9,
 v9:=Tryz.zeroValue9,
 t22:=Tryz.underlying38,
 a22:=Tryz.isAgg38,
 z22:=Tryz.sizeOf38,
 v22:=Tryz.zeroValue38,
 t25:=Tryz.underlying230,
 a25:=Tryz.isAgg230,
 z25:=Tryz.sizeOf230,
 v25:=Tryz.zeroValue230,
 t39:=Tryz.underlying183,
 a39:=Tryz.isAgg183,
 z39:=Tryz.sizeOf183,
 v39:=Tryz.zeroValue183,
 t45:=Tryz.underlying251,
 a45:=Tryz.isAgg251,
 z45:=Tryz.sizeOf251,
 v45:=Tryz.zeroValue251,
 t46:=Tryz.underlying252,
 a46:=Tryz.isAgg252,
 z46:=Tryz.sizeOf252,
 v46:=Tryz.zeroValue252,
 t50:=Tryz.underlying200,
 a50:=Tryz.isAgg200,
 z50:=Tryz.sizeOf200,
 v50:=Tryz.zeroValue200,
 t53:=Tryz.underlying258,
 a53:=Tryz.isAgg258,
 z53:=Tryz.sizeOf258,
 v53:=Tryz.zeroValue258,
 t55:=Tryz.underlying46,
 a55:=Tryz.isAgg46,
 z55:=Tryz.sizeOf46,
 v55:=Tryz.zeroValue46,
 t66:=Tryz.underlying294,
 a66:=Tryz.isAgg294,
 z66:=Tryz.sizeOf294,
 v66:=Tryz.zeroValue294,
 t70:=Tryz.underlying298,
 a70:=Tryz.isAgg298,
 z70:=Tryz.sizeOf298,
 v70:=Tryz.zeroValue298,
 t76:=Tryz.underlying324,
 a76:=Tryz.isAgg324,
 z76:=Tryz.sizeOf324,
 v76:=Tryz.zeroValue324,
 t77:=Tryz.underlying325,
 a77:=Tryz.isAgg325,
 z77:=Tryz.sizeOf325,
 v77:=Tryz.zeroValue325 }
end Go.Proofs.YtoociceebodfeaaGreatDoor
set_option maxRecDepth 100000
set_option maxHeartbeats 2000000
namespace Go.Proofs.YtoociceebodfeaaGreatDoor
open Go Go.aN Go.Shelf Go.RowKit Go.Sort
def blt (a b:List UInt8):Bool:=Op.bytesLess a b
theorem nJ:∀ a:List UInt8,blt a a=false
 | []=>rfl
 | x::a=>by
  have:=nJ a;unfold blt at this ⊢;simp [Op.bytesLess,this]
theorem Ap (a:List UInt8):blt a []=false:=by cases a <;> rfl
theorem xH (x y:UInt8)(a b:List UInt8):blt (x::a) (y::b)=true↔x<y\/(x=y/\blt a b=true):=by
 unfold blt;simp [Op.bytesLess]
theorem rV:∀ {a b c:List UInt8},blt a b=true->blt b c=true->blt a c=true
 | a,[],_,h,_=>by rw [Ap] at h;cases h
 | _,_::_,[],_,h=>by rw [Ap] at h;cases h
 | [],_::_,_::_,_,_=>rfl
 | x::a,y::b,z::c,h,h'=>by
  rw [xH] at h h' ⊢;rcases h with h|⟨rfl,h⟩
  ·rcases h' with h'|⟨rfl,h'⟩
   ·exact .inl (UInt8.lt_trans h h')
   ·exact .inl h
  ·rcases h' with h'|⟨rfl,h'⟩
   ·exact .inl h'
   ·exact .inr ⟨rfl,rV h h'⟩
theorem oz:∀ a b:List UInt8,blt a b=true\/a=b\/blt b a=true
 | [],[]=>.inr (.inl rfl)
 | [],_::_=>.inl rfl
 | _::_,[]=>.inr (.inr rfl)
 | x::a,y::b=>by
  rw [xH,xH];by_cases h1:x<y
  ·exact .inl (.inl h1)
  by_cases h2:y<x
  ·exact .inr (.inr (.inl h2))
  have h:x=y:=by
   apply UInt8.toNat_inj.1;have g1:¬ x.toNat<y.toNat:=h1;have g2:¬ y.toNat<x.toNat:=h2;omega
  subst h;rcases oz a b with h|rfl|h
  ·exact .inl (.inr ⟨rfl,h⟩)
  ·exact .inr (.inl rfl)
  ·exact .inr (.inr (.inr ⟨rfl,h⟩))
theorem vI {a b:List UInt8}(h:blt a b=true):blt b a=false:=by
 rw [<-Bool.not_eq_true];intro h';have:=rV h h';rw [nJ] at this;cases this
def uq (a b:List UInt8):Int:=if blt a b=true then -1 else if blt b a=true then 1 else 0
theorem Ra (a b:List UInt8):decide (uq a b<0)=blt a b:=by
 unfold uq;split
 ·rename_i h;rw [h];rfl
 ·rename_i h;have:blt a b=false:=by simpa using h
  rw [this];split <;> rfl
theorem Rb (a:ByteArray)(W:World):Calls Tryz.prog 218 #[.string a] W λe w'=>e=.returned (.bool false)/\w'=W:=by
 go_enter Tryz.func218,Tryz.ntmps218
 go_wp2
 go_ret
 simp
theorem Rc (a b:List UInt8)(W:World):Calls Tryz.prog 158 #[.string ⟨a.toArray⟩,.string ⟨b.toArray⟩] W λe w'=>e=.returned (.int .i64 (uq a b))/\w'=W:=by
 have hcon:=λx W'=>Rb x W';have hlt:Op.bytesLess (ByteArray.mk a.toArray).toList (ByteArray.mk b.toArray).toList=blt a b:=by
  rw [ByteArray.toList_mk,ByteArray.toList_mk];rfl
 have heq:((ByteArray.mk a.toArray).toList==(ByteArray.mk b.toArray).toList)=decide (a=b):=iZ a b;have hc:uq a b=if blt a b=true then -1 else if (!(blt a b||decide (a=b)))=true then 1 else 0:=by
  unfold uq;rcases oz a b with h|rfl|h
  ·rw [if_pos h,if_pos h]
  ·simp [nJ]
  ·have h1:=vI h;have h2:¬ a=b:=by rintro rfl;rw [nJ] at h;cases h
   simp [h,h1,h2]
 rw [hc]
 go_enter Tryz.func158,Tryz.ntmps158
 go_wp2_with (go_at_call 218;refine (hcon _ _).mono ?_;rintro e w' ⟨rfl,rfl⟩)
 all_goals go_ret
 all_goals refine ⟨?_,rfl⟩
 all_goals first|rfl|(exfalso;unfold blt at *;simp_all)
def vS (x y:aF):Int:=uq x.name y.name
theorem Rf (x y:aF)(W:World):Calls Tryz.prog 157 #[.agg ⟨x.cells⟩,.agg ⟨y.cells⟩] W λe w'=>e=.returned (.int .i64 (vS x y))/\∃ q os',w'=grow (W.drewN q) os':=by
 obtain ⟨x,v⟩:=x;obtain ⟨y,u⟩:=y;unfold vS aF.cells;simp only;have hcon:=λW'=>Rc x y W';generalize uq x y=r at hcon ⊢
 go_enter Tryz.func157,Tryz.ntmps157
 go_wp2_with (go_at_call 158;refine (hcon _).mono ?_;rintro e w' ⟨rfl,rfl⟩)
 go_ret
 exact ⟨rfl,0,_,by rw [alloc_eq_grow,alloc_eq_grow,grow_grow];rfl⟩
theorem yc (x y:aF):ltOf vS x y=blt x.name y.name:=Ra _ _
theorem Rh:SWO (ltOf vS) where
 irrefl x:=by rw [yc,nJ]
 trans x y z h1 h2:=by
  rw [yc] at *;exact rV h1 h2
 ntrans x y z h1 h2:=by
  rw [yc] at *;rcases oz x.name y.name with h|h|h
  ·rw [h] at h1;cases h1
  ·rw [h];exact h2
  ·rcases oz y.name z.name with g|g|g
   ·rw [g] at h2;cases h2
   ·rw [<-g];exact h1
   ·exact vI (rV g h)
def bV (l:List aF):List Value:=l.flatMap aF.cells
theorem lW (l:List aF):(bV l).length=l.length*2:=by
 induction l with
 | nil=>rfl
 | cons x l ih=>simp only [bV,List.flatMap_cons,List.length_append,aF.cells,List.length_cons,List.length_nil] at ih ⊢;omega
theorem Aw (l m:List aF):bV (l++m)=bV l++bV m:=by simp [bV]
theorem AA:∀ (l:List aF) (j:Nat) (h:j<l.length*2),(bV l)[j]?=((l[j/2]'(by omega)).cells)[j%2]?
 | [],j,h=>by simp at h
 | x::l,0,h=>rfl
 | x::l,1,h=>rfl
 | x::l,j+2,h=>by
  have h':j<l.length*2:=by simp at h;omega
  have ih:=AA l j h';have e1:(j+2)/2=j/2+1:=by omega
  have e2:(j+2)%2=j%2:=by omega
  simp only [e1,e2,List.getElem_cons_succ];rw [<-ih];rfl
theorem JD (d:Array aF):flatK aF.cells 2 d=⟨bV d.toList⟩:=by
 have hl:=lW d.toList;simp at hl;apply Array.ext
 ·rw [size_flatK];show d.size*2=(bV d.toList).length;omega
 ·intro j h1 h2;have hj:j<d.size*2:=by rw [size_flatK] at h1;exact h1
  have g:=AA d.toList j (by simpa using hj);have hd:j/2<d.size:=by omega
  have hm:j%2<(aF.cells d[j/2]).length:=by unfold aF.cells;simp;omega
  have e1:=get_flatK aF.cells 2 d j hj;rw [getElem!_pos (flatK aF.cells 2 d) j h1,getElem!_pos d (j/2) hd,getElem!_pos (aF.cells d[j/2]) (j%2) hm] at e1;rw [e1];show _=(bV d.toList)[j];have h3:j<(bV d.toList).length:=by omega
  rw [List.getElem?_eq_getElem h3] at g;have g2:(aF.cells (d.toList[j/2]'(by simpa using hd)))[j%2]?=some (aF.cells d[j/2])[j%2]:=by
   rw [Array.getElem_toList];exact List.getElem?_eq_getElem hm
  rw [g2] at g;exact (Option.some.inj g).symm
theorem QS {h:Heap}{a:Option Addr}{n c:Nat}{l:List aF}(O:Own h 93 2 a n c (bV l))(hlen:l.length<=100000) :
 aC Tryz.prog 156 [.slice a n c,.func (.func 157) #[] #[]] h (λv h'=>Keeps (ay a) h h'/\v=.tuple #[]/\∃ l',l'.Perm l/\l'.Pairwise (λx y=>blt y.name x.name=false)/\Own h' 93 2 a n c (bV l')):=by
 intro w hw;subst hw;have eg:∀ args w,(callFunc 157 args).run Tryz.prog w=.ok (.enter 157 args) w:=enters_of Tryz.func157 (by kernel_rfl) rfl;have hcl:=lW l;rcases O with ⟨rfl,rfl,rfl,hl⟩|⟨b,cs,rfl,ho,ht,h1,h2,h3⟩
 ·have:l=[]:=List.eq_nil_of_length_eq_zero (by rw [hl] at hcl;simp at hcl;omega);subst this;refine (AnyF.slices_SortFunc_none JE none 0 (.func (.func 157) #[] #[]) w).mono λe w' ⟨he,hw⟩=>?_;subst hw;exact ⟨_,he,dG.refl _,Keeps.refl _ _,rfl,[],List.Perm.refl _,List.Pairwise.nil,.inl ⟨rfl,rfl,rfl,rfl⟩⟩
 ·let d:Array aF:=l.toArray
  have hds:d.size=l.length:=by simp [d]
  have hn:n=d.size:=by omega
  subst hn;have hfl:flatK aF.cells 2 d=⟨bV l⟩:=by rw [JD]
  have hH:HoldsK aF.cells 2 w b 0 d:=by
   intro j hj;rw [size_flatK] at hj;have hjl:j<(bV l).length:=by omega
   have hjc:j<cs.length:=by
    have:d.size*2<=c*2:=by omega
    omega
   constructor
   ·have e:(flatK aF.cells 2 d)[j]! = (bV l)[j]:=by
     rw [hfl,getElem!_pos _ j (by simpa using hjl)];rfl
    show w.cell? ⟨b,0+j,none⟩=some (flatK aF.cells 2 d)[j]!;rw [e];have e2:(bV l)[j]=cs[j]:=by
     have:(cs.take (bV l).length)[j]?=(bV l)[j]?:=by rw [ht]
     rw [List.getElem?_take,if_pos hjl,List.getElem?_eq_getElem hjc,List.getElem?_eq_getElem hjl] at this;exact (Option.some.inj this).symm
    rw [e2];simp only [World.cell?,ho,Nat.zero_add];simp [hjc]
   ·simp [World.frozen?,ho]
  have hblk:b<w.heap.size:=eU ho;have hcmp:CmpLays Tryz.prog 157 #[] aF.cells 2 vS b 0 d.size w:=λ_ _ _ _ x y=>Rf x y _;refine (AnyQ.slices_SortFunc JE 2 Tryz.isAgg93 Tryz.sizeOf93 aF.cells (λ_=>rfl) (λx v hv=>by simp [aF.cells] at hv;rcases hv with rfl|rfl <;> rfl) vS Rh 157 #[] b 0 c d w eg hcmp hH hblk (by omega)).mono λe w' ⟨he,d',m,os,hp,hs,hw⟩=>?_;subst hw;have hds':d'.size=d.size:=hp.1;have hperm:d'.toList.Perm d.toList:=by
   have:=hp.2.2;rw [Array.extract_eq_self_of_le (Nat.le_refl _)] at this
   rwa [<-hds',Array.extract_eq_self_of_le (Nat.le_refl _)] at this
  have hheap:(sortWorldK aF.cells 2 w b 0 m d' os).heap=w.heap.modify b (onCells (putCells id 0 (flatK aF.cells 2 d')))++os:=rfl;refine ⟨_,he,⟨rfl,rfl,rfl⟩,⟨?_,?_⟩,rfl,d'.toList,?_,?_,?_⟩
  ·rw [hheap];simp
  ·intro x hx hxb;rw [hheap,Array.getElem?_append_left (by simpa using hx),Array.getElem?_modify];simp [ay] at hxb;rw [if_neg (λe=>hxb e.symm)]
  ·exact hperm
  ·rw [List.pairwise_iff_getElem];intro i j hi hj hij;have hj2:j<d'.size:=by simpa using hj
   have hi2:i<d'.size:=by omega
   have:=hs i j (Nat.zero_le _) hij (by omega);rw [getElem!_pos d' i hi2,getElem!_pos d' j hj2,yc] at this;simpa only [Array.getElem_toList] using this
  ·refine .inr ⟨b,(putCells id 0 (flatK aF.cells 2 d') ⟨cs⟩).toList,rfl,?_,?_,?_,?_,h3⟩
   ·rw [hheap,Array.getElem?_append_left (by simpa using hblk),Array.getElem?_modify,if_pos rfl,ho];rfl
   ·have hl2:=lW d'.toList;simp at hl2;rw [JD];apply List.ext_getElem
    ·simp [putCells];omega
    ·intro j hj1 hj2;have hjc:j<cs.length:=by simp [putCells] at hj1;omega
     simp only [List.getElem_take,putCells,Array.toList_mapIdx,List.getElem_mapIdx];rw [if_pos ⟨Nat.zero_le _,by simpa using hj2⟩];simp only [id,Nat.sub_zero];rw [getElem!_pos _ j (by simpa using hj2)];rfl
   ·simp [putCells];exact h1
   ·rw [lW];simp [hds']
end Go.Proofs.YtoociceebodfeaaGreatDoor
namespace Go.Proofs.YtoociceebodfeaaGreatDoor
open Go Go.aN
theorem Jz (l:List Value)(h:gV l=true):∀ n,gV (mM n l)=true
 | 0=>rfl
 | n+1=>by
  have app:∀ a b:List Value,gV a=true->gV b=true->gV (a++b)=true:=by
   intro a b ha hb
   induction a with
   | nil=>exact hb
   | cons x a ih=>
    simp only [List.cons_append,gV] at ha ⊢;split
    ·rename_i hx;rw [hx] at ha;exact ih ha
    ·rename_i hx;rw [hx] at ha;cases ha
  exact app _ _ h (Jz l h n)
theorem _root_.Go.aN.aW.clear {P:Program}{t e ty:TypeId}{zl:List Value}{s:Nat}(ht:P.underlying t=some (.slice e))(hz:xZ P e=some zl)(hs:zl.length=s)(hp:0<s)(h1:gV zl=true)
 {h:Heap} {b off n cap:Nat} {L:List Value} {T:TypeId} (o:h[b]?=some (.cells ⟨L⟩ T (0,0))) (hn:0<n) (hl:off+n*s<=L.length) {bs:List Nat} (hb:b∉bs) {K:Value->Heap->Prop}
 (H:∀ h' L',L'.length=L.length->h'.size=h.size->h'[b]?=some (.cells ⟨L'⟩ T (0,0))->Keeps [b] h h'->K (.tuple #[]) h') :
 aW P (Builtin.clear_ #[t] ty ⟨[.slice (some ⟨b,off,none⟩) n cap]⟩) bs h K:=by
 unfold aW;intro hlt w hw;subst hw;obtain ⟨z,DX,hzc⟩:=Ec hz w;have hzz:(Builtin.zeroCells z.cells n).toList=mM n zl:=by
  rw [hzc];unfold Builtin.zeroCells;have e2:(⟨zl⟩:Array Value).size=s:=hs;have:=congrArg Array.toList (JA n s zl hs hp);rw [e2] at this ⊢;exact this
 have hlen:(mM n zl).length=n*s:=JB n s zl hs;obtain ⟨w',r1,r2,r3,r4,r5⟩:=x9 (P:=P) (b:=b) (T:=T) (mM n zl) 0 off L w (vQ (Jz zl h1 n)) (by rw [hlen];omega) o;refine ⟨.tuple #[],w',?_,r2,λx hx=>r5 x (λe=>hb (e ▸ hx)),H _ _ ?_ r3 r4 ⟨by omega,λx _ hx=>r5 x (by simpa using hx)⟩⟩
 ·obtain ⟨m,rfl⟩:∃ m,n=m+1:=⟨n-1,by omega⟩;simp [Builtin.clear_,run_underlying ht,DX,hzz,r1]
 ·rw [vR]
def bR (l:List aF)(name:List UInt8):Option aF:=l.find? λe=>decide (e.name=name)
def qP (name:List UInt8):List aF->Nat->Int
 | [],_ => -1
 | x::l,i=>if x.name=name then (i:Int) else qP name l (i+1)
theorem JC (name:List UInt8):∀ (l:List aF) (i:Nat),(qP name l i = -1/\bR l name=none)\/(∃ j:Nat,∃ hj:j<l.length,qP name l i=((i+j:Nat):Int)/\bR l name=some l[j])
 | [],i=>.inl ⟨rfl,rfl⟩
 | x::l,i=>by
  unfold qP bR;by_cases hx:x.name=name
  ·rw [if_pos hx];exact .inr ⟨0,by simp,by simp,by simp [hx]⟩
  ·rw [if_neg hx];rcases JC name l (i+1) with ⟨h1,h2⟩|⟨j,hj,h1,h2⟩
   ·refine .inl ⟨h1,?_⟩;rw [List.find?_cons,decide_eq_false hx];exact h2
   ·refine .inr ⟨j+1,by simpa using hj,by rw [h1];congr 1;omega,?_⟩;rw [List.find?_cons,decide_eq_false hx];exact h2
theorem Q8 (x:aF){q:Nat}{name:List UInt8}{h:Heap}(hq:h[q]?=some (.cells ⟨[.string ⟨name.toArray⟩]⟩ 9 (0,0))):aC Tryz.prog 226 [.agg ⟨x.cells⟩,.pointer (some ⟨q,0,none⟩)] h (λv h'=>Keeps [] h h'/\v=.bool (decide (x.name=name))):=by
 refine aG aH Tryz.func226 rfl ok226 (by simp [Tryz.f226]) ?_;(conv=>whnf);refine aL.i λb1 h1 e1 s1 o1 k1=>?_;(conv=>whnf);refine ax.o (k1.obj hq (by simp)) rfl ?_;(conv=>whnf);refine ⟨k1,?_⟩;rw [iZ]
theorem Q9 {q:Nat}{name:List UInt8}{h:Heap}(hq:h[q]?=some (.cells ⟨[.string ⟨name.toArray⟩]⟩ 9 (0,0))){a:Option Addr}{n c:Nat}{xs:List aF}(S:Sl h a n c xs)(hn:n<=1000000000) :
 aC Tryz.prog 225 [.slice a n c,.func (.func 226) #[] #[.pointer (some ⟨q,0,none⟩)]] h (λv h'=>Keeps [] h h'/\v=.int .i64 (qP name xs 0)):=by
 have hl:=S.hlen;refine aG aH Tryz.func225 rfl ok225 (by simp [Tryz.f225]) ?_;(conv=>whnf);refine bP.on [0,1,7,8] [] (λi:Nat=>[(0,.v (.slice a n c)),(1,.v (.func (.func 226) #[] #[.pointer (some ⟨q,0,none⟩)])),(7,.v (.int .i64 (n:Int))),(8,.v (.int .i64 (i:Int)))]) (λ_=>[])
  (λi h'=>i<=n/\Keeps [] h h'/\qP name xs 0=qP name (xs.drop i) i) (λi=>n-i) 0 ?_ ?_
 ·(conv=>whnf);exact ⟨0,rfl,rfl,rfl,Nat.zero_le _,Keeps.refl _ _,rfl⟩
 ·rintro i h2 ⟨hi,k2,hI⟩;(conv=>whnf);refine aj.i (λhc=>?_) (λhc=>?_)
  ·have hi1:i<xs.length:=by simp at hc;omega
   obtain ⟨b,off,hb,cs,⟨hcs,hok⟩,hcell⟩:=(S.keep k2).at_ i hi1;subst hcs;rw [List.drop_eq_getElem_cons hi1] at hI;have hx:qP name (xs[i]::xs.drop (i+1)) i=if xs[i].name=name then (i:Int) else qP name (xs.drop (i+1)) (i+1):=rfl;rw [hx] at hI;(conv=>whnf);refine aX.i i rfl (by omega) hb ?_;(conv=>whnf);refine fq.i (vs:=xs[i].cells) rfl hcell ?_;(conv=>whnf);refine ak.i (Q8 xs[i] (k2.obj hq (by simp))) λv h3 k3 hv=>?_;subst hv;(conv=>whnf);refine aj.i (λhd=>?_) (λhd=>?_)
   ·(conv=>whnf);rw [if_pos (by simpa using hd)] at hI;exact ⟨k2.trans k3,by rw [hI]⟩
   ·rw [if_neg (by simpa using hd)] at hI;(conv=>whnf);refine ⟨n-(i+1),by omega,?_⟩;(conv=>whnf);refine ⟨i+1,rfl,by rw [wrapN (n:=i+1) (by simp) (by omega)],rfl,by omega,k2.trans k3,hI⟩
  ·have hi1:i=xs.length:=by simp at hc;omega
   (conv=>whnf);refine ⟨k2,?_⟩;rw [hI,hi1,List.drop_length];rfl
def jr (l:List aF)(name:List UInt8):Int×Bool:=match bR l name with|some e=>(e.node,true)|none=>(0,false)
theorem find_spec {h:Heap}{a:Option Addr}{n c:Nat}{xs:List aF}(S:Sl h a n c xs)(hn:n<=1000000000)(name:List UInt8) :
 aC Tryz.prog 167 [.slice a n c,.string ⟨name.toArray⟩] h (λv h'=>Keeps [] h h'/\v=.tuple #[.int .i64 (jr xs name).1,.bool (jr xs name).2]):=by
 have hl:=S.hlen;refine aG aH Tryz.func167 rfl ok167 (by simp [Tryz.f167]) ?_;(conv=>whnf);refine aL.i λb1 h1 e1 s1 o1 k1=>?_;(conv=>whnf);refine ak.i (Q9 o1 (S.keep k1) hn) λv h2 k2 hv=>?_;subst hv;have k02:=k1.trans k2;rcases JC name xs 0 with ⟨g1,g2⟩|⟨j,hj,g1,g2⟩
 ·(conv=>whnf);refine aj.t (by rw [g1];rfl) ?_;(conv=>whnf);refine ⟨k02,?_⟩;unfold jr;rw [g2]
 ·(conv=>whnf);refine aj.f (by rw [g1];simp) ?_;obtain ⟨b,off,hb,cs,⟨hcs,hok⟩,hcell⟩:=(S.keep k02).at_ j hj;subst hcs;(conv=>whnf);refine aX.i j (by rw [g1];simp) (by omega) hb ?_;(conv=>whnf);refine ax.i (v:=.int .i64 xs[j].node) (hcell 1 (by simp [aF.cells])) ?_;(conv=>whnf);refine ⟨k02,?_⟩;unfold jr;rw [g2]
theorem Ju {h:Heap}:∀ l:List aF,(∀ e∈l,e.ok)->iR h (bV l) l
 | [],_=>rfl
 | e::l,hok=>⟨e.cells,bV l,rfl,⟨rfl,hok e (by simp)⟩,Ju l λx hx=>hok x (by simp [hx])⟩
theorem kr {h:Heap}{a:Option Addr}{n c:Nat}{l:List aF}(O:Own h 93 2 a n c (bV l))(hok:∀ e∈l,e.ok)(hb:l.length<=1000000):Sl h a n c l:=O.sl (Ju l hok) rfl (by decide) (by omega)
theorem Jv {h:Heap}{a:Option Addr}{n c:Nat}{l:List aF}(O:Own h 93 2 a n c (bV l)):n=l.length:=by
 have:=lW l;rcases O with ⟨_,rfl,_,hl⟩|⟨b,cs,_,_,_,_,h2,_⟩
 ·rw [hl] at this;simp at this;omega
 ·omega
theorem D7:∀ l:List aF,gV (bV l)=true
 | []=>rfl
 | e::l=>D7 l
theorem QT {h:Heap}{a:Option Addr}{n c:Nat}{l:List aF}(O:Own h 93 2 a n c (bV l))(hok:∀ e∈l,e.ok)(hlen:l.length<=100000) :
 aC Tryz.prog 160 [.slice a n c] h (λv h'=>Keeps [] h h'/\∃ a' c',v=.slice a' n c'/\Own h' 93 2 a' n c' (bV l)/\∀ b∈ay a',h.size<=b):=by
 have hn:=Jv O;have S:=kr O hok (by omega);refine aG aH Tryz.func160 rfl ok160 (by simp [Tryz.f160]) ?_;(conv=>whnf);rcases O with ⟨rfl,rfl,rfl,hl⟩|⟨b,cs,rfl,ho,ht,h1,h2,h3⟩
 ·refine aj.t rfl ?_;(conv=>whnf);exact ⟨Keeps.refl _ _,none,0,rfl,.inl ⟨rfl,rfl,rfl,hl⟩,by simp [ay]⟩
 ·refine aj.f rfl ?_;(conv=>whnf);refine aL.i λb1 hh1 e1 s1 o1 k1=>?_;have O1:Own hh1 93 2 (some ⟨b1,0,none⟩) 0 0 []:=.inr ⟨b1,[],rfl,o1,rfl,rfl,rfl,Nat.le_refl _⟩;(conv=>whnf);rcases Nat.eq_zero_or_pos n with h0|h0
  ·subst h0;refine aW.append0 rfl rfl rfl (Nat.le_refl _) ?_;(conv=>whnf);have:l=[]:=List.eq_nil_of_length_eq_zero hn.symm;subst this;exact ⟨k1,_,_,rfl,O1,λx hx=>by simp [ay] at hx;omega⟩
  ·refine jO (e:=93) (sz:=2) (aQ:=24) (new:=bV l) rfl rfl rfl rfl rfl rfl rfl O1 (by rw [lW];omega) ?_ (D7 l) (by omega) (by omega) (by simp [au]) ?_
   ·intro j hj;have oc:=k1.obj ho (by simp);unfold Heap.cell?;rw [oc];have:(cs.take (bV l).length)[j]?=(bV l)[j]?:=by rw [ht]
    rw [List.getElem?_take,if_pos hj] at this;rw [<-this];simp
   ·intro a' c' h5 O5 k5 n5;(conv=>whnf);refine ⟨k1.cZ k5 (λx hx=>by simp [ay] at hx;omega),a',c',by rw [Nat.zero_add],by rw [Nat.zero_add,List.nil_append] at O5;exact O5,λx hx=>?_⟩;rcases n5 x hx with h|h
    ·simp [ay] at h;omega
    ·omega
theorem Jw (x y:aF)(h:Heap):aC Tryz.prog 161 [.agg ⟨x.cells⟩,.agg ⟨y.cells⟩] h (λv h'=>Keeps [] h h'/\v=.bool (decide (x.name=y.name))):=by
 refine aG aH Tryz.func161 rfl ok161 (by simp [Tryz.f161]) ?_;(conv=>whnf);refine aL.i λb1 h1 e1 s1 o1 k1=>?_;(conv=>whnf);refine aL.i λb2 h2 e2 s2 o2 k2=>?_;(conv=>whnf);refine ⟨k1.trans k2,?_⟩;rw [iZ]
def xY (l:List aF):Prop:=∀ j (hj:j+1<l.length),l[j+1].name≠l[j].name
theorem Ea {h:Heap}{b:Nat}{ys:List aF}{rest:List Value}{T:TypeId}{fz:Nat×Nat}(o:h[b]?=some (.cells ⟨bV ys++rest⟩ T fz))(j:Nat)(hj:j<ys.length):∀ i,i<2->Heap.cell? h b (j*2+i)=(ys[j].cells)[i]?:=by
 intro i hi;unfold Heap.cell?;rw [o];have hl:=lW ys;have g:=AA ys (j*2+i) (by omega);have e1:(j*2+i)/2=j:=by omega
 have e2:(j*2+i)%2=i:=by omega
 simp only [e1,e2] at g;have e3:(bV ys++rest)[j*2+i]?=(bV ys)[j*2+i]?:=List.getElem?_append_left (by omega);rw [<-g,<-e3];simp
theorem Eb {h:Heap}{b:Nat}{ys:List aF}{rest:List Value}{T:TypeId}{fz:Nat×Nat}(o:h[b]?=some (.cells ⟨bV ys++rest⟩ T fz))(k j:Nat)(hj:k+j<ys.length):∀ i,i<2->Heap.cell? h b (k*2+j*2+i)=(ys[k+j].cells)[i]?:=by
 rw [<-Nat.add_mul];exact Ea o (k+j) hj
theorem Jy:∀ (ys:List aF) (k:Nat) (x:aF) (rest:List Value),k<ys.length->bF (k*2) x.cells (bV ys++rest)=bV (ys.set k x)++rest
 | [],k,x,rest,h=>by simp at h
 | y::ys,0,x,rest,_=>by
  show bF 0 x.cells (_::_::(bV ys++rest))=_;cases hr:bV ys++rest with
  | nil=>show _=_::_::(bV ys++rest);rw [hr];rfl
  | cons v r=>show _=_::_::(bV ys++rest);rw [hr];rfl
 | y::ys,k+1,x,rest,h=>by
  have ih:=Jy ys k x rest (by simpa using h);rw [show (k+1)*2=k*2+2 by omega,List.set_cons_succ];show bF (k*2+2) x.cells (.string ⟨y.name.toArray⟩::.int .i64 y.node::(bV ys++rest))=.string ⟨y.name.toArray⟩::.int .i64 y.node::(bV (ys.set k x)++rest);rw [<-ih];rfl
theorem QU {h:Heap}{a:Option Addr}{n c:Nat}{l:List aF}(O:Own h 93 2 a n c (bV l))(hok:∀ e∈l,e.ok)(hlen:l.length<=100000) :
 aC Tryz.prog 159 [.slice a n c,.func (.func 161) #[] #[]] h (λv h'=>Keeps (ay a) h h'/\∃ a' m c',v=.slice a' m c'/\((m=n/\xY l)\/(m<n/\¬ xY l))):=by
 have hn:=Jv O;refine aG aH Tryz.func159 rfl ok159 (by simp [Tryz.f159]) ?_;(conv=>whnf);refine aj.i (λhs=>?_) (λhs=>?_)
 ·(conv=>whnf);refine ⟨Keeps.refl _ _,_,_,_,rfl,.inl ⟨rfl,?_⟩⟩;intro j hj;have:n<2:=by simp at hs;omega
  omega
 have hn2:2<=n:=by simp at hs;omega
 rcases O with ⟨rfl,rfl,rfl,hl⟩|⟨b,cs,rfl,ho,ht,h1,h2,h3⟩
 ·omega
 obtain ⟨rest,rfl⟩:∃ rest,cs=bV l++rest:=⟨cs.drop (bV l).length,by
  conv=>lhs;rw [<-List.take_append_drop (bV l).length cs]
  rw [ht]⟩
 have hel:=lW l;(conv=>whnf);refine bP.on [0,1,5] [] (λk:Nat=>[(0,.v (.slice (some ⟨b,0,none⟩) n c)),(1,.v (.func (.func 161) #[] #[])),(5,.v (.int .i64 (k:Int)))]) (λ_=>[]) (λk h'=>1<=k/\k<=n/\Keeps [] h h'/\∀ j (hj:j+1<l.length),j+1<k->l[j+1].name≠l[j].name) (λk=>n-k) 1 ?_ ?_
 ·(conv=>whnf);exact ⟨1,rfl,rfl,rfl,Nat.le_refl _,by omega,Keeps.refl _ _,λj hj hk=>by omega⟩
 ·rintro k hh ⟨hk1,hkn,kk,hno⟩;(conv=>whnf);refine aj.i (λhc=>?_) (λhc=>?_)
  ·have hk:k<l.length:=by simp at hc;omega
   have o1:=kk.obj ho (by simp);(conv=>whnf);refine aX.i k rfl (by omega) rfl ?_;(conv=>whnf);refine fq.i (vs:=l[k].cells) rfl (by rw [Nat.zero_add];exact Ea o1 k hk) ?_;(conv=>whnf);refine aX.i (k-1) (by rw [dR (by omega) (by omega)];omega) (by omega) rfl ?_;(conv=>whnf);refine fq.i (vs:=(l[k-1]'(by omega)).cells) rfl (by rw [Nat.zero_add];exact Ea o1 (k-1) (by omega)) ?_;(conv=>whnf);refine ak.i (Jw l[k] (l[k-1]'(by omega)) hh) λv h4 k4 hv=>?_;subst hv;(conv=>whnf);refine aj.i (λhd=>?_) (λhd=>?_)
   ·have hdup:l[k].name=(l[k-1]'(by omega)).name:=by simpa using hd
    have hnot:¬ xY l:=λhx=>hx (k-1) (by omega) (by simpa only [show k-1+1=k by omega] using hdup);have o4:=k4.obj o1 (by simp);(conv=>whnf);refine dw.i k n rfl rfl (by omega) (by omega) ?_;have hsl:jh (some ⟨b,0,none⟩) c k 2=some ⟨b,k*2,none⟩:=by
     unfold jh;rw [if_neg (by omega)];show some (Addr.add _ _)=_;rw [addr_add,Nat.zero_add]
    (conv=>whnf);refine bP.on [0,1,5,6,7] [] (λq:Nat×Nat=>[(0,.v (.slice (some ⟨b,0,none⟩) n c)),(1,.v (.func (.func 161) #[] #[])),(5,.v (.int .i64 (q.1:Int))),(6,.v (.slice (some ⟨b,k*2,none⟩) (n-k) (c-k))),(7,.v (.int .i64 (q.2:Int)))]) (λ_=>[])
     (λq h'=>1<=q.2/\q.2<=n-k/\q.1+1<=k+q.2/\k<=q.1/\Keeps [b] h h'/\∃ ys:List aF,ys.length=n/\h'[b]?=some (.cells ⟨bV ys++rest⟩ 93 (0,0))) (λq=>n-q.2) (k,1) ?_ ?_
    ·(conv=>whnf);refine ⟨(k,1),rfl,by simp only;rw [<-hsl];rfl,rfl,Nat.le_refl _,by simp only;omega,by simp only;omega,Nat.le_refl _,(kk.trans k4).mono (by simp),l,hn.symm,o4⟩
    ·rintro ⟨kq,k2⟩ h5 ⟨q1,q2,q3,q4,kk5,ys,hys,o5⟩;simp only at q1 q2 q3 q4;(conv=>whnf);refine aj.i (λhc2=>?_) (λhc2=>?_)
     ·have hk2:k2<n-k:=by simp at hc2;omega
      (conv=>whnf);(try refine aV.pass ?_;conv=>whnf);refine aX.i k2 rfl (by omega) rfl ?_;(conv=>whnf);refine fq.i (vs:=(ys[k+k2]'(by omega)).cells) rfl (Eb o5 k k2 (by omega)) ?_;(conv=>whnf);refine aX.i (k2-1) (by rw [dR (by omega) (by omega)];omega) (by omega) rfl ?_;(conv=>whnf);refine fq.i (vs:=(ys[k+(k2-1)]'(by omega)).cells) rfl (Eb o5 k (k2-1) (by omega)) ?_;(conv=>whnf);refine ak.i (Jw (ys[k+k2]'(by omega)) (ys[k+(k2-1)]'(by omega)) h5) λv h6 k6 hv=>?_;subst hv;have o6:=k6.obj o5 (by simp);have kk6:=kk5.bS k6;(conv=>whnf);(try refine aV.pass ?_;conv=>whnf);refine aj.i (λhd2=>?_) (λhd2=>?_)
      ·(conv=>whnf);refine aX.i k2 rfl (by omega) rfl ?_;(conv=>whnf);refine fq.i (vs:=(ys[k+k2]'(by omega)).cells) rfl (Eb o6 k k2 (by omega)) ?_;(conv=>whnf);refine aX.i kq rfl (by omega) rfl ?_;have hll:=lW ys;(conv=>whnf);refine dN.i o6 (by show 0+kq*2+2<=_;simp;omega) (by simp [au]) λh7 s7 o7 k7=>?_;have e7:bF (0+kq*2) (ys[k+k2]'(by omega)).cells (bV ys++rest)=bV (ys.set kq (ys[k+k2]'(by omega)))++rest:=by
        rw [Nat.zero_add];exact Jy ys kq _ rest (by omega)
       (conv=>whnf);refine ⟨n-(k2+1),by simp only;omega,?_⟩;(conv=>whnf);refine ⟨(kq+1,k2+1),rfl,?_,rfl,by simp only;omega,by simp only;omega,by simp only;omega,by simp only;omega,kk6.trans k7,ys.set kq (ys[k+k2]'(by omega)),by simp [hys],?_⟩
       ·rw [wrapN (n:=kq+1) (by simp) (by omega),wrapN (n:=k2+1) (by simp) (by omega)]
       ·rw [<-e7];exact o7
      ·(conv=>whnf);refine ⟨n-(k2+1),by simp only;omega,?_⟩;(conv=>whnf);refine ⟨(kq,k2+1),rfl,?_,rfl,by simp only;omega,by simp only;omega,by simp only;omega,q4,kk6,ys,hys,o6⟩;rw [wrapN (n:=k2+1) (by simp) (by omega)]
     ·have hk2:k2=n-k:=by simp at hc2;omega
      have hll:=lW ys;have hsk:jh (some ⟨b,0,none⟩) c kq 2=some ⟨b,kq*2,none⟩:=by
       unfold jh;rw [if_neg (by omega)];show some (Addr.add _ _)=_;rw [addr_add,Nat.zero_add]
      (conv=>whnf);refine dw.i kq n rfl rfl (by omega) (by omega) ?_;(conv=>whnf)
      change aW _ (Builtin.clear_ _ _ ⟨[.slice (jh (some ⟨b,0,none⟩) c kq 2) (n-kq) (c-kq)]⟩) _ _ _
      rw [hsk];refine aW.clear (zl:=[.string ⟨#[]⟩,.int .i64 0]) (s:=2) rfl rfl rfl (by decide) rfl o5 (by omega) (by simp;omega) (by simp [au]) λh7 L' s6 s7 o7 k7=>?_;(conv=>whnf);refine dw.i 0 kq rfl rfl (Nat.zero_le _) (by omega) ?_;(conv=>whnf);exact ⟨(kk5.trans k7).mono (by simp [ay]),_,_,_,rfl,.inr ⟨by omega,hnot⟩⟩
   ·(conv=>whnf);refine ⟨n-(k+1),by omega,?_⟩;(conv=>whnf);refine ⟨k+1,rfl,by rw [wrapN (n:=k+1) (by simp) (by omega)],rfl,by omega,by omega,kk.trans k4,λj hj hjk=>?_⟩;by_cases e:j+1=k
    ·subst e;simpa using hd
    ·exact hno j hj (by omega)
  ·have hk:k=n:=by simp at hc;omega
   (conv=>whnf);exact ⟨kk.mono (by simp),_,_,_,rfl,.inl ⟨rfl,λj hj=>hno j hj (by omega)⟩⟩
def di (now:Int->UInt64)(x:Int):List UInt64:=bW now (1288+x*16) 16
theorem tV (now:Int->UInt64)(x:Int):(di now x).length=16:=QW _ _ _
def iY (ws:List UInt64)(place k:Nat):Bool:=eu ws k||lm ws k place
def fC (ws:List UInt64)(k:Nat):List aF:=if eu ws k then [] else [jf ws k]
def vJ (now:Int->UInt64)(x:Int)(place:Nat):Bool:=decide (0<=x/\x<96)&&(decide (eD (di now x) 15=0)&&(List.range 5).all (iY (di now x) place))
def Az (now:Int->UInt64)(x:Int):List aF:=(List.range 5).flatMap (fC (di now x))
def aU (m:List Int)(i:Nat):Int:=m[i]?.getD (-1)
def kK (now:Int->UInt64)(m:List Int)(i:Nat):Bool:=decide (aU m i = -1)||vJ now (aU m i) i
def gH (now:Int->UInt64)(m:List Int)(i:Nat):List aF:=if aU m i = -1 then [] else Az now (aU m i)
def dV (now:Int->UInt64)(m:List Int):List aF:=(List.range 21).flatMap (gH now m)
def iX (x y:aF):Bool:=!blt y.name x.name
def uo (x:aF):List aF->List aF
 | []=>[x]
 | y::l=>if iX x y then x::y::l else y::uo x l
def qK:List aF->List aF
 | []=>[]
 | x::l=>uo x (qK l)
def fA (now:Int->UInt64)(c:aA):Int×List Int×List aF:=
 if c.kind≠2 then (6,[],[])
 else match mapOf now c with
  | none=>(15,[],[])
  | some m=>if (List.range 21).all (kK now m)=true/\((dV now m).map (·.name)).Nodup/\((dV now m).length:Int)=c.size then (0,m,qK (dV now m)) else (15,[],[])
theorem tZ (ws:List UInt64)(k:Nat):(fC ws k).length<=1:=by unfold fC;split <;> simp
theorem xU {α β:Type}(f:α->List β)(n:Nat)(h:∀ x,(f x).length<=n):∀ l:List α,(l.flatMap f).length<=n*l.length
 | []=>by simp
 | x::l=>by
  have:=xU f n h l;have hx:=h x;rw [List.flatMap_cons,List.length_append,List.length_cons,Nat.mul_add];omega
theorem QX (now:Int->UInt64)(x:Int):(Az now x).length<=5:=by
 have:=xU _ 1 (tZ (di now x)) (List.range 5);simpa [Az] using this
theorem xG (now:Int->UInt64)(m:List Int)(i:Nat):(gH now m i).length<=5:=by
 unfold gH;split
 ·simp
 ·exact QX _ _
theorem DF (now:Int->UInt64)(m:List Int):(dV now m).length<=105:=by
 have:=xU _ 5 (xG now m) (List.range 21);simpa [dV] using this
theorem QY (ws:List UInt64)(k:Nat):(jf ws k).ok:=by
 refine ⟨by have:=Js ws k;simp only [jf];omega,?_⟩;unfold inI64;simp only [jf,uf];generalize ((eD ws (3*k)).toNat:Int)=z;simp only [IntKind.wrap,IntKind.bits,IntKind.signed];simp;split <;> omega
theorem QZ {ws:List UInt64}{k:Nat}:∀ e∈fC ws k,e.ok:=by
 intro e he;unfold fC at he;split at he
 ·cases he
 ·simp at he;subst he;exact QY ws k
theorem Q0 {now:Int->UInt64}{m:List Int}{i:Nat}:∀ e∈gH now m i,e.ok:=by
 intro e he;unfold gH at he;split at he
 ·cases he
 ·unfold Az at he;obtain ⟨k,_,hk⟩:=List.mem_flatMap.1 he;exact QZ e hk
theorem IX {now:Int->UInt64}{m:List Int}:∀ e∈dV now m,e.ok:=by
 intro e he;obtain ⟨i,_,hi⟩:=List.mem_flatMap.1 he;exact Q0 e hi
theorem Q5 (a b c:aF)(h1:iX a b=true)(h2:iX b c=true):iX a c=true:=by
 unfold iX at *;rw [Bool.not_eq_true'] at *;rcases oz a.name b.name with h|h|h
 ·rcases oz b.name c.name with g|g|g
  ·exact vI (rV h g)
  ·rw [<-g];exact vI h
  ·rw [g] at h2;cases h2
 ·rw [h];exact h2
 ·rw [h] at h1;cases h1
theorem Q7 (a b:aF):(iX a b||iX b a)=true:=by
 unfold iX;cases h:blt b.name a.name
 ·rfl
 ·rw [vI h];rfl
theorem D6 (x:aF):∀ l:List aF,(uo x l).Perm (x::l)
 | []=>List.Perm.refl _
 | y::l=>by
  unfold uo;split
  ·exact List.Perm.refl _
  ·exact ((D6 x l).cons y).trans (List.Perm.swap x y l)
theorem rT:∀ l:List aF,(qK l).Perm l
 | []=>List.Perm.refl _
 | x::l=>(D6 x (qK l)).trans ((rT l).cons x)
theorem Jt (x:aF):∀ l:List aF,l.Pairwise (λx y=>iX x y=true)->(uo x l).Pairwise (λx y=>iX x y=true)
 | [],_=>by simp [uo]
 | y::l,h=>by
  obtain ⟨h1,h2⟩:=List.pairwise_cons.1 h;unfold uo;split
  ·rename_i hx;refine List.pairwise_cons.2 ⟨λz hz=>?_,h⟩;rcases List.mem_cons.1 hz with rfl|hz
   ·exact hx
   ·exact Q5 _ _ _ hx (h1 z hz)
  ·rename_i hx;refine List.pairwise_cons.2 ⟨λz hz=>?_,Jt x l h2⟩;rcases List.mem_cons.1 ((D6 x l).mem_iff.1 hz) with rfl|hz
   ·have:=Q7 z y;rw [Bool.or_eq_true] at this;exact this.resolve_left hx
   ·exact h1 z hz
theorem Aj:∀ l:List aF,(qK l).Pairwise (λx y=>iX x y=true)
 | []=>List.Pairwise.nil
 | x::l=>Jt x _ (Aj l)
theorem DC:∀ {l m:List aF},l.Perm m->(l.map (·.name)).Nodup->l.Pairwise (λx y=>iX x y=true)->m.Pairwise (λx y=>iX x y=true)->l=m
 | [],m,p,_,_,_=>(List.Perm.nil_eq p)
 | x::l,[],p,_,_,_=>by have:=p.length_eq;simp at this
 | x::l,y::m,p,hn,hl,hm=>by
  have hxy:x=y:=by
   by_cases e:x=y
   ·exact e
   exfalso;have h1:y∈l:=by
    have:y∈x::l:=p.mem_iff.2 (by simp);simp at this;exact this.resolve_left (λh=>e h.symm)
   have h2:x∈m:=by
    have:x∈y::m:=p.mem_iff.1 (by simp);simp at this;exact this.resolve_left e
   have g1:=(List.pairwise_cons.1 hl).1 y h1;have g2:=(List.pairwise_cons.1 hm).1 x h2;unfold iX at g1 g2;rw [Bool.not_eq_true'] at g1 g2;rcases oz x.name y.name with h|h|h
   ·rw [h] at g2;cases g2
   ·simp only [List.map_cons,List.nodup_cons] at hn;exact hn.1 (h ▸ List.mem_map_of_mem h1)
   ·rw [h] at g1;cases g1
  subst hxy;rw [DC (p.cons_inv) (List.nodup_cons.1 hn).2 (List.pairwise_cons.1 hl).2 (List.pairwise_cons.1 hm).2]
theorem QV {l:List aF}(hs:l.Pairwise (λx y=>iX x y=true)):xY l↔(l.map (·.name)).Nodup:=by
 constructor
 ·intro h;have hst:∀ i d (hj:i+d+1<l.length),blt (l[i]'(by omega)).name l[i+d+1].name=true:=by
   intro i d
   induction d with
   | zero=>
    intro hj;have g:=List.pairwise_iff_getElem.1 hs i (i+1) (by omega) hj (by omega);unfold iX at g;rw [Bool.not_eq_true'] at g;rcases oz (l[i]'(by omega)).name l[i+1].name with h'|h'|h'
    ·exact h'
    ·exact absurd h'.symm (h i hj)
    ·rw [h'] at g;cases g
   | succ d ih=>
    intro hj;have g:=List.pairwise_iff_getElem.1 hs (i+d+1) (i+d+1+1) (by omega) hj (by omega);unfold iX at g;rw [Bool.not_eq_true'] at g;have ih':=ih (by omega);rcases oz (l[i+d+1]'(by omega)).name l[i+d+1+1].name with h'|h'|h'
    ·exact rV ih' h'
    ·exact absurd h'.symm (h (i+d+1) hj)
    ·rw [h'] at g;cases g
  rw [List.nodup_iff_pairwise_ne,List.pairwise_map,List.pairwise_iff_getElem];intro i j hi hj hij e;have e2:i+(j-i-1)+1=j:=by omega
  have:=hst i (j-i-1) (by rw [e2];exact hj);simp only [e2] at this;rw [e,nJ] at this;cases this
 ·intro h j hj e;rw [List.nodup_iff_pairwise_ne,List.pairwise_map,List.pairwise_iff_getElem] at h;exact h j (j+1) (by omega) hj (by omega) e.symm
structure BL where
 pb:Nat
 iG:Nat
 sp:List Value
 r:Nat
 mb:List (Int×Nat)
def mK (mb:List (Int×Nat)):List (Int×Value):=mb.map λp=>(p.1,.slice (some ⟨p.2,0,none⟩) 16 16)
def BL.blocks (b:Nat)(L:BL):List Nat:=b::L.pb::L.r::L.mb.map (·.2)
structure fI (h:Heap)(b:Nat)(L:BL)(m:List Int)(i:Nat)(W:Int->List UInt64):Prop where
 obj:h[b]?=some (.cells ⟨[.slice (some ⟨L.pb,0,none⟩) 21 L.iG,.map (some L.r)]⟩ 222 (0,0))
 pl:fD h L.pb m L.sp
 cap:21<=L.iG
 len:m.length=21
 map:dF h L.r (mK L.mb)
 keys:∀ p:Int,p∈L.mb.map (·.1)↔(0<=p/\p<(i:Int)/\aU m p.toNat ≠ -1)
 blk:∀ p∈L.mb,h[p.2]?=some (.cells ⟨(W p.1).map wv⟩ 46 (0,0))/\(W p.1).length=16
 jv:(BL.blocks b L).Nodup
theorem fI.keep {F:List Nat}{h h':Heap}{b:Nat}{L:BL}{m:List Int}{i:Nat}{W:Int->List UInt64}(B:fI h b L m i W)(k:Keeps F h h')(hF:∀ x∈BL.blocks b L,x∉F):fI h' b L m i W where
 obj:=k.obj B.obj (hF b (by simp [BL.blocks]))
 pl:=k.obj B.pl (hF L.pb (by simp [BL.blocks]))
 cap:=B.cap
 len:=B.len
 map:=B.map.keep k (hF L.r (by simp [BL.blocks]))
 keys:=B.keys
 blk:=λp hp=>⟨k.obj (B.blk p hp).1 (hF p.2 (by simp only [BL.blocks,List.mem_cons];exact .inr (.inr (.inr (List.mem_map_of_mem hp))))),(B.blk p hp).2⟩
 jv:=B.jv
theorem fI.on {h h':Heap}{b:Nat}{L:BL}{m:List Int}{i:Nat}{W:Int->List UInt64}(B:fI h b L m i W)(k:Keeps [] h h'):fI h' b L m i W:=B.keep k (by simp)
theorem fI.lt {h:Heap}{b:Nat}{L:BL}{m:List Int}{i:Nat}{W:Int->List UInt64}(B:fI h b L m i W):∀ x∈BL.blocks b L,x<h.size:=by
 intro x hx;simp only [BL.blocks,List.mem_cons] at hx;rcases hx with rfl|rfl|rfl|hx
 ·exact eU B.obj
 ·exact eU B.pl
 ·exact B.map.lt
 ·obtain ⟨p,hp,rfl⟩:=List.mem_map.1 hx;exact eU (B.blk p hp).1
def wordsAt (now:Int->UInt64)(m:List Int)(p:Int):List UInt64:=di now (aU m p.toNat)
theorem fI.skip {h:Heap}{b:Nat}{L:BL}{m:List Int}{i:Nat}{W:Int->List UInt64}(B:fI h b L m i W)(hi:aU m i = -1):fI h b L m (i+1) W:=by
 refine ⟨B.obj,B.pl,B.cap,B.len,B.map,λp=>?_,B.blk,B.jv⟩;rw [B.keys p]
 constructor
 ·rintro ⟨h0,h1,h2⟩;exact ⟨h0,by omega,h2⟩
 ·rintro ⟨h0,h1,h2⟩;refine ⟨h0,?_,h2⟩;by_cases e:p=(i:Int)
  ·subst e;simp at h2;exact absurd hi h2
  ·omega
theorem Jq:∀ (m:List (Int×Value)) (n:Int) (v:Value),n∉m.map (·.1)->jy m n v=m++[(n,v)]
 | [],n,v,_=>rfl
 | (k,u)::r,n,v,h=>by
  simp only [List.map_cons,List.mem_cons,not_or] at h;simp only [jy,if_neg h.1,List.cons_append];rw [Jq r n v h.2]
theorem DW (mb:List (Int×Nat)):(mK mb).map (·.1)=mb.map (·.1):=by simp [mK]
theorem fI.add {h h':Heap}{b:Nat}{L:BL}{m:List Int}{i x:Nat}{W:Int->List UInt64}(B:fI h b L m i W)(hi:aU m i ≠ -1)(k:Keeps [L.r] h h')(hM:dF h' L.r (jy (mK L.mb) (i:Int) (.slice (some ⟨x,0,none⟩) 16 16)))(hx:h[x]?=some (.cells ⟨(W i).map wv⟩ 46 (0,0)))(hl:(W i).length=16)(hn:x∉BL.blocks b L) :
 fI h' b { L with mb:=L.mb++[((i:Int),x)] } m (i+1) W:=by
 have hnd:=B.jv;have hne:b≠L.r/\L.pb≠L.r/\L.r∉L.mb.map (·.2):=by
  simp only [BL.blocks,List.nodup_cons,List.mem_cons,not_or] at hnd;exact ⟨hnd.1.2.1,hnd.2.1.1,hnd.2.2.1⟩
 have hnk:(i:Int)∉L.mb.map (·.1):=λhk=>by have:=(B.keys i).1 hk;omega
 constructor
 ·exact k.obj B.obj (by simp;exact hne.1)
 ·exact k.obj B.pl (by simp;exact hne.2.1)
 ·exact B.cap
 ·exact B.len
 ·rw [Jq _ _ _ (by rw [DW];exact hnk)] at hM;simpa [mK] using hM
 ·intro p;simp only [List.map_append,List.map_cons,List.map_nil,List.mem_append,List.mem_cons,List.not_mem_nil,or_false];rw [B.keys p]
  constructor
  ·rintro (⟨h0,h1,h2⟩|rfl)
   ·exact ⟨h0,by omega,h2⟩
   ·exact ⟨by omega,by omega,by simpa using hi⟩
  ·rintro ⟨h0,h1,h2⟩;by_cases e:p=(i:Int)
   ·exact .inr e
   ·exact .inl ⟨h0,by omega,h2⟩
 ·intro p hp;simp only [List.mem_append,List.mem_cons,List.not_mem_nil,or_false] at hp;rcases hp with hp|rfl
  ·exact ⟨k.obj (B.blk p hp).1 (by simp;intro e;exact hne.2.2 (e ▸ List.mem_map_of_mem hp)),(B.blk p hp).2⟩
  ·exact ⟨k.obj hx (by simp;intro e;exact hn (by simp [BL.blocks,e])),hl⟩
 ·have hperm:(BL.blocks b { L with mb:=L.mb++[((i:Int),x)] })=BL.blocks b L++[x]:=by simp [BL.blocks]
  rw [hperm];rw [List.nodup_append];exact ⟨hnd,by simp,λa ha c hc=>by simp at hc;subst hc;exact λe=>hn (e ▸ ha)⟩
def rW (h h':Heap)(now:Int->UInt64)(r:Int×List Int×List aF)(v:Value):Prop:=
 if r.1=0 then ∃ b L a cc,v=.tuple #[.pointer (some ⟨b,0,none⟩),.slice a r.2.2.length cc,.int .i64 0]/\fI h' b L r.2.1 21 (wordsAt now r.2.1)/\(∀ x∈BL.blocks b L,h.size<=x)/\Own h' 93 2 a r.2.2.length cc (bV r.2.2)/\(∀ x∈ay a,h.size<=x)/\(∀ e∈r.2.2,e.ok)
 else v=.tuple #[.pointer none,.slice none 0 0,.int .i64 r.1]
def jP (now:Int->UInt64)(m:List Int)(i:Nat):List aF:=(List.range i).flatMap (gH now m)
def lu (ws:List UInt64)(k:Nat):List aF:=(List.range k).flatMap (fC ws)
theorem QK (now:Int->UInt64)(m:List Int)(i:Nat):jP now m (i+1)=jP now m i++gH now m i:=by
 unfold jP;rw [List.range_succ,List.flatMap_append];simp
theorem QL (ws:List UInt64)(k:Nat):lu ws (k+1)=lu ws k++fC ws k:=by
 unfold lu;rw [List.range_succ,List.flatMap_append];simp
theorem QM (now:Int->UInt64)(m:List Int)(i:Nat):(jP now m i).length<=5*i:=by
 have:=xU _ 5 (xG now m) (List.range i);simpa [jP] using this
theorem QN (ws:List UInt64)(k:Nat):(lu ws k).length<=k:=by
 have:=xU _ 1 (tZ ws) (List.range k);simpa [lu] using this
theorem xJ {p:Nat->Bool}{n:Nat}(h:(List.range n).all p=true){i:Nat}(hi:i<n):p i=true:=List.all_eq_true.1 h i (List.mem_range.2 hi)
theorem xK {h:Heap}{V:VL}{M:aS}{X:VS}(A:At h V M X)(c:aA)(hc:c.ok):aC Tryz.prog 102 [.pointer (some ⟨V.v,0,none⟩),.agg ⟨c.cells⟩] h (λv h'=>Keeps [] h h'/\rW h h' X.now (fA X.now c) v):=by
 refine aG aH Tryz.func102 rfl ok102 (by simp [Tryz.f102]) ?_;(conv=>whnf);refine aL.i λb1 h1 e1 s1 o1 k1=>?_;(conv=>whnf);refine aj.f rfl ?_;(conv=>whnf);refine aj.i (λhk=>?_) (λhk=>?_)
 ·(conv=>whnf);refine ⟨k1,?_⟩;have:c.kind≠2:=by simpa using hk
  unfold fA;rw [if_pos this];exact rfl
 have hkind:¬ c.kind≠2:=by simpa using hk
 (conv=>whnf);refine ak.i (xV (A.on k1) c hc) λv h2 k2 hv=>?_;have k02:=k1.trans k2;cases hm:mapOf X.now c with
 | none=>
  rw [hm] at hv;simp only at hv;subst hv;(conv=>whnf);refine aj.t rfl ?_;(conv=>whnf);refine ⟨k02,?_⟩;unfold fA;rw [if_neg hkind,hm];exact rfl
 | some m=>
  rw [hm] at hv;simp only at hv;obtain ⟨pb,iG,sp,rfl,I2,hpb,QO⟩:=hv;have hml:=vL hm;have hop:fA X.now c=if (List.range 21).all (kK X.now m)=true/\((dV X.now m).map (·.name)).Nodup/\((dV X.now m).length:Int)=c.size then (0,m,qK (dV X.now m)) else (15,[],[]):=by
   unfold fA;rw [if_neg hkind,hm]
  have bad:∀ h',Keeps [] h h'->¬ ((List.range 21).all (kK X.now m)=true/\((dV X.now m).map (·.name)).Nodup/\((dV X.now m).length:Int)=c.size)->Keeps [] h h'/\rW h h' X.now (fA X.now c) (.tuple #[.pointer none,.slice none 0 0,.int .i64 15]):=by
   intro h' kk hn;refine ⟨kk,?_⟩;rw [hop,if_neg hn];exact rfl
  have z1:=k1.size;have z2:=k2.size;(conv=>whnf);refine aj.f rfl ?_;(conv=>whnf);refine aL.i λr3 h3 e3 s3 o3 k3=>?_;(conv=>whnf);refine aL.i λb4 h4 e4 s4 o4 k4=>?_;have z24:=(k3.trans k4).size;have B0:fI h4 b4 ⟨pb,iG,sp,r3,[]⟩ m 0 (wordsAt X.now m):=
   { obj:=o4,pl:=(k3.trans k4).obj I2 (by simp),cap:=QO,len:=hml,map:=(dF.new o3).keep k4 (by simp),keys:=(λp=>⟨λh=>(by cases h),λh=>(by omega)⟩),blk:=(λp hp=>(by cases hp)),jv:=(by have:=eU I2;simp [BL.blocks];omega) }
  (conv=>whnf);refine bP.on [0,3,9,10,39,40,41] [3] (λq:Nat×List (Int×Nat)×Option Addr×Nat=>[(0,.v (.pointer (some ⟨V.v,0,none⟩))),(3,.lp 3 0),(9,.v (.pointer (some ⟨b4,0,none⟩))),(10,.v (.slice q.2.2.1 (jP X.now m q.1).length q.2.2.2)),(39,.v (.slice (some ⟨pb,0,none⟩) 21 iG)),(40,.v (.int .i64 21)),(41,.v (.int .i64 (q.1:Int)))]) (λ_=>[(3,b1,c.cells)])
   (λq h'=>q.1<=21/\Keeps [] h h'/\h4.size<=h'.size/\(List.range q.1).all (kK X.now m)=true/\fI h' b4 ⟨pb,iG,sp,r3,q.2.1⟩ m q.1 (wordsAt X.now m)/\(∀ x∈BL.blocks b4 ⟨pb,iG,sp,r3,q.2.1⟩,h.size<=x)/\Own h' 93 2 q.2.2.1 (jP X.now m q.1).length q.2.2.2 (bV (jP X.now m q.1))/\(∀ x∈ay q.2.2.1,h1.size<=x/\x∉BL.blocks b4 ⟨pb,iG,sp,r3,q.2.1⟩)) (λq=>21-q.1) (0,[],none,0) ?_ ?_
  ·(conv=>whnf);refine ⟨(0,[],none,0),rfl,rfl,rfl,by decide,(k02.trans k3).trans k4,Nat.le_refl _,rfl,B0,?_,Own.nil _ _ _,by simp [ay]⟩;intro x hx;simp [BL.blocks] at hx;omega
  ·rintro ⟨i,mb,a,ca⟩ h5 ⟨q1,kk,z5,hall,B5,n5,O5,a5⟩;simp only at q1 hall B5 n5 O5 a5;(conv=>whnf);refine aj.i (λhd=>?_) (λhd=>?_)
   ·have hi:i<21:=by simp at hd;omega
    have hin:m[i]?=some (aU m i):=by unfold aU;rw [List.getElem?_eq_getElem (by omega)];rfl
    have hin2:m[i]'(by omega)=aU m i:=by unfold aU;rw [List.getElem?_eq_getElem (by omega)];rfl
    have hla:=QM X.now m i;have hsucc:=QK X.now m i;(conv=>whnf);(try refine aV.pass ?_;conv=>whnf);refine aX.i i rfl hi rfl ?_;(conv=>whnf);refine ax.i (fD.nth B5.pl (by omega)) ?_;(conv=>whnf);rw [hin2];refine aj.i (λhx=>?_) (λhx=>?_)
    ·have hx1:aU m i = -1:=by simpa using hx
     have hpe:gH X.now m i=[]:=by unfold gH;rw [if_pos hx1]
     rw [hpe,List.append_nil] at hsucc;(conv=>whnf);refine ⟨21-(i+1),by simp only;omega,?_⟩;(conv=>whnf);refine ⟨(i+1,mb,a,ca),rfl,?_,rfl,by simp only;omega,kk,z5,?_,B5.skip hx1,n5,?_,a5⟩
     ·rw [hsucc,wrapN (n:=i+1) (by simp) (by omega)]
     ·simp only;rw [List.range_succ,List.all_append,hall];simp [kK,hx1]
     ·simp only;rw [hsucc];exact O5
    ·have hx1:aU m i ≠ -1:=by simpa using hx
     have A5:=A.on kk;(conv=>whnf);refine ak.i (D5 A5 (aU m i)) λv h6 k6 hv=>?_;have kk6:=kk.trans k6;rcases hv with ⟨g0,g1,x,rfl,x0,x1,o6⟩|⟨hout,rfl⟩
     ·have xW:h6[x]?=some (.cells ⟨(di X.now (aU m i)).map wv⟩ 46 (0,0)):=o6;have hwl:=tV X.now (aU m i);have hW:wordsAt X.now m (i:Int)=di X.now (aU m i):=by simp [wordsAt]
      have hpo:kK X.now m i=(decide (eD (di X.now (aU m i)) 15=0)&&(List.range 5).all (iY (di X.now (aU m i)) i)):=by
       unfold kK vJ;rw [decide_eq_false hx1,decide_eq_true ⟨g0,g1⟩];rfl
      have hpe:gH X.now m i=lu (di X.now (aU m i)) 5:=by
       unfold gH;rw [if_neg hx1];rfl
      generalize di X.now (aU m i)=ws at xW hwl hW hpo hpe;(conv=>whnf);refine aX.i 15 rfl (by decide) rfl ?_;(conv=>whnf);refine ax.o xW (xX (i:=0+15*1) (by omega)) ?_;(conv=>whnf);refine aj.i (λhw=>?_) (λhw=>?_)
      ·(conv=>whnf);refine bad _ kk6 λhh=>?_;have h1:=xJ hh.1 hi;rw [hpo] at h1;have h2:eD ws 15=0:=by simp at h1;exact h1.1
       have h3:((eD ws (0+15*1)).toNat:Int)=0:=by rw [show 0+15*1=15 by omega,h2];rfl
       rw [h3] at hw
       revert hw;decide
      ·have hw15:decide (eD ws 15=0)=true:=by
        rw [<-qO];have h3:(0+15*1)=15:=by omega
        rw [h3] at hw;simpa using hw
       have B6:=B5.on k6;have hlt5:=B5.lt;(conv=>whnf);refine ax.o B6.obj rfl ?_;(conv=>whnf);refine aW.put rfl rfl B6.map (by simp [au];intro e;have:=n5 r3 (by simp [BL.blocks]);omega) λh7 s7 M7 k7=>?_;have hxn:x∉BL.blocks b4 ⟨pb,iG,sp,r3,mb⟩:=λhx=>by have:=hlt5 x hx;omega
       have B7:=B6.add (x:=x) hx1 k7 M7 (by rw [hW];exact xW) (by rw [hW];exact hwl) hxn;have n7:∀ y∈BL.blocks b4 ⟨pb,iG,sp,r3,mb++[((i:Int),x)]⟩,h.size<=y:=by
        intro y hy;have e:BL.blocks b4 ⟨pb,iG,sp,r3,mb++[((i:Int),x)]⟩=BL.blocks b4 ⟨pb,iG,sp,r3,mb⟩++[x]:=by simp [BL.blocks]
        rw [e] at hy;simp only [List.mem_append,List.mem_cons,List.not_mem_nil,or_false] at hy;rcases hy with hy|rfl
        ·exact n5 y hy
        ·have:=kk.size;omega
       have O7:=(O5.keep k6 (by simp)).keep k7 (λy hy=>by simp;intro e;exact (a5 y hy).2 (by simp [BL.blocks,e]));have al5:=O5.lt;have a7:∀ y∈ay a,h1.size<=y/\y∉BL.blocks b4 ⟨pb,iG,sp,r3,mb++[((i:Int),x)]⟩:=by
        intro y hy;refine ⟨(a5 y hy).1,λhx=>?_⟩;have e:BL.blocks b4 ⟨pb,iG,sp,r3,mb++[((i:Int),x)]⟩=BL.blocks b4 ⟨pb,iG,sp,r3,mb⟩++[x]:=by simp [BL.blocks]
        rw [e] at hx;simp only [List.mem_append,List.mem_cons,List.not_mem_nil,or_false] at hx;rcases hx with hx|rfl
        ·exact (a5 y hy).2 hx
        ·have:=al5 y hy;omega
       have z56:=k6.size;have kk7:Keeps [] h h7:=kk6.new1 k7 (n5 r3 (by simp [BL.blocks]));have hxm:((i:Int),x)∈(mb++[((i:Int),x)]):=by simp
       generalize mb++[((i:Int),x)]=mb' at B7 n7 a7 hxm;(conv=>whnf);refine bP.on [0,3,9,10,11,13,39,40,41,68] [3] (λq:Nat×Option Addr×Nat=>[(0,.v (.pointer (some ⟨V.v,0,none⟩))),(3,.lp 3 0),(9,.v (.pointer (some ⟨b4,0,none⟩))),(10,.v (.slice q.2.1 (jP X.now m i++lu ws q.1).length q.2.2)),(11,.v (.int .i64 (i:Int))),(13,.v (.slice (some ⟨x,0,none⟩) 16 16)),(39,.v (.slice (some ⟨pb,0,none⟩) 21 iG)),(40,.v (.int .i64 21)),(41,.v (.int .i64 (i:Int))),(68,.v (.int .i64 (q.1:Int)))]) (λ_=>[(3,b1,c.cells)])
        (λq h'=>q.1<=5/\Keeps [] h h'/\h4.size<=h'.size/\(List.range q.1).all (iY ws i)=true/\fI h' b4 ⟨pb,iG,sp,r3,mb'⟩ m (i+1) (wordsAt X.now m)/\Own h' 93 2 q.2.1 (jP X.now m i++lu ws q.1).length q.2.2 (bV (jP X.now m i++lu ws q.1))/\(∀ x∈ay q.2.1,h1.size<=x/\x∉BL.blocks b4 ⟨pb,iG,sp,r3,mb'⟩)) (λq=>5-q.1) (0,a,ca) ?_ ?_
       ·(conv=>whnf);refine ⟨(0,a,ca),rfl,?_,rfl,Nat.zero_le _,kk7,by omega,rfl,B7,?_,a7⟩
        ·have e:jP X.now m i++lu ws 0=jP X.now m i:=by simp [lu]
         simp only [e];rfl
        ·have e:jP X.now m i++lu ws 0=jP X.now m i:=by simp [lu]
         simp only [e];exact O7
       ·rintro ⟨k,a,ca⟩ h8 ⟨q2,kk8,z8,hall8,B8,O8,a8⟩;simp only at q2 hall8 O8 a8;(conv=>whnf);refine aj.i (λhd2=>?_) (λhd2=>?_)
        ·have hk5:k<5:=by simp at hd2;omega
         have ox:=(B8.blk _ hxm).1;simp only [hW] at ox;have hks:=QL ws k;have hlk:=QN ws k;have Jr:(List.range (k+1)).all (iY ws i)=iY ws i k:=by
          rw [List.range_succ,List.all_append,hall8];simp
         (conv=>whnf);(try refine aV.pass ?_;conv=>whnf);refine ak.i (xO x k hk5 h8) λv h9 k9 hv=>?_;subst hv;(conv=>whnf);refine ak.i (Jp (k9.obj ox (by simp)) hwl k hk5) λv h10 k10 hv=>?_;subst hv;have k8_10:=k9.trans k10;(conv=>whnf);refine aj.i (λhe=>?_) (λhe=>?_)
         ·have hse:fC ws k=[]:=by unfold fC;rw [if_pos he]
          rw [hse,List.append_nil] at hks;(conv=>whnf);refine ⟨5-(k+1),by simp only;omega,?_⟩;(conv=>whnf);have z10:=k8_10.size;refine ⟨(k+1,a,ca),rfl,?_,rfl,by simp only;omega,kk8.trans k8_10,by omega,?_,B8.on k8_10,?_,a8⟩
          ·simp only;rw [hks,wrapN (n:=k+1) (by simp) (by omega)]
          ·simp only;rw [Jr];unfold iY;rw [he];rfl
          ·simp only;rw [hks];exact O8.keep k8_10 (by simp)
         ·have hse:fC ws k=[jf ws k]:=by unfold fC;rw [if_neg (by rw [he];decide)]
          have ho1:iY ws i k=lm ws k i:=by unfold iY;rw [he];rfl
          (conv=>whnf);refine ak.i (xO x k hk5 h10) λv h11 k11 hv=>?_;subst hv;(conv=>whnf);refine ak.i (Jo ((k8_10.trans k11).obj ox (by simp)) hwl k i hk5 (by omega)) λv h12 k12 hv=>?_;subst hv;(conv=>whnf);refine aL.i λb13 h13 e13 s13 o13 k13=>?_;(conv=>whnf);refine aK.i λh14 s14 k14=>?_;have k8_12:=(k8_10.trans k11).trans k12;have z12:=k8_12.size;have YR:=kk8.size;have k8_14:Keeps [] h8 h14:=(k8_12.trans k13).new1 k14 (by omega);have O14:=O8.keep k8_14 (by simp);have B14:=B8.on k8_14;(conv=>whnf);refine aj.i (λhf=>?_) (λhf=>?_)
          ·(conv=>whnf);refine bad _ (kk8.trans k8_14) λhh=>?_;have h1:=xJ hh.1 hi;rw [hpo] at h1;have h2:(List.range 5).all (iY ws i)=true:=by simp only [Bool.and_eq_true] at h1;exact h1.2
           have h3:=xJ h2 hk5;rw [ho1] at h3;rw [h3] at hf;cases hf
          ·have QR:lm ws k i=true:=by simpa using hf
           (conv=>whnf);refine aL.i λb15 h15 e15 s15 o15 k15=>?_;have hle:(jP X.now m i++lu ws k).length<=110:=by rw [List.length_append];omega
           (conv=>whnf);refine jO (e:=93) (sz:=2) (aQ:=24) (new:=(jf ws k).cells) rfl rfl rfl rfl rfl rfl rfl (O14.keep k15 (by simp)) rfl ?_ rfl (by omega) (by omega) ?_ ?_
           ·intro j hj;unfold Heap.cell?;rw [o15];have:j=0\/j=1:=by simp [aF.cells] at hj;omega
            rcases this with rfl|rfl <;> rfl
           ·intro y hy hx2;have:=(a8 y hy).1;have:=O8.lt y hy;have hx3:y=b1\/y=b13:=by simpa [au,aZ] using hx2
            omega
           ·intro a' c' h16 O16 k16 n16;(conv=>whnf);refine ⟨5-(k+1),by simp only;omega,?_⟩;(conv=>whnf);have e16:jP X.now m i++lu ws (k+1)=(jP X.now m i++lu ws k)++[jf ws k]:=by rw [hks,hse,List.append_assoc]
            have k8_16:Keeps (ay a) h8 h16:=((k8_14.trans k15).mono (by simp)).trans k16;have z16:=k8_16.size;refine ⟨(k+1,a',c'),rfl,?_,rfl,by simp only;omega,kk8.cZ k8_16 (λy hy=>by have:=(a8 y hy).1;omega),by omega,?_,B8.keep k8_16 (λy hy hx2=>(a8 y hx2).2 hy),?_,λy hy=>?_⟩
            ·simp only;rw [e16,wrapN (n:=k+1) (by simp) (by omega)];simp [Nat.add_assoc]
            ·simp only;rw [Jr,ho1];exact QR
            ·simp only;rw [e16,List.length_append,Aw];exact O16
            ·have YS:=k15.size;have YT:=k8_14.size;rcases n16 y hy with g|g
             ·exact a8 y g
             ·exact ⟨by omega,λhx2=>by have:=B8.lt y hx2;omega⟩
        ·have hk5:k=5:=by simp at hd2;omega
         subst hk5;(conv=>whnf);refine ⟨21-(i+1),by simp only;omega,?_⟩;(conv=>whnf);rw [hpe] at hsucc;refine ⟨(i+1,mb',a,ca),rfl,?_,rfl,by simp only;omega,kk8,z8,?_,B8,n7,?_,a8⟩
         ·rw [hsucc,wrapN (n:=i+1) (by simp) (by omega)]
         ·simp only;rw [List.range_succ,List.all_append,hall];simp only [List.all_cons,List.all_nil,Bool.and_true,Bool.true_and];rw [hpo,hw15,hall8];rfl
         ·simp only;rw [hsucc];exact O8
     ·(conv=>whnf);refine aX.u 0 0 0 (λhf=>absurd hf (by decide)) ?_;(conv=>whnf);refine ax.u (.int .u64 0) (λhf=>absurd hf (by decide)) ?_;(conv=>whnf);refine aj.t rfl ?_;(conv=>whnf);refine bad _ kk6 λhh=>?_;have hpo:=xJ hh.1 hi;unfold kK vJ at hpo;rw [decide_eq_false hx1,decide_eq_false hout] at hpo;cases hpo
   ·have hi:i=21:=by simp at hd;omega
    subst hi;have hraw:jP X.now m 21=dV X.now m:=rfl;rw [hraw] at O5;have hrl:=DF X.now m;(conv=>whnf);rw [hraw];refine ak.m (QS O5 (by omega)) ?_ λv h6 k6 hv=>?_
    ·intro y hy hx2;have:=(a5 y hx2).1;have:y=b1:=by simpa [au,aZ] using hy
     omega
    obtain ⟨rfl,l',pm,ps,O6⟩:=hv;have hl':=pm.length_eq;have hok':∀ e∈l',e.ok:=λe he=>IX e (pm.mem_iff.1 he);have k56:Keeps [] h h6:=kk.cZ k6 (λy hy=>by have:=(a5 y hy).1;omega);(conv=>whnf);refine ak.i (QT O6 hok' (by omega)) λv h7 k7 hv=>?_;obtain ⟨a7,c7,rfl,O7,n7⟩:=hv;have z6:=k56.size;have z16:=k6.size;have z55:=kk.size;(conv=>whnf);refine ak.m (QU O7 hok' (by omega)) ?_ λv h8 k8 hv=>?_
    ·intro y hy hx2;have:=n7 y hx2;have:y=b1:=by simpa [au,aZ] using hy
     omega
    obtain ⟨a8,m8,c8,rfl,hv8⟩:=hv;have k58:Keeps [] h h8:=(k56.trans k7).cZ k8 (λy hy=>by have:=n7 y hy;have:=k56.size;omega);have k68:Keeps [] h6 h8:=k7.cZ k8 (λy hy=>n7 y hy);have ps2:l'.Pairwise (λx y=>iX x y=true):=ps.imp λ{x y} hxy=>by unfold iX;rw [hxy];rfl
    have hnd:xY l'↔((dV X.now m).map (·.name)).Nodup:=by
     rw [QV ps2];exact (pm.map _).nodup_iff
    (conv=>whnf);refine aj.i (λhq=>?_) (λhq=>?_)
    ·(conv=>whnf);refine bad _ k58 λhh=>?_;obtain ⟨g1,g2,g3⟩:=hh;have:m8=(dV X.now m).length:=by
      rcases hv8 with ⟨h1,_⟩|⟨_,h2⟩
      ·exact h1
      ·exact absurd (hnd.2 g2) h2
     subst this;rw [g3] at hq
     revert hq
     simp [dm]
    ·(conv=>whnf);have hq2:m8=(dV X.now m).length/\((dV X.now m).length:Int)=c.size:=by
      rw [dm] at hq;simp at hq;omega
     have g2:((dV X.now m).map (·.name)).Nodup:=by
      rcases hv8 with ⟨_,h2⟩|⟨h1,_⟩
      ·exact hnd.1 h2
      ·omega
     have hls:l'=qK (dV X.now m):=by
      refine DC (pm.trans (rT _).symm) ?_ ps2 (Aj _);exact (pm.map _).nodup_iff.2 g2
     refine ⟨k58,?_⟩;rw [hop,if_pos ⟨hall,g2,hq2.2⟩];unfold rW;rw [if_pos rfl];have hlen2:(qK (dV X.now m)).length=(dV X.now m).length:=(rT _).length_eq;have B6:=(B5.keep k6 (λy hy hx=>(a5 y hx).2 hy)).on k68;rw [hls] at O6 hok';refine ⟨b4,_,a,ca,?_,B6,n5,?_,λy hy=>by have:=(a5 y hy).1;omega,hok'⟩
     ·simp only [hlen2]
     ·simp only [hlen2];exact O6.keep k68 (by simp)
end Go.Proofs.YtoociceebodfeaaGreatDoor
set_option linter.all false
set_option maxRecDepth 100000
set_option maxHeartbeats 1000000
namespace Go.aN
def xR (h:Heap)(r:Nat)(m:List (Int×Value))(n:Int)(born:Int):Prop:=
 ∃ (es:Array MapEntry) (cl:Nat) (z:Value),h[r]?=some (.map (es.push { key:=.int .i64 n,val:=z,born:=cl }) (cl+1))/\born=(cl:Int)/\es.toList.map (λe=>(e.key,e.val))=m.map (λp=>(Value.int .i64 p.1,p.2))/\((m.map (·.1))++[n]).Nodup /\
  (es.toList.map (·.born)).Nodup/\∀ e∈es.toList,e.born<cl
theorem Av:∀ (m:List (Int×Value)) (a:Int),gT m a=none↔a∉m.map (·.1)
 | [],a=>by simp [gT]
 | (k,v)::m,a=>by
  simp only [gT,List.map_cons,List.mem_cons,not_or];by_cases h:a=k
  ·simp [h]
  ·rw [if_neg h,Av m a];simp [h]
theorem aW.Jk {P:Program}{T kT eT:TypeId}{i:TypeInfo}{z:Value}(hu:P.underlying T=some (.map kT eT))(hk:P.underlying kT=some (.int .i64))(hi:P.info? eT=some i)(hz:i.zero=some z){h:Heap}{r:Nat}{m:List (Int×Value)}(o:dF h r m){n:Int}(hn:n∉m.map (·.1)){bs:List Nat}(hb:r∉bs)
 {K:Value->Heap->Prop} (H:∀ h' born,h'.size=h.size->xR h' r m n born->Keeps [r] h h'->K (.tuple #[z,.int .i64 born]) h'):aW P (Instr.mapEntry T (.map (some r)) (.int .i64 n)) bs h K:=by
 unfold aW;intro hlt w hw;subst hw;have hr:=o.lt;obtain ⟨es,cl,h1,h2,h3,h4,h5⟩:=o;obtain ⟨q,h6,h7,h8⟩:=vP es.toList m n 0 h2;have hq:q=none:=by
  cases q with
  | none=>rfl
  | some q=>
   have:=(Av m n).2 hn;rw [this] at h7;simp at h7
 subst hq;have hf:=uh (P:=P) hk h6 w;have hg:=qN (P:=P) h1;have hs:=r9 (P:=P) h1 (.map (es.push { key:=.int .i64 n,val:=z,born:=cl }) (cl+1));have DX:(zeroValue eT).run P w=.ok z w:=by simp [zeroValue,gZ P eT w hi,hz]
 refine ⟨.tuple #[z,.int .i64 cl],{ w with heap:=w.heap.setIfInBounds r (.map (es.push { key:=.int .i64 n,val:=z,born:=cl }) (cl+1)) },?_,⟨rfl,rfl,rfl⟩,λb hb'=>?_,H _ _ (by simp) ⟨es,cl,z,by rw [ku _ _ _ _ hr,if_pos rfl],rfl,h2,?_,h4,h5⟩ (sj _ _ _ hr)⟩
 ·simp only [Instr.mapEntry,Sem.run_bind,dK P T w hu,Result.andThen_ok,hg];rw [uj hk (.inl ⟨_,rfl⟩)];simp only [Result.andThen_ok,hf,Sem.run_bind,DX,hs,Sem.run_pure,goInt]
 ·show (w.heap.setIfInBounds r _)[b]?=_;rw [ku _ _ _ _ hr,if_neg (by intro e;subst e;exact hb hb')]
 ·exact List.nodup_append.2 ⟨h3,by simp,λa ha b hb hab=>by simp at hb;subst hb;subst hab;exact hn ha⟩
theorem aW.entryStore {P:Program}{T:TypeId}{h:Heap}{r:Nat}{m:List (Int×Value)}{n born:Int}(o:xR h r m n born){v:Value}{bs:List Nat}(hb:r∉bs)
 {K:Unit->Heap->Prop} (H:∀ h',h'.size=h.size->dF h' r (m++[(n,v)])->Keeps [r] h h'->K () h'):aW P (Instr.entryStore T (.map (some r)) (.int .i64 born) v) bs h K:=by
 unfold aW;intro hlt w hw;subst hw;obtain ⟨es,cl,z,h1,rfl,h2,h3,h4,h5⟩:=o;have hr:=eU h1;have hg:=qN (P:=P) h1;have hfind:(es.push { key:=.int .i64 n,val:=z,born:=cl }).findIdx? (λe=>(e.born:Int)==(cl:Int))=some es.size:=by
  rw [Array.findIdx?_eq_some_iff_getElem];refine ⟨by simp,by simp,λj hj=>?_⟩;have hj2:j<es.size:=hj;rw [Array.getElem_push_lt hj2];have:=h5 es[j] (by simp);simp;omega
 have hmod:(es.push { key:=.int .i64 n,val:=z,born:=cl }).modify es.size (λe=>{ e with val:=v })=es.push { key:=.int .i64 n,val:=v,born:=cl }:=by
  apply Array.ext
  ·simp
  ·intro j j1 j2;rw [Array.getElem_modify];have hj:j<es.size+1:=by simpa using j2
   by_cases e:j=es.size
   ·subst e;simp
   ·rw [if_neg (λx=>e x.symm),Array.getElem_push_lt (by omega),Array.getElem_push_lt (by omega)]
 have hs:=r9 (P:=P) h1 (.map (es.push { key:=.int .i64 n,val:=v,born:=cl }) (cl+1));refine ⟨(),{ w with heap:=w.heap.setIfInBounds r (.map (es.push { key:=.int .i64 n,val:=v,born:=cl }) (cl+1)) },?_,⟨rfl,rfl,rfl⟩,λb hb'=>?_,H _ (by simp) ⟨es.push { key:=.int .i64 n,val:=v,born:=cl },cl+1,by rw [ku _ _ _ _ hr,if_pos rfl],?_,?_,?_,?_⟩ (sj _ _ _ hr)⟩
 ·simp [Instr.entryStore,hg,asInt,asIntOf,hfind,hmod,hs]
 ·show (w.heap.setIfInBounds r _)[b]?=_;rw [ku _ _ _ _ hr,if_neg (by intro e;subst e;exact hb hb')]
 ·simp only [Array.toList_push,List.map_append,List.map_cons,List.map_nil,h2]
 ·simpa using h3
 ·simp only [Array.toList_push,List.map_append,List.map_cons,List.map_nil];refine List.nodup_append.2 ⟨h4,by simp,λa ha b hb hab=>?_⟩;simp at hb;subst hb;subst hab;obtain ⟨e,he,hx⟩:=List.mem_map.1 ha;have:=h5 e he;omega
 ·intro e he;simp only [Array.toList_push,List.mem_append,List.mem_cons,List.not_mem_nil,or_false] at he;rcases he with he|rfl
  ·have:=h5 e he;omega
  ·simp
end Go.aN
namespace Go.Proofs.YtoociceebodfeaaGreatDoor
open Go Go.aN
theorem Qy (l:List UInt8)(n:Nat)(h:Heap)(hn:n<=64)(hs:8*n<l.length)(hl:l.length<=140737488351232):aC Tryz.prog 173 [.string ⟨l.toArray⟩,.int .i64 (n:Int)] h (λv h'=>Keeps [] h h'/\v=.tuple #[.slice none 0 0,.int .i64 2]):=by
 refine aG aH Tryz.func173 rfl ok173 (by simp [Tryz.f173]) ?_;(conv=>whnf);have e8:IntKind.i64.wrap (8*(n:Int))=((8*n:Nat):Int):=wrapN (by omega) (by omega);refine aj.f (by simp [dm];omega) ?_;(conv=>whnf);refine aj.t (by rw [dP,e8];simp;omega) ?_;(conv=>whnf);exact ⟨Keeps.refl _ _,rfl⟩
theorem DN {v0:Nat}(node:Int)(h:Heap):aC Tryz.prog 168 [.pointer (some ⟨v0,0,none⟩),.int .i64 node] h (λv h'=>Keeps [] h h'/\v=.int .i64 (if 0<=node/\node<24 then 0 else 1)):=by
 refine aG aH Tryz.func168 rfl ok168 (by simp [Tryz.f168]) ?_;(conv=>whnf);refine ak.i (ul node h) λv h1 k1 hv=>?_;subst hv;(conv=>whnf);(try refine aV.pass ?_;conv=>whnf);refine aj.f rfl ?_;(conv=>whnf);exact ⟨k1,rfl⟩
def um (h h':Heap)(r:Int×List Int×List aF)(v:Value):Prop:=
 if r.1=0 then ∃ a cc,v=.tuple #[.slice a r.2.2.length cc,.int .i64 0]/\Own h' 93 2 a r.2.2.length cc (bV r.2.2)/\(∀ x∈ay a,h.size<=x)/\(∀ e∈r.2.2,e.ok)
 else v=.tuple #[.slice none 0 0,.int .i64 r.1]
theorem DY {h:Heap}{V:VL}{M:aS}{X:VS}(A:At h V M X)(c:aA)(hc:c.ok):aC Tryz.prog 59 [.pointer (some ⟨V.v,0,none⟩),.agg ⟨c.cells⟩] h (λv h'=>Keeps [] h h'/\um h h' (fA X.now c) v):=by
 refine aG aH Tryz.func59 rfl ok59 (by simp [Tryz.f59]) ?_;(conv=>whnf);refine aL.i λb1 h1 e1 s1 o1 k1=>?_;(conv=>whnf);refine ak.i (xK (A.on k1) c hc) λv h2 k2 hv=>?_;have z1:=k1.size;generalize fA X.now c=r at hv;unfold rW at hv;split at hv
 ·rename_i h0;obtain ⟨b,L,a,cc,rfl,B,nB,O,nO,ok⟩:=hv;(conv=>whnf);refine ⟨k1.trans k2,?_⟩;unfold um;rw [if_pos h0];exact ⟨a,cc,rfl,O,λx hx=>by have:=nO x hx;omega,ok⟩
 ·rename_i h0;subst hv;(conv=>whnf);refine ⟨k1.trans k2,?_⟩;unfold um;rw [if_neg h0]
def nL (now:Int->UInt64)(c:aA)(name:List UInt8):Int×Bool×Int:=
 if (fA now c).1=0 then ((jr (fA now c).2.2 name).1,(jr (fA now c).2.2 name).2,0) else (0,false,(fA now c).1)
theorem DL (now:Int->UInt64)(c:aA):(fA now c).2.2.length<=105:=by
 unfold fA;split
 ·simp
 ·split
  ·simp
  ·split
   ·simp only;rw [(rT _).length_eq];exact DF _ _
   ·simp
theorem DZ {h:Heap}{V:VL}{M:aS}{X:VS}(A:At h V M X)(c:aA)(hc:c.ok)(name:List UInt8):aC Tryz.prog 108 [.pointer (some ⟨V.v,0,none⟩),.agg ⟨c.cells⟩,.string ⟨name.toArray⟩] h (λv h'=>Keeps [] h h'/\v=.tuple #[.int .i64 (nL X.now c name).1,.bool (nL X.now c name).2.1,.int .i64 (nL X.now c name).2.2]):=by
 have hlen:=DL X.now c;unfold nL;refine aG aH Tryz.func108 rfl ok108 (by simp [Tryz.f108]) ?_;(conv=>whnf);refine aL.i λb1 h1 e1 s1 o1 k1=>?_;(conv=>whnf);refine ak.i (xK (A.on k1) c hc) λv h2 k2 hv=>?_;generalize fA X.now c=r at hv hlen;unfold rW at hv;split at hv
 ·rename_i h0;obtain ⟨b,L,a,cc,rfl,B,nB,O,nO,ok⟩:=hv;(conv=>whnf);refine aj.f rfl ?_;(conv=>whnf);refine ak.i (find_spec (kr O ok (by omega)) (by omega) name) λv h3 k3 hv=>?_;subst hv;(conv=>whnf);rw [if_pos h0];exact ⟨(k1.trans k2).trans k3,rfl⟩
 ·rename_i h0;subst hv;(conv=>whnf);refine aj.t (by simpa using h0) ?_;(conv=>whnf);rw [if_neg h0];exact ⟨k1.trans k2,rfl⟩
end Go.Proofs.YtoociceebodfeaaGreatDoor
set_option linter.all false
set_option maxRecDepth 100000
set_option maxHeartbeats 1000000
namespace Go.Proofs.YtoociceebodfeaaGreatDoor
open Go Go.aN
theorem Jl:∀ {m:List (Int×Value)} {k:Int} {v:Value},(m.map (·.1)).Nodup->(k,v)∈m->gT m k=some v
 | [],_,_,_,h=>by cases h
 | (k',u)::m,k,v,hn,h=>by
  simp only [List.map_cons,List.nodup_cons] at hn;simp only [gT];rcases List.mem_cons.1 h with h|h
  ·cases h;rw [if_pos rfl]
  ·rw [if_neg (λe=>hn.1 (by rw [<-e];exact List.mem_map_of_mem (f:=λp:Int×Value=>p.1) h))];exact Jl hn.2 h
theorem fI.hole {h:Heap}{b:Nat}{L:BL}{m:List Int}{i:Nat}{W:Int->List UInt64}(B:fI h b L m i W){p:Nat}(hp:aU m p = -1):gT (mK L.mb) (p:Int)=none:=by
 rw [Av,DW,B.keys];rintro ⟨_,_,h3⟩;exact h3 (by simpa using hp)
theorem fI.used {h:Heap}{b:Nat}{L:BL}{m:List Int}{i:Nat}{W:Int->List UInt64}(B:fI h b L m i W){p:Nat}(hi:p<i)(hp:aU m p ≠ -1):∃ x,((p:Int),x)∈L.mb/\gT (mK L.mb) (p:Int)=some (.slice (some ⟨x,0,none⟩) 16 16):=by
 have hk:(p:Int)∈L.mb.map (·.1):=(B.keys p).2 ⟨by omega,by omega,by simpa using hp⟩;obtain ⟨⟨q,x⟩,hq,e⟩:=List.mem_map.1 hk;simp only at e;subst e;refine ⟨x,hq,Jl ?_ (List.mem_map.2 ⟨_,hq,rfl⟩)⟩;obtain ⟨es,cl,_,_,g,_⟩:=B.map;exact g
def jK (p:List UInt64->Nat->Bool)(ws:List UInt64):Nat->Nat->Option Nat
 | 0,_=>none
 | f+1,k=>if p ws k then some k else jK p ws f (k+1)
def gP (W:Int->List UInt64)(m:List Int)(p:List UInt64->Nat->Bool):Nat->Nat->Option (Nat×Nat)
 | 0,_=>none
 | f+1,pl=>if pl<21 then (if aU m pl = -1 then gP W m p f (pl+8) else (match jK p (W (pl:Int)) 5 0 with | some k=>some (pl,k) | none=>gP W m p f (pl+8))) else none
def Jm:Option (Nat×Nat)->Value
 | some (pl,k)=>.tuple #[.int .i64 (pl:Int),.int .i64 (k:Int),.bool true]
 | none=>.tuple #[.int .i64 0,.int .i64 0,.bool false]
def jD (name:List UInt8)(ws:List UInt64)(k:Nat):Bool:=lm ws k (bU name)&&decide (jL ws k=name)
theorem QI {h:Heap}{b q:Nat}{ws:List UInt64}{T:TypeId}{fz:Nat×Nat}{name:List UInt8}(hnl:name.length<=140737488351232)(hq:h[q]?=some (.cells ⟨[.string ⟨name.toArray⟩]⟩ 9 (0,0)))(o:h[b]?=some (.cells ⟨ws.map wv⟩ T fz))(hl:ws.length=16)(k:Nat)(hk:k<5) :
 aC Tryz.prog 170 [.slice (some ⟨b,3*k,none⟩) 3 3,.pointer (some ⟨q,0,none⟩)] h (λv h'=>Keeps [] h h'/\v=.bool (jD name ws k)):=by
 have hlt:=qG name;refine aG aH Tryz.func170 rfl ok170 (by simp [Tryz.f170]) ?_;(conv=>whnf);refine ax.o hq rfl ?_;(conv=>whnf);refine ak.i (xS name hnl h) λv h1 k1 hv=>?_;subst hv;(conv=>whnf);refine ak.i (Jo (k1.obj o (by simp)) hl k (bU name) hk (by omega)) λv h2 k2 hv=>?_;subst hv;(conv=>whnf);refine aL.i λb3 h3 e3 s3 o3 k3=>?_;(conv=>whnf);refine aK.i λh4 s4 k4=>?_;have k04:Keeps [] h h4:=((k1.trans k2).trans k3).new1 k4 (by have:=(k1.trans k2).size;omega);(conv=>whnf);refine ax.o (k04.obj hq (by simp)) rfl ?_;(conv=>whnf);refine ⟨k04,?_⟩;rw [iZ,dJ];rfl
theorem QE {h:Heap}{b:Nat}{L:BL}{m:List Int}{W:Int->List UInt64}(B:fI h b L m 21 W)(name:List UInt8)(hnl:name.length<=140737488351232) :
 aC Tryz.prog 169 [.pointer (some ⟨b,0,none⟩),.string ⟨name.toArray⟩,.func (.func 153) #[] #[]] h (λv h'=>Keeps [] h h'/\v=Jm (gP W m eu 4 (bU name))):=by
 have hbk:=qG name;refine aG aH Tryz.func169 rfl ok169 (by simp [Tryz.f169]) ?_;(conv=>whnf);refine ak.i (xS name hnl h) λv h1 k1 hv=>?_;subst hv;(conv=>whnf);refine bP.on [0,2,9] [] (λp:Nat=>[(0,.v (.pointer (some ⟨b,0,none⟩))),(2,.v (.func (.func 153) #[] #[])),(9,.v (.int .i64 (p:Int)))]) (λ_=>[])
  (λp h'=>Keeps [] h h'/\∃ f,p+8*f<=32+7/\f<=4/\p+8*f=bU name+32/\gP W m eu 4 (bU name)=gP W m eu f p) (λp=>40-p) (bU name) ?_ ?_
 ·exact ⟨bU name,rfl,rfl,rfl,k1,4,by omega,by omega,by omega,rfl⟩
 ·rintro p h2 ⟨k2,f,q1,q2,q3,hf⟩;have hst:gP W m eu f p=(if p<21 then (if aU m p = -1 then gP W m eu (f-1) (p+8) else (match jK eu (W (p:Int)) 5 0 with|some k=>some (p,k)|none=>gP W m eu (f-1) (p+8))) else none):=by
   cases f with
   | zero=>simp only [gP];rw [if_neg (by omega)]
   | succ f=>rfl
  have B2:=B.on k2;(conv=>whnf);refine aj.i (λhc=>?_) (λhc=>?_)
  ·have hp:p<21:=by simp at hc;omega
   rw [if_pos hp] at hst;(conv=>whnf);(try refine aV.pass ?_;conv=>whnf);refine ax.o B2.obj rfl ?_;by_cases hh:aU m p = -1
   ·rw [if_pos hh] at hst;(conv=>whnf);refine gL.is B2.map (B2.hole hh) ?_;(conv=>whnf);refine aj.t rfl ?_;(conv=>whnf);refine ⟨40-(p+8),by omega,?_⟩;(conv=>whnf);exact ⟨p+8,rfl,by rw [wrapN (n:=p+8) (by simp) (by omega)],rfl,k2,f-1,by omega,by omega,by omega,by rw [hf,hst]⟩
   ·rw [if_neg hh] at hst;obtain ⟨x,hx,hlk⟩:=B2.used hp hh;obtain ⟨ox,hwl⟩:=B2.blk _ hx;simp only at ox hwl;(conv=>whnf);refine gL.is B2.map hlk ?_;(conv=>whnf);refine aj.f rfl ?_;(conv=>whnf);refine bP.on [0,2,9,10,30] [] (λk:Nat=>[(0,.v (.pointer (some ⟨b,0,none⟩))),(2,.v (.func (.func 153) #[] #[])),(9,.v (.int .i64 (p:Int))),(10,.v (.slice (some ⟨x,0,none⟩) 16 16)),(30,.v (.int .i64 (k:Int)))]) (λ_=>[])
     (λk h'=>Keeps [] h2 h'/\k<=5/\jK eu (W (p:Int)) 5 0=jK eu (W (p:Int)) (5-k) k) (λk=>5-k) 0 ?_ ?_
    ·(conv=>whnf);exact ⟨0,rfl,rfl,rfl,Keeps.refl _ _,by decide,rfl⟩
    ·rintro k h3 ⟨k3,hk5,jw⟩;(conv=>whnf);refine aj.i (λhc2=>?_) (λhc2=>?_)
     ·have hk:k<5:=by simp at hc2;omega
      have hf2:jK eu (W (p:Int)) (5-k) k=if eu (W (p:Int)) k then some k else jK eu (W (p:Int)) (5-(k+1)) (k+1):=by
       have:5-k=(5-(k+1))+1:=by omega
       rw [this];rfl
      rw [hf2] at jw;have o3:=k3.obj ox (by simp);(conv=>whnf);(try refine aV.pass ?_;conv=>whnf);refine ak.i (xO x k hk h3) λv h4 k4 hv=>?_;subst hv;(conv=>whnf);refine ak.i (Jp (k4.obj o3 (by simp)) hwl k hk) λv h5 k5 hv=>?_;subst hv;have k25:=(k3.trans k4).trans k5;(conv=>whnf);refine aj.i (λhe=>?_) (λhe=>?_)
      ·(conv=>whnf);rw [if_pos he] at jw;rw [jw] at hst;refine ⟨k2.trans k25,?_⟩;rw [hf,hst];rfl
      ·rw [if_neg (by rw [he];decide)] at jw;(conv=>whnf);refine ⟨5-(k+1),by omega,?_⟩;(conv=>whnf);exact ⟨k+1,rfl,by rw [wrapN (n:=k+1) (by simp) (by omega)],rfl,k25,by omega,jw⟩
     ·have hk:k=5:=by simp at hc2;omega
      subst hk;have hfn:jK eu (W (p:Int)) 5 0=none:=jw;rw [hfn] at hst;(conv=>whnf);refine ⟨40-(p+8),by omega,?_⟩;(conv=>whnf);exact ⟨p+8,rfl,by rw [wrapN (n:=p+8) (by simp) (by omega)],rfl,k2.trans k3,f-1,by omega,by omega,by omega,by rw [hf,hst]⟩
  ·have hp:¬ p<21:=by simp at hc;omega
   rw [if_neg hp] at hst;(conv=>whnf);refine ⟨k2,?_⟩;rw [hf,hst];rfl
theorem QJ {h:Heap}{b:Nat}{L:BL}{m:List Int}{W:Int->List UInt64}(B:fI h b L m 21 W)(name:List UInt8)(hnl:name.length<=140737488351232){q:Nat}(hq:h[q]?=some (.cells ⟨[.string ⟨name.toArray⟩]⟩ 9 (0,0))) :
 aC Tryz.prog 169 [.pointer (some ⟨b,0,none⟩),.string ⟨name.toArray⟩,.func (.func 170) #[] #[.pointer (some ⟨q,0,none⟩)]] h (λv h'=>Keeps [] h h'/\v=Jm (gP W m (jD name) 4 (bU name))):=by
 have hbk:=qG name;refine aG aH Tryz.func169 rfl ok169 (by simp [Tryz.f169]) ?_;(conv=>whnf);refine ak.i (xS name hnl h) λv h1 k1 hv=>?_;subst hv;(conv=>whnf);refine bP.on [0,2,9] [] (λp:Nat=>[(0,.v (.pointer (some ⟨b,0,none⟩))),(2,.v (.func (.func 170) #[] #[.pointer (some ⟨q,0,none⟩)])),(9,.v (.int .i64 (p:Int)))]) (λ_=>[])
  (λp h'=>Keeps [] h h'/\∃ f,p+8*f<=32+7/\f<=4/\p+8*f=bU name+32/\gP W m (jD name) 4 (bU name)=gP W m (jD name) f p) (λp=>40-p) (bU name) ?_ ?_
 ·exact ⟨bU name,rfl,rfl,rfl,k1,4,by omega,by omega,by omega,rfl⟩
 ·rintro p h2 ⟨k2,f,q1,q2,q3,hf⟩;have hst:gP W m (jD name) f p=(if p<21 then (if aU m p = -1 then gP W m (jD name) (f-1) (p+8) else (match jK (jD name) (W (p:Int)) 5 0 with|some k=>some (p,k)|none=>gP W m (jD name) (f-1) (p+8))) else none):=by
   cases f with
   | zero=>simp only [gP];rw [if_neg (by omega)]
   | succ f=>rfl
  have B2:=B.on k2;(conv=>whnf);refine aj.i (λhc=>?_) (λhc=>?_)
  ·have hp:p<21:=by simp at hc;omega
   rw [if_pos hp] at hst;(conv=>whnf);(try refine aV.pass ?_;conv=>whnf);refine ax.o B2.obj rfl ?_;by_cases hh:aU m p = -1
   ·rw [if_pos hh] at hst;(conv=>whnf);refine gL.is B2.map (B2.hole hh) ?_;(conv=>whnf);refine aj.t rfl ?_;(conv=>whnf);refine ⟨40-(p+8),by omega,?_⟩;(conv=>whnf);exact ⟨p+8,rfl,by rw [wrapN (n:=p+8) (by simp) (by omega)],rfl,k2,f-1,by omega,by omega,by omega,by rw [hf,hst]⟩
   ·rw [if_neg hh] at hst;obtain ⟨x,hx,hlk⟩:=B2.used hp hh;obtain ⟨ox,hwl⟩:=B2.blk _ hx;simp only at ox hwl;(conv=>whnf);refine gL.is B2.map hlk ?_;(conv=>whnf);refine aj.f rfl ?_;(conv=>whnf);refine bP.on [0,2,9,10,30] [] (λk:Nat=>[(0,.v (.pointer (some ⟨b,0,none⟩))),(2,.v (.func (.func 170) #[] #[.pointer (some ⟨q,0,none⟩)])),(9,.v (.int .i64 (p:Int))),(10,.v (.slice (some ⟨x,0,none⟩) 16 16)),(30,.v (.int .i64 (k:Int)))]) (λ_=>[])
     (λk h'=>Keeps [] h2 h'/\k<=5/\jK (jD name) (W (p:Int)) 5 0=jK (jD name) (W (p:Int)) (5-k) k) (λk=>5-k) 0 ?_ ?_
    ·(conv=>whnf);exact ⟨0,rfl,rfl,rfl,Keeps.refl _ _,by decide,rfl⟩
    ·rintro k h3 ⟨k3,hk5,jw⟩;(conv=>whnf);refine aj.i (λhc2=>?_) (λhc2=>?_)
     ·have hk:k<5:=by simp at hc2;omega
      have hf2:jK (jD name) (W (p:Int)) (5-k) k=if (jD name) (W (p:Int)) k then some k else jK (jD name) (W (p:Int)) (5-(k+1)) (k+1):=by
       have:5-k=(5-(k+1))+1:=by omega
       rw [this];rfl
      rw [hf2] at jw;have o3:=k3.obj ox (by simp);(conv=>whnf);(try refine aV.pass ?_;conv=>whnf);refine ak.i (xO x k hk h3) λv h4 k4 hv=>?_;subst hv;(conv=>whnf);refine ak.i (QI hnl ((k2.trans (k3.trans k4)).obj hq (by simp)) (k4.obj o3 (by simp)) hwl k hk) λv h5 k5 hv=>?_;subst hv;have k25:=(k3.trans k4).trans k5;(conv=>whnf);refine aj.i (λhe=>?_) (λhe=>?_)
      ·(conv=>whnf);rw [if_pos he] at jw;rw [jw] at hst;refine ⟨k2.trans k25,?_⟩;rw [hf,hst];rfl
      ·rw [if_neg (by rw [he];decide)] at jw;(conv=>whnf);refine ⟨5-(k+1),by omega,?_⟩;(conv=>whnf);exact ⟨k+1,rfl,by rw [wrapN (n:=k+1) (by simp) (by omega)],rfl,k25,by omega,jw⟩
     ·have hk:k=5:=by simp at hc2;omega
      subst hk;have hfn:jK (jD name) (W (p:Int)) 5 0=none:=jw;rw [hfn] at hst;(conv=>whnf);refine ⟨40-(p+8),by omega,?_⟩;(conv=>whnf);exact ⟨p+8,rfl,by rw [wrapN (n:=p+8) (by simp) (by omega)],rfl,k2.trans k3,f-1,by omega,by omega,by omega,by rw [hf,hst]⟩
  ·have hp:¬ p<21:=by simp at hc;omega
   rw [if_neg hp] at hst;(conv=>whnf);refine ⟨k2,?_⟩;rw [hf,hst];rfl
def kH (m:List Int):Nat->Nat->Option Nat
 | 0,_=>none
 | f+1,pl=>if pl<21 then (if aU m pl = -1 then some pl else kH m f (pl+8)) else none
theorem Af {m:List Int}:∀ {f pl q:Nat},kH m f pl=some q->q<21/\aU m q = -1/\pl<=q/\q%8=pl%8
 | 0,_,_,h=>by cases h
 | f+1,pl,q,h=>by
  unfold kH at h;split at h
  ·split at h
   ·cases h;exact ⟨by assumption,by assumption,Nat.le_refl _,rfl⟩
   ·have:=Af h;omega
  ·cases h
def nH (B:Int->UInt64)(X:VS)(node:Int)(m:List Int)(bk:Nat):Int×Int×VS×List Int:=
 match kH m 4 bk with
 | none=>(0,9,X,m)
 | some pl=>if (bL B X node).2.1=0 then ((pl:Int),0,(bL B X node).2.2,m.set pl (bL B X node).1) else (0,(bL B X node).2.1,(bL B X node).2.2,m)
structure GS (h0:Heap)(b:Nat)(L:BL)(m:List Int)(pl:Nat)(blk:Int)(W:Int->List UInt64)(s:Bool)(e:Nat)(xo:Option Nat)(born:Int)(h:Heap):Prop where
 k:Keeps [L.pb,L.r] h0 h
 obj:h[b]?=some (.cells ⟨[.slice (some ⟨L.pb,0,none⟩) 21 L.iG,.map (some L.r)]⟩ 222 (0,0))
 xQ:fD h L.pb (if s then m.set pl blk else m) L.sp
 map0:e=0->dF h L.r (mK L.mb)
 map1:e=1->xR h L.r (mK L.mb) (pl:Int) born
 map2:e=2->∃ x,xo=some x/\dF h L.r (mK L.mb++[((pl:Int),.slice (some ⟨x,0,none⟩) 16 16)])
 new:∀ x,xo=some x->h0.size<=x/\h[x]?=some (.cells ⟨List.replicate 16 (wv 0)⟩ 46 (0,0))
section
variable {h0 h:Heap} {b:Nat} {L:BL} {m:List Int} {pl:Nat} {blk:Int} {W:Int->List UInt64} {s:Bool} {e:Nat} {xo:Option Nat} {born:Int}
theorem GS.pl0 (G:GS h0 b L m pl blk W false e xo born h):h[L.pb]?=some (.cells ⟨m.map (λx=>Value.int .i64 x)++L.sp⟩ 3 (0,0)):=G.xQ
theorem GS.make (G:GS h0 b L m pl blk W s e none born h)(he:e≠2)(B:fI h0 b L m 21 W){x:Nat}{h':Heap}(ex:x=h.size)(ox:h'[x]?=some (.cells ⟨List.replicate 16 (wv 0)⟩ 46 (0,0)))(kx:Keeps [] h h'):GS h0 b L m pl blk W s e (some x) born h':=by
 have z:=G.k.size;refine ⟨G.k.bS kx,kx.obj G.obj (by simp),kx.obj G.xQ (by simp),λh=>(G.map0 h).keep kx (by simp),λh=>?_,λh=>absurd h he,λy hy=>by cases hy;exact ⟨by omega,ox⟩⟩;obtain ⟨es,cl,z,h1,h2⟩:=G.map1 h;exact ⟨es,cl,z,kx.obj h1 (by simp),h2⟩
theorem GS.store (G:GS h0 b L m pl blk W false e xo born h)(B:fI h0 b L m 21 W)(hp:pl<21){h':Heap}(o:h'[L.pb]?=some (.cells ⟨bF (0+pl*1) [.int .i64 blk] (m.map (λx=>Value.int .i64 x)++L.sp)⟩ 3 (0,0)))(kx:Keeps [L.pb] h h'):GS h0 b L m pl blk W true e xo born h':=by
 have hnd:=B.jv;simp only [BL.blocks,List.nodup_cons,List.mem_cons,not_or] at hnd;have hm:=B.len;rw [ints_set (by omega)] at o;refine ⟨G.k.trans (kx.mono (by simp)),kx.obj G.obj (by simp;exact hnd.1.1),o,λh=>(G.map0 h).keep kx (by simp;exact λe=>hnd.2.1.1 e.symm),λh=>?_,λh=>?_,λy hy=>⟨(G.new y hy).1,kx.obj (G.new y hy).2 (by simp;intro e;have:=B.lt L.pb (by simp [BL.blocks]);have:=(G.new y hy).1;omega)⟩⟩
 ·obtain ⟨es,cl,z,h1,h2⟩:=G.map1 h;exact ⟨es,cl,z,kx.obj h1 (by simp;exact λe=>hnd.2.1.1 e.symm),h2⟩
 ·obtain ⟨x,h1,h2⟩:=G.map2 h;exact ⟨x,h1,h2.keep kx (by simp;exact λe=>hnd.2.1.1 e.symm)⟩
theorem GS.entry (G:GS h0 b L m pl blk W s 0 xo born h)(B:fI h0 b L m 21 W){h':Heap}{Jj:Int}(p:xR h' L.r (mK L.mb) (pl:Int) Jj)(kx:Keeps [L.r] h h'):GS h0 b L m pl blk W s 1 xo Jj h':=by
 have hnd:=B.jv;simp only [BL.blocks,List.nodup_cons,List.mem_cons,not_or] at hnd;refine ⟨G.k.trans (kx.mono (by simp)),kx.obj G.obj (by simp;exact hnd.1.2.1),kx.obj G.xQ (by simp;exact hnd.2.1.1),λh=>(by cases h),λ_=>p,λh=>(by cases h),λy hy=>⟨(G.new y hy).1,kx.obj (G.new y hy).2 (by simp;intro e;have:=B.lt L.r (by simp [BL.blocks]);have:=(G.new y hy).1;omega)⟩⟩
theorem GS.fill {x:Nat}(G:GS h0 b L m pl blk W s 1 (some x) born h)(B:fI h0 b L m 21 W){h':Heap}(p:dF h' L.r (mK L.mb++[((pl:Int),.slice (some ⟨x,0,none⟩) 16 16)]))(kx:Keeps [L.r] h h'):GS h0 b L m pl blk W s 2 (some x) born h':=by
 have hnd:=B.jv;simp only [BL.blocks,List.nodup_cons,List.mem_cons,not_or] at hnd;refine ⟨G.k.trans (kx.mono (by simp)),kx.obj G.obj (by simp;exact hnd.1.2.1),kx.obj G.xQ (by simp;exact hnd.2.1.1),λh=>(by cases h),λh=>(by cases h),λ_=>⟨x,rfl,p⟩,λy hy=>⟨(G.new y hy).1,kx.obj (G.new y hy).2 (by simp;intro e;have:=B.lt L.r (by simp [BL.blocks]);have:=(G.new y hy).1;omega)⟩⟩
theorem xC {m:List Int}{pl q:Nat}{x:Int}(hp:pl<m.length):aU (m.set pl x) q=if q=pl then x else aU m q:=by
 unfold aU;rw [List.getElem?_set];by_cases h:q=pl
 ·subst h;simp [hp]
 ·rw [if_neg (λe=>h e.symm),if_neg h]
def qa (W:Int->List UInt64)(pl:Nat):Int->List UInt64:=λp=>if p=(pl:Int) then List.replicate 16 0 else W p
theorem GS.book {x:Nat}(G:GS h0 b L m pl blk W true 2 (some x) born h)(B:fI h0 b L m 21 W)(hp:pl<21)(hh:aU m pl = -1)(hb:blk ≠ -1):∃ L',fI h b L' (m.set pl blk) 21 (qa W pl)/\∀ y∈BL.blocks b L',y∈BL.blocks b L\/h0.size<=y:=by
 obtain ⟨x',hx',M2⟩:=G.map2 rfl;cases hx';obtain ⟨n1,n2⟩:=G.new x rfl;have hnd:=B.jv;have hblt:=B.lt;have hml:=B.len;have hnk:(pl:Int)∉L.mb.map (·.1):=λhk=>((B.keys pl).1 hk).2.2 (by simpa using hh);refine ⟨{ L with mb:=L.mb++[((pl:Int),x)] },⟨G.obj,G.xQ,B.cap,by rw [List.length_set];exact hml,by simpa [mK] using M2,λp=>?_,λp hp'=>?_,?_⟩,?_⟩
 ·simp only [List.map_append,List.map_cons,List.map_nil,List.mem_append,List.mem_cons,List.not_mem_nil,or_false];rw [B.keys p,xC (by omega)]
  constructor
  ·rintro (⟨h0,h1,h2⟩|rfl)
   ·refine ⟨h0,h1,?_⟩;split
    ·exact hb
    ·exact h2
   ·refine ⟨by omega,by omega,?_⟩;rw [if_pos (by simp)];exact hb
  ·rintro ⟨h0,h1,h2⟩;by_cases e:p=(pl:Int)
   ·exact .inr e
   ·rw [if_neg (by omega)] at h2;exact .inl ⟨h0,h1,h2⟩
 ·simp only [List.mem_append,List.mem_cons,List.not_mem_nil,or_false] at hp';rcases hp' with hp'|rfl
  ·have hne:p.1≠(pl:Int):=λe=>hnk (e ▸ List.mem_map_of_mem hp');have hm2:p.2∈L.mb.map (·.2):=List.mem_map_of_mem hp';simp only [BL.blocks,List.nodup_cons,List.mem_cons,not_or] at hnd;unfold qa;rw [if_neg hne];refine ⟨G.k.obj (B.blk p hp').1 ?_,(B.blk p hp').2⟩;simp only [List.mem_cons,List.not_mem_nil,or_false,not_or];exact ⟨λe=>hnd.2.1.2 (e ▸ hm2),λe=>hnd.2.2.1 (e ▸ hm2)⟩
  ·unfold qa;rw [if_pos rfl];exact ⟨by rw [n2];rfl,rfl⟩
 ·have e:BL.blocks b { L with mb:=L.mb++[((pl:Int),x)] }=BL.blocks b L++[x]:=by simp [BL.blocks]
  rw [e,List.nodup_append];refine ⟨hnd,by simp,λy hy z hz hyz=>?_⟩;simp at hz;subst hz;subst hyz;have:=hblt y hy;omega
 ·intro y hy;have e:BL.blocks b { L with mb:=L.mb++[((pl:Int),x)] }=BL.blocks b L++[x]:=by simp [BL.blocks]
  rw [e] at hy;simp only [List.mem_append,List.mem_cons,List.not_mem_nil,or_false] at hy;rcases hy with hy|rfl
  ·exact .inl hy
  ·exact .inr n1
end
theorem QF {h:Heap}{V:VL}{M:aS}{X:VS}(A:At h V M X)(node:Int){b:Nat}{L:BL}{m:List Int}{W:Int->List UInt64}(B:fI h b L m 21 W)(hd:∀ x∈BL.blocks b L,x∉V.blocks)(name:List UInt8)(hnl:name.length<=140737488351232) :
 aC Tryz.prog 228 [.pointer (some ⟨b,0,none⟩),.pointer (some ⟨V.v,0,none⟩),.int .i64 node,.string ⟨name.toArray⟩] h (λv h'=>Keeps (V.ob::BL.blocks b L) h h' /\
  v=.tuple #[.int .i64 (nH M.read X node m (bU name)).1,.int .i64 (nH M.read X node m (bU name)).2.1]/\At h' V M (nH M.read X node m (bU name)).2.2.1 /\
  ((nH M.read X node m (bU name)).2.1=0->∃ L' pl,kH m 4 (bU name)=some pl/\fI h' b L' (nH M.read X node m (bU name)).2.2.2 21 (qa W pl)/\∀ y∈BL.blocks b L',y∈BL.blocks b L\/h.size<=y)):=by
 have hbk:=qG name;unfold nH;refine aG aH Tryz.func228 rfl ok228 (by simp [Tryz.f228]) ?_;(conv=>whnf);refine ak.i (xS name hnl h) λv h1 k1 hv=>?_;subst hv;(conv=>whnf);refine bP.on [0,1,2,10] [] (λp:Nat=>[(0,.v (.pointer (some ⟨b,0,none⟩))),(1,.v (.pointer (some ⟨V.v,0,none⟩))),(2,.v (.int .i64 node)),(10,.v (.int .i64 (p:Int)))]) (λ_=>[])
  (λp h'=>Keeps [] h h'/\∃ f,f<=4/\p+8*f=bU name+32/\kH m 4 (bU name)=kH m f p) (λp=>40-p) (bU name) ?_ ?_
 ·exact ⟨bU name,rfl,rfl,rfl,k1,4,by omega,by omega,rfl⟩
 ·rintro p h2 ⟨k2,f,q1,q2,hf⟩;have hst:kH m f p=(if p<21 then (if aU m p = -1 then some p else kH m (f-1) (p+8)) else none):=by
   cases f with
   | zero=>simp only [kH];rw [if_neg (by omega)]
   | succ f=>rfl
  have B2:=B.on k2;have A2:=A.on k2;have hml:=B.len;(conv=>whnf);refine aj.i (λhc=>?_) (λhc=>?_)
  ·have hp:p<21:=by simp at hc;omega
   rw [if_pos hp] at hst;have hin2:m[p]'(by omega)=aU m p:=by unfold aU;rw [List.getElem?_eq_getElem (by omega)];rfl
   (conv=>whnf);(try refine aV.pass ?_;conv=>whnf);refine ax.o B2.obj rfl ?_;(conv=>whnf);refine aX.i p rfl hp rfl ?_;(conv=>whnf);refine ax.i (fD.nth B2.pl (by omega)) ?_;(conv=>whnf);rw [hin2];refine aj.i (λhx=>?_) (λhx=>?_)
   ·have hx1:aU m p ≠ -1:=by simpa using hx
    rw [if_neg hx1] at hst;(conv=>whnf);refine ⟨40-(p+8),by omega,?_⟩;(conv=>whnf);exact ⟨p+8,rfl,by rw [wrapN (n:=p+8) (by simp) (by omega)],rfl,k2,f-1,by omega,by omega,by rw [hf,hst]⟩
   ·have hx1:aU m p = -1:=by simpa using hx
    rw [if_pos hx1] at hst;rw [hf,hst];simp only;have vM:=vF (B:=M.read) (X:=X) (node:=node);have TS:=DV A2 node;generalize bL M.read X node=t at TS vM;obtain ⟨blk,e,X'⟩:=t;simp only at TS vM;(conv=>whnf);refine ak.m TS (by simp [au]) λv h3 k3 hv=>?_;obtain ⟨rfl,A3⟩:=hv;have kk3:Keeps (V.ob::BL.blocks b L) h h3:=(k2.mono (by simp)).trans (k3.mono (by simp));(conv=>whnf);refine aj.i (λhe=>?_) (λhe=>?_)
    ·have he1:¬ e=0:=by simpa using he
     (conv=>whnf);rw [if_neg he1];exact ⟨kk3,rfl,A3,λh=>absurd h he1⟩
    ·have he1:e=0:=by simpa using he
     have hr:=vM he1;have QH:V.ob∈V.blocks:=by simp [VL.blocks]
     have B3:=B2.keep k3 (λy hy hx=>by simp at hx;exact hd y hy (hx ▸ QH));have G:GS h3 b L m p blk W false 0 none 0 h3:=⟨Keeps.refl _ _,B3.obj,B3.pl,λ_=>B3.map,λh=>(by cases h),λh=>(by cases h),λx h=>(by cases h)⟩;rw [if_pos he1,he1];have hnk:(p:Int)∉(mK L.mb).map (·.1):=by
      rw [DW,B3.keys];rintro ⟨_,_,h3⟩;exact h3 (by simpa using hx1)
     have fin:∀ (x:Nat) (born:Int) (h':Heap),GS h3 b L m p blk W true 2 (some x) born h'->Keeps (V.ob::BL.blocks b L) h h'/\Value.tuple #[.int .i64 (p:Int),.int .i64 0]=.tuple #[.int .i64 (p:Int),.int .i64 0]/\At h' V M X'/\((0:Int)=0->∃ L' pl,some p=some pl/\fI h' b L' (m.set p blk) 21 (qa W pl)/\∀ y∈BL.blocks b L',y∈BL.blocks b L\/h.size<=y):=by
      intro x born h' G;obtain ⟨L',B',n'⟩:=G.book B3 hp hx1 (by omega);have z3:=kk3.size;refine ⟨kk3.trans (G.k.mono (by simp [BL.blocks])),rfl,A3.keep G.k (λy hy hx=>?_),λ_=>⟨L',p,rfl,B',λy hy=>(n' y hy).imp id (λh=>by omega)⟩⟩;simp only [List.mem_cons,List.not_mem_nil,or_false] at hx;rcases hx with rfl|rfl
      ·exact hd _ (by simp [BL.blocks]) hy
      ·exact hd _ (by simp [BL.blocks]) hy
     repeat' ((conv=>whnf);first
      | refine ax.o G.obj rfl ?_
      | refine gI.i ?_ ?_
      | refine aX.i p rfl hp rfl ?_
      | (refine aW.make (n:=16) rfl rfl rfl rfl rfl (by decide) (by decide) λx hx ex sx ox kx=>?_;have G:=G.make (by decide) B3 ex ox kx)
      | (refine dN.i G.pl0 (by show 0+p*1+1<=_;have:=hml;simp;omega) (by simp [au]) λhx sx ox kx=>?_;have G:=G.store B3 hp ox kx)
      | (refine aW.Jk rfl rfl rfl rfl (G.map0 rfl) hnk (by simp [au]) λhx born sx px kx=>?_;have G:=G.entry B3 px kx)
      | (refine aW.entryStore (G.map1 rfl) (by simp [au]) λhx sx px kx=>?_;have G:=G.fill B3 px kx))
     all_goals
      (conv=>whnf);exact fin _ _ _ G
  ·have hp:¬ p<21:=by simp at hc;omega
   rw [if_neg hp] at hst;(conv=>whnf);rw [hf,hst];exact ⟨k2.mono (by simp),rfl,A2,λh=>by cases h⟩
theorem Ji {p:List UInt64->Nat->Bool}{ws:List UInt64}:∀ {f k q:Nat},jK p ws f k=some q->p ws q=true/\k<=q/\q<k+f
 | 0,_,_,h=>by cases h
 | f+1,k,q,h=>by
  unfold jK at h;split at h
  ·cases h;exact ⟨by assumption,Nat.le_refl _,by omega⟩
  ·have:=Ji h;exact ⟨this.1,by omega,by omega⟩
theorem vH {W:Int->List UInt64}{m:List Int}{p:List UInt64->Nat->Bool}:∀ {f pl:Nat} {q:Nat×Nat},gP W m p f pl=some q->q.1<21/\aU m q.1 ≠ -1/\q.2<5/\p (W (q.1:Int)) q.2=true/\q.1%8=pl%8
 | 0,_,_,h=>by cases h
 | f+1,pl,q,h=>by
  unfold gP at h;split at h
  ·split at h
   ·have:=vH h;exact ⟨this.1,this.2.1,this.2.2.1,this.2.2.2.1,by omega⟩
   ·split at h
    ·rename_i k hk;cases h;have:=Ji hk;exact ⟨by assumption,by assumption,by simp only;omega,this.1,rfl⟩
    ·have:=vH h;exact ⟨this.1,this.2.1,this.2.2.1,this.2.2.2.1,by omega⟩
  ·cases h
structure QD where
 pl:Int
 k:Int
 e:Int
 X:VS
 m:List Int
 W:Int->List UInt64
def j5 (B:Int->UInt64)(X:VS)(node:Int)(m:List Int)(W:Int->List UInt64)(bk:Nat):QD:=
 match gP W m eu 4 bk with
 | some (pl,k)=>⟨(pl:Int),(k:Int),0,X,m,W⟩
 | none=>⟨(nH B X node m bk).1,0,(nH B X node m bk).2.1,(nH B X node m bk).2.2.1,(nH B X node m bk).2.2.2,match kH m 4 bk with | some pl=>qa W pl | none=>W⟩
theorem Qz {h:Heap}{V:VL}{M:aS}{X:VS}(A:At h V M X)(node:Int){b:Nat}{L:BL}{m:List Int}{W:Int->List UInt64}(B:fI h b L m 21 W)(hd:∀ x∈BL.blocks b L,x∉V.blocks)(name:List UInt8)(hnl:name.length<=140737488351232) :
 aC Tryz.prog 174 [.pointer (some ⟨b,0,none⟩),.pointer (some ⟨V.v,0,none⟩),.int .i64 node,.string ⟨name.toArray⟩] h (λv h'=>Keeps (V.ob::BL.blocks b L) h h' /\
  v=.tuple #[.int .i64 (j5 M.read X node m W (bU name)).pl,.int .i64 (j5 M.read X node m W (bU name)).k,.int .i64 (j5 M.read X node m W (bU name)).e]/\At h' V M (j5 M.read X node m W (bU name)).X /\
  ((j5 M.read X node m W (bU name)).e=0->∃ L',fI h' b L' (j5 M.read X node m W (bU name)).m 21 (j5 M.read X node m W (bU name)).W/\∀ y∈BL.blocks b L',y∈BL.blocks b L\/h.size<=y)):=by
 unfold j5;refine aG aH Tryz.func174 rfl ok174 (by simp [Tryz.f174]) ?_;(conv=>whnf);refine ak.i (QE B name hnl) λv h1 k1 hv=>?_;subst hv;cases hs:gP W m eu 4 (bU name) with
 | some q=>
  obtain ⟨pl,k⟩:=q;(conv=>whnf);refine aj.t rfl ?_;(conv=>whnf);exact ⟨k1.mono (by simp),rfl,A.on k1,λ_=>⟨L,B.on k1,λy hy=>.inl hy⟩⟩
 | none=>
  (conv=>whnf);refine aj.f rfl ?_;(conv=>whnf);refine ak.m (QF (A.on k1) node (B.on k1) hd name hnl) (by simp [au]) λv h2 k2 hv=>?_;obtain ⟨rfl,A2,hb⟩:=hv;(conv=>whnf);have z1:=k1.size;refine ⟨(k1.mono (by simp)).trans k2,rfl,A2,λhe=>?_⟩;obtain ⟨L',pl,h1,h2,h3⟩:=hb he;rw [h1];exact ⟨L',h2,λy hy=>(h3 y hy).imp id (λh=>by omega)⟩
def setSlot (ws:List UInt64)(k:Nat)(new:List UInt64):List UInt64:=ws.take (3*k)++new++ws.drop (3*k+3)
theorem DU:∀ (a b c d:List Value),b.length=d.length->bF a.length d (a++(b++c))=a++(d++c)
 | [],[],c,[],_=>by cases c <;> rfl
 | [],x::b,c,y::d,h=>by
  have ih:=DU [] b c d (by simpa using h);simp only [List.length_nil,List.nil_append] at ih ⊢;show y::bF 0 d (b++c)=y::(d++c);rw [ih]
 | x::a,b,c,d,h=>by
  have ih:=DU a b c d h;show x::bF a.length d (a++(b++c))=x::(a++(d++c));rw [ih]
 | [],[],c,y::d,h=>by simp at h
 | [],x::b,c,[],h=>by simp at h
theorem QG {ws new:List UInt64}{k:Nat}(hl:ws.length=16)(hk:k<5)(hn:new.length=3):bF (3*k) (new.map wv) (ws.map wv)=(setSlot ws k new).map wv:=by
 have e:ws=ws.take (3*k)++((ws.drop (3*k)).take 3++ws.drop (3*k+3)):=by
  conv=>lhs;rw [<-List.take_append_drop (3*k) ws]
  congr 1
  conv=>lhs;rw [<-List.take_append_drop 3 (ws.drop (3*k))]
  rw [List.drop_drop]
 have h1:((ws.take (3*k)).map wv).length=3*k:=by simp;omega
 have g:=DU ((ws.take (3*k)).map wv) (((ws.drop (3*k)).take 3).map wv) ((ws.drop (3*k+3)).map wv) (new.map wv) (by simp;omega);rw [h1] at g
 conv=>lhs;rw [e,List.map_append,List.map_append]
 rw [g];simp [setSlot]
theorem Dp {ws new:List UInt64}{k:Nat}(hl:ws.length=16)(hk:k<5)(hn:new.length=3):(setSlot ws k new).length=16:=by
 simp [setSlot];omega
theorem Jh {h:Heap}{V:VL}{M:aS}{X:VS}(A:At h V M X){b:Nat}{L:BL}{m:List Int}{W:Int->List UInt64}(B:fI h b L m 21 W)(hd:∀ x∈BL.blocks b L,x∉V.blocks){pl k:Nat}(hp:pl<21)(hu:aU m pl ≠ -1)(hr:0<=aU m pl/\aU m pl<96)(hk:k<5){sb so c:Nat}{new:List UInt64}(S:Sl h (some ⟨sb,so,none⟩) 3 c new) :
 aC Tryz.prog 172 [.pointer (some ⟨b,0,none⟩),.pointer (some ⟨V.v,0,none⟩),.int .i64 (pl:Int),.int .i64 (k:Int),.slice (some ⟨sb,so,none⟩) 3 c] h (λv h'=>Keeps (V.ob::BL.blocks b L) h h'/\v=.int .i64 0/\At h' V M { X with now:=bZ X.now (aU m pl) (setSlot (W (pl:Int)) k new) } /\
  h'[b]?=some (.cells ⟨[.slice (some ⟨L.pb,0,none⟩) 21 L.iG,.map (some L.r)]⟩ 222 (0,0))/\fD h' L.pb m L.sp):=by
 obtain ⟨x,hx,hlk⟩:=B.used hp hu;obtain ⟨ox,hwl⟩:=B.blk _ hx;simp only at ox hwl;have hnl:=S.hlen;have hml:=B.len;have hxb:x∈BL.blocks b L:=by simp only [BL.blocks,List.mem_cons];exact .inr (.inr (.inr (List.mem_map_of_mem (f:=λp:Int×Nat=>p.2) hx)))
 have hnd:=B.jv;have hxm:x∈L.mb.map (·.2):=List.mem_map_of_mem (f:=λp:Int×Nat=>p.2) hx;simp only [BL.blocks,List.nodup_cons,List.mem_cons,not_or] at hnd;have nb:b≠x:=λe=>hnd.1.2.2 (e ▸ hxm);have np:L.pb≠x:=λe=>hnd.2.1.2 (e ▸ hxm);have nr:L.r≠x:=λe=>hnd.2.2.1 (e ▸ hxm);refine aG aH Tryz.func172 rfl ok172 (by simp [Tryz.f172]) ?_;(conv=>whnf);refine ax.o B.obj rfl ?_;(conv=>whnf);refine gL.is B.map hlk ?_;(conv=>whnf);refine ak.i (xO x k hk h) λv h1 k1 hv=>?_;subst hv;have o1:=k1.obj ox (by simp);(conv=>whnf);refine aW.copy (sz:=1) (new:=new.map wv) rfl rfl rfl o1 (by simp;omega) (by intro j hj;exact (S.keep k1).cells1 j (by simpa [One.val] using hj)) (ug _) (by simp;omega) (by simp [au]) λh2 s2 o2 k2=>?_;have hsp:=QG hwl hk hnl.symm;rw [hsp] at o2;have k02:Keeps [x] h h2:=(k1.mono (by simp)).trans k2;have ob2:=k02.obj B.obj (by simp;exact nb);have pl2:fD h2 L.pb m L.sp:=k02.obj B.pl (by simp;exact np);have mp2:=B.map.keep k02 (by simp;exact nr);have A2:=A.keep k02 (λy hy hx2=>by simp at hx2;exact hd x hxb (hx2 ▸ hy));have hin2:m[pl]'(by omega)=aU m pl:=by unfold aU;rw [List.getElem?_eq_getElem (by omega)];rfl
 have hsl:=Dp hwl hk hnl.symm;have S2:=Sl.mJ (α:=UInt64) (n:=16) o2 (by simp [One.ok]) hsl.symm (by omega)
 repeat' ((conv=>whnf);first
  | refine ax.o ob2 rfl ?_
  | refine gI.i ?_ ?_
  | refine aX.i pl rfl hp rfl ?_
  | refine ax.i (fD.nth pl2 (by omega)) ?_
  | refine gL.is mp2 hlk ?_
  | (rw [hin2];refine ak.m (xP A2 (aU m pl) S2 (by simp [ay];intro e;exact hd x hxb (e ▸ by simp [VL.blocks]))) (by simp [au]) λv h3 k3 hv=>?_))
 all_goals
  obtain ⟨rfl,A3⟩:=hv;rw [if_pos ⟨hr.1,hr.2,by decide⟩] at A3 ⊢;(conv=>whnf);have qM:V.ob∈V.blocks:=by simp [VL.blocks]
  refine ⟨(k02.mono (by simp;exact .inr hxb)).trans (k3.mono (by simp)),rfl,A3,k3.obj ob2 (by simp;intro e;exact hd b (by simp [BL.blocks]) (e ▸ qM)),k3.obj pl2 (by simp;intro e;exact hd L.pb (by simp [BL.blocks]) (e ▸ qM))⟩
theorem QC (n:Nat)(hn:n<=1000000)(h:Heap):aC Tryz.prog 229 [.slice none 0 0,.int .i64 (n:Int)] h (λv h'=>Keeps [] h h'/\∃ a c,v=.slice a 0 c/\Own h' 46 1 a 0 c []/\∀ b∈ay a,h.size<=b):=by
 have e1:IntKind.i64.wrap ((n:Int)-IntKind.i64.wrap (((0:Nat):Int)-((0:Nat):Int)))=(n:Int):=by
  rw [wrapN (x:=((0:Nat):Int)-((0:Nat):Int)) (n:=0) (by simp) (by omega),wrapN (n:=n) (by simp) (by omega)]
 refine aG aH Tryz.func229 rfl ok229 (by simp [Tryz.f229]) ?_;(conv=>whnf);refine aV.pass ?_;(conv=>whnf);refine aj.f (by simp) ?_;(conv=>whnf);refine aV.pass ?_;(conv=>whnf);rw [e1];refine aj.i (λhc=>?_) (λhc=>?_)
 ·have hp:0<n:=by simp at hc;omega
  (conv=>whnf);refine dw.i 0 0 rfl rfl (Nat.le_refl _) (Nat.zero_le _) ?_;(conv=>whnf);rw [lq];refine aW.DT (aQ:=8) rfl rfl rfl rfl rfl rfl rfl hp (by omega) (by decide) λb c h1 e1 s1 o1 hc k1=>?_;(conv=>whnf);refine dw.i 0 0 rfl rfl (Nat.le_refl _) (Nat.zero_le _) ?_;(conv=>whnf);refine ⟨k1,some ⟨b,0,none⟩,c,?_,.inr ⟨b,_,rfl,o1,rfl,by simp,rfl,Nat.zero_le _⟩,by simp [ay];omega⟩;rw [lq];rfl
 ·(conv=>whnf);exact ⟨Keeps.refl _ _,none,0,rfl,.inl ⟨rfl,rfl,rfl,rfl⟩,by simp [ay]⟩
theorem QA {h:Heap}{a:Option Addr}{n c:Nat}{xss:List (List UInt64)}(S:Sl h a n c xss)(hb:xss.flatten.length<=1000)(hn:n<=1000):aC Tryz.prog 175 [.slice a n c] h
 (λv h'=>Keeps [] h h'/\∃ a' c',v=.slice a' xss.flatten.length c'/\Own h' 46 1 a' xss.flatten.length c' (xss.flatten.map wv)/\∀ b∈ay a',h.size<=b):=by
 have hl:=S.hlen;have rY:∀ i (hi:i<xss.length),(xss.take (i+1)).flatten=(xss.take i).flatten++xss[i]:=by
  intro i hi;rw [List.take_succ_eq_append_getElem hi,List.flatten_append];simp
 have rZ:∀ i,(xss.take i).flatten.length<=xss.flatten.length:=by
  intro i;have:xss.flatten=(xss.take i).flatten++(xss.drop i).flatten:=by rw [<-List.flatten_append,List.take_append_drop]
  rw [this,List.length_append];omega
 refine aG aH Tryz.func175 rfl ok175 (by simp [Tryz.f175]) ?_;(conv=>whnf);refine bP.on [0,3,9,10,11] [] (λi:Nat=>[(0,.v (.slice a n c)),(3,.v (.int .i64 ((xss.take i).flatten.length:Int))),(9,.v (.slice a n c)),(10,.v (.int .i64 (n:Int))),(11,.v (.int .i64 (i:Int)))]) (λ_=>[])
  (λi h'=>i<=n/\h'=h) (λi=>n-i) 0 ?_ ?_
 ·(conv=>whnf);exact ⟨0,rfl,rfl,rfl,Nat.zero_le _,rfl⟩
 ·rintro i h2 ⟨hi,rfl⟩;(conv=>whnf);refine aj.i (λhc=>?_) (λhc=>?_)
  ·have hi1:i<xss.length:=by simp at hc;omega
   obtain ⟨b,off,hb',cs,⟨xa,xn,xc,rfl,SX⟩,hcell⟩:=S.at_ i hi1;(conv=>whnf);(try refine aV.pass ?_;conv=>whnf);refine aX.i i rfl (by omega) hb' ?_;(conv=>whnf);refine ax.i (hcell 0 (by simp)) ?_;have f1:=rY i hi1;have f2:=rZ (i+1);have f3:(xss.take (i+1)).flatten.length=(xss.take i).flatten.length+xn:=by rw [f1,List.length_append,SX.hlen]
   (conv=>whnf);rw [wrapN (n:=(xss.take (i+1)).flatten.length) (by rw [f3];simp) (by omega)];refine aj.f (by simp) ?_;(conv=>whnf);refine ⟨n-(i+1),by omega,?_⟩;(conv=>whnf);exact ⟨i+1,rfl,by rw [wrapN (x:=(i:Int)+1) (n:=i+1) (by simp) (by omega)],rfl,by omega,rfl⟩
  ·have hi1:i=xss.length:=by simp at hc;omega
   subst hi1;(conv=>whnf);rw [List.take_length];refine ak.i (QC xss.flatten.length (by omega) h2) λv h3 k3 hv=>?_;obtain ⟨a3,c3,rfl,O3,n3⟩:=hv;(conv=>whnf);refine bP.on [6,25,26,27] [] (λq:Nat×Option Addr×Nat=>[(6,.v (.slice q.2.1 (xss.take q.1).flatten.length q.2.2)),(25,.v (.slice a n c)),(26,.v (.int .i64 (n:Int))),(27,.v (.int .i64 (q.1:Int)))]) (λ_=>[])
    (λq h'=>q.1<=n/\Keeps [] h2 h'/\Own h' 46 1 q.2.1 (xss.take q.1).flatten.length q.2.2 ((xss.take q.1).flatten.map wv)/\∀ b∈ay q.2.1,h2.size<=b) (λq=>n-q.1) (0,a3,c3) ?_ ?_
   ·(conv=>whnf);exact ⟨(0,a3,c3),rfl,rfl,rfl,Nat.zero_le _,k3,O3,n3⟩
   ·rintro ⟨i,ai,ci⟩ h4 ⟨hi,k4,O4,n4⟩;simp only at hi O4 n4;(conv=>whnf);refine aj.i (λhc=>?_) (λhc=>?_)
    ·have hi1:i<xss.length:=by simp at hc;omega
     obtain ⟨b,off,hb',cs,⟨xa,xn,xc,rfl,SX⟩,hcell⟩:=S.at_ i hi1;have hc4:=hcell.keep k4;(conv=>whnf);refine aX.i i rfl (by omega) hb' ?_;(conv=>whnf);refine ax.i (hc4 0 (by simp)) ?_;have f1:=rY i hi1;have f2:=rZ (i+1);have f3:(xss.take (i+1)).flatten.length=(xss.take i).flatten.length+xn:=by rw [f1,List.length_append,SX.hlen]
     have SX4:=SX.keep k4;have oU:=SX.hlen;(conv=>whnf);rcases Nat.eq_zero_or_pos xn with h0|h0
     ·subst h0;have hx0:xss[i]=[]:=List.eq_nil_of_length_eq_zero oU.symm;have hcap:(xss.take i).flatten.length<=ci:=by
       rcases O4 with ⟨rfl,h1,rfl,h2⟩|⟨b,c,_,_,_,_,_,h6⟩
       ·omega
       ·exact h6
      refine aW.append0 rfl rfl rfl hcap ?_;(conv=>whnf);refine ⟨n-(i+1),by omega,?_⟩;(conv=>whnf);refine ⟨(i+1,ai,ci),rfl,?_,rfl,by simp only;omega,k4,?_,n4⟩
      ·have e:(xss.take (i+1)).flatten.length=(xss.take i).flatten.length:=by rw [f3,Nat.add_zero]
       simp only [e,Nat.add_zero];rw [wrapN (x:=(i:Int)+1) (n:=i+1) (by simp) (by omega)]
      ·simp only;rw [f1,hx0,List.append_nil];exact O4
     ·obtain ⟨xb,xo,rfl⟩:=SX.rX h0;refine jO (e:=46) (sz:=1) (aQ:=8) (new:=xss[i].map wv) rfl rfl rfl rfl rfl rfl rfl O4 (by simp [oU]) (SX4.cells1) (ug _) (by omega) (by decide) (by simp [au]) ?_;intro a5 c5 h5 O5 k5 n5;(conv=>whnf);refine ⟨n-(i+1),by omega,?_⟩;(conv=>whnf);refine ⟨(i+1,a5,c5),rfl,?_,rfl,by simp only;omega,k4.cZ k5 n4,?_,λb hb=>?_⟩
      ·simp only [f3];rw [wrapN (x:=(i:Int)+1) (n:=i+1) (by simp) (by omega)]
      ·simp only;rw [f1,List.length_append,<-oU,List.map_append];exact O5
      ·rcases n5 b hb with h|h
       ·exact n4 b h
       ·have:=k4.size;omega
    ·have hi1:i=xss.length:=by simp at hc;omega
     subst hi1;(conv=>whnf);rw [List.take_length] at O4;refine ⟨k4,ai,ci,?_,O4,n4⟩;rw [List.take_length]
end Go.Proofs.YtoociceebodfeaaGreatDoor
