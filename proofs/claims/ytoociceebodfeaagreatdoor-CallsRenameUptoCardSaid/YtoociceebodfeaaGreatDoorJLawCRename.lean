/- The tied card of escritoirelaw13.CallsRename,of its second form (what comes in is of bulk at most 1048576): it returns true for every such input,and its arguments read as they did: in a tree without links a file that is renamed tells the same at its new name,and the old one is none's;renamed back all is as it was. The listed tables of package unicode/utf8 are as the program's text lays them;no other condition is laid on the input. -/
import Derived.Test.YtoociceebodfeaaGreatDoorRows
import Derived.Test.YtoociceebodfeaaGreatDoorTie
import Derived.Test.YtoociceebodfeaaGreatDoorCards
import Derived.Test.YtoociceebodfeaaGreatDoorJLawCRenameo
import Derived.Deep.DeepHandedRow
import Derived.JoinedCond
import Derived.WalkKit
import Derived.ProofKit
import Derived.OpenShut
import Derived.ShutString
import Derived.ChangeOld
import Derived.Below
import Derived.SizedLaws
import Derived.LaidMore
import Derived.Lay
import Derived.SevenTiedAt
import Derived.Stop.Joined
set_option linter.all false
namespace Go.Proofs.YtoociceebodfeaaGreatDoor.callsRename
open Go.ChangeShapes Go.WideShapes Go.ChangeAt Go.RowKit Go Go.aN
theorem own:ownKnob Tryz.prog.godebug=none:=by kernel_rfl
theorem laidOut:laidOutB Tryz.prog=true:=by kernel_rfl
theorem reads (os:Os){H:Type}(enc:TypeId×Value->H):∃ places,DataW.whole enc Tryz.prog ((World.laidAll Tryz.prog os Rows.callsRenameUptoRow.laid).forCall (λ_ _=>0) ⟨#[],#[.slice none 0 0,.agg #[.string ⟨#[]⟩,.string ⟨#[]⟩]],[]⟩).memory Tryz.f5.params.toList Rows.callsRenameSpec.vars false (#[.slice none 0 0,.agg #[.string ⟨#[]⟩,.string ⟨#[]⟩]]:Array Value).toList 8=some ([.nil,.agg [.lit (.string []),.lit (.string [])]],[],places):=⟨[],by kernel_rfl⟩
set_option maxRecDepth 100000 in
set_option maxHeartbeats 8000000 in
theorem lifted (os:Os)(started:os.Started)(H:Type)(enc:TypeId×Value->H)(F:Stop.Interp) :
 ReturnsInHanded {} Tryz.checked os 5 .any ((Rows.OpenSpec.upto Rows.callsRenameSpec).preRow enc Tryz.prog Tryz.f5 Rows.callsRenameUptoRow.domain false Rows.callsRenameUptoRow.laid) (((Rows.OpenSpec.upto Rows.callsRenameSpec).at F).post enc Tryz.prog Tryz.f5 false true false false):=by
 obtain ⟨places,hx⟩:=reads os enc;have hok:Input.okWideB Tryz.prog ((World.laidAll Tryz.prog os Rows.callsRenameUptoRow.laid).forCall (λ_ _=>0) ⟨#[],#[.slice none 0 0,.agg #[.string ⟨#[]⟩,.string ⟨#[]⟩]],[]⟩) 5 ⟨#[],#[.slice none 0 0,.agg #[.string ⟨#[]⟩,.string ⟨#[]⟩]],[]⟩=true:=by kernel_rfl
 refine returnsInHanded_of_row (C:=Tryz.checked) (s:=(Rows.OpenSpec.upto Rows.callsRenameSpec)) own started (by kernel_rfl) Tryz.func5
  ⟨World.laidAll Tryz.prog os Rows.callsRenameUptoRow.laid,λ_ _=>0,⟨#[],#[.slice none 0 0,.agg #[.string ⟨#[]⟩,.string ⟨#[]⟩]],[]⟩,World.laidAll_os _ _ _,World.shaped_of_ZipB (by kernel_rfl) (by kernel_rfl),(Input.okWide_of_okWideB (base:=0) hok).1,(Input.okWide_of_okWideB hok).2,
   OpenSpec.preRow_of_cond 8 hx (by kernel_rfl) (λk hk=>by cases hk;kernel_rfl) (by kernel_rfl) (by rw [MakeChecks.laidMetH_plain _ _ _ (by kernel_rfl)];exact laidMet_laidAll _ (by kernel_rfl) (by kernel_rfl)),by
   simp only [Assume.holds];exact ⟨by simp,by simp,λ_=>Modest.zero,by simp,by simp⟩⟩ ?_
 intro W base args ds gs before hval0 hW hcnd hcond hsz0 _ _ _;show Calls Tryz.prog 5 args W λe W'=>∃ v,e=.returned v/\Rows.callsRenameSpec.post enc Tryz.prog Tryz.f5 false true false false W args v W';have hsz:(DataW.weightsEach Tryz.prog (Tryz.f5.params.toList++Rows.callsRenameSpec.plain.varTypes Tryz.prog) (ds++gs)).all (·<=reachBytes)=true:=hsz0;have hval:∀ (j:Nat) t v,Tryz.f5.params[j]?=some t->args[j]?=some v->Value.okWide Tryz.prog W .any base t v:=hval0;have hW':=hW;obtain ⟨p,q,hA0,hV,rfl,hfz,hnd⟩:=hW;have hA:DataW.TrodAll enc Tryz.prog W 0 (λ_=>true) true Tryz.f5.params.toList args.toList ds p:=hA0;rw [Tryz.params5] at hA hval hsz;obtain ⟨v0,vs0,d0,ds0,p0,q0,hargs,rfl,rfl,h0,r0⟩:=trodAll_cons hA;obtain ⟨v1,vs1,d1,ds1,p1,q1,rfl,rfl,rfl,h1,r1⟩:=trodAll_cons r0;obtain ⟨rfl,rfl,rfl⟩:=trodAll_nil r1;obtain rfl:args=#[v0,v1]:=by cases args;simp_all
 obtain ⟨rfl,rfl⟩:=trodVars_none hV;have hws:=Ot hsz;have hsm:Rows.uptoBulkAll ([d0,d1]++[])<=1048576:=of_decide_eq_true (hcond _ rfl);simp only [List.append_nil,Rows.uptoBulkAll] at hsm;have lt0:∀ x∈p0,x.block<W.heap.size:=by obtain ⟨m,hm⟩:=h0;exact DataW.trod_lt m _ _ _ hm
 have lt1:∀ x∈p1,x.block<W.heap.size:=by obtain ⟨m,hm⟩:=h1;exact DataW.trod_lt m _ _ _ hm
 obtain ⟨YG,YH,YI,rfl⟩:=okWide_slice Tryz.underlying22 (hval 0 22 v0 rfl rfl);obtain ⟨script,hl0⟩:=Ou (α:=List cK) Ov h0 (hws 0 _ _ rfl rfl);have G6:=Ow.1 hl0;have hg1:=h1;obtain ⟨fuel1,hf1⟩:=hg1;obtain ⟨p0,p1,hv1,Ox,Oy⟩:=Oz hf1 (hws 1 _ _ rfl rfl);obtain rfl:=OA hv1 (by simp);clear hA0 hval0 hsz0 hsz;refine (OB G6 (OC h0 G6 (by omega)) p0 p1 Ox Oy W rfl).mono λe W' ⟨v,he,so,k,hv⟩=>?_;subst hv;subst he;have CQ:Below W.heap.size W W':=OD k so;exact ⟨_,rfl,_,_,_,[],_,[],hW',trodAll_mk1 (shut_bool Tryz.underlying4 _),(trodAll_cons_mk (Below.trod laidOut (by kernel_rfl) (of_decide_eq_true (by kernel_rfl)) h0 CQ lt0) (trodAll_cons_mk (Below.trod laidOut (by kernel_rfl) (of_decide_eq_true (by kernel_rfl)) h1 CQ lt1) trodAll_mk0)),rfl,CQ.frame _,λh=>by cases h⟩
theorem OE:(Rows.callsRenameUptoRow.inPlace==Tryz.prog.inPlace 5)=true:=by kernel_rfl
theorem OG:(Rows.callsRenameUptoRow.unfollowed==Tryz.prog.unfollowed 5)=true:=by kernel_rfl
theorem OH:(Rows.callsRenameUptoRow.recurses==Tryz.prog.recurses 5)=true:=by kernel_rfl
theorem OI:(Rows.callsRenameUptoRow.named==Tryz.prog.varsNamed 5)=true:=by kernel_rfl
theorem facts:joinedFacts Tryz.prog 5 Tryz.f5 (Rows.OpenSpec.upto Rows.callsRenameSpec).bare Rows.callsRenameUptoRow=true:=by
 unfold joinedFacts;rw [OE,OG,OH,OI]
 kernel_rfl
theorem over:Rows.callsRenameUptoRow.holds Tryz.pinned (Rows.OpenSpec.upto Rows.callsRenameSpec):=
 OpenClaim.holds_of_cond 5 Tryz.f5 rfl rfl rfl rfl rfl rfl rfl ⟨rfl,rfl,rfl,rfl,rfl⟩ rfl rfl rfl rfl rfl (by kernel_rfl) Tryz.func5 facts
  (of_decide_eq_true (by kernel_rfl)) (by unfold Func.isWrapper;first|(rw [if_pos (by decide +kernel)];kernel_rfl)|(rw [if_neg (by decide +kernel)];exact ⟨rfl,rfl⟩))
  (λos started H enc _ F=>by rw [OpenClaim.pre_eq_preRow];exact lifted os started H enc F)
end Go.Proofs.YtoociceebodfeaaGreatDoor.callsRename
namespace Go.Proofs.YtoociceebodfeaaGreatDoor
open Go
theorem callsRename.OJ:Rows.callsRenameUptoRow.wfByText (Rows.OpenSpec.upto Rows.callsRenameSpec)=true:=by kernel_rfl
theorem callsRename.OL : Tryz.pinned.checked.prog.mainIs = some (true, ("feab378841848e67917a67e200bdadccc435c4e1d6289dd90f18bce4044d226d" : String).toList) := by kernel_rfl
theorem callsRename.OM:false=Tryz.pinned.checked.prog.looks []:=by kernel_rfl
theorem callsRename.OO:false=Rows.callsRenameUptoRow.goesBy Tryz.pinned.checked.prog:=by kernel_rfl
theorem callsRenameUpto_holds:Rows.CallsRenameUptoCardSaid:=
 Claim7.holds_tied_plain_at .later [] [.data, .pinned] true (true, "feab378841848e67917a67e200bdadccc435c4e1d6289dd90f18bce4044d226d") false callsRename.over (λ_ h => by cases h) callsRename.OJ (λ_ h => by cases h) callsRenameUpto_row_tie rfl ⟨rfl, rfl⟩ callsRename.OL rfl
  (λf fn hf hfn=>by
   obtain rfl : f = 5 := Option.some.inj ((show Tryz.prog.funcNamed "escritoire/escritoirelaw13.CallsRename" = some 5 by kernel_rfl).symm.trans hf) |>.symm
   obtain rfl:fn=Tryz.f5:=(Option.some.inj (Tryz.func5.symm.trans hfn)).symm;exact ⟨callsRename.OM,λj t ht=>by
    rw [Tryz.params5] at ht;have hm:t∈[22,49]:=by simpa using Array.mem_of_getElem? ht
    have hall:([22,49].all λu=>!Tryz.prog.wantsStandIn u)=true:=by kernel_rfl
    exact (show Tryz.prog.wantsStandIn t=false by simpa using List.all_eq_true.1 hall t hm)⟩)
  callsRename.OO
end Go.Proofs.YtoociceebodfeaaGreatDoor
#print axioms Go.Proofs.YtoociceebodfeaaGreatDoor.callsRenameUpto_holds
