/- The tied card of escritoirelaw13.CallsOwn,of its second form (what comes in is of bulk at most 1048576): it returns true for every such input,and its arguments read as they did: and so in one view,without anything being made in the memory between. The listed tables of package unicode/utf8 are as the program's text lays them;no other condition is laid on the input. -/
import Derived.Test.YtoociceebodfeaaGreatDoorRows
import Derived.Test.YtoociceebodfeaaGreatDoorTie
import Derived.Test.YtoociceebodfeaaGreatDoorCards
import Derived.Test.YtoociceebodfeaaGreatDoorJLawCOwnn
import Derived.Deep.DeepHandedRow
import Derived.JoinedCond
import Derived.WalkKit
import Derived.ProofKit
import Derived.OpenShut
import Derived.ShutString
import Derived.ChangeOld
import Derived.Below
import Derived.SizedLaws
import Derived.LaidMore
import Derived.Lay
import Derived.SevenTiedAt
import Derived.Stop.Joined
set_option linter.all false
namespace Go.Proofs.YtoociceebodfeaaGreatDoor.callsOwn
open Go.ChangeShapes Go.WideShapes Go.ChangeAt Go.RowKit Go Go.aK
theorem own:ownKnob Tryz.prog.godebug=none:=by kernel_rfl
theorem laidOut:laidOutB Tryz.prog=true:=by kernel_rfl
theorem reads (os:Os){H:Type}(enc:TypeId×Value->H):∃ places,DataW.whole enc Tryz.prog ((World.laidAll Tryz.prog os Rows.callsOwnUptoRow.laid).forCall (λ_ _=>0) ⟨#[],#[.slice none 0 0],[]⟩).memory Tryz.f3.params.toList Rows.callsOwnSpec.vars false (#[.slice none 0 0]:Array Value).toList 8=some ([.nil],[],places):=⟨[],by kernel_rfl⟩
set_option maxRecDepth 100000 in
set_option maxHeartbeats 8000000 in
theorem lifted (os:Os)(started:os.Started)(H:Type)(enc:TypeId×Value->H)(F:Stop.Interp) :
 ReturnsInHanded {} Tryz.checked os 3 .any ((Rows.OpenSpec.upto Rows.callsOwnSpec).preRow enc Tryz.prog Tryz.f3 Rows.callsOwnUptoRow.domain false Rows.callsOwnUptoRow.laid) (((Rows.OpenSpec.upto Rows.callsOwnSpec).at F).post enc Tryz.prog Tryz.f3 false true false false):=by
 obtain ⟨places,hx⟩:=reads os enc;have hok:Input.okWideB Tryz.prog ((World.laidAll Tryz.prog os Rows.callsOwnUptoRow.laid).forCall (λ_ _=>0) ⟨#[],#[.slice none 0 0],[]⟩) 3 ⟨#[],#[.slice none 0 0],[]⟩=true:=by kernel_rfl
 refine returnsInHanded_of_row (C:=Tryz.checked) (s:=(Rows.OpenSpec.upto Rows.callsOwnSpec)) own started (by kernel_rfl) Tryz.func3
  ⟨World.laidAll Tryz.prog os Rows.callsOwnUptoRow.laid,λ_ _=>0,⟨#[],#[.slice none 0 0],[]⟩,World.laidAll_os _ _ _,World.shaped_of_ZipB (by kernel_rfl) (by kernel_rfl),(Input.okWide_of_okWideB (base:=0) hok).1,(Input.okWide_of_okWideB hok).2,
   OpenSpec.preRow_of_cond 8 hx (by kernel_rfl) (λk hk=>by cases hk;kernel_rfl) (by kernel_rfl) (by rw [MakeChecks.laidMetH_plain _ _ _ (by kernel_rfl)];exact laidMet_laidAll _ (by kernel_rfl) (by kernel_rfl)),by
   simp only [Assume.holds];exact ⟨by simp,by simp,λ_=>Modest.zero,by simp,by simp⟩⟩ ?_
 intro W base args ds gs before hval0 hW hcnd hcond hsz0 _ _ _;show Calls Tryz.prog 3 args W λe W'=>∃ v,e=.returned v/\Rows.callsOwnSpec.post enc Tryz.prog Tryz.f3 false true false false W args v W';have hsz:(DataW.weightsEach Tryz.prog (Tryz.f3.params.toList++Rows.callsOwnSpec.plain.varTypes Tryz.prog) (ds++gs)).all (·<=reachBytes)=true:=hsz0;have hval:∀ (j:Nat) t v,Tryz.f3.params[j]?=some t->args[j]?=some v->Value.okWide Tryz.prog W .any base t v:=hval0;have hW':=hW;obtain ⟨p,q,hA0,hV,rfl,hfz,hnd⟩:=hW;have hA:DataW.TrodAll enc Tryz.prog W 0 (λ_=>true) true Tryz.f3.params.toList args.toList ds p:=hA0;rw [Tryz.params3] at hA hval hsz;obtain ⟨v0,vs0,d0,ds0,p0,q0,hargs,rfl,rfl,h0,r0⟩:=trodAll_cons hA;obtain ⟨rfl,rfl,rfl⟩:=trodAll_nil r0;obtain rfl:args=#[v0]:=by cases args;simp_all
 obtain ⟨rfl,rfl⟩:=trodVars_none hV;have hws:=MC hsz;have hsm:Rows.uptoBulkAll ([d0]++[])<=1048576:=of_decide_eq_true (hcond _ rfl);simp only [List.append_nil,Rows.uptoBulkAll] at hsm;have lt0:∀ x∈p0,x.block<W.heap.size:=by obtain ⟨m,hm⟩:=h0;exact DataW.trod_lt m _ _ _ hm
 obtain ⟨Wp,Wq,Ws,rfl⟩:=okWide_slice Tryz.underlying22 (hval 0 22 v0 rfl rfl);obtain ⟨script,hl0⟩:=ME (α:=List cO) MF h0 (hws 0 _ _ rfl rfl);have FX:=MG.1 hl0;clear hA0 hval0 hsz0 hsz;refine (MH FX (MI h0 FX (by omega)) W rfl).mono λe W' ⟨v,he,so,k,hv⟩=>?_;subst hv;subst he;have FY:Below W.heap.size W W':=MJ k so;exact ⟨_,rfl,_,_,_,[],_,[],hW',trodAll_mk1 (shut_bool Tryz.underlying4 _),(trodAll_cons_mk (Below.trod laidOut (by kernel_rfl) (of_decide_eq_true (by kernel_rfl)) h0 FY lt0) trodAll_mk0),rfl,FY.frame _,λh=>by cases h⟩
theorem MK:(Rows.callsOwnUptoRow.inPlace==Tryz.prog.inPlace 3)=true:=by kernel_rfl
theorem MN:(Rows.callsOwnUptoRow.unfollowed==Tryz.prog.unfollowed 3)=true:=by kernel_rfl
theorem MO:(Rows.callsOwnUptoRow.recurses==Tryz.prog.recurses 3)=true:=by kernel_rfl
theorem MP:(Rows.callsOwnUptoRow.named==Tryz.prog.varsNamed 3)=true:=by kernel_rfl
theorem facts:joinedFacts Tryz.prog 3 Tryz.f3 (Rows.OpenSpec.upto Rows.callsOwnSpec).bare Rows.callsOwnUptoRow=true:=by
 unfold joinedFacts;rw [MK,MN,MO,MP]
 kernel_rfl
theorem over:Rows.callsOwnUptoRow.holds Tryz.pinned (Rows.OpenSpec.upto Rows.callsOwnSpec):=
 OpenClaim.holds_of_cond 3 Tryz.f3 rfl rfl rfl rfl rfl rfl rfl ⟨rfl,rfl,rfl,rfl,rfl⟩ rfl rfl rfl rfl rfl (by kernel_rfl) Tryz.func3 facts
  (of_decide_eq_true (by kernel_rfl)) (by unfold Func.isWrapper;first|(rw [if_pos (by decide +kernel)];kernel_rfl)|(rw [if_neg (by decide +kernel)];exact ⟨rfl,rfl⟩))
  (λos started H enc _ F=>by rw [OpenClaim.pre_eq_preRow];exact lifted os started H enc F)
end Go.Proofs.YtoociceebodfeaaGreatDoor.callsOwn
namespace Go.Proofs.YtoociceebodfeaaGreatDoor
open Go
theorem callsOwn.MQ:Rows.callsOwnUptoRow.wfByText (Rows.OpenSpec.upto Rows.callsOwnSpec)=true:=by kernel_rfl
theorem callsOwn.MR : Tryz.pinned.checked.prog.mainIs = some (true, ("feab378841848e67917a67e200bdadccc435c4e1d6289dd90f18bce4044d226d" : String).toList) := by kernel_rfl
theorem callsOwn.MS:false=Tryz.pinned.checked.prog.looks []:=by kernel_rfl
theorem callsOwn.MU:false=Rows.callsOwnUptoRow.goesBy Tryz.pinned.checked.prog:=by kernel_rfl
theorem callsOwnUpto_holds:Rows.CallsOwnUptoCardSaid:=
 Claim7.holds_tied_plain_at .later [] [.data, .pinned] true (true, "feab378841848e67917a67e200bdadccc435c4e1d6289dd90f18bce4044d226d") false callsOwn.over (λ_ h => by cases h) callsOwn.MQ (λ_ h => by cases h) callsOwnUpto_row_tie rfl ⟨rfl, rfl⟩ callsOwn.MR rfl
  (λf fn hf hfn=>by
   obtain rfl : f = 3 := Option.some.inj ((show Tryz.prog.funcNamed "escritoire/escritoirelaw13.CallsOwn" = some 3 by kernel_rfl).symm.trans hf) |>.symm
   obtain rfl:fn=Tryz.f3:=(Option.some.inj (Tryz.func3.symm.trans hfn)).symm;exact ⟨callsOwn.MS,λj t ht=>by
    rw [Tryz.params3] at ht;have hm:t∈[22]:=by simpa using Array.mem_of_getElem? ht
    have hall:([22].all λu=>!Tryz.prog.wantsStandIn u)=true:=by kernel_rfl
    exact (show Tryz.prog.wantsStandIn t=false by simpa using List.all_eq_true.1 hall t hm)⟩)
  callsOwn.MU
end Go.Proofs.YtoociceebodfeaaGreatDoor
#print axioms Go.Proofs.YtoociceebodfeaaGreatDoor.callsOwnUpto_holds
