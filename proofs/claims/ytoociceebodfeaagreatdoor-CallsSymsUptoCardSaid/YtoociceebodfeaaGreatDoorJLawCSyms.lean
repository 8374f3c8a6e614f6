/- The tied card of escritoirelaw13.CallsSyms,of its second form (what comes in is of bulk at most 1048576): it returns true for every such input,and its arguments read as they did: a link tells the path that it was made with,and what is read and listed by it is what is so by that path. The listed tables of package unicode/utf8 are as the program's text lays them;no other condition is laid on the input. -/
import Derived.Test.YtoociceebodfeaaGreatDoorRows
import Derived.Test.YtoociceebodfeaaGreatDoorTie
import Derived.Test.YtoociceebodfeaaGreatDoorCards
import Derived.Test.YtoociceebodfeaaGreatDoorJLawCSymsn
import Derived.Deep.DeepHandedRow
import Derived.JoinedCond
import Derived.WalkKit
import Derived.ProofKit
import Derived.OpenShut
import Derived.ShutString
import Derived.ChangeOld
import Derived.Below
import Derived.SizedLaws
import Derived.LaidMore
import Derived.Lay
import Derived.SevenTiedAt
import Derived.Stop.Joined
set_option linter.all false
namespace Go.Proofs.YtoociceebodfeaaGreatDoor.callsSyms
open Go.ChangeShapes Go.WideShapes Go.ChangeAt Go.RowKit Go Go.aK
theorem own:ownKnob Tryz.prog.godebug=none:=by kernel_rfl
theorem laidOut:laidOutB Tryz.prog=true:=by kernel_rfl
theorem reads (os:Os){H:Type}(enc:TypeId×Value->H):∃ places,DataW.whole enc Tryz.prog ((World.laidAll Tryz.prog os Rows.callsSymsUptoRow.laid).forCall (λ_ _=>0) ⟨#[],#[.slice none 0 0,.string ⟨#[]⟩],[]⟩).memory Tryz.f6.params.toList Rows.callsSymsSpec.vars false (#[.slice none 0 0,.string ⟨#[]⟩]:Array Value).toList 8=some ([.nil,.lit (.string [])],[],places):=⟨[],by kernel_rfl⟩
set_option maxRecDepth 100000 in
set_option maxHeartbeats 8000000 in
theorem lifted (os:Os)(started:os.Started)(H:Type)(enc:TypeId×Value->H)(F:Stop.Interp) :
 ReturnsInHanded {} Tryz.checked os 6 .any ((Rows.OpenSpec.upto Rows.callsSymsSpec).preRow enc Tryz.prog Tryz.f6 Rows.callsSymsUptoRow.domain false Rows.callsSymsUptoRow.laid) (((Rows.OpenSpec.upto Rows.callsSymsSpec).at F).post enc Tryz.prog Tryz.f6 false true false false):=by
 obtain ⟨places,hx⟩:=reads os enc;have hok:Input.okWideB Tryz.prog ((World.laidAll Tryz.prog os Rows.callsSymsUptoRow.laid).forCall (λ_ _=>0) ⟨#[],#[.slice none 0 0,.string ⟨#[]⟩],[]⟩) 6 ⟨#[],#[.slice none 0 0,.string ⟨#[]⟩],[]⟩=true:=by kernel_rfl
 refine returnsInHanded_of_row (C:=Tryz.checked) (s:=(Rows.OpenSpec.upto Rows.callsSymsSpec)) own started (by kernel_rfl) Tryz.func6
  ⟨World.laidAll Tryz.prog os Rows.callsSymsUptoRow.laid,λ_ _=>0,⟨#[],#[.slice none 0 0,.string ⟨#[]⟩],[]⟩,World.laidAll_os _ _ _,World.shaped_of_ZipB (by kernel_rfl) (by kernel_rfl),(Input.okWide_of_okWideB (base:=0) hok).1,(Input.okWide_of_okWideB hok).2,
   OpenSpec.preRow_of_cond 8 hx (by kernel_rfl) (λk hk=>by cases hk;kernel_rfl) (by kernel_rfl) (by rw [MakeChecks.laidMetH_plain _ _ _ (by kernel_rfl)];exact laidMet_laidAll _ (by kernel_rfl) (by kernel_rfl)),by
   simp only [Assume.holds];exact ⟨by simp,by simp,λ_=>Modest.zero,by simp,by simp⟩⟩ ?_
 intro W base args ds gs before hval0 hW hcnd hcond hsz0 _ _ _;show Calls Tryz.prog 6 args W λe W'=>∃ v,e=.returned v/\Rows.callsSymsSpec.post enc Tryz.prog Tryz.f6 false true false false W args v W';have hsz:(DataW.weightsEach Tryz.prog (Tryz.f6.params.toList++Rows.callsSymsSpec.plain.varTypes Tryz.prog) (ds++gs)).all (·<=reachBytes)=true:=hsz0;have hval:∀ (j:Nat) t v,Tryz.f6.params[j]?=some t->args[j]?=some v->Value.okWide Tryz.prog W .any base t v:=hval0;have hW':=hW;obtain ⟨p,q,hA0,hV,rfl,hfz,hnd⟩:=hW;have hA:DataW.TrodAll enc Tryz.prog W 0 (λ_=>true) true Tryz.f6.params.toList args.toList ds p:=hA0;rw [Tryz.params6] at hA hval hsz;obtain ⟨v0,vs0,d0,ds0,p0,q0,hargs,rfl,rfl,h0,r0⟩:=trodAll_cons hA;obtain ⟨v1,vs1,d1,ds1,p1,q1,rfl,rfl,rfl,h1,r1⟩:=trodAll_cons r0;obtain ⟨rfl,rfl,rfl⟩:=trodAll_nil r1;obtain rfl:args=#[v0,v1]:=by cases args;simp_all
 obtain ⟨rfl,rfl⟩:=trodVars_none hV;have hws:=Nt hsz;have hsm:Rows.uptoBulkAll ([d0,d1]++[])<=1048576:=of_decide_eq_true (hcond _ rfl);simp only [List.append_nil,Rows.uptoBulkAll] at hsm;have lt0:∀ x∈p0,x.block<W.heap.size:=by obtain ⟨m,hm⟩:=h0;exact DataW.trod_lt m _ _ _ hm
 have lt1:∀ x∈p1,x.block<W.heap.size:=by obtain ⟨m,hm⟩:=h1;exact DataW.trod_lt m _ _ _ hm
 obtain ⟨XE,XF,XG,rfl⟩:=okWide_slice Tryz.underlying22 (hval 0 22 v0 rfl rfl);obtain ⟨script,hl0⟩:=Gs (α:=List cB) Nu h0 (hws 0 _ _ rfl rfl);have Gt:=Nv.1 hl0;obtain ⟨target0,rfl⟩:=okWide_string Tryz.underlying9 (hval 1 9 v1 rfl rfl);obtain ⟨target1,hz1,Nw⟩:=Gs (zw Tryz.underlying9) h1 (hws 1 _ _ rfl rfl);cases hz1;obtain ⟨target,rfl⟩:∃ l:List UInt8,target0=⟨l.toArray⟩:=⟨target0.data.toList,rfl⟩;have Ny:target.length<=140737488351232:=by have:=Nw;unfold l9 at this;rw [jE] at this;exact this
 have XH:target.length<=1048576:=by
  obtain ⟨fu,hf⟩:=h1;obtain ⟨s,hcs,hx,_⟩:=DataW.trod_string Tryz.underlying9 hf;have hcs2:s=⟨target.toArray⟩:=by simp [Value.cells] at hcs;exact hcs.symm
  subst hcs2;have hd:d1=.lit (.string (target.toArray.toList)):=(Prod.mk.inj hx).1;rw [hd] at hsm;simp only [Rows.uptoBulk,List.toList_toArray] at hsm;omega
 clear hA0 hval0 hsz0 hsz;refine (Nz Gt (NA h0 Gt (by omega)) target Ny W rfl).mono λe W' ⟨v,he,so,k,hv⟩=>?_;subst hv;subst he;have Cg:Below W.heap.size W W':=NC k so;exact ⟨_,rfl,_,_,_,[],_,[],hW',trodAll_mk1 (shut_bool Tryz.underlying4 _),(trodAll_cons_mk (Below.trod laidOut (by kernel_rfl) (of_decide_eq_true (by kernel_rfl)) h0 Cg lt0) (trodAll_cons_mk (Below.trod laidOut (by kernel_rfl) (of_decide_eq_true (by kernel_rfl)) h1 Cg lt1) trodAll_mk0)),rfl,Cg.frame _,λh=>by cases h⟩
theorem ND:(Rows.callsSymsUptoRow.inPlace==Tryz.prog.inPlace 6)=true:=by kernel_rfl
theorem NE:(Rows.callsSymsUptoRow.unfollowed==Tryz.prog.unfollowed 6)=true:=by kernel_rfl
theorem NF:(Rows.callsSymsUptoRow.recurses==Tryz.prog.recurses 6)=true:=by kernel_rfl
theorem NG:(Rows.callsSymsUptoRow.named==Tryz.prog.varsNamed 6)=true:=by kernel_rfl
theorem facts:joinedFacts Tryz.prog 6 Tryz.f6 (Rows.OpenSpec.upto Rows.callsSymsSpec).bare Rows.callsSymsUptoRow=true:=by
 unfold joinedFacts;rw [ND,NE,NF,NG]
 kernel_rfl
theorem over:Rows.callsSymsUptoRow.holds Tryz.pinned (Rows.OpenSpec.upto Rows.callsSymsSpec):=
 OpenClaim.holds_of_cond 6 Tryz.f6 rfl rfl rfl rfl rfl rfl rfl ⟨rfl,rfl,rfl,rfl,rfl⟩ rfl rfl rfl rfl rfl (by kernel_rfl) Tryz.func6 facts
  (of_decide_eq_true (by kernel_rfl)) (by unfold Func.isWrapper;first|(rw [if_pos (by decide +kernel)];kernel_rfl)|(rw [if_neg (by decide +kernel)];exact ⟨rfl,rfl⟩))
  (λos started H enc _ F=>by rw [OpenClaim.pre_eq_preRow];exact lifted os started H enc F)
end Go.Proofs.YtoociceebodfeaaGreatDoor.callsSyms
namespace Go.Proofs.YtoociceebodfeaaGreatDoor
open Go
theorem callsSyms.NH:Rows.callsSymsUptoRow.wfByText (Rows.OpenSpec.upto Rows.callsSymsSpec)=true:=by kernel_rfl
theorem callsSyms.NI : Tryz.pinned.checked.prog.mainIs = some (true, ("feab378841848e67917a67e200bdadccc435c4e1d6289dd90f18bce4044d226d" : String).toList) := by kernel_rfl
theorem callsSyms.NJ:false=Tryz.pinned.checked.prog.looks []:=by kernel_rfl
theorem callsSyms.NK:false=Rows.callsSymsUptoRow.goesBy Tryz.pinned.checked.prog:=by kernel_rfl
theorem callsSymsUpto_holds:Rows.CallsSymsUptoCardSaid:=
 Claim7.holds_tied_plain_at .later [] [.data, .pinned] true (true, "feab378841848e67917a67e200bdadccc435c4e1d6289dd90f18bce4044d226d") false callsSyms.over (λ_ h => by cases h) callsSyms.NH (λ_ h => by cases h) callsSymsUpto_row_tie rfl ⟨rfl, rfl⟩ callsSyms.NI rfl
  (λf fn hf hfn=>by
   obtain rfl : f = 6 := Option.some.inj ((show Tryz.prog.funcNamed "escritoire/escritoirelaw13.CallsSyms" = some 6 by kernel_rfl).symm.trans hf) |>.symm
   obtain rfl:fn=Tryz.f6:=(Option.some.inj (Tryz.func6.symm.trans hfn)).symm;exact ⟨callsSyms.NJ,λj t ht=>by
    rw [Tryz.params6] at ht;have hm:t∈[22,9]:=by simpa using Array.mem_of_getElem? ht
    have hall:([22,9].all λu=>!Tryz.prog.wantsStandIn u)=true:=by kernel_rfl
    exact (show Tryz.prog.wantsStandIn t=false by simpa using List.all_eq_true.1 hall t hm)⟩)
  callsSyms.NK
end Go.Proofs.YtoociceebodfeaaGreatDoor
#print axioms Go.Proofs.YtoociceebodfeaaGreatDoor.callsSymsUpto_holds
