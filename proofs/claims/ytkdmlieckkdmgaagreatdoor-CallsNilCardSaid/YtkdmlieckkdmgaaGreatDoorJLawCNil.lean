/- The tied card of escritoirelaw13.CallsNil: it returns true for every input, and its argument reads as it did: without a view nothing can be asked, each call tells an error. The listed tables of package unicode/utf8 are as the program's text lays them; no other condition is laid on the input. -/
import Derived.Test.YtkdmlieckkdmgaaGreatDoorRows
import Derived.Test.YtkdmlieckkdmgaaGreatDoorTie
import Derived.Test.YtkdmlieckkdmgaaGreatDoorCards
import Derived.Test.YtkdmlieckkdmgaaGreatDoorJLawWSeeno
import Derived.WalkKit
import Derived.ProofKit
import Derived.OpenShut
import Derived.ShutString
import Derived.ChangeOld
import Derived.Below
import Derived.SizedLaws
import Derived.LaidMore
import Derived.Lay
import Derived.SevenTiedAt
import Derived.Stop.Joined
set_option linter.all false
namespace Go.Proofs.YtkdmlieckkdmgaaGreatDoor.callsNil
open Go.ChangeShapes Go.WideShapes Go.ChangeAt Go.RowKit Go Go.Eng

theorem own : ownKnob Tryz.prog.godebug = none := by kernel_rfl
theorem laidOut : laidOutB Tryz.prog = true := by kernel_rfl

set_option maxRecDepth 100000 in
set_option maxHeartbeats 8000000 in
theorem lifted (os : Os) (started : os.Started) (H : Type) (enc : TypeId × Value → H) :
    ReturnsInHanded {} Tryz.checked os 5 .any (fun w args => (Rows.callsNilSpec.pre enc Tryz.prog Tryz.f5 Rows.callsNilRow.domain false w args ∧ laidMetH Tryz.prog Rows.callsNilRow.laid w) ∧ sizedMet enc Tryz.prog Tryz.f5 (OpenSpec.ofChange Rows.callsNilSpec) false w args) (Rows.callsNilSpec.post enc Tryz.prog Tryz.f5 false true false false) := by
  refine returnsInHanded_of_change_and (C := Tryz.checked) (X := fun w _ => laidMetH Tryz.prog Rows.callsNilRow.laid w) (fun _ _ _ hh h => h.of_heap hh) own started (by kernel_rfl) Tryz.func5
    (ChangeSpec.witness_shaped (enc := enc) (C := Tryz.checked) (os := os) (X := fun w _ => laidMetH Tryz.prog Rows.callsNilRow.laid w) false (World.laidAll Tryz.prog os Rows.callsNilRow.laid) #[.agg #[.int .i64 0, .string ⟨#[]⟩, .string ⟨#[]⟩, .string ⟨#[]⟩, .int .i64 0, .int .i64 0]] 8 (World.laidAll_os _ _ _)
      (World.shaped_of_ZipB (by kernel_rfl) (by kernel_rfl)) (by kernel_rfl) (by kernel_rfl) (by kernel_rfl)
      (by rw [MakeChecks.laidMetH_plain _ _ _ (by kernel_rfl)]; exact laidMet_laidAll _ (by kernel_rfl) (by kernel_rfl))) ?_
  intro W base args ds gs before hval0 hW hcnd hsz0 _ _
  have hsz : (DataW.weightsEach Tryz.prog (Tryz.f5.params.toList ++ Rows.callsNilSpec.plain.varTypes Tryz.prog) (ds ++ gs)).all (· ≤ reachBytes) = true := hsz0
  have hval : ∀ (j : Nat) t v, Tryz.f5.params[j]? = some t → args[j]? = some v → Value.okWide Tryz.prog W .any base t v := hval0
  have hW' := hW
  obtain ⟨p, q, hA0, hV, rfl, hfz, hnd⟩ := hW
  have hA : DataW.TrodAll enc Tryz.prog W 0 (fun _ => true) true Tryz.f5.params.toList args.toList ds p := hA0
  rw [Tryz.params5] at hA hval hsz
  obtain ⟨v0, vs0, d0, ds0, p0, q0, hargs, rfl, rfl, h0, r0⟩ := trodAll_cons hA
  obtain ⟨rfl, rfl, rfl⟩ := trodAll_nil r0
  obtain rfl : args = #[v0] := by cases args; simp_all
  obtain ⟨rfl, rfl⟩ := trodVars_none hV
  have hws := weights_each hsz
  have lt0 : ∀ x ∈ p0, x.block < W.heap.size := by obtain ⟨m, hm⟩ := h0; exact DataW.trod_lt m _ _ _ hm
  obtain ⟨c, hc0, ok_c⟩ : ∃ c : Cal, v0.cells.toList = c.cells ∧ c.ok := by
    obtain ⟨fuel, hf⟩ := h0
    exact opens_call _ _ _ hf (hws 0 _ _ rfl rfl)
  obtain rfl := agg_of hc0 (by simp [Cal.cells])
  clear hA0 hval0 hsz0 hsz
  refine (nil13_law c _ W rfl).mono fun e W' ⟨v, he, so, k, hv⟩ => ?_
  subst hv
  subst he
  have bel : Below W.heap.size W W' := below_of_keeps k so
  exact ⟨_, rfl, _, _, _, [], _, [], hW', trodAll_mk1 (shut_bool Tryz.underlying4 _), (trodAll_cons_mk (Below.trod laidOut (by kernel_rfl) (of_decide_eq_true (by kernel_rfl)) h0 bel lt0) trodAll_mk0), rfl, bel.frame _, fun h => by cases h⟩

theorem over : Rows.callsNilRow.holds Tryz.pinned (OpenSpec.ofChange Rows.callsNilSpec) :=
  OpenClaim.holds_of_wide 5 Tryz.f5 rfl rfl rfl rfl rfl rfl rfl ⟨rfl, rfl, rfl, rfl, rfl⟩ rfl rfl rfl rfl rfl (by kernel_rfl) Tryz.func5 (by kernel_rfl)
    (of_decide_eq_true (by kernel_rfl)) (by unfold Func.isWrapper; first | (rw [if_pos (by decide +kernel)]; kernel_rfl) | (rw [if_neg (by decide +kernel)]; exact ⟨rfl, rfl⟩))
    (fun os started H enc _ => lifted os started H enc)
end Go.Proofs.YtkdmlieckkdmgaaGreatDoor.callsNil
namespace Go.Proofs.YtkdmlieckkdmgaaGreatDoor
open Go
/-- The tied card. -/
theorem callsNil_holds : Rows.CallsNilCardSaid :=
  Claim7.holds_tied_plain_at .later [] [.data, .pinned] true (true, "ac747fa276965b48bd805f418d96011cf43d91bf1bea804a635cbd700cc7e8a7") false callsNil.over (fun _ h => by cases h) (by kernel_rfl) (fun _ h => by cases h) callsNil_row_tie rfl ⟨rfl, rfl⟩ (by kernel_rfl) rfl
    (fun f fn hf hfn => by
      obtain rfl : f = 5 := Option.some.inj ((show Tryz.prog.funcNamed "escritoire/escritoirelaw13.CallsNil" = some 5 by kernel_rfl).symm.trans hf) |>.symm
      obtain rfl : fn = Tryz.f5 := (Option.some.inj (Tryz.func5.symm.trans hfn)).symm
      exact ⟨by kernel_rfl, fun j t ht => by
        rw [Tryz.params5] at ht
        have hm : t ∈ [60] := by simpa using Array.mem_of_getElem? ht
        have hall : ([60].all fun u => !Tryz.prog.wantsStandIn u) = true := by kernel_rfl
        exact (show Tryz.prog.wantsStandIn t = false by simpa using List.all_eq_true.1 hall t hm)⟩)
    (by kernel_rfl)
end Go.Proofs.YtkdmlieckkdmgaaGreatDoor
#print axioms Go.Proofs.YtkdmlieckkdmgaaGreatDoor.callsNil_holds
