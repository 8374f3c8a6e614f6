/- The tied card of escritoirelaw11.FolderApart: it returns true for every input, and its arguments read as they did: two directories don't touch one another; one that is cleared gives all its blocks back. The listed tables of package unicode/utf8 are as the program's text lays them; no other condition is laid on the input. -/
import Derived.Test.YteambknhlbiajaaGreatDoorRows
import Derived.Test.YteambknhlbiajaaGreatDoorTie
import Derived.Test.YteambknhlbiajaaGreatDoorCards
import Derived.Test.YteambknhlbiajaaGreatDoorJLawFApartj
import Derived.WalkKit
import Derived.ProofKit
import Derived.OpenShut
import Derived.ShutString
import Derived.ChangeOld
import Derived.Below
import Derived.SizedLaws
import Derived.LaidMore
import Derived.Lay
import Derived.SevenTiedAt
import Derived.Stop.Joined
set_option linter.all false
namespace Go.Proofs.YteambknhlbiajaaGreatDoor.folderApart
open Go.ChangeShapes Go.WideShapes Go.ChangeAt Go.RowKit Go Go.Eng

theorem own : ownKnob Tryz.prog.godebug = none := by kernel_rfl
theorem laidOut : laidOutB Tryz.prog = true := by kernel_rfl

set_option maxRecDepth 100000 in
set_option maxHeartbeats 8000000 in
theorem lifted (os : Os) (started : os.Started) (H : Type) (enc : TypeId × Value → H) :
    ReturnsInHanded {} Tryz.checked os 7 .any (fun w args => (Rows.folderApartSpec.pre enc Tryz.prog Tryz.f7 Rows.folderApartRow.domain false w args ∧ laidMetH Tryz.prog Rows.folderApartRow.laid w) ∧ sizedMet enc Tryz.prog Tryz.f7 (OpenSpec.ofChange Rows.folderApartSpec) false w args) (Rows.folderApartSpec.post enc Tryz.prog Tryz.f7 false true false false) := by
  refine returnsInHanded_of_change_and (C := Tryz.checked) (X := fun w _ => laidMetH Tryz.prog Rows.folderApartRow.laid w) (fun _ _ _ hh h => h.of_heap hh) own started (by kernel_rfl) Tryz.func7
    (ChangeSpec.witness_shaped (enc := enc) (C := Tryz.checked) (os := os) (X := fun w _ => laidMetH Tryz.prog Rows.folderApartRow.laid w) false (World.laidAll Tryz.prog os Rows.folderApartRow.laid) #[.slice none 0 0, .slice none 0 0] 8 (World.laidAll_os _ _ _)
      (World.shaped_of_ZipB (by kernel_rfl) (by kernel_rfl)) (by kernel_rfl) (by kernel_rfl) (by kernel_rfl)
      (by rw [MakeChecks.laidMetH_plain _ _ _ (by kernel_rfl)]; exact laidMet_laidAll _ (by kernel_rfl) (by kernel_rfl))) ?_
  intro W base args ds gs before hval0 hW hcnd hsz0 _ _
  have hsz : (DataW.weightsEach Tryz.prog (Tryz.f7.params.toList ++ Rows.folderApartSpec.plain.varTypes Tryz.prog) (ds ++ gs)).all (· ≤ reachBytes) = true := hsz0
  have hval : ∀ (j : Nat) t v, Tryz.f7.params[j]? = some t → args[j]? = some v → Value.okWide Tryz.prog W .any base t v := hval0
  have hW' := hW
  obtain ⟨p, q, hA0, hV, rfl, hfz, hnd⟩ := hW
  have hA : DataW.TrodAll enc Tryz.prog W 0 (fun _ => true) true Tryz.f7.params.toList args.toList ds p := hA0
  rw [Tryz.params7] at hA hval hsz
  obtain ⟨v0, vs0, d0, ds0, p0, q0, hargs, rfl, rfl, h0, r0⟩ := trodAll_cons hA
  obtain ⟨v1, vs1, d1, ds1, p1, q1, rfl, rfl, rfl, h1, r1⟩ := trodAll_cons r0
  obtain ⟨rfl, rfl, rfl⟩ := trodAll_nil r1
  obtain rfl : args = #[v0, v1] := by cases args; simp_all
  obtain ⟨rfl, rfl⟩ := trodVars_none hV
  have hws := weights_each hsz
  have lt0 : ∀ x ∈ p0, x.block < W.heap.size := by obtain ⟨m, hm⟩ := h0; exact DataW.trod_lt m _ _ _ hm
  have lt1 : ∀ x ∈ p1, x.block < W.heap.size := by obtain ⟨m, hm⟩ := h1; exact DataW.trod_lt m _ _ _ hm
  obtain ⟨a_a, n_a, c_a, rfl⟩ := okWide_slice Tryz.underlying38 (hval 0 38 v0 rfl rfl)
  obtain ⟨a, hl0⟩ := arg_opens (α := List Ent) opens_ents h0 (hws 0 _ _ rfl rfl)
  have S_a := rep_slice.1 hl0
  obtain ⟨a_b, n_b, c_b, rfl⟩ := okWide_slice Tryz.underlying38 (hval 1 38 v1 rfl rfl)
  obtain ⟨b, hl1⟩ := arg_opens (α := List Ent) opens_ents h1 (hws 1 _ _ rfl rfl)
  have S_b := rep_slice.1 hl1
  clear hA0 hval0 hsz0 hsz
  refine (apart11_law S_a S_b W rfl).mono fun e W' ⟨v, he, so, k, hv⟩ => ?_
  subst hv
  subst he
  have bel : Below W.heap.size W W' := below_of_keeps k so
  exact ⟨_, rfl, _, _, _, [], _, [], hW', trodAll_mk1 (shut_bool Tryz.underlying4 _), (trodAll_cons_mk (Below.trod laidOut (by kernel_rfl) (of_decide_eq_true (by kernel_rfl)) h0 bel lt0) (trodAll_cons_mk (Below.trod laidOut (by kernel_rfl) (of_decide_eq_true (by kernel_rfl)) h1 bel lt1) trodAll_mk0)), rfl, bel.frame _, fun h => by cases h⟩

theorem over : Rows.folderApartRow.holds Tryz.pinned (OpenSpec.ofChange Rows.folderApartSpec) :=
  OpenClaim.holds_of_wide 7 Tryz.f7 rfl rfl rfl rfl rfl rfl rfl ⟨rfl, rfl, rfl, rfl, rfl⟩ rfl rfl rfl rfl rfl (by kernel_rfl) Tryz.func7 (by kernel_rfl)
    (of_decide_eq_true (by kernel_rfl)) (by unfold Func.isWrapper; first | (rw [if_pos (by decide +kernel)]; kernel_rfl) | (rw [if_neg (by decide +kernel)]; exact ⟨rfl, rfl⟩))
    (fun os started H enc _ => lifted os started H enc)
end Go.Proofs.YteambknhlbiajaaGreatDoor.folderApart
namespace Go.Proofs.YteambknhlbiajaaGreatDoor
open Go
/-- The tied card. -/
theorem folderApart_holds : Rows.FolderApartCardSaid :=
  Claim7.holds_tied_plain_at .later [] [.data, .pinned] true (true, "50ca520ecfbed84dc598e2b8c4aa288c1b3fecaa44642494d59e6936ecac0b04") false folderApart.over (fun _ h => by cases h) (by kernel_rfl) (fun _ h => by cases h) folderApart_row_tie rfl ⟨rfl, rfl⟩ (by kernel_rfl) rfl
    (fun f fn hf hfn => by
      obtain rfl : f = 7 := Option.some.inj ((show Tryz.prog.funcNamed "escritoire/escritoirelaw11.FolderApart" = some 7 by kernel_rfl).symm.trans hf) |>.symm
      obtain rfl : fn = Tryz.f7 := (Option.some.inj (Tryz.func7.symm.trans hfn)).symm
      exact ⟨by kernel_rfl, fun j t ht => by
        rw [Tryz.params7] at ht
        have hm : t ∈ [38, 38] := by simpa using Array.mem_of_getElem? ht
        have hall : ([38, 38].all fun u => !Tryz.prog.wantsStandIn u) = true := by kernel_rfl
        exact (show Tryz.prog.wantsStandIn t = false by simpa using List.all_eq_true.1 hall t hm)⟩)
    (by kernel_rfl)
end Go.Proofs.YteambknhlbiajaaGreatDoor
#print axioms Go.Proofs.YteambknhlbiajaaGreatDoor.folderApart_holds
