/- The tied card of escritoirelaw12.WalkPaths, of its second form (what comes in is of bulk at most 1048576): it returns true for every such input, and its arguments read as they did: the file that a path names, its card's kind, where a name stands, and which errors there are, is what walking the document's tree tells, links among it. The listed tables of package unicode/utf8 are as the program's text lays them; no other condition is laid on the input. -/
import Derived.Test.YtdfgkdoplagelaaGreatDoorRows
import Derived.Test.YtdfgkdoplagelaaGreatDoorTie
import Derived.Test.YtdfgkdoplagelaaGreatDoorCards
import Derived.Test.YtdfgkdoplagelaaGreatDoorJLawWNiln
import Derived.Deep.DeepHandedRow
import Derived.JoinedCond
import Derived.WalkKit
import Derived.ProofKit
import Derived.OpenShut
import Derived.ShutString
import Derived.ChangeOld
import Derived.Below
import Derived.SizedLaws
import Derived.LaidMore
import Derived.Lay
import Derived.SevenTiedAt
import Derived.Stop.Joined
set_option linter.all false
namespace Go.Proofs.YtdfgkdoplagelaaGreatDoor.walkPaths
open Go.ChangeShapes Go.WideShapes Go.ChangeAt Go.RowKit Go Go.Eng

theorem own : ownKnob Tryz.prog.godebug = none := by kernel_rfl
theorem laidOut : laidOutB Tryz.prog = true := by kernel_rfl

theorem reads (os : Os) {H : Type} (enc : TypeId × Value → H) : ∃ places, DataW.whole enc Tryz.prog ((World.laidAll Tryz.prog os Rows.walkPathsUptoRow.laid).forCall (fun _ _ => 0) ⟨#[], #[.slice none 0 0, .string ⟨#[]⟩, .bool false], []⟩).memory Tryz.f3.params.toList Rows.walkPathsSpec.vars false (#[.slice none 0 0, .string ⟨#[]⟩, .bool false] : Array Value).toList 8 = some ([.nil, .lit (.string []), .lit (.bool false)], [], places) := ⟨[], by kernel_rfl⟩

set_option maxRecDepth 100000 in
set_option maxHeartbeats 8000000 in
theorem lifted (os : Os) (started : os.Started) (H : Type) (enc : TypeId × Value → H) (F : Stop.Interp) :
    ReturnsInHanded {} Tryz.checked os 3 .any ((Rows.OpenSpec.upto Rows.walkPathsSpec).preRow enc Tryz.prog Tryz.f3 Rows.walkPathsUptoRow.domain false Rows.walkPathsUptoRow.laid) (((Rows.OpenSpec.upto Rows.walkPathsSpec).at F).post enc Tryz.prog Tryz.f3 false true false false) := by
  obtain ⟨places, hx⟩ := reads os enc
  have hok : Input.okWideB Tryz.prog ((World.laidAll Tryz.prog os Rows.walkPathsUptoRow.laid).forCall (fun _ _ => 0) ⟨#[], #[.slice none 0 0, .string ⟨#[]⟩, .bool false], []⟩) 3 ⟨#[], #[.slice none 0 0, .string ⟨#[]⟩, .bool false], []⟩ = true := by kernel_rfl
  refine returnsInHanded_of_row (C := Tryz.checked) (s := (Rows.OpenSpec.upto Rows.walkPathsSpec)) own started (by kernel_rfl) Tryz.func3
    ⟨World.laidAll Tryz.prog os Rows.walkPathsUptoRow.laid, fun _ _ => 0, ⟨#[], #[.slice none 0 0, .string ⟨#[]⟩, .bool false], []⟩, World.laidAll_os _ _ _, World.shaped_of_ZipB (by kernel_rfl) (by kernel_rfl), (Input.okWide_of_okWideB (base := 0) hok).1, (Input.okWide_of_okWideB hok).2,
      OpenSpec.preRow_of_cond 8 hx (by kernel_rfl) (fun k hk => by cases hk; kernel_rfl) (by kernel_rfl) (by rw [MakeChecks.laidMetH_plain _ _ _ (by kernel_rfl)]; exact laidMet_laidAll _ (by kernel_rfl) (by kernel_rfl)), by
      simp only [Assume.holds]
      exact ⟨by simp, by simp, fun _ => Modest.zero, by simp, by simp⟩⟩ ?_
  intro W base args ds gs before hval0 hW hcnd hcond hsz0 _ _ _
  show Calls Tryz.prog 3 args W fun e W' => ∃ v, e = .returned v ∧ Rows.walkPathsSpec.post enc Tryz.prog Tryz.f3 false true false false W args v W'
  have hsz : (DataW.weightsEach Tryz.prog (Tryz.f3.params.toList ++ Rows.walkPathsSpec.plain.varTypes Tryz.prog) (ds ++ gs)).all (· ≤ reachBytes) = true := hsz0
  have hval : ∀ (j : Nat) t v, Tryz.f3.params[j]? = some t → args[j]? = some v → Value.okWide Tryz.prog W .any base t v := hval0
  have hW' := hW
  obtain ⟨p, q, hA0, hV, rfl, hfz, hnd⟩ := hW
  have hA : DataW.TrodAll enc Tryz.prog W 0 (fun _ => true) true Tryz.f3.params.toList args.toList ds p := hA0
  rw [Tryz.params3] at hA hval hsz
  obtain ⟨v0, vs0, d0, ds0, p0, q0, hargs, rfl, rfl, h0, r0⟩ := trodAll_cons hA
  obtain ⟨v1, vs1, d1, ds1, p1, q1, rfl, rfl, rfl, h1, r1⟩ := trodAll_cons r0
  obtain ⟨v2, vs2, d2, ds2, p2, q2, rfl, rfl, rfl, h2, r2⟩ := trodAll_cons r1
  obtain ⟨rfl, rfl, rfl⟩ := trodAll_nil r2
  obtain rfl : args = #[v0, v1, v2] := by cases args; simp_all
  obtain ⟨rfl, rfl⟩ := trodVars_none hV
  have hws := weights_each hsz
  have hsm : Rows.uptoBulkAll ([d0, d1, d2] ++ []) ≤ 1048576 := of_decide_eq_true (hcond _ rfl)
  simp only [List.append_nil, Rows.uptoBulkAll] at hsm
  have lt0 : ∀ x ∈ p0, x.block < W.heap.size := by obtain ⟨m, hm⟩ := h0; exact DataW.trod_lt m _ _ _ hm
  have lt1 : ∀ x ∈ p1, x.block < W.heap.size := by obtain ⟨m, hm⟩ := h1; exact DataW.trod_lt m _ _ _ hm
  have lt2 : ∀ x ∈ p2, x.block < W.heap.size := by obtain ⟨m, hm⟩ := h2; exact DataW.trod_lt m _ _ _ hm
  obtain ⟨a_files, n_files, c_files, rfl⟩ := okWide_slice Tryz.underlying22 (hval 0 22 v0 rfl rfl)
  obtain ⟨files, hl0⟩ := arg_opens (α := List Fil) opens_fils h0 (hws 0 _ _ rfl rfl)
  have S_files := rep_slice.1 hl0
  obtain ⟨path0, rfl⟩ := okWide_string Tryz.underlying9 (hval 1 9 v1 rfl rfl)
  obtain ⟨path1, hz1, ok0_path⟩ := arg_opens (opens_string Tryz.underlying9) h1 (hws 1 _ _ rfl rfl)
  cases hz1
  obtain ⟨path, rfl⟩ : ∃ l : List UInt8, path0 = ⟨l.toArray⟩ := ⟨path0.data.toList, rfl⟩
  have ok_path : path.length ≤ 140737488351232 := by have := ok0_path; unfold okStr at this; rw [ba_size] at this; exact this
  have hb_path : path.length ≤ 1048576 := by
    obtain ⟨fu, hf⟩ := h1
    obtain ⟨s, hcs, hx, _⟩ := DataW.trod_string Tryz.underlying9 hf
    have hcs2 : s = ⟨path.toArray⟩ := by simp [Value.cells] at hcs; exact hcs.symm
    subst hcs2
    have hd : d1 = .lit (.string (path.toArray.toList)) := (Prod.mk.inj hx).1
    rw [hd] at hsm
    simp only [Rows.uptoBulk, List.toList_toArray] at hsm
    omega
  obtain ⟨follow, rfl⟩ := okWide_bool Tryz.underlying4 (hval 2 4 v2 rfl rfl)
  clear hA0 hval0 hsz0 hsz
  refine (paths12_law S_files path hb_path follow W rfl).mono fun e W' ⟨v, he, so, k, hv⟩ => ?_
  subst hv
  subst he
  have bel : Below W.heap.size W W' := below_of_keeps k so
  exact ⟨_, rfl, _, _, _, [], _, [], hW', trodAll_mk1 (shut_bool Tryz.underlying4 _), (trodAll_cons_mk (Below.trod laidOut (by kernel_rfl) (of_decide_eq_true (by kernel_rfl)) h0 bel lt0) (trodAll_cons_mk (Below.trod laidOut (by kernel_rfl) (of_decide_eq_true (by kernel_rfl)) h1 bel lt1) (trodAll_cons_mk (Below.trod laidOut (by kernel_rfl) (of_decide_eq_true (by kernel_rfl)) h2 bel lt2) trodAll_mk0))), rfl, bel.frame _, fun h => by cases h⟩

theorem over : Rows.walkPathsUptoRow.holds Tryz.pinned (Rows.OpenSpec.upto Rows.walkPathsSpec) :=
  OpenClaim.holds_of_cond 3 Tryz.f3 rfl rfl rfl rfl rfl rfl rfl ⟨rfl, rfl, rfl, rfl, rfl⟩ rfl rfl rfl rfl rfl (by kernel_rfl) Tryz.func3 (by kernel_rfl)
    (of_decide_eq_true (by kernel_rfl)) (by unfold Func.isWrapper; first | (rw [if_pos (by decide +kernel)]; kernel_rfl) | (rw [if_neg (by decide +kernel)]; exact ⟨rfl, rfl⟩))
    (fun os started H enc _ F => by rw [OpenClaim.pre_eq_preRow]; exact lifted os started H enc F)
end Go.Proofs.YtdfgkdoplagelaaGreatDoor.walkPaths
namespace Go.Proofs.YtdfgkdoplagelaaGreatDoor
open Go
/-- The tied card. -/
theorem walkPathsUpto_holds : Rows.WalkPathsUptoCardSaid :=
  Claim7.holds_tied_plain_at .later [] [.data, .pinned] true (true, "3d2945c1d4854d32a72f6142de53d151bcbb25719da489a2033293d40217c708") false walkPaths.over (fun _ h => by cases h) (by kernel_rfl) (fun _ h => by cases h) walkPathsUpto_row_tie rfl ⟨rfl, rfl⟩ (by kernel_rfl) rfl
    (fun f fn hf hfn => by
      obtain rfl : f = 3 := Option.some.inj ((show Tryz.prog.funcNamed "escritoire/escritoirelaw12.WalkPaths" = some 3 by kernel_rfl).symm.trans hf) |>.symm
      obtain rfl : fn = Tryz.f3 := (Option.some.inj (Tryz.func3.symm.trans hfn)).symm
      exact ⟨by kernel_rfl, fun j t ht => by
        rw [Tryz.params3] at ht
        have hm : t ∈ [22, 9, 4] := by simpa using Array.mem_of_getElem? ht
        have hall : ([22, 9, 4].all fun u => !Tryz.prog.wantsStandIn u) = true := by kernel_rfl
        exact (show Tryz.prog.wantsStandIn t = false by simpa using List.all_eq_true.1 hall t hm)⟩)
    (by kernel_rfl)
end Go.Proofs.YtdfgkdoplagelaaGreatDoor
#print axioms Go.Proofs.YtdfgkdoplagelaaGreatDoor.walkPathsUpto_holds
