/- escritoirelaw10.BodyNil returns true for every input, and its arguments read as they did: without a view every call on a file's bytes refuses. No condition is laid on the input. -/
import Derived.Test.YtlloemmpnhoanaaRows
import Derived.Test.YtlloemmpnhoanaaBodyV
import Derived.WalkKit
import Derived.ProofKit
import Derived.OpenShut
import Derived.ShutString
import Derived.ChangeOld
import Derived.Below
import Derived.SizedLaws
set_option linter.all false
namespace Go.Proofs.Ytlloemmpnhoanaa.bodyNil
open Go.ChangeShapes Go.WideShapes Go.ChangeAt Go.RowKit Go Go.Eng

theorem own : ownKnob Try.prog.godebug = none := by kernel_rfl
theorem laidOut : laidOutB Try.prog = true := by kernel_rfl

set_option maxRecDepth 100000 in
theorem lifted (os : Os) (started : os.Started) (H : Type) (enc : TypeId × Value → H) :
    ReturnsInHanded {} Try.checked os 4 .any (Rows.bodyNilSpec.pre6 enc Try.prog Try.f4 Rows.bodyNilRow.domain false) (Rows.bodyNilSpec.post enc Try.prog Try.f4 false true false false) := by
  refine returnsInHanded_of_change_sized (C := Try.checked) own started (by kernel_rfl) Try.func4
    (ChangeSpec.witness6 (enc := enc) (C := Try.checked) false ⟨#[], #[.agg #[.int .i64 0, .int .i64 0, .int .i64 0, .int .u64 0, .int .i64 0, .int .i64 0, .int .i64 0, .int .i64 0, .int .i64 0, .int .i64 0], .agg #[.int .i64 0, .int .i64 0, .int .i64 0, .string ⟨#[]⟩]], []⟩ 8 (by kernel_rfl) (by kernel_rfl) (by kernel_rfl) (by kernel_rfl)) ?_
  intro W base args ds gs before hval0 hW hcnd hsz0 _
  have hsz : (DataW.weightsEach Try.prog (Try.f4.params.toList ++ Rows.bodyNilSpec.plain.varTypes Try.prog) (ds ++ gs)).all (· ≤ reachBytes) = true := hsz0
  have hval : ∀ (j : Nat) t v, Try.f4.params[j]? = some t → args[j]? = some v → Value.okWide Try.prog W .any base t v := hval0
  have hW' := hW
  obtain ⟨p, q, hA0, hV, rfl, hfz, hnd⟩ := hW
  have hA : DataW.TrodAll enc Try.prog W 0 (fun _ => true) true Try.f4.params.toList args.toList ds p := hA0
  rw [Try.params4] at hA hval hsz
  obtain ⟨v0, vs0, d0, ds0, p0, q0, hargs, rfl, rfl, h0, r0⟩ := trodAll_cons hA
  obtain ⟨v1, vs1, d1, ds1, p1, q1, rfl, rfl, rfl, h1, r1⟩ := trodAll_cons r0
  obtain ⟨rfl, rfl, rfl⟩ := trodAll_nil r1
  obtain rfl : args = #[v0, v1] := by cases args; simp_all
  obtain ⟨rfl, rfl⟩ := trodVars_none hV
  have hws := weights_each hsz
  have lt0 : ∀ x ∈ p0, x.block < W.heap.size := by obtain ⟨m, hm⟩ := h0; exact DataW.trod_lt m _ _ _ hm
  have lt1 : ∀ x ∈ p1, x.block < W.heap.size := by obtain ⟨m, hm⟩ := h1; exact DataW.trod_lt m _ _ _ hm
  obtain ⟨c, hc, okc⟩ : ∃ c : Crd, v0.cells.toList = c.cells ∧ c.ok := by
    obtain ⟨fuel, hf⟩ := h0
    exact opens_card hf (hws 0 _ _ rfl rfl)
  obtain rfl := agg_of hc (by simp [Crd.cells])
  obtain ⟨k, a, n, s, hv1, i0, i1, i2, i3⟩ : ∃ (k a n : Int) (s : ByteArray), v1.cells.toList = [.int .i64 k, .int .i64 a, .int .i64 n, .string s] ∧ inI64 k ∧ inI64 a ∧ inI64 n ∧ okStr s := by
    obtain ⟨fuel, hf⟩ := h1
    exact opens_op hf (hws 1 _ _ rfl rfl)
  obtain rfl := agg_of hv1 (by simp)
  clear hA0 hval0 hsz0 hsz
  refine (nil_law c k a n s W.heap W rfl).mono fun e W' ⟨v, he, so, k, hv⟩ => ?_
  subst hv
  subst he
  have bel : Below W.heap.size W W' := below_of_keeps k so
  exact ⟨_, rfl, _, _, _, [], _, [], hW', trodAll_mk1 (shut_bool Try.underlying4 _), (trodAll_cons_mk (Below.trod laidOut (by kernel_rfl) (of_decide_eq_true (by kernel_rfl)) h0 bel lt0) (trodAll_cons_mk (Below.trod laidOut (by kernel_rfl) (of_decide_eq_true (by kernel_rfl)) h1 bel lt1) trodAll_mk0)), rfl, bel.frame _, fun h => by cases h⟩

theorem over : Rows.bodyNilRow.holds Try.pinned (OpenSpec.ofChange Rows.bodyNilSpec) :=
  OpenClaim.holds_of_wide 4 Try.f4 rfl rfl rfl rfl rfl rfl rfl ⟨rfl, rfl, rfl, rfl, rfl⟩ rfl rfl rfl rfl rfl (by kernel_rfl) Try.func4 (by kernel_rfl)
    (of_decide_eq_true (by kernel_rfl)) (by unfold Func.isWrapper; first | (rw [if_pos (by decide +kernel)]; kernel_rfl) | (rw [if_neg (by decide +kernel)]; exact ⟨rfl, rfl⟩))
    (fun os started H enc _ => lifted os started H enc)
end Go.Proofs.Ytlloemmpnhoanaa.bodyNil
namespace Go.Proofs.Ytlloemmpnhoanaa
/-- The row. -/
theorem bodyNil_holds : Rows.BodyNilSaid := bodyNil.over
end Go.Proofs.Ytlloemmpnhoanaa
#print axioms Go.Proofs.Ytlloemmpnhoanaa.bodyNil_holds
