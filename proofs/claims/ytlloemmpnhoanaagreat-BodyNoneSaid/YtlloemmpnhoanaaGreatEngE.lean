/-
  The engine, for its user: structs and arrays that are compared.
-/
import Derived.Test.YtlloemmpnhoanaaGreatEngU
import Derived.Laws.StructEq
import Derived.ChangeKeysEq
set_option linter.all false
namespace Go.Eng
open Go

/-- the fields of structs, one by one -/
def eqFs (P : Program) (eq : TypeId → Value → Value → Option Bool) (xs ys : List Value) : List Field → Option Bool
  | [] => some true
  | f :: fs => (match decide (f.name = "_") with
    | true => eqFs P eq xs ys fs
    | false => (match partV P f.type xs f.offset, partV P f.type ys f.offset with
      | some a, some b => (match eq f.type a b, eqFs P eq xs ys fs with
        | some r, some s => some (r && s)
        | _, _ => none)
      | _, _ => none))
def eqAs (P : Program) (eq : TypeId → Value → Value → Option Bool) (e : TypeId) (c : Nat) (xs ys : List Value) : List Nat → Option Bool
  | [] => some true
  | i :: is => (match partV P e xs (i * c), partV P e ys (i * c) with
    | some a, some b => (match eq e a b, eqAs P eq e c xs ys is with
      | some r, some s => some (r && s)
      | _, _ => none)
    | _, _ => none)

/-- are they the same? -/
def eqT (P : Program) : Nat → TypeId → Value → Value → Option Bool
  | 0, _, _, _ => none
  | d + 1, t, a, b => (match P.underlying t, a, b with
    | some (.int _), .int k x, .int k' y => (match k == k' with | true => some (x == y) | false => none)
    | some .bool, .bool x, .bool y => some (x == y)
    | some .string, .string x, .string y => some (x.toList == y.toList)
    | some (.struct fs), .agg ⟨xs⟩, .agg ⟨ys⟩ => (match P.stoodInHeld t with | false => eqFs P (eqT P d) xs ys fs.toList | true => none)
    | some (.array n e), .agg ⟨xs⟩, .agg ⟨ys⟩ => (match P.info? e with | some _ => eqAs P (eqT P d) e (P.cellsOf e) xs ys (List.range n) | none => none)
    | _, _, _ => none)

theorem eqFs_run {P : Program} {d : Nat} {eq : TypeId → Value → Value → Option Bool} (heq : ∀ t a b r (w : World), eq t a b = some r → (Op.equalIn d t a b).run P w = .ok r w) (xs ys : List Value) (w : World) :
    ∀ (fs : List Field) (r : Bool), eqFs P eq xs ys fs = some r → (Op.eqFields d ⟨xs⟩ ⟨ys⟩ fs).run P w = .ok r w
  | [], r, h => by simp [eqFs] at h; subst h; simp [Op.eqFields]
  | f :: fs, r, h => by
    simp only [eqFs] at h
    split at h
    · rename_i hn
      have hn' : f.name = "_" := by simpa using hn
      simp only [Op.eqFields, hn', ne_eq, not_true_eq_false, if_false]
      exact eqFs_run heq xs ys w fs r h
    · rename_i hn
      have hn' : ¬ f.name = "_" := by simpa using hn
      split at h
      · rename_i a b ha hb
        split at h
        · rename_i r1 s1 hr hs
          simp at h; subst h
          have h1 := partV_run ha w
          have h2 := partV_run hb w
          have h3 := heq _ _ _ _ w hr
          have h4 := eqFs_run heq xs ys w fs s1 hs
          simp only [Op.eqFields, hn', ne_eq, not_false_eq_true, if_true, Sem.run_bind, h1, h2, h3, Result.andThen_ok]
          cases r1
          · simp
          · simpa using h4
        · cases h
      · cases h

theorem eqAs_run {P : Program} {d : Nat} {eq : TypeId → Value → Value → Option Bool} (heq : ∀ t a b r (w : World), eq t a b = some r → (Op.equalIn d t a b).run P w = .ok r w) (e : TypeId) (c : Nat) (xs ys : List Value) (w : World) :
    ∀ (is : List Nat) (r : Bool), eqAs P eq e c xs ys is = some r → (Op.eqItems d e c ⟨xs⟩ ⟨ys⟩ is).run P w = .ok r w
  | [], r, h => by simp [eqAs] at h; subst h; simp [Op.eqItems]
  | i :: is, r, h => by
    simp only [eqAs] at h
    split at h
    · rename_i a b ha hb
      split at h
      · rename_i r1 s1 hr hs
        simp at h; subst h
        have h1 := partV_run ha w
        have h2 := partV_run hb w
        have h3 := heq _ _ _ _ w hr
        have h4 := eqAs_run heq e c xs ys w is s1 hs
        simp only [Op.eqItems, Sem.run_bind, h1, h2, h3, Result.andThen_ok]
        cases r1
        · simp
        · simpa using h4
      · cases h
    · cases h

theorem eqT_run {P : Program} : ∀ (d : Nat) (t : TypeId) (a b : Value) (r : Bool) (w : World), eqT P d t a b = some r → (Op.equalIn d t a b).run P w = .ok r w
  | 0, t, a, b, r, w, h => by cases h
  | d + 1, t, a, b, r, w, h => by
    have ih := fun t a b r w h => eqT_run (P := P) d t a b r w h
    unfold eqT at h
    split at h
    · rename_i k0 k1 x k2 y hu
      split at h
      · rename_i hk
        have : k1 = k2 := by simpa using hk
        subst this
        simp at h; subst h
        exact run_equalIn_int w d t k1 _ _ _ hu
      · cases h
    · rename_i hu
      simp at h; subst h
      exact run_equalIn_bool w d t _ _ hu
    · rename_i hu
      simp at h; subst h
      exact run_equalIn_string w d t _ _ hu
    · rename_i fs xs ys hu
      split at h
      · rename_i hs
        have hf : P.fieldsOf t = fs := by unfold Program.fieldsOf; rw [hu]
        rw [run_equalIn_agg w d t ⟨xs⟩ ⟨ys⟩ (by rw [hf]; exact hu) hs, hf]
        exact eqFs_run ih xs ys w _ r h
      · cases h
    · rename_i n e xs ys hu
      split at h
      · rename_i i hi
        rw [run_equalIn_array w d ⟨xs⟩ ⟨ys⟩ hu hi]
        exact eqAs_run ih e (P.cellsOf e) xs ys w _ r h
      · cases h
    · cases h

theorem PureR.eqAgg {P : Program} {c : Option Bool} {t : TypeId} {x y : Operand} {xs ys : List Value} {r : Bool} {K : Value → Prop} (hm : P.eqGuardType P.depth t = false) (he : eqT P 10000 t (.agg ⟨xs⟩) (.agg ⟨ys⟩) = some r) (hK : K (.bool r)) :
    PureR c P (do eqGuard .eql t x y (.agg ⟨xs⟩) (.agg ⟨ys⟩); binOp .eql t (.agg ⟨xs⟩) (.agg ⟨ys⟩) : Sem Value) K := by
  refine PureR.i (fun w => ?_) hK
  rw [Sem.run_bind, run_eqGuard_agg _ _ _ _ _ _ _ hm]
  simp only [Result.andThen_ok]
  rw [run_eql_struct, eqT_run _ _ _ _ _ w he]
  rfl
end Go.Eng
