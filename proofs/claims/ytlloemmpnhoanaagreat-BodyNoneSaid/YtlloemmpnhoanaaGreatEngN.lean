/-
  The engine: maps that are ranged over.
-/
import Derived.Test.YtlloemmpnhoanaaGreatEngL
import Derived.Maps.RangeRun
set_option linter.all false
namespace Go.Eng
open Go

/-- an iterator, what it hasn't given yet, and what it gave last -/
def IterL (h : Heap) (it r : Nat) (R : List (Int × Value)) (last : Option (Int × Value)) : Prop :=
  ∃ es cl since seen c0, h[r]? = some (.map es cl) ∧ h[it]? = some (.mapIter (some r) since seen c0) ∧ (since ≤ c0 ∧ since ≤ cl) ∧ (∀ e ∈ es.toList, e.born < since) ∧ (es.toList.map (·.born)).Nodup ∧
    (leftOf es seen).toList.map (fun e => (e.key, e.val)) = R.map (fun p => (Value.int .i64 p.1, p.2)) ∧
    ∀ p, last = some p → ∃ (e : MapEntry) (seen' : Array Nat), seen = seen'.push e.born ∧ e ∈ es.toList ∧ e.key = .int .i64 p.1 ∧ e.val = p.2 ∧ c0 = cl

theorem IterL.keep {M : List Nat} {h h' : Heap} {it r : Nat} {R : List (Int × Value)} {last : Option (Int × Value)} (o : IterL h it r R last) (k : Keeps M h h') (h1 : it ∉ M) (h2 : r ∉ M) : IterL h' it r R last := by
  obtain ⟨es, cl, since, seen, c0, a, b, c⟩ := o
  exact ⟨es, cl, since, seen, c0, k.obj a h2, k.obj b h1, c⟩

theorem IterL.lt {h : Heap} {it r : Nat} {R : List (Int × Value)} {last : Option (Int × Value)} (o : IterL h it r R last) : it < h.size ∧ r < h.size := by
  obtain ⟨es, cl, since, seen, c0, a, b, c⟩ := o
  exact ⟨obj_lt b, obj_lt a⟩

theorem SemR.range {P : Program} {T kT eT : TypeId} (hu : P.underlying T = some (.map kT eT)) {h : Heap} {r : Nat} {m : List (Int × Value)} (o : MapL h r m) {bs : List Nat} {K : Value → Heap → Prop}
    (H : ∀ it h', it = h.size → h'.size = h.size + 1 → Keeps [] h h' → IterL h' it r m none → K (.pointer (some ⟨it, 0, none⟩)) h') : SemR P (Instr.range T (.map (some r))) bs h K := by
  unfold SemR
  intro hlt w hw
  subst hw
  have hr := o.lt
  obtain ⟨es, cl, h1, h2, h3, h4, h5⟩ := o
  refine ⟨.pointer (some ⟨w.heap.size, 0, none⟩), { w with heap := w.heap.push (.mapIter (some r) cl #[] cl) }, ?_, ⟨rfl, rfl, rfl⟩, fun b hb => ?_, H _ _ rfl (by simp) (keeps_push _ _) ⟨es, cl, cl, #[], cl, ?_, ?_, ⟨Nat.le_refl _, Nat.le_refl _⟩, h5, h4, ?_, fun p hp => by cases hp⟩⟩
  · simp only [Instr.range, Sem.run_bind, underlying_run P T w hu, Result.andThen_ok, getObj_run h1, Sem.run_pure]
    rfl
  · show (w.heap.push _)[b]? = _
    rw [push_get, if_neg (by have := hlt b hb; omega)]
  · show (w.heap.push _)[r]? = _
    rw [push_get, if_neg (by omega)]; exact h1
  · show (w.heap.push _)[w.heap.size]? = _
    rw [push_get, if_pos rfl]
  · rw [← h2]
    unfold leftOf
    rw [Array.toList_filter, List.filter_eq_self.2 (fun x _ => by simp)]

theorem SemR.next {P : Program} {ty : TypeId} {h : Heap} {it r : Nat} {R : List (Int × Value)} {last : Option (Int × Value)} (o : IterL h it r R last) {bs : List Nat} (hb : it ∉ bs) (hne : it ≠ r) {K : Value → Heap → Prop}
    (H0 : R = [] → K (.tuple #[.bool false]) h)
    (H1 : ∀ R1 p R2 h', R = R1 ++ p :: R2 → h'.size = h.size → Keeps [it] h h' → IterL h' it r (R1 ++ R2) (some p) → K (.tuple #[.bool true, .int .i64 p.1, p.2]) h') :
    SemR P (Instr.next (.pointer (some ⟨it, 0, none⟩)) false ty) bs h K := by
  unfold SemR
  intro hlt w hw
  subst hw
  have hit := o.lt.1
  obtain ⟨es, cl, since, seen, c0, a, b, c, d, e, f, g⟩ := o
  rcases run_next_at (P := P) w ty it r since c0 seen es cl b a d c.1 with ⟨h1, h2⟩ | ⟨x, hx, w1, hw1, h2⟩
  · refine ⟨_, w, h2, SameOut.refl w, fun _ _ => rfl, H0 ?_⟩
    have : (leftOf es seen).toList = [] := by
      have : (leftOf es seen).toList.length = 0 := by simpa using h1
      exact List.eq_nil_of_length_eq_zero this
    rw [this] at f
    simpa using f.symm
  · obtain ⟨L1, L2, hL⟩ := List.append_of_mem hx
    rw [hL] at f
    simp only [List.map_append, List.map_cons] at f
    obtain ⟨R1, R', hR, f1, f2⟩ := List.map_eq_append_iff.1 f.symm
    obtain ⟨p, R2, hR', f3, f4⟩ := List.map_eq_cons_iff.1 f2
    subst hR'
    simp only [Prod.mk.injEq] at f3
    have hw1' : w1.heap = w.heap := by rcases hw1 with rfl | rfl <;> rfl
    have hso : SameOut w (Go.ChangeMaps.setBlock w1 it (.mapIter (some r) since (seen.push x.born) cl)) := by rcases hw1 with rfl | rfl <;> exact ⟨rfl, rfl, rfl⟩
    have hheap : (Go.ChangeMaps.setBlock w1 it (.mapIter (some r) since (seen.push x.born) cl)).heap = w.heap.setIfInBounds it (.mapIter (some r) since (seen.push x.born) cl) := by
      show w1.heap.setIfInBounds _ _ = _
      rw [hw1']
    have hxe : x ∈ es.toList := by
      unfold leftOf at hx
      simp at hx ⊢
      exact hx.1
    refine ⟨_, _, h2, hso, fun b' hb' => ?_, ?_⟩
    · rw [hheap, set_get _ _ _ _ hit, if_neg (by intro e; subst e; exact hb hb')]
    · rw [← f3.1, ← f3.2]
      refine H1 R1 p R2 _ hR ?_ ?_ ?_
      · rw [hheap]; simp
      · rw [hheap]; exact keeps_set _ _ _ hit
      · rw [hheap]
        refine ⟨es, cl, since, seen.push x.born, cl, ?_, ?_, ⟨c.2, c.2⟩, d, e, ?_, ?_⟩
        · rw [set_get _ _ _ _ hit, if_neg (Ne.symm hne)]; exact a
        · rw [set_get _ _ _ _ hit, if_pos rfl]
        · have e1 : (leftOf es (seen.push x.born)).toList = (leftOf es seen).toList.filter fun y => y.born != x.born := by
            unfold leftOf
            simp only [Array.toList_filter, List.filter_filter, Array.contains_push]
            congr 1
            funext y
            rw [Bool.not_or, Bool.and_comm]
            rfl
          have hnd : ((leftOf es seen).toList.map (·.born)).Nodup := by
            unfold leftOf
            rw [Array.toList_filter]
            exact (List.Sublist.map _ (List.filter_sublist)).nodup e
          rw [e1, hL]
          rw [hL] at hnd
          simp only [List.map_append, List.map_cons, List.nodup_append, List.nodup_cons] at hnd
          have k1 : L1.filter (fun y => y.born != x.born) = L1 := List.filter_eq_self.2 fun y hy => by
            have := hnd.2.2 y.born (List.mem_map.2 ⟨y, hy, rfl⟩) x.born (by simp)
            simpa using this
          have k2 : L2.filter (fun y => y.born != x.born) = L2 := List.filter_eq_self.2 fun y hy => by
            have := hnd.2.1.1
            simp only [bne_iff_ne, ne_eq]
            intro e
            exact this (List.mem_map.2 ⟨y, hy, e⟩)
          rw [List.filter_append, List.filter_cons, k1, k2]
          simp only [bne_self_eq_false, Bool.false_eq_true, if_false, List.map_append, f1, f4]
        · intro p' hp'
          cases hp'
          exact ⟨x, seen, rfl, hxe, f3.1.symm, f3.2.symm, rfl⟩

theorem SemR.entry {P : Program} {h : Heap} {it r : Nat} {R : List (Int × Value)} {p : Int × Value} (o : IterL h it r R (some p)) {bs : List Nat} {K : Value → Heap → Prop}
    (H : K (.tuple #[.int .i64 p.1, p.2]) h) : SemR P (Instr.entry (.pointer (some ⟨it, 0, none⟩))) bs h K := by
  unfold SemR
  intro hlt w hw
  subst hw
  obtain ⟨es, cl, since, seen, c0, a, b, c, d, e, f, g⟩ := o
  obtain ⟨x, seen', rfl, hx, h1, h2, rfl⟩ := g p rfl
  have := run_entry_at (P := P) w it r since seen' es c0 x b a hx e
  rw [h1, h2] at this
  exact ⟨_, w, this, SameOut.refl w, fun _ _ => rfl, H⟩

theorem CellsAt.keepM {M : List Nat} {h h' : Heap} (k : Keeps M h h') {b off : Nat} {cs : List Value} (hb : b ∉ M) (hc : CellsAt h b off cs) : CellsAt h' b off cs := fun j hj => by
  have h1 := hc j hj
  have h2 : cs[j]? = some cs[j] := by simp [hj]
  rw [h2] at h1 ⊢
  exact k.cell h1 hb

/-- where cells lie, no map lies -/
theorem CellsAt.neMap {h : Heap} {b off : Nat} {cs : List Value} (hc : CellsAt h b off cs) (hp : 0 < cs.length) {r : Nat} {m : List (Int × Value)} (o : MapL h r m) : b ≠ r := by
  rintro rfl
  obtain ⟨es, cl, h1, _⟩ := o
  have h2 := hc 0 hp
  have h3 : cs[0]? = some cs[0] := by simp [hp]
  rw [h3] at h2
  unfold Heap.cell? at h2
  rw [h1] at h2
  cases h2

/-! ### Data without addresses -/

class Flat (α : Type) [Rp α] : Prop where
  flat : ∀ {h h' : Heap} {vs : List Value} {x : α}, rep h vs x → rep h' vs x

instance : Flat Int := ⟨fun h => h⟩
instance : Flat Bool := ⟨fun h => h⟩
instance : Flat ByteArray := ⟨fun h => h⟩

theorem Reps.flat {α : Type} [Rp α] [Flat α] {h h' : Heap} : ∀ {xs : List α} {l : List Value}, Reps h l xs → Reps h' l xs
  | [], l, h1 => h1
  | y :: ys, l, h1 => by
    obtain ⟨c, r, rfl, h3, h4⟩ := h1
    exact ⟨c, r, rfl, Flat.flat h3, h4.flat⟩

theorem own_count {α : Type} [Rp α] {h h0 : Heap} {e : TypeId} {sz : Nat} {a : Option Addr} {len cap : Nat} {l : List Value} {xs : List α} (o : Own h e sz a len cap l) (r : Reps h0 l xs) (hs : sz = Rp.n α) (hp : 0 < sz) : len = xs.length := by
  have hr := r.len
  subst hs
  rcases o with ⟨rfl, rfl, rfl, rfl⟩ | ⟨b, c, rfl, h2, h3, h4, h5, h6⟩
  · have h0 : xs.length * Rp.n α = 0 := by simpa using hr.symm
    rcases Nat.mul_eq_zero.1 h0 with h | h <;> omega
  · exact Nat.eq_of_mul_eq_mul_right hp (h5.symm.trans hr)
end Go.Eng
