/-
  The engine: how Lean's data lie in Go's memory; how arguments are opened; the frame of a law's proof.
-/
import Derived.Test.YtlloemmpnhoanaaGreatEngR
import Derived.Deep.Slices
import Derived.Carry
import Derived.ProofKit
set_option linter.all false
namespace Go.Eng
open Go Go.RowKit Go.Deep

/-- 'x' lies in these cells (and in what they lead to) -/
class Rp (α : Type) where
  n : Nat
  rep : Heap → List Value → α → Prop
  len : ∀ {h vs x}, rep h vs x → vs.length = n
  keep : ∀ {h h' vs x}, Keeps [] h h' → rep h vs x → rep h' vs x

abbrev rep {α : Type} [Rp α] (h : Heap) (vs : List Value) (x : α) : Prop := Rp.rep h vs x

def inI64 (x : Int) : Prop := -9223372036854775808 ≤ x ∧ x ≤ 9223372036854775807

instance : Rp Int where
  n := 1
  rep _ vs x := vs = [.int .i64 x] ∧ inI64 x
  len h := by rw [h.1]; rfl
  keep _ h := h

instance : Rp Bool where
  n := 1
  rep _ vs x := vs = [.bool x]
  len h := by rw [h]; rfl
  keep _ h := h

/-- texts, not longer than any argument's -/
def okStr (s : ByteArray) : Prop := s.size ≤ 140737488351232

instance : Rp ByteArray where
  n := 1
  rep _ vs x := vs = [.string x] ∧ okStr x
  len h := by rw [h.1]; rfl
  keep _ h := h

/-- an element's cells -/
def CellsAt (h : Heap) (b off : Nat) (cs : List Value) : Prop := ∀ j, j < cs.length → Heap.cell? h b (off + j) = cs[j]?

theorem CellsAt.keep {h h' : Heap} (k : Keeps [] h h') {b off : Nat} {cs : List Value} (hc : CellsAt h b off cs) : CellsAt h' b off cs := fun j hj => by
  have h1 := hc j hj
  have h2 : cs[j]? = some cs[j] := by simp [hj]
  rw [h2] at h1 ⊢
  exact k.cell h1 (by simp)

/-- a slice whose elements are these -/
structure Sl {α : Type} [Rp α] (h : Heap) (a : Option Addr) (len cap : Nat) (xs : List α) : Prop where
  hlen : len = xs.length
  hcap : len ≤ cap
  hbig : xs.length ≤ 281474976710656
  at_ : ∀ i (hi : i < xs.length), ∃ b off, a = some ⟨b, off, none⟩ ∧ ∃ cs, rep h cs xs[i] ∧ CellsAt h b (off + i * Rp.n α) cs

theorem Sl.keep {α : Type} [Rp α] {h h' : Heap} {a : Option Addr} {len cap : Nat} {xs : List α} (k : Keeps [] h h') (s : Sl h a len cap xs) : Sl h' a len cap xs :=
  ⟨s.hlen, s.hcap, s.hbig, fun i hi => let ⟨b, off, ha, cs, hr, hc⟩ := s.at_ i hi; ⟨b, off, ha, cs, Rp.keep k hr, hc.keep k⟩⟩

instance {α : Type} [Rp α] : Rp (List α) where
  n := 1
  rep h vs x := ∃ a len cap, vs = [.slice a len cap] ∧ Sl h a len cap x
  len h := by obtain ⟨_, _, _, h, _⟩ := h; rw [h]; rfl
  keep k h := by obtain ⟨a, l, c, h1, h2⟩ := h; exact ⟨a, l, c, h1, h2.keep k⟩

theorem rep_slice {α : Type} [Rp α] {h : Heap} {a : Option Addr} {len cap : Nat} {xs : List α} : rep h [.slice a len cap] xs ↔ Sl h a len cap xs := by
  constructor
  · rintro ⟨a', l', c', h1, h2⟩
    simp at h1
    obtain ⟨rfl, rfl, rfl⟩ := h1
    exact h2
  · exact fun h => ⟨a, len, cap, rfl, h⟩

theorem Sl.nil {α : Type} [Rp α] {h : Heap} {a : Option Addr} {cap : Nat} : Sl h a 0 cap ([] : List α) :=
  ⟨rfl, Nat.zero_le _, by simp, fun i hi => absurd hi (by simp)⟩

/-- a part of a slice -/
theorem Sl.part {α : Type} [Rp α] {h : Heap} {a : Option Addr} {len cap : Nat} {xs : List α} (s : Sl h a len cap xs) {l r : Nat} (h1 : l ≤ r) (h2 : r ≤ len) :
    Sl h (slA a cap l (Rp.n α)) (r - l) (cap - l) ((xs.take r).drop l) := by
  have hl := s.hlen
  have hc := s.hcap
  have hb := s.hbig
  refine ⟨by simp; omega, by omega, by simp; omega, fun i hi => ?_⟩
  have hi' : i < r - l := by simp at hi; omega
  obtain ⟨b, off, ha, cs, hr, hcs⟩ := s.at_ (l + i) (by omega)
  refine ⟨b, off + l * Rp.n α, ?_, cs, ?_, ?_⟩
  · subst ha
    simp only [slA]
    rw [if_neg (by omega)]
    simp [addr_add]
  · simpa using hr
  · rw [show off + l * Rp.n α + i * Rp.n α = off + (l + i) * Rp.n α by rw [Nat.add_mul]; omega]
    exact hcs

/-! ### Arguments, opened -/

section
variable {H : Type} {enc : TypeId × Value → H} {P : Program} {W : World} {sp : Nat → Bool} {held : Bool}

/-- what can be read as data of type 't' is an 'α' -/
def Opens (enc : TypeId × Value → H) (P : Program) (W : World) (sp : Nat → Bool) (held : Bool) (t : TypeId) (α : Type) [Rp α] : Prop :=
  ∀ fuel cs x, DataW.trod enc P W 0 sp held fuel t cs = some x → (∀ m ∈ x.1.weights P t, m ≤ reachBytes) → ∃ y : α, rep W.heap cs y

theorem weightsAll_mem {e : TypeId} : ∀ (l : List (DataW H)) (d : DataW H), d ∈ l → ∀ m ∈ d.weights P e, m ∈ DataW.weightsAll P e l
  | [], d, h, _, _ => by cases h
  | x :: r, d, h, m, hm => by
    simp only [DataW.weightsAll, List.mem_append]
    simp only [List.mem_cons] at h
    rcases h with rfl | h
    · exact .inl hm
    · exact .inr (weightsAll_mem r d h m hm)

theorem cells?_at {w : World} {a : Addr} {n : Nat} {cs : List Value} (h : w.cells? 0 a n = some cs) (hn : 0 < n) : ∃ b off, a = ⟨b, off, none⟩ ∧ cs.length = n ∧ CellsAt w.heap b off cs := by
  unfold World.cells? at h
  rw [if_pos (Nat.zero_le _)] at h
  have key : ∀ (l : List Nat) (cs : List Value), l.mapM (fun i => w.cell? (a.add i)) = some cs → cs.length = l.length ∧ ∀ j (hj : j < l.length), w.cell? (a.add l[j]) = cs[j]? := by
    intro l
    induction l with
    | nil => intro cs h; simp at h; subst h; simp
    | cons i l ih =>
      intro cs h
      simp only [List.mapM_cons, Option.bind_eq_bind] at h
      cases hv : w.cell? (a.add i) with
      | none => rw [hv] at h; simp at h
      | some v =>
        rw [hv] at h
        simp only [Option.bind_some] at h
        cases hr : l.mapM (fun i => w.cell? (a.add i)) with
        | none => rw [hr] at h; simp at h
        | some r =>
          rw [hr] at h
          simp at h; subst h
          obtain ⟨h1, h2⟩ := ih r hr
          refine ⟨by simp [h1], fun j hj => ?_⟩
          cases j with
          | zero => simpa using hv
          | succ j => simpa using h2 j (by simpa using hj)
  obtain ⟨h1, h2⟩ := key _ _ h
  simp at h1
  obtain ⟨b, off, spot⟩ := a
  have h0 := h2 0 (by simpa using hn)
  have hsp : spot = none := by
    cases spot with
    | none => rfl
    | some s =>
      exfalso
      have : cs[0]? = some cs[0] := by simp [h1, hn]
      rw [this] at h0
      simp only [List.getElem_range, Addr.add, if_true] at h0
      unfold World.cell? at h0
      split at h0 <;> simp at h0
  subst hsp
  refine ⟨b, off, rfl, h1, fun j hj => ?_⟩
  have := h2 j (by simp; omega)
  simp only [List.getElem_range, addr_add, cell?_eq] at this
  exact this

theorem opens_slice {t e : TypeId} {α : Type} [Rp α] (ht : P.underlying t = some (.slice e)) (hn : P.cellsOf e = Rp.n α) (hpos : 0 < Rp.n α) (hby : 0 < P.bytesOf e) (he : Opens enc P W sp held e α) : Opens enc P W sp held t (List α) := by
  intro fuel cs x h hw
  rcases open_slice ht h with ⟨rfl, _⟩ | ⟨a, len, cap, m, n, D, Pl, rfl, _, hl, hm, rfl, hx, hel⟩
  · exact ⟨[], none, 0, 0, rfl, Sl.nil⟩
  · have hlen : len * P.bytesOf e ≤ reachBytes := by
      have h1 := hw ((((List.range len).map D).length + ((List.range ((if sp a.block then cap else len) - len)).map fun j => D (len + j)).length) * P.bytesOf e) (by
        rw [hx]; unfold DataW.weights; simp only [ht]; exact List.mem_cons_self)
      simp only [List.length_map, List.length_range] at h1
      refine Nat.le_trans (Nat.mul_le_mul_right _ ?_) h1
      omega
    have hlen' : len ≤ reachBytes := Nat.le_trans (Nat.le_mul_of_pos_right _ hby) hlen
    have hwt : ∀ i, i < len → ∀ m ∈ (D i).weights P e, m ≤ reachBytes := fun i hi m hm => hw m (by
      rw [hx]; unfold DataW.weights; simp only [ht]
      refine List.mem_cons_of_mem _ (List.mem_append_left _ (weightsAll_mem _ (D i) ?_ m hm))
      exact List.mem_map.2 ⟨i, by simpa using hi, rfl⟩)
    have hex : ∀ i, i < len → ∃ y : α, ∃ b off, a = ⟨b, off, none⟩ ∧ ∃ cs, rep W.heap cs y ∧ CellsAt W.heap b (off + i * Rp.n α) cs := fun i hi => by
      obtain ⟨cs', h1, h2⟩ := hel i (by split <;> omega)
      obtain ⟨y, hy⟩ := he _ _ _ h2 (hwt i hi)
      rw [hn] at h1
      obtain ⟨b, off, h3, h4, h5⟩ := cells?_at h1 hpos
      refine ⟨y, b, off - i * Rp.n α, ?_, cs', hy, ?_⟩
      · obtain ⟨ab, ao, asp⟩ := a
        unfold Addr.add at h3
        split at h3
        · rename_i h0; simp at h3; obtain ⟨rfl, rfl, rfl⟩ := h3; simp [h0]
        · rename_i h0
          simp at h3; obtain ⟨rfl, rfl⟩ := h3
          have : asp = none := by
            obtain ⟨cs0, h10, _⟩ := hel 0 (by split <;> omega)
            rw [hn] at h10
            obtain ⟨b0, o0, h30, _, _⟩ := cells?_at h10 hpos
            simp [Addr.add] at h30
            exact h30.2.2
          subst this
          simp
      · have : i * Rp.n α ≤ off := by
          obtain ⟨ab, ao, asp⟩ := a
          unfold Addr.add at h3
          split at h3
          · omega
          · simp at h3; omega
        rw [show off - i * Rp.n α + i * Rp.n α = off by omega]; exact h5
    have build : ∀ k, k ≤ len → ∃ ys : List α, ys.length = k ∧ ∀ i (hi : i < ys.length), ∃ b off, a = ⟨b, off, none⟩ ∧ ∃ cs, rep W.heap cs ys[i] ∧ CellsAt W.heap b (off + i * Rp.n α) cs := by
      intro k
      induction k with
      | zero => intro _; exact ⟨[], rfl, fun i hi => absurd hi (by simp)⟩
      | succ k ih =>
        intro hk
        obtain ⟨ys, h1, h2⟩ := ih (by omega)
        obtain ⟨y, hy⟩ := hex k (by omega)
        refine ⟨ys ++ [y], by simp [h1], fun i hi => ?_⟩
        by_cases hik : i < ys.length
        · simp only [List.getElem_append_left hik]; exact h2 i hik
        · have : i = k := by simp at hi; omega
          subst this
          have hg : (ys ++ [y])[i] = y := by simp [List.getElem_append, hik]
          rw [hg]; exact hy
    obtain ⟨ys, h1, h2⟩ := build len (Nat.le_refl _)
    refine ⟨ys, some a, len, cap, rfl, h1.symm, hl, by rw [h1]; unfold reachBytes at hlen'; omega, fun i hi => ?_⟩
    obtain ⟨b, off, rfl, cs, h3, h4⟩ := h2 i hi
    exact ⟨b, off, rfl, cs, h3, h4⟩

set_option maxRecDepth 100000 in
theorem opens_string {t : TypeId} (ht : P.underlying t = some .string) : Opens enc P W sp held t ByteArray := by
  intro fuel cs x h hw
  cases fuel with
  | zero => simp [DataW.trod] at h
  | succ fuel =>
    match cs, h with
    | [], h => simp [DataW.trod, ht] at h
    | _ :: _ :: _, h => simp [DataW.trod, ht] at h
    | [c], h =>
      have hs : ∃ s, c = .string s ∧ x = (.lit (.string s.data.toList), []) := by
        cases c
        case string s =>
          unfold DataW.trod at h
          simp only [ht] at h
          split at h
          · exact ⟨s, rfl, (Option.some.inj h).symm⟩
          · cases h
        all_goals (simp [DataW.trod, ht] at h)
      obtain ⟨s, rfl, rfl⟩ := hs
      refine ⟨s, rfl, ?_⟩
      have := hw s.data.toList.length (by unfold DataW.weights; exact List.mem_cons_self)
      unfold okStr
      unfold reachBytes at this
      have hsz : s.data.toList.length = s.size := Array.length_toList
      omega

theorem opens_int {t : TypeId} (ht : P.underlying t = some (.int .i64)) : Opens enc P W sp held t Int := by
  intro fuel cs x h _
  cases fuel with
  | zero => simp [DataW.trod] at h
  | succ fuel =>
    match cs, h with
    | [], h => simp [DataW.trod, ht] at h
    | _ :: _ :: _, h => simp [DataW.trod, ht] at h
    | [c], h =>
      cases c <;> simp [DataW.trod, ht] at h
      rename_i k n
      obtain ⟨⟨rfl, hwf⟩, _⟩ := h
      refine ⟨n, rfl, ?_⟩
      simp [Lit.wf, IntKind.min, IntKind.max, IntKind.bits, IntKind.signed] at hwf
      unfold inI64; omega

theorem opens_bool {t : TypeId} (ht : P.underlying t = some .bool) : Opens enc P W sp held t Bool := by
  intro fuel cs x h _
  cases fuel with
  | zero => simp [DataW.trod] at h
  | succ fuel =>
    match cs, h with
    | [], h => simp [DataW.trod, ht] at h
    | _ :: _ :: _, h => simp [DataW.trod, ht] at h
    | [c], h =>
      cases c <;> simp [DataW.trod, ht] at h
      exact ⟨_, rfl⟩

/-- the parts of a struct -/
theorem trod_parts {t : TypeId} {fs : Array Field} {fuel : Nat} {cs : List Value} {x : DataW H × List MemPlace} (ht : P.underlying t = some (.struct fs)) (h : DataW.trod enc P W 0 sp held fuel t cs = some x)
    (hw : ∀ m ∈ x.1.weights P t, m ≤ reachBytes) :
    cs.length = P.cellsOf t ∧ ∃ fuel', ∀ f ∈ fs.toList, ∃ y, DataW.trod enc P W 0 sp held fuel' f.type ((cs.drop f.offset).take (P.cellsOf f.type)) = some y ∧ ∀ m ∈ y.1.weights P f.type, m ≤ reachBytes := by
  cases fuel with
  | zero => simp [DataW.trod] at h
  | succ fuel =>
    have h' : (if cs.length = P.cellsOf t then (fs.toList.mapM fun f => DataW.trod enc P W 0 sp held fuel f.type ((cs.drop f.offset).take (P.cellsOf f.type))).map fun xs => (DataW.agg (xs.map (·.1)), xs.flatMap (·.2)) else none) = some x := by
      rw [← h]
      conv => rhs; unfold DataW.trod
      simp only [ht]
    split at h'
    · rename_i hl
      refine ⟨hl, fuel, ?_⟩
      simp only [Option.map_eq_some_iff] at h'
      obtain ⟨xs, hxs, hx⟩ := h'
      have hw' : ∀ m ∈ DataW.weightsEach P (fs.toList.map (·.type)) (xs.map (·.1)), m ≤ reachBytes := fun m hm => hw m (by
        rw [← hx]; unfold DataW.weights; simp only [ht]; exact hm)
      have key : ∀ (l : List Field) (xs : List (DataW H × List MemPlace)), l.mapM (fun f => DataW.trod enc P W 0 sp held fuel f.type ((cs.drop f.offset).take (P.cellsOf f.type))) = some xs →
          (∀ m ∈ DataW.weightsEach P (l.map (·.type)) (xs.map (·.1)), m ≤ reachBytes) →
          ∀ f ∈ l, ∃ y, DataW.trod enc P W 0 sp held fuel f.type ((cs.drop f.offset).take (P.cellsOf f.type)) = some y ∧ ∀ m ∈ y.1.weights P f.type, m ≤ reachBytes := by
        intro l
        induction l with
        | nil => intro xs _ _ f hf; cases hf
        | cons g l ih =>
          intro xs hx hw f hf
          simp only [List.mapM_cons, Option.bind_eq_bind] at hx
          cases hv : DataW.trod enc P W 0 sp held fuel g.type ((cs.drop g.offset).take (P.cellsOf g.type)) with
          | none => rw [hv] at hx; simp at hx
          | some v =>
            rw [hv] at hx
            simp only [Option.bind_some] at hx
            cases hr : l.mapM (fun f => DataW.trod enc P W 0 sp held fuel f.type ((cs.drop f.offset).take (P.cellsOf f.type))) with
            | none => rw [hr] at hx; simp at hx
            | some r =>
              rw [hr] at hx
              simp at hx; subst hx
              simp only [List.map_cons, DataW.weightsEach, List.mem_append] at hw
              simp only [List.mem_cons] at hf
              rcases hf with rfl | hf
              · exact ⟨v, hv, fun m hm => hw m (.inl hm)⟩
              · exact ih r hr (fun m hm => hw m (.inr hm)) f hf
      exact key _ _ hxs hw'
    · cases h'

end

/-- what of a call's proof the row asks for -/
theorem below_of_keeps {w w' : World} (k : Keeps [] w.heap w'.heap) (s : SameOut w w') : Below w.heap.size w w' :=
  ⟨s.1, s.2.2, s.2.1, k.size, fun b hb => k.same b hb (by simp)⟩

end Go.Eng
