/-
  Joined texts: EngR, EngM, EngL, EngN, EngP, EngQ.
-/
import Derived.Test.YtkjkdnphikendaaGreatDoorJLawCLinksb
import Derived.KernelRfl
import Derived.Deep.Slices
import Derived.Carry
import Derived.ProofKit
import Derived.Laws.Strings
import Derived.Maps.RangeRun
import Derived.Laws.MakeOwn
/-
  The engine, for its user: how what is left is answered; blocks that stay; slices that are grown.
-/
set_option linter.all false
namespace Go.Eng
open Go

/-- every block but those of 'M' is as it was; there may be more -/
structure Keeps (M : List Nat) (h h' : Heap) : Prop where
  size : h.size ≤ h'.size
  same : ∀ b, b < h.size → b ∉ M → h'[b]? = h[b]?

theorem Keeps.refl (M : List Nat) (h : Heap) : Keeps M h h := ⟨Nat.le_refl _, fun _ _ _ => rfl⟩
theorem Keeps.trans {M : List Nat} {a b c : Heap} (h : Keeps M a b) (h' : Keeps M b c) : Keeps M a c :=
  ⟨Nat.le_trans h.size h'.size, fun i hi hm => (h'.same i (Nat.lt_of_lt_of_le hi h.size) hm).trans (h.same i hi hm)⟩
theorem Keeps.mono {M M' : List Nat} {a b : Heap} (h : Keeps M a b) (hm : ∀ x ∈ M, x ∈ M') : Keeps M' a b :=
  ⟨h.size, fun i hi hn => h.same i hi fun hx => hn (hm i hx)⟩
/-- what is changed beside 'M' is new -/
theorem Keeps.trans_new {M M' : List Nat} {a b c : Heap} (h : Keeps M a b) (h' : Keeps M' b c) (hm : ∀ x ∈ M', x ∈ M ∨ a.size ≤ x) : Keeps M a c :=
  ⟨Nat.le_trans h.size h'.size, fun i hi hn => (h'.same i (Nat.lt_of_lt_of_le hi h.size) fun hx => by rcases hm i hx with h1 | h1; exact hn h1; omega).trans (h.same i hi hn)⟩
theorem Keeps.trans_nil {M : List Nat} {a b c : Heap} (h : Keeps M a b) (h' : Keeps [] b c) : Keeps M a c := h.trans_new h' (by simp)

theorem cell_lt {h : Heap} {b o : Nat} {v : Value} (hc : Heap.cell? h b o = some v) : b < h.size := by
  unfold Heap.cell? at hc
  rcases Nat.lt_or_ge b h.size with h1 | h1
  · exact h1
  · simp [Array.getElem?_eq_none h1] at hc
theorem obj_lt {h : Heap} {b : Nat} {o : Obj} (hc : h[b]? = some o) : b < h.size := by
  rcases Nat.lt_or_ge b h.size with h1 | h1
  · exact h1
  · simp [Array.getElem?_eq_none h1] at hc
theorem Keeps.obj {M : List Nat} {h h' : Heap} (k : Keeps M h h') {b : Nat} {o : Obj} (hc : h[b]? = some o) (hb : b ∉ M) : h'[b]? = some o := by
  rw [k.same b (obj_lt hc) hb]; exact hc
theorem Keeps.cell {M : List Nat} {h h' : Heap} (k : Keeps M h h') {b o : Nat} {v : Value} (hc : Heap.cell? h b o = some v) (hb : b ∉ M) : Heap.cell? h' b o = some v := by
  have := cell_lt hc
  unfold Heap.cell? at hc ⊢
  rw [k.same b this hb]; exact hc
theorem keeps_push (h : Heap) (o : Obj) : Keeps [] h (h.push o) := ⟨by simp, fun b hb _ => by rw [push_get, if_neg (by omega)]⟩

/-! ### Answers -/

theorem LoadR.i {c : Option Bool} {h : Heap} {b off : Nat} {K : Value → Prop} {v : Value} (hv : Heap.cell? h b off = some v) (hK : K v) : LoadR c h b off K := by
  unfold LoadR; exact ⟨v, under_of hv, hK⟩
theorem LoadR.u {p : Bool} {h : Heap} {b off : Nat} {K : Value → Prop} (v : Value) (hv : p = true → Heap.cell? h b off = some v) (hK : K v) : LoadR (some p) h b off K := by
  unfold LoadR; exact ⟨v, hv, hK⟩
theorem LoadN.i {c : Option Bool} {h : Heap} {b off n : Nat} {K : List Value → Prop} {vs : List Value} (hn : vs.length = n) (hv : ∀ i, i < n → Heap.cell? h b (off + i) = vs[i]?) (hK : K vs) : LoadN c h b off n K := by
  unfold LoadN; exact ⟨vs, hn, under_of hv, hK⟩
theorem LoadN.u {p : Bool} {h : Heap} {b off n : Nat} {K : List Value → Prop} (vs : List Value) (hn : vs.length = n) (hv : p = true → ∀ i, i < n → Heap.cell? h b (off + i) = vs[i]?) (hK : K vs) : LoadN (some p) h b off n K := by
  unfold LoadN; exact ⟨vs, hn, hv, hK⟩
theorem IdxR.i {c : Option Bool} {i : Int} {n : Nat} {K : Nat → Prop} (j : Nat) (h1 : i = (j : Int)) (h2 : j < n) (hK : K j) : IdxR c i n K := by
  unfold IdxR; exact ⟨j, under_of ⟨h1, h2⟩, hK⟩
theorem IdxR.u {p : Bool} {i : Int} {n : Nat} {K : Nat → Prop} (j : Nat) (h : p = true → i = (j : Int) ∧ j < n) (hK : K j) : IdxR (some p) i n K := by
  unfold IdxR; exact ⟨j, h, hK⟩
theorem IdxS.i {c : Option Bool} {i : Int} {n : Nat} {a : Option Addr} {s : Nat} {K : Nat → Nat → Prop} (j : Nat) {b off : Nat} (h1 : i = (j : Int)) (h2 : j < n) (h3 : a = some ⟨b, off, none⟩) (hK : K b (off + j * s)) : IdxS c i n a s K := by
  unfold IdxS; exact ⟨j, b, off, under_of ⟨h1, h2, h3⟩, hK⟩
theorem IdxS.u {p : Bool} {i : Int} {n : Nat} {a : Option Addr} {s : Nat} {K : Nat → Nat → Prop} (j b off : Nat) (h : p = true → i = (j : Int) ∧ j < n ∧ a = some ⟨b, off, none⟩) (hK : K b (off + j * s)) : IdxS (some p) i n a s K := by
  unfold IdxS; exact ⟨j, b, off, h, hK⟩
theorem SliceR.i {c : Option Bool} {lo hi : Int} {cap : Nat} {K : Nat → Nat → Prop} (l r : Nat) (h1 : lo = (l : Int)) (h2 : hi = (r : Int)) (h3 : l ≤ r) (h4 : r ≤ cap) (hK : K l r) : SliceR c lo hi cap K := by
  unfold SliceR; exact ⟨l, r, under_of ⟨h1, h2, h3, h4⟩, hK⟩
theorem SliceR.u {p : Bool} {lo hi : Int} {cap : Nat} {K : Nat → Nat → Prop} (l r : Nat) (h : p = true → lo = (l : Int) ∧ hi = (r : Int) ∧ l ≤ r ∧ r ≤ cap) (hK : K l r) : SliceR (some p) lo hi cap K := by
  unfold SliceR; exact ⟨l, r, h, hK⟩
theorem Need.i {c : Option Bool} {p K : Prop} (hp : p) (hK : K) : Need c p K := by unfold Need; exact ⟨under_of hp, hK⟩
theorem Need.u {q : Bool} {p K : Prop} (hp : q = true → p) (hK : K) : Need (some q) p K := by unfold Need; exact ⟨hp, hK⟩
theorem NthR.i {c : Option Bool} {vs : List Value} {i : Nat} {K : Value → Prop} {v : Value} (hv : vs[i]? = some v) (hK : K v) : NthR c vs i K := by unfold NthR; exact ⟨v, under_of hv, hK⟩
theorem NthR.u {q : Bool} {vs : List Value} {i : Nat} {K : Value → Prop} (v : Value) (hv : q = true → vs[i]? = some v) (hK : K v) : NthR (some q) vs i K := by unfold NthR; exact ⟨v, hv, hK⟩
theorem PureR.i {c : Option Bool} {P : Program} {s : Sem Value} {K : Value → Prop} {v : Value} (hv : ∀ w : World, s.run P w = .ok v w) (hK : K v) : PureR c P s K := by unfold PureR; exact ⟨v, under_of hv, hK⟩
theorem LookR.i {c : Option Bool} {h : Heap} {kd : TypeDesc} {r : Nat} {k : Value} {K : Option Value → Prop} {o : Option Value}
    (hv : ∃ es cl, h[r]? = some (.map es cl) ∧ ((Instr.findNow kd k es.toList 0).map fun x => x.map (·.2)) = some o) (hK : K o) : LookR c h kd r k K := by unfold LookR; exact ⟨o, under_of hv, hK⟩
theorem LenR.i {c : Option Bool} {h : Heap} {r : Nat} {K : Nat → Prop} {n : Nat} (hv : ∃ es cl, h[r]? = some (.map es cl) ∧ es.size = n) (hK : K n) : LenR c h r K := by unfold LenR; exact ⟨n, under_of hv, hK⟩
theorem AllocR.i {h : Heap} {o : Obj} {K : Nat → Heap → Prop} (H : ∀ b h', b = h.size → h'.size = h.size + 1 → h'[b]? = some o → Keeps [] h h' → K b h') : AllocR h o K := by
  unfold AllocR
  rintro b h' rfl rfl
  exact H _ _ rfl (by simp) (by rw [push_get, if_pos rfl]) (keeps_push h o)
theorem BoxR.i {h : Heap} {b : Nat} {K : Heap → Prop} (H : ∀ h', h'.size = h.size → Keeps [b] h h' → K h') : BoxR h b K := by
  unfold BoxR
  exact fun h' h1 h2 => H h' h1 ⟨by omega, fun b' _ hn => h2 b' (by simpa using hn)⟩
theorem StoreR.i {h : Heap} {b off : Nat} {vs : List Value} {bs : List Nat} {K : Heap → Prop} {c : List Value} {T : TypeId} (hb : h[b]? = some (.cells ⟨c⟩ T (0, 0))) (hl : off + vs.length ≤ c.length) (hn : b ∉ bs)
    (H : ∀ h', h'.size = h.size → h'[b]? = some (.cells ⟨spliceL off vs c⟩ T (0, 0)) → Keeps [b] h h' → K h') : StoreR h b off vs bs K := by
  unfold StoreR
  exact ⟨c, T, hb, hl, hn, fun h' h1 h2 h3 => H h' h1 h2 ⟨by omega, fun b' _ hn => h3 b' (by simpa using hn)⟩⟩
theorem IfR.i {c : Bool} {A B : Prop} (h1 : c = true → A) (h2 : c = false → B) : IfR c A B := by unfold IfR; exact ⟨h1, h2⟩
theorem IfR.t {c : Bool} {A B : Prop} (hc : c = true) (h : A) : IfR c A B := by unfold IfR; exact ⟨fun _ => h, fun h' => (by rw [hc] at h'; cases h')⟩
theorem IfR.f {c : Bool} {A B : Prop} (hc : c = false) (h : B) : IfR c A B := by unfold IfR; exact ⟨fun h' => (by rw [hc] at h'; cases h'), fun _ => h⟩
theorem MeetR.pass {first : Post → EnvC → Boxes → Heap → Prop} {rest : EnvC → Boxes → Heap → Prop} {Q : Post} {e : EnvC} {bx : Boxes} {h : Heap}
    (H : first (fun x e bx h => match x with | .normal => rest e bx h | x => Q x e bx h) e bx h) : MeetR first rest Q e bx h := by unfold MeetR; exact H
/-- a loop: the slots and the boxes that are kept, what holds at its head -/
theorem LoopR.i {body : Post → EnvC → Boxes → Heap → Prop} {Q : Post} {e : EnvC} {bx : Boxes} {h : Heap} (L B : List Nat) (I : Nat → EnvC → Boxes → Heap → Prop) (d : Nat)
    (h0 : keepS L B e bx fun e bx => I d e bx h)
    (h1 : ∀ d e bx h, I d e bx h → body (fun x e bx h => match x with
      | .normal => ∃ d', d' < d ∧ keepS L B e bx fun e bx => I d' e bx h
      | x => Q x e bx h) e bx h) : LoopR body Q e bx h := by
  unfold LoopR; exact ⟨L, B, I, ⟨d, h0⟩, h1⟩

/-- a call that keeps all blocks -/
theorem CallR.i {P : Program} {f : Nat} {args : List Value} {bs : List Nat} {h : Heap} {K : Value → Heap → Prop} {R : Value → Heap → Prop}
    (hc : CallH P f args h fun v h' => Keeps [] h h' ∧ R v h') (hK : ∀ v h', Keeps [] h h' → R v h' → K v h') : CallR P f args bs h K := by
  unfold CallR
  intro hb w hw
  refine (hc w hw).mono fun e w' he => ?_
  obtain ⟨v, h1, h2, h3, h4⟩ := he
  exact ⟨v, h1, h2, fun b hb' => h3.same b (hb b hb') (by simp), hK v _ h3 h4⟩
/-- a call that may change the blocks of 'M' -/
theorem CallR.m {P : Program} {f : Nat} {args : List Value} {bs : List Nat} {h : Heap} {K : Value → Heap → Prop} {R : Value → Heap → Prop} {M : List Nat}
    (hc : CallH P f args h fun v h' => Keeps M h h' ∧ R v h') (hM : ∀ b ∈ bs, b ∉ M) (hK : ∀ v h', Keeps M h h' → R v h' → K v h') : CallR P f args bs h K := by
  unfold CallR
  intro hb w hw
  refine (hc w hw).mono fun e w' he => ?_
  obtain ⟨v, h1, h2, h3, h4⟩ := he
  exact ⟨v, h1, h2, fun b hb' => h3.same b (hb b hb') (hM b hb'), hK v _ h3 h4⟩
theorem CallH.mono {P : Program} {f : Nat} {args : List Value} {h : Heap} {R R' : Value → Heap → Prop} (hc : CallH P f args h R) (hR : ∀ v h', R v h' → R' v h') : CallH P f args h R' := by
  intro w hw
  refine (hc w hw).mono fun e w' he => ?_
  obtain ⟨v, h1, h2, h3⟩ := he
  exact ⟨v, h1, h2, hR v _ h3⟩

end Go.Eng
/-
  The engine: how Lean's data lie in Go's memory; how arguments are opened; the frame of a law's proof.
-/
set_option linter.all false
namespace Go.Eng
open Go Go.RowKit Go.Deep

/-- 'x' lies in these cells (and in what they lead to) -/
class Rp (α : Type) where
  n : Nat
  rep : Heap → List Value → α → Prop
  len : ∀ {h vs x}, rep h vs x → vs.length = n
  keep : ∀ {h h' vs x}, Keeps [] h h' → rep h vs x → rep h' vs x

abbrev rep {α : Type} [Rp α] (h : Heap) (vs : List Value) (x : α) : Prop := Rp.rep h vs x

def inI64 (x : Int) : Prop := -9223372036854775808 ≤ x ∧ x ≤ 9223372036854775807

instance : Rp Int where
  n := 1
  rep _ vs x := vs = [.int .i64 x] ∧ inI64 x
  len h := by rw [h.1]; rfl
  keep _ h := h

instance : Rp Bool where
  n := 1
  rep _ vs x := vs = [.bool x]
  len h := by rw [h]; rfl
  keep _ h := h

/-- texts, not longer than any argument's -/
def okStr (s : ByteArray) : Prop := s.size ≤ 140737488351232

instance : Rp ByteArray where
  n := 1
  rep _ vs x := vs = [.string x] ∧ okStr x
  len h := by rw [h.1]; rfl
  keep _ h := h

/-- an element's cells -/
def CellsAt (h : Heap) (b off : Nat) (cs : List Value) : Prop := ∀ j, j < cs.length → Heap.cell? h b (off + j) = cs[j]?

theorem CellsAt.keep {h h' : Heap} (k : Keeps [] h h') {b off : Nat} {cs : List Value} (hc : CellsAt h b off cs) : CellsAt h' b off cs := fun j hj => by
  have h1 := hc j hj
  have h2 : cs[j]? = some cs[j] := by simp [hj]
  rw [h2] at h1 ⊢
  exact k.cell h1 (by simp)

/-- a slice whose elements are these -/
structure Sl {α : Type} [Rp α] (h : Heap) (a : Option Addr) (len cap : Nat) (xs : List α) : Prop where
  hlen : len = xs.length
  hcap : len ≤ cap
  hbig : xs.length ≤ 281474976710656
  at_ : ∀ i (hi : i < xs.length), ∃ b off, a = some ⟨b, off, none⟩ ∧ ∃ cs, rep h cs xs[i] ∧ CellsAt h b (off + i * Rp.n α) cs

theorem Sl.keep {α : Type} [Rp α] {h h' : Heap} {a : Option Addr} {len cap : Nat} {xs : List α} (k : Keeps [] h h') (s : Sl h a len cap xs) : Sl h' a len cap xs :=
  ⟨s.hlen, s.hcap, s.hbig, fun i hi => let ⟨b, off, ha, cs, hr, hc⟩ := s.at_ i hi; ⟨b, off, ha, cs, Rp.keep k hr, hc.keep k⟩⟩

instance {α : Type} [Rp α] : Rp (List α) where
  n := 1
  rep h vs x := ∃ a len cap, vs = [.slice a len cap] ∧ Sl h a len cap x
  len h := by obtain ⟨_, _, _, h, _⟩ := h; rw [h]; rfl
  keep k h := by obtain ⟨a, l, c, h1, h2⟩ := h; exact ⟨a, l, c, h1, h2.keep k⟩

theorem rep_slice {α : Type} [Rp α] {h : Heap} {a : Option Addr} {len cap : Nat} {xs : List α} : rep h [.slice a len cap] xs ↔ Sl h a len cap xs := by
  constructor
  · rintro ⟨a', l', c', h1, h2⟩
    simp at h1
    obtain ⟨rfl, rfl, rfl⟩ := h1
    exact h2
  · exact fun h => ⟨a, len, cap, rfl, h⟩

theorem Sl.nil {α : Type} [Rp α] {h : Heap} {a : Option Addr} {cap : Nat} : Sl h a 0 cap ([] : List α) :=
  ⟨rfl, Nat.zero_le _, by simp, fun i hi => absurd hi (by simp)⟩

/-- a part of a slice -/
theorem Sl.part {α : Type} [Rp α] {h : Heap} {a : Option Addr} {len cap : Nat} {xs : List α} (s : Sl h a len cap xs) {l r : Nat} (h1 : l ≤ r) (h2 : r ≤ len) :
    Sl h (slA a cap l (Rp.n α)) (r - l) (cap - l) ((xs.take r).drop l) := by
  have hl := s.hlen
  have hc := s.hcap
  have hb := s.hbig
  refine ⟨by simp; omega, by omega, by simp; omega, fun i hi => ?_⟩
  have hi' : i < r - l := by simp at hi; omega
  obtain ⟨b, off, ha, cs, hr, hcs⟩ := s.at_ (l + i) (by omega)
  refine ⟨b, off + l * Rp.n α, ?_, cs, ?_, ?_⟩
  · subst ha
    simp only [slA]
    rw [if_neg (by omega)]
    simp [addr_add]
  · simpa using hr
  · rw [show off + l * Rp.n α + i * Rp.n α = off + (l + i) * Rp.n α by rw [Nat.add_mul]; omega]
    exact hcs

/-! ### Arguments, opened -/

section
variable {H : Type} {enc : TypeId × Value → H} {P : Program} {W : World} {sp : Nat → Bool} {held : Bool}

/-- what can be read as data of type 't' is an 'α' -/
def Opens (enc : TypeId × Value → H) (P : Program) (W : World) (sp : Nat → Bool) (held : Bool) (t : TypeId) (α : Type) [Rp α] : Prop :=
  ∀ fuel cs x, DataW.trod enc P W 0 sp held fuel t cs = some x → (∀ m ∈ x.1.weights P t, m ≤ reachBytes) → ∃ y : α, rep W.heap cs y

theorem weightsAll_mem {e : TypeId} : ∀ (l : List (DataW H)) (d : DataW H), d ∈ l → ∀ m ∈ d.weights P e, m ∈ DataW.weightsAll P e l
  | [], d, h, _, _ => by cases h
  | x :: r, d, h, m, hm => by
    simp only [DataW.weightsAll, List.mem_append]
    simp only [List.mem_cons] at h
    rcases h with rfl | h
    · exact .inl hm
    · exact .inr (weightsAll_mem r d h m hm)

theorem cells?_at {w : World} {a : Addr} {n : Nat} {cs : List Value} (h : w.cells? 0 a n = some cs) (hn : 0 < n) : ∃ b off, a = ⟨b, off, none⟩ ∧ cs.length = n ∧ CellsAt w.heap b off cs := by
  unfold World.cells? at h
  rw [if_pos (Nat.zero_le _)] at h
  have key : ∀ (l : List Nat) (cs : List Value), l.mapM (fun i => w.cell? (a.add i)) = some cs → cs.length = l.length ∧ ∀ j (hj : j < l.length), w.cell? (a.add l[j]) = cs[j]? := by
    intro l
    induction l with
    | nil => intro cs h; simp at h; subst h; simp
    | cons i l ih =>
      intro cs h
      simp only [List.mapM_cons, Option.bind_eq_bind] at h
      cases hv : w.cell? (a.add i) with
      | none => rw [hv] at h; simp at h
      | some v =>
        rw [hv] at h
        simp only [Option.bind_some] at h
        cases hr : l.mapM (fun i => w.cell? (a.add i)) with
        | none => rw [hr] at h; simp at h
        | some r =>
          rw [hr] at h
          simp at h; subst h
          obtain ⟨h1, h2⟩ := ih r hr
          refine ⟨by simp [h1], fun j hj => ?_⟩
          cases j with
          | zero => simpa using hv
          | succ j => simpa using h2 j (by simpa using hj)
  obtain ⟨h1, h2⟩ := key _ _ h
  simp at h1
  obtain ⟨b, off, spot⟩ := a
  have h0 := h2 0 (by simpa using hn)
  have hsp : spot = none := by
    cases spot with
    | none => rfl
    | some s =>
      exfalso
      have : cs[0]? = some cs[0] := by simp [h1, hn]
      rw [this] at h0
      simp only [List.getElem_range, Addr.add, if_true] at h0
      unfold World.cell? at h0
      split at h0 <;> simp at h0
  subst hsp
  refine ⟨b, off, rfl, h1, fun j hj => ?_⟩
  have := h2 j (by simp; omega)
  simp only [List.getElem_range, addr_add, cell?_eq] at this
  exact this

theorem opens_slice {t e : TypeId} {α : Type} [Rp α] (ht : P.underlying t = some (.slice e)) (hn : P.cellsOf e = Rp.n α) (hpos : 0 < Rp.n α) (hby : 0 < P.bytesOf e) (he : Opens enc P W sp held e α) : Opens enc P W sp held t (List α) := by
  intro fuel cs x h hw
  rcases open_slice ht h with ⟨rfl, _⟩ | ⟨a, len, cap, m, n, D, Pl, rfl, _, hl, hm, rfl, hx, hel⟩
  · exact ⟨[], none, 0, 0, rfl, Sl.nil⟩
  · have hlen : len * P.bytesOf e ≤ reachBytes := by
      have h1 := hw ((((List.range len).map D).length + ((List.range ((if sp a.block then cap else len) - len)).map fun j => D (len + j)).length) * P.bytesOf e) (by
        rw [hx]; unfold DataW.weights; simp only [ht]; exact List.mem_cons_self)
      simp only [List.length_map, List.length_range] at h1
      refine Nat.le_trans (Nat.mul_le_mul_right _ ?_) h1
      omega
    have hlen' : len ≤ reachBytes := Nat.le_trans (Nat.le_mul_of_pos_right _ hby) hlen
    have hwt : ∀ i, i < len → ∀ m ∈ (D i).weights P e, m ≤ reachBytes := fun i hi m hm => hw m (by
      rw [hx]; unfold DataW.weights; simp only [ht]
      refine List.mem_cons_of_mem _ (List.mem_append_left _ (weightsAll_mem _ (D i) ?_ m hm))
      exact List.mem_map.2 ⟨i, by simpa using hi, rfl⟩)
    have hex : ∀ i, i < len → ∃ y : α, ∃ b off, a = ⟨b, off, none⟩ ∧ ∃ cs, rep W.heap cs y ∧ CellsAt W.heap b (off + i * Rp.n α) cs := fun i hi => by
      obtain ⟨cs', h1, h2⟩ := hel i (by split <;> omega)
      obtain ⟨y, hy⟩ := he _ _ _ h2 (hwt i hi)
      rw [hn] at h1
      obtain ⟨b, off, h3, h4, h5⟩ := cells?_at h1 hpos
      refine ⟨y, b, off - i * Rp.n α, ?_, cs', hy, ?_⟩
      · obtain ⟨ab, ao, asp⟩ := a
        unfold Addr.add at h3
        split at h3
        · rename_i h0; simp at h3; obtain ⟨rfl, rfl, rfl⟩ := h3; simp [h0]
        · rename_i h0
          simp at h3; obtain ⟨rfl, rfl⟩ := h3
          have : asp = none := by
            obtain ⟨cs0, h10, _⟩ := hel 0 (by split <;> omega)
            rw [hn] at h10
            obtain ⟨b0, o0, h30, _, _⟩ := cells?_at h10 hpos
            simp [Addr.add] at h30
            exact h30.2.2
          subst this
          simp
      · have : i * Rp.n α ≤ off := by
          obtain ⟨ab, ao, asp⟩ := a
          unfold Addr.add at h3
          split at h3
          · omega
          · simp at h3; omega
        rw [show off - i * Rp.n α + i * Rp.n α = off by omega]; exact h5
    have build : ∀ k, k ≤ len → ∃ ys : List α, ys.length = k ∧ ∀ i (hi : i < ys.length), ∃ b off, a = ⟨b, off, none⟩ ∧ ∃ cs, rep W.heap cs ys[i] ∧ CellsAt W.heap b (off + i * Rp.n α) cs := by
      intro k
      induction k with
      | zero => intro _; exact ⟨[], rfl, fun i hi => absurd hi (by simp)⟩
      | succ k ih =>
        intro hk
        obtain ⟨ys, h1, h2⟩ := ih (by omega)
        obtain ⟨y, hy⟩ := hex k (by omega)
        refine ⟨ys ++ [y], by simp [h1], fun i hi => ?_⟩
        by_cases hik : i < ys.length
        · simp only [List.getElem_append_left hik]; exact h2 i hik
        · have : i = k := by simp at hi; omega
          subst this
          have hg : (ys ++ [y])[i] = y := by simp [List.getElem_append, hik]
          rw [hg]; exact hy
    obtain ⟨ys, h1, h2⟩ := build len (Nat.le_refl _)
    refine ⟨ys, some a, len, cap, rfl, h1.symm, hl, by rw [h1]; unfold reachBytes at hlen'; omega, fun i hi => ?_⟩
    obtain ⟨b, off, rfl, cs, h3, h4⟩ := h2 i hi
    exact ⟨b, off, rfl, cs, h3, h4⟩

set_option maxRecDepth 100000 in
theorem opens_string {t : TypeId} (ht : P.underlying t = some .string) : Opens enc P W sp held t ByteArray := by
  intro fuel cs x h hw
  cases fuel with
  | zero => simp [DataW.trod] at h
  | succ fuel =>
    match cs, h with
    | [], h => simp [DataW.trod, ht] at h
    | _ :: _ :: _, h => simp [DataW.trod, ht] at h
    | [c], h =>
      have hs : ∃ s, c = .string s ∧ x = (.lit (.string s.data.toList), []) := by
        cases c
        case string s =>
          unfold DataW.trod at h
          simp only [ht] at h
          split at h
          · exact ⟨s, rfl, (Option.some.inj h).symm⟩
          · cases h
        all_goals (simp [DataW.trod, ht] at h)
      obtain ⟨s, rfl, rfl⟩ := hs
      refine ⟨s, rfl, ?_⟩
      have := hw s.data.toList.length (by unfold DataW.weights; exact List.mem_cons_self)
      unfold okStr
      unfold reachBytes at this
      have hsz : s.data.toList.length = s.size := Array.length_toList
      omega

theorem opens_int {t : TypeId} (ht : P.underlying t = some (.int .i64)) : Opens enc P W sp held t Int := by
  intro fuel cs x h _
  cases fuel with
  | zero => simp [DataW.trod] at h
  | succ fuel =>
    match cs, h with
    | [], h => simp [DataW.trod, ht] at h
    | _ :: _ :: _, h => simp [DataW.trod, ht] at h
    | [c], h =>
      cases c <;> simp [DataW.trod, ht] at h
      rename_i k n
      obtain ⟨⟨rfl, hwf⟩, _⟩ := h
      refine ⟨n, rfl, ?_⟩
      simp [Lit.wf, IntKind.min, IntKind.max, IntKind.bits, IntKind.signed] at hwf
      unfold inI64; omega

/-- the parts of a struct -/
theorem trod_parts {t : TypeId} {fs : Array Field} {fuel : Nat} {cs : List Value} {x : DataW H × List MemPlace} (ht : P.underlying t = some (.struct fs)) (h : DataW.trod enc P W 0 sp held fuel t cs = some x)
    (hw : ∀ m ∈ x.1.weights P t, m ≤ reachBytes) :
    cs.length = P.cellsOf t ∧ ∃ fuel', ∀ f ∈ fs.toList, ∃ y, DataW.trod enc P W 0 sp held fuel' f.type ((cs.drop f.offset).take (P.cellsOf f.type)) = some y ∧ ∀ m ∈ y.1.weights P f.type, m ≤ reachBytes := by
  cases fuel with
  | zero => simp [DataW.trod] at h
  | succ fuel =>
    have h' : (if cs.length = P.cellsOf t then (fs.toList.mapM fun f => DataW.trod enc P W 0 sp held fuel f.type ((cs.drop f.offset).take (P.cellsOf f.type))).map fun xs => (DataW.agg (xs.map (·.1)), xs.flatMap (·.2)) else none) = some x := by
      rw [← h]
      conv => rhs; unfold DataW.trod
      simp only [ht]
    split at h'
    · rename_i hl
      refine ⟨hl, fuel, ?_⟩
      simp only [Option.map_eq_some_iff] at h'
      obtain ⟨xs, hxs, hx⟩ := h'
      have hw' : ∀ m ∈ DataW.weightsEach P (fs.toList.map (·.type)) (xs.map (·.1)), m ≤ reachBytes := fun m hm => hw m (by
        rw [← hx]; unfold DataW.weights; simp only [ht]; exact hm)
      have key : ∀ (l : List Field) (xs : List (DataW H × List MemPlace)), l.mapM (fun f => DataW.trod enc P W 0 sp held fuel f.type ((cs.drop f.offset).take (P.cellsOf f.type))) = some xs →
          (∀ m ∈ DataW.weightsEach P (l.map (·.type)) (xs.map (·.1)), m ≤ reachBytes) →
          ∀ f ∈ l, ∃ y, DataW.trod enc P W 0 sp held fuel f.type ((cs.drop f.offset).take (P.cellsOf f.type)) = some y ∧ ∀ m ∈ y.1.weights P f.type, m ≤ reachBytes := by
        intro l
        induction l with
        | nil => intro xs _ _ f hf; cases hf
        | cons g l ih =>
          intro xs hx hw f hf
          simp only [List.mapM_cons, Option.bind_eq_bind] at hx
          cases hv : DataW.trod enc P W 0 sp held fuel g.type ((cs.drop g.offset).take (P.cellsOf g.type)) with
          | none => rw [hv] at hx; simp at hx
          | some v =>
            rw [hv] at hx
            simp only [Option.bind_some] at hx
            cases hr : l.mapM (fun f => DataW.trod enc P W 0 sp held fuel f.type ((cs.drop f.offset).take (P.cellsOf f.type))) with
            | none => rw [hr] at hx; simp at hx
            | some r =>
              rw [hr] at hx
              simp at hx; subst hx
              simp only [List.map_cons, DataW.weightsEach, List.mem_append] at hw
              simp only [List.mem_cons] at hf
              rcases hf with rfl | hf
              · exact ⟨v, hv, fun m hm => hw m (.inl hm)⟩
              · exact ih r hr (fun m hm => hw m (.inr hm)) f hf
      exact key _ _ hxs hw'
    · cases h'

end

/-- what of a call's proof the row asks for -/
theorem below_of_keeps {w w' : World} (k : Keeps [] w.heap w'.heap) (s : SameOut w w') : Below w.heap.size w w' :=
  ⟨s.1, s.2.2, s.2.1, k.size, fun b hb => k.same b hb (by simp)⟩

end Go.Eng
/-
  The engine: slices of the call's own, that are appended to; maps.
-/
set_option linter.all false
namespace Go.Eng
open Go

/-- a loop whose slots, boxes and memory are told by a state that a person keeps -/
theorem LoopR.on {σ : Type} {body : Post → EnvC → Boxes → Heap → Prop} {Q : Post} {e : EnvC} {bx : Boxes} {h : Heap} (L B : List Nat) (env : σ → EnvC) (bxs : σ → Boxes) (inv : σ → Heap → Prop) (m : σ → Nat) (s0 : σ)
    (h0 : keepS L B e bx fun e' bx' => ∃ s, m s = m s0 ∧ e' = env s ∧ bx' = bxs s ∧ inv s h)
    (h1 : ∀ s h, inv s h → body (fun x e bx h => match x with
      | .normal => ∃ d', d' < m s ∧ keepS L B e bx fun e bx => ∃ s', m s' = d' ∧ e = env s' ∧ bx = bxs s' ∧ inv s' h
      | x => Q x e bx h) (env s) (bxs s) h) : LoopR body Q e bx h := by
  refine LoopR.i L B (fun d e bx h => ∃ s, m s = d ∧ e = env s ∧ bx = bxs s ∧ inv s h) (m s0) h0 ?_
  rintro d e bx h ⟨s, rfl, rfl, rfl, hs⟩
  exact h1 s h hs

/-- sums that stay in their kind -/
theorem wrapI {x : Int} (h1 : -9223372036854775808 ≤ x) (h2 : x ≤ 9223372036854775807) : IntKind.i64.wrap x = x := by
  rw [IntKind.wrap_i64]
  omega
theorem wrapN {x : Int} {n : Nat} (h : x = (n : Int)) (h2 : n ≤ 9223372036854775807) : IntKind.i64.wrap x = (n : Int) := by
  subst h; exact wrapI (by omega) (by omega)

/-- texts -/
theorem toList_beq (a b : ByteArray) : (a.toList == b.toList) = decide (a = b) := by
  rw [ByteArray.toList_eq, ByteArray.toList_eq]
  have : (a.data.toList = b.data.toList) ↔ a = b := ⟨fun h => by cases a; cases b; congr; exact Array.toList_inj.1 h, fun h => by rw [h]⟩
  by_cases h : a = b
  · subst h; simp
  · have h' : ¬ a.data.toList = b.data.toList := fun e => h (this.1 e)
    rw [decide_eq_false h]; exact beq_eq_false_iff_ne.2 h'
theorem bif_or (a b : Bool) : (bif a then true else b) = (a || b) := by cases a <;> rfl
theorem bif_and (a b : Bool) : (bif a then b else false) = (a && b) := by cases a <;> rfl

/-- the block of an address -/
def blkA : Option Addr → List Nat
  | none => []
  | some a => [a.block]

/-- a slice from its block's first cell on, all of whose cells are known, and which nobody else writes -/
def Own (h : Heap) (e : TypeId) (sz : Nat) (a : Option Addr) (len cap : Nat) (l : List Value) : Prop :=
  (a = none ∧ len = 0 ∧ cap = 0 ∧ l = []) ∨
  ∃ b c, a = some ⟨b, 0, none⟩ ∧ h[b]? = some (.cells ⟨c⟩ e (0, 0)) ∧ c.take l.length = l ∧ c.length = cap * sz ∧ l.length = len * sz ∧ len ≤ cap

theorem Own.keep {h h' : Heap} {M : List Nat} {e : TypeId} {sz : Nat} {a : Option Addr} {len cap : Nat} {l : List Value} (o : Own h e sz a len cap l) (k : Keeps M h h') (hm : ∀ b ∈ blkA a, b ∉ M) : Own h' e sz a len cap l := by
  rcases o with o | ⟨b, c, h1, h2, h3⟩
  · exact .inl o
  · exact .inr ⟨b, c, h1, k.obj h2 (hm b (by simp [h1, blkA])), h3⟩

theorem Own.nil (h : Heap) (e : TypeId) (sz : Nat) : Own h e sz none 0 0 [] := .inl ⟨rfl, rfl, rfl, rfl⟩

theorem Own.lt {h : Heap} {e : TypeId} {sz : Nat} {a : Option Addr} {len cap : Nat} {l : List Value} (o : Own h e sz a len cap l) : ∀ b ∈ blkA a, b < h.size := by
  intro b hb
  rcases o with ⟨rfl, _⟩ | ⟨b', c, rfl, h2, _⟩
  · cases hb
  · simp [blkA] at hb; subst hb; exact obj_lt h2

/-- cells that are those of these, one behind the other -/
def Reps {α : Type} [Rp α] (h : Heap) : List Value → List α → Prop
  | l, [] => l = []
  | l, x :: xs => ∃ cs r, l = cs ++ r ∧ rep h cs x ∧ Reps h r xs

theorem Reps.len {α : Type} [Rp α] {h : Heap} : ∀ {xs : List α} {l : List Value}, Reps h l xs → l.length = xs.length * Rp.n α
  | [], l, h1 => by simp only [Reps] at h1; subst h1; simp
  | y :: ys, l, h1 => by
    obtain ⟨c, r, rfl, h3, h4⟩ := h1
    rw [List.length_append, Rp.len h3, h4.len, List.length_cons, Nat.add_mul]; omega

theorem Reps.keep {α : Type} [Rp α] {h h' : Heap} (k : Keeps [] h h') : ∀ {xs : List α} {l : List Value}, Reps h l xs → Reps h' l xs
  | [], l, h1 => h1
  | y :: ys, l, h1 => by
    obtain ⟨c, r, rfl, h3, h4⟩ := h1
    exact ⟨c, r, rfl, Rp.keep k h3, h4.keep k⟩

theorem Reps.at_ {α : Type} [Rp α] {h : Heap} : ∀ {xs : List α} {l : List Value}, Reps h l xs → ∀ i (hi : i < xs.length), ∃ cs, rep h cs xs[i] ∧ ∀ j, j < cs.length → l[i * Rp.n α + j]? = cs[j]?
  | [], l, h1, i, hi => absurd hi (by simp)
  | y :: ys, l, h1, 0, hi => by
    obtain ⟨c, r, rfl, h3, h4⟩ := h1
    exact ⟨c, h3, fun j hj => by rw [Nat.zero_mul, Nat.zero_add, List.getElem?_append_left hj]⟩
  | y :: ys, l, h1, i + 1, hi => by
    obtain ⟨c, r, rfl, h3, h4⟩ := h1
    obtain ⟨cs, h5, h6⟩ := h4.at_ i (by simpa using hi)
    refine ⟨cs, h5, fun j hj => ?_⟩
    have := Rp.len h3
    rw [Nat.add_mul, Nat.one_mul, List.getElem?_append_right (by omega), ← h6 j hj]
    congr 1; omega

/-- such a slice holds these -/
theorem Own.sl {α : Type} [Rp α] {h : Heap} {e : TypeId} {sz : Nat} {a : Option Addr} {len cap : Nat} {l : List Value} {xs : List α} (o : Own h e sz a len cap l) (r : Reps h l xs) (hs : sz = Rp.n α) (hp : 0 < sz) (hb : xs.length ≤ 281474976710656) : Sl h a len cap xs := by
  subst hs
  have hr := r.len
  rcases o with ⟨rfl, rfl, rfl, rfl⟩ | ⟨b, c, rfl, h2, h3, h4, h5, h6⟩
  · have : xs = [] := by
      have h0 : xs.length * Rp.n α = 0 := by simpa using hr.symm
      rcases Nat.mul_eq_zero.1 h0 with h | h
      · exact List.eq_nil_of_length_eq_zero h
      · omega
    subst this; exact Sl.nil
  · have hl : len = xs.length := Nat.eq_of_mul_eq_mul_right hp (h5.symm.trans hr)
    refine ⟨hl, h6, hb, fun i hi => ?_⟩
    obtain ⟨cs, h7, h8⟩ := r.at_ i hi
    refine ⟨b, 0, rfl, cs, h7, fun j hj => ?_⟩
    rw [← h8 j hj, ← h3]
    have hcs := Rp.len h7
    have hlt : i * Rp.n α + j < l.length := by
      rw [hr]
      have := Nat.mul_le_mul_right (Rp.n α) (show i + 1 ≤ xs.length by omega)
      rw [Nat.add_mul] at this; omega
    have hlc : l.length ≤ c.length := by rw [h4, h5]; exact Nat.mul_le_mul_right _ h6
    simp only [Heap.cell?, h2, Nat.zero_add]
    rw [List.getElem?_take, if_pos hlt]
    simp

theorem growBy_le : ∀ (r need c : Nat), Builtin.growBy need r c ≤ max c (2 * need + 192)
  | 0, need, c => by simp [Builtin.growBy]; omega
  | r + 1, need, c => by
    simp only [Builtin.growBy]
    split
    · omega
    · have := growBy_le r need (c + (c + 768) / 4)
      omega

theorem nextcap_le (need old : Nat) (h : old < need) : Builtin.nextslicecap need old ≤ 2 * need + 192 := by
  unfold Builtin.nextslicecap
  split
  · omega
  · split
    · omega
    · have := growBy_le 4 need old; omega

theorem loadCells_run {P : Program} {w : World} {b off n : Nat} {vs : List Value} (hn : vs.length = n) (hc : ∀ k, k < n → Heap.cell? w.heap b (off + k) = vs[k]?) :
    (loadCells ⟨b, off, none⟩ n).run P w = .ok ⟨vs⟩ w := by
  unfold loadCells
  rw [load_cells n 0 off vs #[] hn (by simpa using hc)]
  simp

theorem zeroCells_eq (z : Array Value) (n : Nat) : ∃ l : List Value, Builtin.zeroCells z n = ⟨l⟩ ∧ l.length = n * z.size := by
  refine ⟨(Builtin.zeroCells z n).toList, rfl, by simp [Builtin.zeroCells]⟩

theorem cut_cap (need old : Nat) (e : TypeId) (t : Nat) (hb : need < 2 ^ 63) : ∃ c, (Question.appendCap need old e).cut t = c ∧ need ≤ c ∧ (Question.appendCap need old e).forced = false :=
  ⟨_, rfl, by simp only [Question.cut]; omega, rfl⟩

theorem splice_take : ∀ (off : Nat) (vs c : List Value), off + vs.length ≤ c.length → (spliceL off vs c).take (off + vs.length) = c.take off ++ vs
  | 0, [], c, _ => by simp [splice_nil]
  | 0, v :: vs, [], h => by simp at h
  | 0, v :: vs, x :: c, h => by
    have := splice_take 0 vs c (by simp at h ⊢; omega)
    simp only [spliceL]
    simp at this
    simp [this]
  | off + 1, vs, [], h => by simp at h
  | off + 1, vs, x :: c, h => by
    have := splice_take off vs c (by simp at h; omega)
    simp only [spliceL]
    rw [show off + 1 + vs.length = (off + vs.length) + 1 by omega, List.take_succ_cons, this, List.take_succ_cons]
    rfl

/-- APPEND, of elements that lie somewhere, onto a slice of the call's own. -/
theorem append_own {P : Program} {sT xT ty e : TypeId} {sz by_ : Nat} {z : Value} {i : TypeInfo} (hu : P.underlying sT = some (.slice e)) (hx : P.underlying xT = some (.slice e)) (hi : P.info? e = some i)
    (hsz : i.size = sz) (hby : i.bytes = by_) (hz : i.zero = some z) (hzc : (cellsOf z).length = sz)
    {h : Heap} {a : Option Addr} {len cap : Nat} {l : List Value} (o : Own h e sz a len cap l) {xb xo n xc : Nat} {new : List Value} (hn : new.length = n * sz) (hnew : ∀ j, j < new.length → Heap.cell? h xb (xo + j) = new[j]?)
    (hone : allOne new = true) (hbig : (2 * (len + n) + 192) * by_ ≤ 2 ^ 48) (hby0 : 0 < by_) {bs : List Nat} (hbs : ∀ b ∈ blkA a, b ∉ bs) {K : Value → Heap → Prop}
    (H : ∀ a' cap' h', Own h' e sz a' (len + n) cap' (l ++ new) → Keeps (blkA a) h h' → (∀ b ∈ blkA a', b ∈ blkA a ∨ h.size ≤ b) → K (.slice a' (len + n) cap') h') :
    SemR P (Builtin.append_ #[sT, xT] ty ⟨[.slice a len cap, .slice (some ⟨xb, xo, none⟩) n xc]⟩) bs h K := by
  unfold SemR
  intro hlt w hw
  subst hw
  have hsize : (sizeOf e).run P w = .ok sz w := by simp [sizeOf, typeInfo_run P e w hi, hsz]
  have hnewL : (loadCells ⟨xb, xo, none⟩ (n * sz)).run P w = .ok ⟨new⟩ w := loadCells_run hn (fun k hk => hnew k (by omega))
  have hneed : len + n < 2 ^ 48 := by
    have : 2 * (len + n) + 192 ≤ (2 * (len + n) + 192) * by_ := Nat.le_mul_of_pos_right _ hby0
    omega
  by_cases hfit : len + n ≤ cap
  · rcases o with ⟨rfl, rfl, rfl, rfl⟩ | ⟨b, c, rfl, h2, h3, h4, h5, h6⟩
    · have hn0 : n = 0 := by omega
      subst hn0
      have hnil : new = [] := by simpa using hn
      subst hnil
      refine ⟨_, w, ?_, SameOut.refl w, fun b _ => rfl, H none 0 w.heap (.inl ⟨rfl, rfl, rfl, rfl⟩) (Keeps.refl _ _) (by simp [blkA])⟩
      simp only [Nat.zero_mul] at hnewL
      simp [Builtin.append_, Sem.run_bind, underlying_run P sT w hu, underlying_run P xT w hx, hsize, Builtin.lenOf, Builtin.firstCells, hnewL]
    · have hroom : len * sz + new.length ≤ c.length := by
        rw [hn, h4, ← Nat.add_mul]; exact Nat.mul_le_mul_right _ hfit
      obtain ⟨w', r1, r2, r3, r4, r5⟩ := store_cells (P := P) new 0 (len * sz) c w (allOne_one' hone) (by simpa using hroom) h2
      refine ⟨_, w', ?_, r2, fun b' hb' => r5 b' (fun e => hbs b (by simp [blkA]) (e ▸ hb')), H (some ⟨b, 0, none⟩) cap w'.heap (.inr ⟨b, _, rfl, r4, ?_, ?_, ?_, hfit⟩) ⟨by omega, fun b' _ hb' => r5 b' (by simpa [blkA] using hb')⟩ (fun b' hb' => .inl hb')⟩
      · simp [Builtin.append_, underlying_run P sT w hu, hsize, underlying_run P xT w hx, Builtin.lenOf, hfit, Builtin.firstCells, hnewL, addr_add]
        rw [r1]
        rfl
      · have := splice_take (len * sz) new c (by omega)
        simp only [Nat.add_zero]
        rw [List.length_append, h5, this, ← h5, h3]
      · simp only [Nat.add_zero, spliceL_length]; exact h4
      · simp [h5, hn, Nat.add_mul]
  · have hold : (Builtin.firstCells sz len (.slice a len cap)).run P w = .ok ⟨l⟩ w := by
      rcases o with ⟨rfl, rfl, rfl, rfl⟩ | ⟨b, c, rfl, h2, h3, h4, h5, h6⟩
      · simp [Builtin.firstCells]
      · simp only [Builtin.firstCells]
        refine loadCells_run h5 (fun k hk => ?_)
        have : l.length ≤ c.length := by rw [h4, h5]; exact Nat.mul_le_mul_right _ h6
        have hk' : k < l.length := by omega
        simp only [Heap.cell?, h2, Nat.zero_add]
        rw [← h3]
        simp [hk', show k < c.length by omega]
    have hcap : cap < len + n := by omega
    have hncap := nextcap_le (len + n) cap hcap
    obtain ⟨nc, hnc, hle, hforced⟩ := cut_cap (len + n) cap e (w.tape w.drawn (.appendCap (len + n) cap e)) (by omega)
    obtain ⟨zl, hzl, hzlen⟩ := zeroCells_eq z.cells (nc - (len + n))
    have hz' : z.cells.size = sz := by rw [cellsOf_eq]; simpa using hzc
    let w1 : World := w.drew
    let w2 : World := { w1 with heap := w.heap.push (.cells ⟨l ++ new ++ zl⟩ e) }
    have hl : l.length = len * sz := by
      rcases o with ⟨rfl, rfl, rfl, rfl⟩ | ⟨b, c, rfl, h2, h3, h4, h5, h6⟩
      · simp
      · exact h5
    refine ⟨.slice (some ⟨w.heap.size, 0, none⟩) (len + n) nc, w2, ?_, ⟨rfl, rfl, rfl⟩, fun b hb => ?_, H _ nc w2.heap (.inr ⟨w.heap.size, l ++ new ++ zl, rfl, ?_, ?_, ?_, ?_, hle⟩) ?_ ?_⟩
    · have hold1 : (Builtin.firstCells sz len (.slice a len cap)).run P w1 = .ok ⟨l⟩ w1 := by
        rcases o with ⟨rfl, rfl, rfl, rfl⟩ | ⟨b, c, rfl, h2, h3, h4, h5, h6⟩
        · simp [Builtin.firstCells]
        · simp only [Builtin.firstCells]
          refine loadCells_run h5 (fun k hk => ?_)
          have : l.length ≤ c.length := by rw [h4, h5]; exact Nat.mul_le_mul_right _ h6
          have hk' : k < l.length := by omega
          show Heap.cell? w.heap _ _ = _
          simp only [Heap.cell?, h2, Nat.zero_add]
          rw [← h3]
          simp [hk', show k < c.length by omega]
      have hnew1 : (loadCells ⟨xb, xo, none⟩ (n * sz)).run P w1 = .ok ⟨new⟩ w1 := loadCells_run (w := w1) hn (fun k hk => hnew k (by omega))
      have hzv : (zeroValue e).run P w1 = .ok z w1 := by simp [zeroValue, typeInfo_run P e w1 hi, hz]
      have hch : (choose (.appendCap (len + n) cap e)).run P w = .ok nc w1 := by rw [run_choose, hforced]; simp [hnc, w1]
      have hb1 : ¬ (Builtin.nextslicecap (len + n) cap * by_ > 2 ^ 48) := by
        have := Nat.mul_le_mul_right by_ hncap
        omega
      have hti : (typeInfo e).run P w = .ok i w := typeInfo_run P e w hi
      have hti1 : (typeInfo e).run P w1 = .ok i w1 := typeInfo_run P e w1 hi
      have hbz : ¬ (by_ = 0) := by omega
      have hold2 : (Builtin.firstCells sz len (.slice a len cap)).run P w.drew = .ok ⟨l⟩ w.drew := hold1
      have hnew2 : (Builtin.firstCells sz n (.slice (some ⟨xb, xo, none⟩) n xc)).run P w.drew = .ok ⟨new⟩ w.drew := hnew1
      have hzv2 : (zeroValue e).run P w.drew = .ok z w.drew := hzv
      have hti2 : (typeInfo e).run P w.drew = .ok i w.drew := hti1
      have hb2 : ¬ (281474976710656 < Builtin.nextslicecap (len + n) cap * by_) := hb1
      simp [Builtin.append_, underlying_run P sT w hu, hsize, underlying_run P xT w hx, Builtin.lenOf, hfit, hti, hbz, hb2, hby, hforced, hnc, hti2, hold2, hnew2, hzv2, hzl, newRow, w2]
      rfl
    · show (w.heap.push _)[b]? = _
      rw [push_get, if_neg (by have := hlt b hb; omega)]
    · show (w.heap.push _)[w.heap.size]? = _
      rw [push_get, if_pos rfl]
    · rw [List.take_append_of_le_length (by simp)]; exact List.take_of_length_le (by simp)
    · rw [List.length_append, List.length_append, hzlen, hz', hl, hn, ← Nat.add_mul, ← Nat.add_mul]
      congr 1; omega
    · rw [List.length_append, hl, hn, Nat.add_mul]
    · exact (keeps_push w.heap _).mono (by simp)
    · intro b hb; simp [blkA] at hb; right; omega


/-! ### Maps with whole numbers as keys: their entries in the order in which they came in -/

def MapL (h : Heap) (r : Nat) (m : List (Int × Value)) : Prop :=
  ∃ es cl, h[r]? = some (.map es cl) ∧ es.toList.map (fun e => (e.key, e.val)) = m.map (fun p => (Value.int .i64 p.1, p.2)) ∧ (m.map (·.1)).Nodup ∧
    (es.toList.map (·.born)).Nodup ∧ ∀ e ∈ es.toList, e.born < cl

theorem MapL.keep {M : List Nat} {h h' : Heap} {r : Nat} {m : List (Int × Value)} (o : MapL h r m) (k : Keeps M h h') (hm : r ∉ M) : MapL h' r m := by
  obtain ⟨es, cl, h1, h2⟩ := o
  exact ⟨es, cl, k.obj h1 hm, h2⟩

theorem MapL.new {h : Heap} {r : Nat} (hr : h[r]? = some (.map #[] 0)) : MapL h r [] := ⟨#[], 0, hr, by simp, by simp, by simp, by simp⟩
theorem MapL.lt {h : Heap} {r : Nat} {m : List (Int × Value)} (o : MapL h r m) : r < h.size := by
  obtain ⟨es, cl, h1, _⟩ := o; exact obj_lt h1

/-- what a list of entries has for a key -/
def lookI : List (Int × Value) → Int → Option Value
  | [], _ => none
  | (k, v) :: r, n => if n = k then some v else lookI r n

def putI : List (Int × Value) → Int → Value → List (Int × Value)
  | [], n, v => [(n, v)]
  | (k, u) :: r, n, v => if n = k then (k, v) :: r else (k, u) :: putI r n v

theorem putI_keys : ∀ (m : List (Int × Value)) (n : Int) (v : Value), (putI m n v).map (·.1) = if n ∈ m.map (·.1) then m.map (·.1) else m.map (·.1) ++ [n]
  | [], n, v => by simp [putI]
  | (k, u) :: r, n, v => by
    by_cases h : n = k
    · subst h; simp [putI]
    · simp only [putI, if_neg h, List.map_cons, putI_keys r n v]
      by_cases h2 : n ∈ r.map (·.1)
      · rw [if_pos h2, if_pos (by simp [h2])]
      · rw [if_neg h2, if_neg (by simp only [List.mem_cons, not_or]; exact ⟨h, h2⟩)]; simp

theorem findNow_look : ∀ (es : List MapEntry) (m : List (Int × Value)) (n : Int) (i : Nat), es.map (fun e => (e.key, e.val)) = m.map (fun p => (Value.int .i64 p.1, p.2)) →
    (∃ r, Instr.findNow (.int .i64) (.int .i64 n) es i = some r ∧ r.map (·.2) = lookI m n ∧ ∀ p, r = some p → ∃ j, p.1 = i + j ∧ j < es.length ∧ (m[j]?).map (·.1) = some n)
  | [], [], n, i, _ => ⟨none, rfl, rfl, fun p h => by cases h⟩
  | [], _ :: _, n, i, h => by simp at h
  | _ :: _, [], n, i, h => by simp at h
  | e :: es, (k, v) :: m, n, i, h => by
    simp only [List.map_cons, List.cons.injEq, Prod.mk.injEq] at h
    obtain ⟨⟨h1, h2⟩, h3⟩ := h
    simp only [Instr.findNow, h1, Instr.sameNow, if_true]
    by_cases hk : n = k
    · subst hk
      simp only [beq_self_eq_true]
      exact ⟨_, rfl, by simp [lookI, h2], fun p hp => by cases hp; exact ⟨0, rfl, by simp, by simp⟩⟩
    · have : (n == k) = false := by simp [hk]
      simp only [this]
      obtain ⟨r, h4, h5, h6⟩ := findNow_look es m n (i + 1) h3
      refine ⟨r, h4, by simp [lookI, hk, h5], fun p hp => ?_⟩
      obtain ⟨j, h7, h8, h9⟩ := h6 p hp
      exact ⟨j + 1, by omega, by simp; omega, by simpa using h9⟩

theorem LookR.int {c : Option Bool} {h : Heap} {r : Nat} {n : Int} {K : Option Value → Prop} {m : List (Int × Value)} (o : MapL h r m) (hK : K (lookI m n)) : LookR c h (.int .i64) r (.int .i64 n) K := by
  obtain ⟨es, cl, h1, h2, _⟩ := o
  obtain ⟨q, h3, h4, _⟩ := findNow_look es.toList m n 0 h2
  exact LookR.i ⟨es, cl, h1, by rw [h3]; simp [h4]⟩ hK

theorem LookR.is {c : Option Bool} {h : Heap} {r : Nat} {n : Int} {K : Option Value → Prop} {m : List (Int × Value)} {o : Option Value} (hm : MapL h r m) (ho : lookI m n = o) (hK : K o) : LookR c h (.int .i64) r (.int .i64 n) K := by
  subst ho; exact LookR.int hm hK

/-- where it's all the same whether nothing or a nought is there -/
theorem LookR.z {c : Option Bool} {h : Heap} {r : Nat} {n : Int} {K : Option Value → Prop} {m : List (Int × Value)} (z : Value) {v : Value} (hm : MapL h r m) (hz : K none = K (some z)) (hv : (lookI m n).getD z = v) (hK : K (some v)) : LookR c h (.int .i64) r (.int .i64 n) K := by
  refine LookR.int hm ?_
  subst hv
  cases hl : lookI m n with
  | none => rw [hz]; simpa [hl] using hK
  | some v => simpa [hl] using hK

theorem LenR.int {c : Option Bool} {h : Heap} {r : Nat} {K : Nat → Prop} {m : List (Int × Value)} (o : MapL h r m) (hK : K m.length) : LenR c h r K := by
  obtain ⟨es, cl, h1, h2, _⟩ := o
  refine LenR.i ⟨es, cl, h1, ?_⟩ hK
  have := congrArg List.length h2
  simpa using this

theorem put_modify : ∀ (es : List MapEntry) (m : List (Int × Value)) (n : Int) (v : Value) (j : Nat), es.map (fun e => (e.key, e.val)) = m.map (fun p => (Value.int .i64 p.1, p.2)) → (m.map (·.1)).Nodup →
    (m[j]?).map (·.1) = some n → (es.modify j fun e => { e with key := .int .i64 n, val := v }).map (fun e => (e.key, e.val)) = (putI m n v).map (fun p => (Value.int .i64 p.1, p.2))
  | [], [], n, v, j, _, _, h => by simp at h
  | [], _ :: _, n, v, j, h, _, _ => by simp at h
  | _ :: _, [], n, v, j, h, _, _ => by simp at h
  | e :: es, (k, u) :: m, n, v, 0, h, hd, hj => by
    simp only [List.map_cons, List.cons.injEq, Prod.mk.injEq] at h
    simp at hj; subst hj
    simp [putI, h.2]
  | e :: es, (k, u) :: m, n, v, j + 1, h, hd, hj => by
    simp only [List.map_cons, List.cons.injEq, Prod.mk.injEq] at h
    simp only [List.map_cons, List.nodup_cons] at hd
    have hne : n ≠ k := by
      rintro rfl
      refine hd.1 ?_
      simp only [List.getElem?_cons_succ, Option.map_eq_some_iff] at hj
      obtain ⟨p, hp, rfl⟩ := hj
      exact List.mem_map.2 ⟨p, List.mem_of_getElem? hp, rfl⟩
    have := put_modify es m n v j h.2 hd.2 (by simpa using hj)
    simp [putI, hne, h.1, this]

theorem put_push : ∀ (m : List (Int × Value)) (n : Int) (v : Value), lookI m n = none → putI m n v = m ++ [(n, v)]
  | [], n, v, _ => rfl
  | (k, u) :: m, n, v, h => by
    simp only [lookI] at h
    split at h
    · cases h
    · rename_i hne
      simp [putI, hne, put_push m n v h]

theorem getObj_run {P : Program} {w : World} {r : Nat} {es : Array MapEntry} {cl : Nat} (h : w.heap[r]? = some (.map es cl)) : (getObj r).run P w = .ok (.map es cl) w := by simp [getObj, Sem.run, h]
theorem setObj_run {P : Program} {w : World} {r : Nat} {es : Array MapEntry} {cl : Nat} (h : w.heap[r]? = some (.map es cl)) (o : Obj) : (setObj r o).run P w = .ok () { w with heap := w.heap.setIfInBounds r o } := by simp [setObj, Sem.run, h]

theorem set_get (h : Heap) (r : Nat) (o : Obj) (b : Nat) (hr : r < h.size) : (h.setIfInBounds r o)[b]? = if b = r then some o else h[b]? := by
  by_cases e : b = r
  · subst e; simp [hr]
  · simp [e, Array.getElem?_setIfInBounds_ne (Ne.symm e)]
theorem keeps_set (h : Heap) (r : Nat) (o : Obj) (hr : r < h.size) : Keeps [r] h (h.setIfInBounds r o) := ⟨by simp, fun b _ hn => by rw [set_get h r o b hr, if_neg (by simpa using hn)]⟩

/-- STORE INTO A MAP -/
theorem SemR.put {P : Program} {T kT eT : TypeId} (hu : P.underlying T = some (.map kT eT)) (hk : P.underlying kT = some (.int .i64)) {h : Heap} {r : Nat} {m : List (Int × Value)} (o : MapL h r m) {n : Int} {v : Value} {bs : List Nat} (hb : r ∉ bs)
    {K : Unit → Heap → Prop} (H : ∀ h', h'.size = h.size → MapL h' r (putI m n v) → Keeps [r] h h' → K () h') : SemR P (Instr.mapUpdate T (.map (some r)) (.int .i64 n) v) bs h K := by
  unfold SemR
  intro hlt w hw
  subst hw
  have hr := o.lt
  obtain ⟨es, cl, h1, h2, h3, h4, h5⟩ := o
  obtain ⟨q, h6, h7, h8⟩ := findNow_look es.toList m n 0 h2
  have fin : ∀ (ob : Obj), (∀ h' : Heap, h'[r]? = some ob → MapL h' r (putI m n v)) → (Instr.mapUpdate T (.map (some r)) (.int .i64 n) v).run P w = .ok () { w with heap := w.heap.setIfInBounds r ob } →
      ∃ v' w', (Instr.mapUpdate T (.map (some r)) (.int .i64 n) v).run P w = .ok v' w' ∧ SameOut w w' ∧ (∀ b ∈ bs, w'.heap[b]? = w.heap[b]?) ∧ K v' w'.heap := fun ob hm hrun => by
    refine ⟨(), _, hrun, ⟨rfl, rfl, rfl⟩, fun b hb' => ?_, H _ (by simp) (hm _ (by rw [set_get _ _ _ _ hr, if_pos rfl])) (keeps_set _ _ _ hr)⟩
    show (w.heap.setIfInBounds r ob)[b]? = _
    rw [set_get _ _ _ _ hr, if_neg (by intro e; subst e; exact hb hb')]
  cases q with
  | none =>
    have hl : lookI m n = none := by simpa using h7.symm
    refine fin (.map (es.push { key := .int .i64 n, val := v, born := cl }) (cl + 1)) (fun h' hh => ⟨_, _, hh, ?_, ?_, ?_, ?_⟩) ?_
    · simp only [Array.toList_push, List.map_append, List.map_cons, List.map_nil, h2, put_push m n v hl]
    · rw [put_push m n v hl]
      simp only [List.map_append, List.map_cons, List.map_nil]
      refine List.nodup_append.2 ⟨h3, by simp, ?_⟩
      intro a ha b hb hab
      simp at hb; subst hb; subst hab
      clear h7 h8 h6 fin
      induction m generalizing es with
      | nil => cases ha
      | cons p m ih =>
        obtain ⟨k, u⟩ := p
        simp only [lookI] at hl
        split at hl
        · cases hl
        · rename_i hne
          simp only [List.map_cons, List.mem_cons] at ha
          rcases ha with ha | ha
          · exact hne ha
          · have hm2 : m.map (·.1) = m.map (·.1) := rfl
            exact absurd ha (by
              clear ih
              intro ha
              have : ∀ (m : List (Int × Value)) (a : Int), lookI m a = none → a ∉ m.map (·.1) := by
                intro m
                induction m with
                | nil => intro a _ h; cases h
                | cons p m ih =>
                  intro a hl h
                  obtain ⟨k, u⟩ := p
                  simp only [lookI] at hl
                  split at hl
                  · cases hl
                  · rename_i hne
                    simp only [List.map_cons, List.mem_cons] at h
                    rcases h with h | h
                    · exact hne h
                    · exact ih a hl h
              exact this m a hl ha)
    · simp only [Array.toList_push, List.map_append, List.map_cons, List.map_nil]
      refine List.nodup_append.2 ⟨h4, by simp, ?_⟩
      intro a ha b hb hab
      simp at hb; subst hb; subst hab
      obtain ⟨e, he, hee⟩ := List.mem_map.1 ha
      have := h5 e he
      omega
    · intro e he
      simp only [Array.toList_push, List.mem_append, List.mem_singleton] at he
      rcases he with he | rfl
      · have := h5 e he; omega
      · simp
    · simp only [Instr.mapUpdate, Sem.run_bind, underlying_run P T w hu, Result.andThen_ok, getObj_run h1]
      rw [checkKey_plain hk (.inl ⟨_, rfl⟩)]
      simp only [Result.andThen_ok, findKey_now hk h6 w, setObj_run h1]
  | some p =>
    obtain ⟨j, hj1, hj2, hj3⟩ := h8 p rfl
    have hj : p.1 = j := by omega
    have hjl : j < es.size := by simpa using hj2
    have hkey : (es[j]'hjl).key = .int .i64 n := by
      have := congrArg (fun l => l[j]?) h2
      simp only [List.getElem?_map] at this
      cases hm : m[j]? with
      | none => rw [hm] at hj3; simp at hj3
      | some q =>
        rw [hm] at this hj3
        simp at hj3
        simp [hjl] at this
        rw [this.1, hj3]
    refine fin (.map (es.modify j fun e => { e with key := .int .i64 n, val := v }) cl) (fun h' hh => ⟨_, _, hh, ?_, ?_, ?_, ?_⟩) ?_
    · rw [Array.toList_modify]; exact put_modify es.toList m n v j h2 h3 hj3
    · rw [putI_keys]
      have : n ∈ m.map (·.1) := by
        simp only [Option.map_eq_some_iff] at hj3
        obtain ⟨q, hq, rfl⟩ := hj3
        exact List.mem_map.2 ⟨q, List.mem_of_getElem? hq, rfl⟩
      rw [if_pos this]; exact h3
    · have : (es.modify j fun e => { e with key := .int .i64 n, val := v }).toList.map (·.born) = es.toList.map (·.born) := by
        rw [Array.toList_modify]
        apply List.ext_getElem?
        intro i
        simp only [List.getElem?_map, List.getElem?_modify]
        cases es.toList[i]? with
        | none => simp
        | some e => by_cases hij : j = i <;> simp [hij]
      rw [this]; exact h4
    · intro e he
      rw [Array.toList_modify] at he
      obtain ⟨i, hi⟩ := List.getElem?_of_mem he
      rw [List.getElem?_modify] at hi
      cases hee : es.toList[i]? with
      | none => rw [hee] at hi; simp at hi
      | some e0 =>
        rw [hee] at hi
        simp at hi
        have := h5 e0 (List.mem_of_getElem? hee)
        rw [← hi]
        split <;> simpa using this
    · simp only [Instr.mapUpdate, Sem.run_bind, underlying_run P T w hu, Result.andThen_ok, getObj_run h1]
      rw [checkKey_plain hk (.inl ⟨_, rfl⟩)]
      simp only [Result.andThen_ok, findKey_now hk h6 w]
      rw [hj]
      have hold : ((es[j]?).map (·.key)).getD (Value.int .i64 n) = .int .i64 n := by simp [hjl, hkey]
      simp only [hold, Instr.keyThatStays, Instr.sameBits, beq_self_eq_true, Bool.and_self, if_true, Sem.run_bind, Sem.run_pure, Result.andThen_ok, setObj_run h1]

end Go.Eng
/-
  The engine: maps that are ranged over.
-/
set_option linter.all false
namespace Go.Eng
open Go

/-- an iterator, what it hasn't given yet, and what it gave last -/
def IterL (h : Heap) (it r : Nat) (R : List (Int × Value)) (last : Option (Int × Value)) : Prop :=
  ∃ es cl since seen c0, h[r]? = some (.map es cl) ∧ h[it]? = some (.mapIter (some r) since seen c0) ∧ (since ≤ c0 ∧ since ≤ cl) ∧ (∀ e ∈ es.toList, e.born < since) ∧ (es.toList.map (·.born)).Nodup ∧
    (leftOf es seen).toList.map (fun e => (e.key, e.val)) = R.map (fun p => (Value.int .i64 p.1, p.2)) ∧
    ∀ p, last = some p → ∃ (e : MapEntry) (seen' : Array Nat), seen = seen'.push e.born ∧ e ∈ es.toList ∧ e.key = .int .i64 p.1 ∧ e.val = p.2 ∧ c0 = cl

theorem IterL.keep {M : List Nat} {h h' : Heap} {it r : Nat} {R : List (Int × Value)} {last : Option (Int × Value)} (o : IterL h it r R last) (k : Keeps M h h') (h1 : it ∉ M) (h2 : r ∉ M) : IterL h' it r R last := by
  obtain ⟨es, cl, since, seen, c0, a, b, c⟩ := o
  exact ⟨es, cl, since, seen, c0, k.obj a h2, k.obj b h1, c⟩

theorem IterL.lt {h : Heap} {it r : Nat} {R : List (Int × Value)} {last : Option (Int × Value)} (o : IterL h it r R last) : it < h.size ∧ r < h.size := by
  obtain ⟨es, cl, since, seen, c0, a, b, c⟩ := o
  exact ⟨obj_lt b, obj_lt a⟩

theorem SemR.range {P : Program} {T kT eT : TypeId} (hu : P.underlying T = some (.map kT eT)) {h : Heap} {r : Nat} {m : List (Int × Value)} (o : MapL h r m) {bs : List Nat} {K : Value → Heap → Prop}
    (H : ∀ it h', it = h.size → h'.size = h.size + 1 → Keeps [] h h' → IterL h' it r m none → K (.pointer (some ⟨it, 0, none⟩)) h') : SemR P (Instr.range T (.map (some r))) bs h K := by
  unfold SemR
  intro hlt w hw
  subst hw
  have hr := o.lt
  obtain ⟨es, cl, h1, h2, h3, h4, h5⟩ := o
  refine ⟨.pointer (some ⟨w.heap.size, 0, none⟩), { w with heap := w.heap.push (.mapIter (some r) cl #[] cl) }, ?_, ⟨rfl, rfl, rfl⟩, fun b hb => ?_, H _ _ rfl (by simp) (keeps_push _ _) ⟨es, cl, cl, #[], cl, ?_, ?_, ⟨Nat.le_refl _, Nat.le_refl _⟩, h5, h4, ?_, fun p hp => by cases hp⟩⟩
  · simp only [Instr.range, Sem.run_bind, underlying_run P T w hu, Result.andThen_ok, getObj_run h1, Sem.run_pure]
    rfl
  · show (w.heap.push _)[b]? = _
    rw [push_get, if_neg (by have := hlt b hb; omega)]
  · show (w.heap.push _)[r]? = _
    rw [push_get, if_neg (by omega)]; exact h1
  · show (w.heap.push _)[w.heap.size]? = _
    rw [push_get, if_pos rfl]
  · rw [← h2]
    unfold leftOf
    rw [Array.toList_filter, List.filter_eq_self.2 (fun x _ => by simp)]

theorem SemR.next {P : Program} {ty : TypeId} {h : Heap} {it r : Nat} {R : List (Int × Value)} {last : Option (Int × Value)} (o : IterL h it r R last) {bs : List Nat} (hb : it ∉ bs) (hne : it ≠ r) {K : Value → Heap → Prop}
    (H0 : R = [] → K (.tuple #[.bool false]) h)
    (H1 : ∀ R1 p R2 h', R = R1 ++ p :: R2 → h'.size = h.size → Keeps [it] h h' → IterL h' it r (R1 ++ R2) (some p) → K (.tuple #[.bool true, .int .i64 p.1, p.2]) h') :
    SemR P (Instr.next (.pointer (some ⟨it, 0, none⟩)) false ty) bs h K := by
  unfold SemR
  intro hlt w hw
  subst hw
  have hit := o.lt.1
  obtain ⟨es, cl, since, seen, c0, a, b, c, d, e, f, g⟩ := o
  rcases run_next_at (P := P) w ty it r since c0 seen es cl b a d c.1 with ⟨h1, h2⟩ | ⟨x, hx, w1, hw1, h2⟩
  · refine ⟨_, w, h2, SameOut.refl w, fun _ _ => rfl, H0 ?_⟩
    have : (leftOf es seen).toList = [] := by
      have : (leftOf es seen).toList.length = 0 := by simpa using h1
      exact List.eq_nil_of_length_eq_zero this
    rw [this] at f
    simpa using f.symm
  · obtain ⟨L1, L2, hL⟩ := List.append_of_mem hx
    rw [hL] at f
    simp only [List.map_append, List.map_cons] at f
    obtain ⟨R1, R', hR, f1, f2⟩ := List.map_eq_append_iff.1 f.symm
    obtain ⟨p, R2, hR', f3, f4⟩ := List.map_eq_cons_iff.1 f2
    subst hR'
    simp only [Prod.mk.injEq] at f3
    have hw1' : w1.heap = w.heap := by rcases hw1 with rfl | rfl <;> rfl
    have hso : SameOut w (Go.ChangeMaps.setBlock w1 it (.mapIter (some r) since (seen.push x.born) cl)) := by rcases hw1 with rfl | rfl <;> exact ⟨rfl, rfl, rfl⟩
    have hheap : (Go.ChangeMaps.setBlock w1 it (.mapIter (some r) since (seen.push x.born) cl)).heap = w.heap.setIfInBounds it (.mapIter (some r) since (seen.push x.born) cl) := by
      show w1.heap.setIfInBounds _ _ = _
      rw [hw1']
    have hxe : x ∈ es.toList := by
      unfold leftOf at hx
      simp at hx ⊢
      exact hx.1
    refine ⟨_, _, h2, hso, fun b' hb' => ?_, ?_⟩
    · rw [hheap, set_get _ _ _ _ hit, if_neg (by intro e; subst e; exact hb hb')]
    · rw [← f3.1, ← f3.2]
      refine H1 R1 p R2 _ hR ?_ ?_ ?_
      · rw [hheap]; simp
      · rw [hheap]; exact keeps_set _ _ _ hit
      · rw [hheap]
        refine ⟨es, cl, since, seen.push x.born, cl, ?_, ?_, ⟨c.2, c.2⟩, d, e, ?_, ?_⟩
        · rw [set_get _ _ _ _ hit, if_neg (Ne.symm hne)]; exact a
        · rw [set_get _ _ _ _ hit, if_pos rfl]
        · have e1 : (leftOf es (seen.push x.born)).toList = (leftOf es seen).toList.filter fun y => y.born != x.born := by
            unfold leftOf
            simp only [Array.toList_filter, List.filter_filter, Array.contains_push]
            congr 1
            funext y
            rw [Bool.not_or, Bool.and_comm]
            rfl
          have hnd : ((leftOf es seen).toList.map (·.born)).Nodup := by
            unfold leftOf
            rw [Array.toList_filter]
            exact (List.Sublist.map _ (List.filter_sublist)).nodup e
          rw [e1, hL]
          rw [hL] at hnd
          simp only [List.map_append, List.map_cons, List.nodup_append, List.nodup_cons] at hnd
          have k1 : L1.filter (fun y => y.born != x.born) = L1 := List.filter_eq_self.2 fun y hy => by
            have := hnd.2.2 y.born (List.mem_map.2 ⟨y, hy, rfl⟩) x.born (by simp)
            simpa using this
          have k2 : L2.filter (fun y => y.born != x.born) = L2 := List.filter_eq_self.2 fun y hy => by
            have := hnd.2.1.1
            simp only [bne_iff_ne, ne_eq]
            intro e
            exact this (List.mem_map.2 ⟨y, hy, e⟩)
          rw [List.filter_append, List.filter_cons, k1, k2]
          simp only [bne_self_eq_false, Bool.false_eq_true, if_false, List.map_append, f1, f4]
        · intro p' hp'
          cases hp'
          exact ⟨x, seen, rfl, hxe, f3.1.symm, f3.2.symm, rfl⟩

theorem SemR.entry {P : Program} {h : Heap} {it r : Nat} {R : List (Int × Value)} {p : Int × Value} (o : IterL h it r R (some p)) {bs : List Nat} {K : Value → Heap → Prop}
    (H : K (.tuple #[.int .i64 p.1, p.2]) h) : SemR P (Instr.entry (.pointer (some ⟨it, 0, none⟩))) bs h K := by
  unfold SemR
  intro hlt w hw
  subst hw
  obtain ⟨es, cl, since, seen, c0, a, b, c, d, e, f, g⟩ := o
  obtain ⟨x, seen', rfl, hx, h1, h2, rfl⟩ := g p rfl
  have := run_entry_at (P := P) w it r since seen' es c0 x b a hx e
  rw [h1, h2] at this
  exact ⟨_, w, this, SameOut.refl w, fun _ _ => rfl, H⟩

theorem CellsAt.keepM {M : List Nat} {h h' : Heap} (k : Keeps M h h') {b off : Nat} {cs : List Value} (hb : b ∉ M) (hc : CellsAt h b off cs) : CellsAt h' b off cs := fun j hj => by
  have h1 := hc j hj
  have h2 : cs[j]? = some cs[j] := by simp [hj]
  rw [h2] at h1 ⊢
  exact k.cell h1 hb

/-! ### Data without addresses -/

class Flat (α : Type) [Rp α] : Prop where
  flat : ∀ {h h' : Heap} {vs : List Value} {x : α}, rep h vs x → rep h' vs x

instance : Flat Int := ⟨fun h => h⟩
instance : Flat Bool := ⟨fun h => h⟩
instance : Flat ByteArray := ⟨fun h => h⟩

theorem Reps.flat {α : Type} [Rp α] [Flat α] {h h' : Heap} : ∀ {xs : List α} {l : List Value}, Reps h l xs → Reps h' l xs
  | [], l, h1 => h1
  | y :: ys, l, h1 => by
    obtain ⟨c, r, rfl, h3, h4⟩ := h1
    exact ⟨c, r, rfl, Flat.flat h3, h4.flat⟩

end Go.Eng
/-
  The engine: arguments of a law.
-/
set_option linter.all false
namespace Go.Eng
open Go Go.RowKit Go.Deep

section
variable {H : Type} {enc : TypeId × Value → H} {P : Program} {W : World} {sp : Nat → Bool} {held : Bool}

/-- an argument, opened -/
theorem arg_opens {t : TypeId} {α : Type} [Rp α] (ho : Opens enc P W sp held t α) {v : Value} {d : DataW H} {p : List MemPlace} (h : DataW.Trod enc P W 0 sp held t v d p) (hw : ∀ m ∈ d.weights P t, m ≤ reachBytes) :
    ∃ y : α, rep W.heap v.cells.toList y := by
  obtain ⟨fuel, hf⟩ := h
  exact ho fuel _ _ hf hw

theorem weights_each {ts : List TypeId} {ds : List (DataW H)} (h : (DataW.weightsEach P ts ds).all (· ≤ reachBytes) = true) : ∀ (j : Nat) t d, ts[j]? = some t → ds[j]? = some d → ∀ m ∈ d.weights P t, m ≤ reachBytes := by
  have key : ∀ (ts : List TypeId) (ds : List (DataW H)), (∀ m ∈ DataW.weightsEach P ts ds, m ≤ reachBytes) → ∀ (j : Nat) t d, ts[j]? = some t → ds[j]? = some d → ∀ m ∈ d.weights P t, m ≤ reachBytes := by
    intro ts
    induction ts with
    | nil => intro ds _ j t d h; simp at h
    | cons t ts ih =>
      intro ds hw j t' d' h1 h2 m hm
      cases ds with
      | nil => simp at h2
      | cons d ds =>
        simp only [DataW.weightsEach, List.mem_append] at hw
        cases j with
        | zero =>
          simp at h1 h2; subst h1 h2
          exact hw m (.inl hm)
        | succ j => exact ih ds (fun m hm => hw m (.inr hm)) j t' d' (by simpa using h1) (by simpa using h2) m hm
  exact key ts ds (fun m hm => by simpa using (List.all_eq_true.1 h) m hm)

end
end Go.Eng
/-
  The engine, for its user, further: loads out of a block that is known whole.
-/
set_option linter.all false
namespace Go.Eng
open Go

theorem LoadR.o {c : Option Bool} {h : Heap} {b off : Nat} {K : Value → Prop} {L : List Value} {T : TypeId} {fz : Nat × Nat} {v : Value} (o : h[b]? = some (.cells ⟨L⟩ T fz)) (hv : nth L off = some v) (hK : K v) : LoadR c h b off K :=
  LoadR.i (by simp only [Heap.cell?, o]; rw [nth_eq] at hv; simpa using hv) hK
theorem LoadN.o {c : Option Bool} {h : Heap} {b off n : Nat} {K : List Value → Prop} {L vs : List Value} {T : TypeId} {fz : Nat × Nat} (o : h[b]? = some (.cells ⟨L⟩ T fz)) (hv : takeL n (dropL off L) = some vs) (hK : K vs) : LoadN c h b off n K := by
  obtain ⟨h1, h2⟩ := takeL_eq _ _ _ hv
  rw [dropL_eq] at h1
  exact LoadN.i h2 (fun j hj => by simp only [Heap.cell?, o]; rw [h1]; simp [hj]) hK

theorem Keeps.nil_of {M : List Nat} {a b c : Heap} (h : Keeps [] a b) (h' : Keeps M b c) (hm : ∀ x ∈ M, a.size ≤ x) : Keeps [] a c :=
  h.trans_new h' fun x hx => .inr (hm x hx)
/-- a block that is new is written -/
theorem Keeps.new1 {a b c : Heap} {x : Nat} (h : Keeps [] a b) (h' : Keeps [x] b c) (hx : a.size ≤ x) : Keeps [] a c :=
  h.nil_of h' (by intro y hy; simp at hy; subst hy; exact hx)
theorem Keeps.m1 {M : List Nat} {a b c : Heap} {x : Nat} (h : Keeps M a b) (h' : Keeps [x] b c) (hx : a.size ≤ x) : Keeps M a c :=
  h.trans_new h' (by intro y hy; simp at hy; subst hy; exact .inr hx)

/-! ### Words -/

def wv (w : UInt64) : Value := .int .u64 (w.toNat : Int)

instance : Rp UInt64 where
  n := 1
  rep _ vs x := vs = [wv x]
  len h := by rw [h]; rfl
  keep _ h := h
instance : Flat UInt64 := ⟨fun h => h⟩

theorem wv_inj {a b : UInt64} : wv a = wv b ↔ a = b := by
  constructor
  · intro h
    have h2 : (a.toNat : Int) = (b.toNat : Int) := by simpa [wv] using h
    exact UInt64.toNat_inj.1 (by omega)
  · rintro rfl; rfl

/-- a slice of elements that lead nowhere, beside what is changed -/
theorem Sl.keepM {α : Type} [Rp α] [Flat α] {M : List Nat} {h h' : Heap} {a : Option Addr} {len cap : Nat} {xs : List α} (s : Sl h a len cap xs) (k : Keeps M h h') (hm : ∀ b ∈ blkA a, b ∉ M) : Sl h' a len cap xs :=
  ⟨s.hlen, s.hcap, s.hbig, fun i hi => by
    obtain ⟨b, off, ha, cs, hr, hc⟩ := s.at_ i hi
    exact ⟨b, off, ha, cs, Flat.flat hr, hc.keepM k (hm b (by simp [ha, blkA]))⟩⟩

/-- elements of one cell -/
class One (α : Type) [Rp α] where
  val : α → Value
  ok : α → Prop
  rep_iff : ∀ {h vs x}, rep h vs x ↔ vs = [val x] ∧ ok x
  one : Rp.n α = 1

instance : One UInt64 := ⟨wv, fun _ => True, by intro h vs x; exact ⟨fun h => ⟨h, trivial⟩, fun h => h.1⟩, rfl⟩
instance : One Int := ⟨fun x => .int .i64 x, inI64, by intro h vs x; exact Iff.rfl, rfl⟩
instance : One Bool := ⟨fun x => .bool x, fun _ => True, by intro h vs x; exact ⟨fun h => ⟨h, trivial⟩, fun h => h.1⟩, rfl⟩
instance : One ByteArray := ⟨fun x => .string x, okStr, by intro h vs x; exact Iff.rfl, rfl⟩

theorem Sl.at1 {α : Type} [Rp α] [One α] {h : Heap} {a : Option Addr} {len cap : Nat} {xs : List α} (s : Sl h a len cap xs) (i : Nat) (hi : i < xs.length) : ∃ b off, a = some ⟨b, off, none⟩ ∧ One.ok xs[i] ∧ Heap.cell? h b (off + i * 1) = some (One.val xs[i]) := by
  obtain ⟨b, off, ha, cs, hr, hc⟩ := s.at_ i hi
  obtain ⟨rfl, hok⟩ := One.rep_iff.1 hr
  refine ⟨b, off, ha, hok, ?_⟩
  have := hc 0 (by simp)
  rw [One.one] at this
  simpa using this

theorem Sl.of1 {α : Type} [Rp α] [One α] {h : Heap} {b : Nat} {T : TypeId} {fz : Nat × Nat} {xs : List α} {cap : Nat} {L : List Value} (o : h[b]? = some (.cells ⟨L⟩ T fz)) (hL : ∀ i (hi : i < xs.length), L[i]? = some (One.val xs[i])) (hok : ∀ x ∈ xs, One.ok x) (hc : xs.length ≤ cap) (hb : xs.length ≤ 281474976710656) : Sl h (some ⟨b, 0, none⟩) xs.length cap xs :=
  ⟨rfl, hc, hb, fun i hi => ⟨b, 0, rfl, [One.val xs[i]], One.rep_iff.2 ⟨rfl, hok _ (List.getElem_mem hi)⟩, fun j hj => by
    have : j = 0 := by simpa using hj
    subst this
    simp only [Heap.cell?, o, One.one, Nat.mul_one, Nat.zero_add, Nat.add_zero]
    simpa using hL i hi⟩⟩

theorem Sl.of1' {α : Type} [Rp α] [One α] {h : Heap} {b : Nat} {T : TypeId} {fz : Nat × Nat} {xs : List α} {n : Nat} (o : h[b]? = some (.cells ⟨xs.map One.val⟩ T fz)) (hok : ∀ x ∈ xs, One.ok x) (hn : n = xs.length) (hb : xs.length ≤ 281474976710656) : Sl h (some ⟨b, 0, none⟩) n n xs := by
  subst hn
  exact Sl.of1 o (fun i hi => by simp [hi]) hok (Nat.le_refl _) hb

/-- all cells of a slice of one-cell elements -/
theorem Sl.cells1 {α : Type} [Rp α] [One α] {h : Heap} {b off : Nat} {len cap : Nat} {xs : List α} (s : Sl h (some ⟨b, off, none⟩) len cap xs) : ∀ j, j < (xs.map One.val).length → Heap.cell? h b (off + j) = (xs.map (One.val (α := α)))[j]? := by
  intro j hj
  have hj' : j < xs.length := by simpa using hj
  obtain ⟨b', off', ha, _, hc⟩ := s.at1 j hj'
  simp only [Option.some.injEq, Addr.mk.injEq, and_true] at ha
  obtain ⟨rfl, rfl⟩ := ha
  rw [Nat.mul_one] at hc
  rw [hc]; simp [hj']

theorem SemR.make {P : Program} {t e : TypeId} {i : TypeInfo} {z : Value} (ht : P.underlying t = some (.slice e)) (hi : P.info? e = some i) (hz : i.zero = some z) (h1 : i.size = 1) (hz1 : cellsOf z = [z])
    {n : Nat} (hb : i.bytes * n ≤ 281474976710656) (hn : n ≤ 281474976710656) {bs : List Nat} {h : Heap} {K : Value → Heap → Prop}
    (H : ∀ b h', b = h.size → h'.size = h.size + 1 → h'[b]? = some (.cells ⟨List.replicate n z⟩ e (0, 0)) → Keeps [] h h' → K (.slice (some ⟨b, 0, none⟩) n n) h') :
    SemR P (Instr.makeSlice t (.int .i64 (n : Int)) (.int .i64 (n : Int))) bs h K := by
  unfold SemR
  intro hlt w hw
  subst hw
  have hm := run_make w t e i z ht hi hz .i64 .i64 (n : Int) (n : Int) (by omega) (by omega) (by
    have : (i.bytes : Int) * (n : Int) = ((i.bytes * n : Nat) : Int) := by simp
    rw [this]; omega) (by omega)
  refine ⟨_, _, hm, ⟨rfl, rfl, rfl⟩, fun b hb => ?_, ?_⟩
  · show (w.heap.push _)[b]? = _
    rw [push_get, if_neg (by have := hlt b hb; omega)]
  · have hcells : madeCells z.cells (n * i.size) = ⟨List.replicate n z⟩ := by
      rw [h1, Nat.mul_one, cellsOf_eq, hz1]
      apply Array.ext'
      simp only [madeCells]
      apply List.ext_getElem
      · simp
      · intro k k1 k2
        simp [Nat.mod_one]
    have := H w.heap.size (w.heap.push (.cells ⟨List.replicate n z⟩ e)) rfl (by simp) (by rw [push_get, if_pos rfl]) (keeps_push _ _)
    show K (.slice (some ⟨w.heap.size, 0, none⟩) (n : Int).toNat (n : Int).toNat) (w.heap.push (.cells (madeCells z.cells ((n : Int).toNat * i.size)) e))
    rw [Int.toNat_natCast, hcells]; exact this

theorem SemR.copy {P : Program} {dT sT ty e : TypeId} {i : TypeInfo} {sz : Nat} (hu : P.underlying dT = some (.slice e)) (hi : P.info? e = some i) (hsz : i.size = sz)
    {h : Heap} {b off dl dc xb xo n xc : Nat} {c new : List Value} {T : TypeId} (o : h[b]? = some (.cells ⟨c⟩ T (0, 0))) (hn : new.length = min n dl * sz) (hnew : ∀ j, j < new.length → Heap.cell? h xb (xo + j) = new[j]?)
    (hone : allOne new = true) (hroom : off + new.length ≤ c.length) {bs : List Nat} (hb : b ∉ bs) {K : Value → Heap → Prop}
    (H : ∀ h', h'.size = h.size → h'[b]? = some (.cells ⟨spliceL off new c⟩ T (0, 0)) → Keeps [b] h h' → K (.int .i64 ((min n dl : Nat) : Int)) h') :
    SemR P (Builtin.copy_ #[dT, sT] ty ⟨[.slice (some ⟨b, off, none⟩) dl dc, .slice (some ⟨xb, xo, none⟩) n xc]⟩) bs h K := by
  unfold SemR
  intro hlt w hw
  subst hw
  have hsize : (sizeOf e).run P w = .ok sz w := by simp [sizeOf, typeInfo_run P e w hi, hsz]
  have hnewL : (loadCells ⟨xb, xo, none⟩ (min n dl * sz)).run P w = .ok ⟨new⟩ w := loadCells_run hn (fun k hk => hnew k (by omega))
  obtain ⟨w', r1, r2, r3, r4, r5⟩ := store_cells (P := P) new 0 off c w (allOne_one' hone) (by omega) o
  refine ⟨_, w', ?_, r2, fun b' hb' => r5 b' (fun e => hb (e ▸ hb')), H w'.heap r3 (by simpa using r4) ⟨by omega, fun b' _ hb' => r5 b' (by simpa using hb')⟩⟩
  have hm : Nat.min n dl = min n dl := rfl
  simp [Builtin.copy_, underlying_run P dT w hu, hsize, Builtin.lenOf, Builtin.firstCells, hm, hnewL, r1, goInt]

/-- nothing is copied -/
theorem SemR.copy0 {P : Program} {dT sT ty e : TypeId} {i : TypeInfo} (hu : P.underlying dT = some (.slice e)) (hi : P.info? e = some i)
    {h : Heap} {a x : Option Addr} {dl dc n xc : Nat} (hz : min n dl = 0) {bs : List Nat} {K : Value → Heap → Prop} (H : K (.int .i64 0) h) :
    SemR P (Builtin.copy_ #[dT, sT] ty ⟨[.slice a dl dc, .slice x n xc]⟩) bs h K := by
  unfold SemR
  intro hlt w hw
  subst hw
  refine ⟨_, w, ?_, SameOut.refl w, fun _ _ => rfl, H⟩
  have hm : Nat.min n dl = 0 := hz
  have hsize : (sizeOf e).run P w = .ok i.size w := by simp [sizeOf, typeInfo_run P e w hi]
  cases a <;> cases x <;> simp [Builtin.copy_, underlying_run P dT w hu, hsize, Builtin.lenOf, Builtin.firstCells, hm, goInt, loadCells, loadCellsFrom, storeCells]

/-- a text's bytes are copied -/
def bytesV (s : ByteArray) : List Value := s.data.toList.map fun b => .int .u8 (b.toNat : Int)
end Go.Eng
