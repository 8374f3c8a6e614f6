/-
  The engine, for its user: how what is left is answered; blocks that stay; slices that are grown.
-/
import Derived.Test.YtlloemmpnhoanaaGreatEngW
import Derived.KernelRfl
set_option linter.all false
namespace Go.Eng
open Go

/-- every block but those of 'M' is as it was; there may be more -/
structure Keeps (M : List Nat) (h h' : Heap) : Prop where
  size : h.size ≤ h'.size
  same : ∀ b, b < h.size → b ∉ M → h'[b]? = h[b]?

theorem Keeps.refl (M : List Nat) (h : Heap) : Keeps M h h := ⟨Nat.le_refl _, fun _ _ _ => rfl⟩
theorem Keeps.trans {M : List Nat} {a b c : Heap} (h : Keeps M a b) (h' : Keeps M b c) : Keeps M a c :=
  ⟨Nat.le_trans h.size h'.size, fun i hi hm => (h'.same i (Nat.lt_of_lt_of_le hi h.size) hm).trans (h.same i hi hm)⟩
theorem Keeps.mono {M M' : List Nat} {a b : Heap} (h : Keeps M a b) (hm : ∀ x ∈ M, x ∈ M') : Keeps M' a b :=
  ⟨h.size, fun i hi hn => h.same i hi fun hx => hn (hm i hx)⟩
/-- what is changed beside 'M' is new -/
theorem Keeps.trans_new {M M' : List Nat} {a b c : Heap} (h : Keeps M a b) (h' : Keeps M' b c) (hm : ∀ x ∈ M', x ∈ M ∨ a.size ≤ x) : Keeps M a c :=
  ⟨Nat.le_trans h.size h'.size, fun i hi hn => (h'.same i (Nat.lt_of_lt_of_le hi h.size) fun hx => by rcases hm i hx with h1 | h1; exact hn h1; omega).trans (h.same i hi hn)⟩
theorem Keeps.trans_nil {M : List Nat} {a b c : Heap} (h : Keeps M a b) (h' : Keeps [] b c) : Keeps M a c := h.trans_new h' (by simp)

theorem cell_lt {h : Heap} {b o : Nat} {v : Value} (hc : Heap.cell? h b o = some v) : b < h.size := by
  unfold Heap.cell? at hc
  rcases Nat.lt_or_ge b h.size with h1 | h1
  · exact h1
  · simp [Array.getElem?_eq_none h1] at hc
theorem obj_lt {h : Heap} {b : Nat} {o : Obj} (hc : h[b]? = some o) : b < h.size := by
  rcases Nat.lt_or_ge b h.size with h1 | h1
  · exact h1
  · simp [Array.getElem?_eq_none h1] at hc
theorem Keeps.obj {M : List Nat} {h h' : Heap} (k : Keeps M h h') {b : Nat} {o : Obj} (hc : h[b]? = some o) (hb : b ∉ M) : h'[b]? = some o := by
  rw [k.same b (obj_lt hc) hb]; exact hc
theorem Keeps.cell {M : List Nat} {h h' : Heap} (k : Keeps M h h') {b o : Nat} {v : Value} (hc : Heap.cell? h b o = some v) (hb : b ∉ M) : Heap.cell? h' b o = some v := by
  have := cell_lt hc
  unfold Heap.cell? at hc ⊢
  rw [k.same b this hb]; exact hc
theorem keeps_push (h : Heap) (o : Obj) : Keeps [] h (h.push o) := ⟨by simp, fun b hb _ => by rw [push_get, if_neg (by omega)]⟩

/-! ### Answers -/

theorem LoadR.i {c : Option Bool} {h : Heap} {b off : Nat} {K : Value → Prop} {v : Value} (hv : Heap.cell? h b off = some v) (hK : K v) : LoadR c h b off K := by
  unfold LoadR; exact ⟨v, under_of hv, hK⟩
theorem LoadR.u {p : Bool} {h : Heap} {b off : Nat} {K : Value → Prop} (v : Value) (hv : p = true → Heap.cell? h b off = some v) (hK : K v) : LoadR (some p) h b off K := by
  unfold LoadR; exact ⟨v, hv, hK⟩
theorem LoadN.i {c : Option Bool} {h : Heap} {b off n : Nat} {K : List Value → Prop} {vs : List Value} (hn : vs.length = n) (hv : ∀ i, i < n → Heap.cell? h b (off + i) = vs[i]?) (hK : K vs) : LoadN c h b off n K := by
  unfold LoadN; exact ⟨vs, hn, under_of hv, hK⟩
theorem LoadN.u {p : Bool} {h : Heap} {b off n : Nat} {K : List Value → Prop} (vs : List Value) (hn : vs.length = n) (hv : p = true → ∀ i, i < n → Heap.cell? h b (off + i) = vs[i]?) (hK : K vs) : LoadN (some p) h b off n K := by
  unfold LoadN; exact ⟨vs, hn, hv, hK⟩
theorem IdxR.i {c : Option Bool} {i : Int} {n : Nat} {K : Nat → Prop} (j : Nat) (h1 : i = (j : Int)) (h2 : j < n) (hK : K j) : IdxR c i n K := by
  unfold IdxR; exact ⟨j, under_of ⟨h1, h2⟩, hK⟩
theorem IdxR.u {p : Bool} {i : Int} {n : Nat} {K : Nat → Prop} (j : Nat) (h : p = true → i = (j : Int) ∧ j < n) (hK : K j) : IdxR (some p) i n K := by
  unfold IdxR; exact ⟨j, h, hK⟩
theorem IdxS.i {c : Option Bool} {i : Int} {n : Nat} {a : Option Addr} {s : Nat} {K : Nat → Nat → Prop} (j : Nat) {b off : Nat} (h1 : i = (j : Int)) (h2 : j < n) (h3 : a = some ⟨b, off, none⟩) (hK : K b (off + j * s)) : IdxS c i n a s K := by
  unfold IdxS; exact ⟨j, b, off, under_of ⟨h1, h2, h3⟩, hK⟩
theorem IdxS.u {p : Bool} {i : Int} {n : Nat} {a : Option Addr} {s : Nat} {K : Nat → Nat → Prop} (j b off : Nat) (h : p = true → i = (j : Int) ∧ j < n ∧ a = some ⟨b, off, none⟩) (hK : K b (off + j * s)) : IdxS (some p) i n a s K := by
  unfold IdxS; exact ⟨j, b, off, h, hK⟩
theorem SliceR.i {c : Option Bool} {lo hi : Int} {cap : Nat} {K : Nat → Nat → Prop} (l r : Nat) (h1 : lo = (l : Int)) (h2 : hi = (r : Int)) (h3 : l ≤ r) (h4 : r ≤ cap) (hK : K l r) : SliceR c lo hi cap K := by
  unfold SliceR; exact ⟨l, r, under_of ⟨h1, h2, h3, h4⟩, hK⟩
theorem SliceR.u {p : Bool} {lo hi : Int} {cap : Nat} {K : Nat → Nat → Prop} (l r : Nat) (h : p = true → lo = (l : Int) ∧ hi = (r : Int) ∧ l ≤ r ∧ r ≤ cap) (hK : K l r) : SliceR (some p) lo hi cap K := by
  unfold SliceR; exact ⟨l, r, h, hK⟩
theorem Need.i {c : Option Bool} {p K : Prop} (hp : p) (hK : K) : Need c p K := by unfold Need; exact ⟨under_of hp, hK⟩
theorem Need.u {q : Bool} {p K : Prop} (hp : q = true → p) (hK : K) : Need (some q) p K := by unfold Need; exact ⟨hp, hK⟩
theorem NthR.i {c : Option Bool} {vs : List Value} {i : Nat} {K : Value → Prop} {v : Value} (hv : vs[i]? = some v) (hK : K v) : NthR c vs i K := by unfold NthR; exact ⟨v, under_of hv, hK⟩
theorem NthR.u {q : Bool} {vs : List Value} {i : Nat} {K : Value → Prop} (v : Value) (hv : q = true → vs[i]? = some v) (hK : K v) : NthR (some q) vs i K := by unfold NthR; exact ⟨v, hv, hK⟩
theorem PureR.i {c : Option Bool} {P : Program} {s : Sem Value} {K : Value → Prop} {v : Value} (hv : ∀ w : World, s.run P w = .ok v w) (hK : K v) : PureR c P s K := by unfold PureR; exact ⟨v, under_of hv, hK⟩
theorem LookR.i {c : Option Bool} {h : Heap} {kd : TypeDesc} {r : Nat} {k : Value} {K : Option Value → Prop} {o : Option Value}
    (hv : ∃ es cl, h[r]? = some (.map es cl) ∧ ((Instr.findNow kd k es.toList 0).map fun x => x.map (·.2)) = some o) (hK : K o) : LookR c h kd r k K := by unfold LookR; exact ⟨o, under_of hv, hK⟩
theorem LenR.i {c : Option Bool} {h : Heap} {r : Nat} {K : Nat → Prop} {n : Nat} (hv : ∃ es cl, h[r]? = some (.map es cl) ∧ es.size = n) (hK : K n) : LenR c h r K := by unfold LenR; exact ⟨n, under_of hv, hK⟩
theorem AllocR.i {h : Heap} {o : Obj} {K : Nat → Heap → Prop} (H : ∀ b h', b = h.size → h'.size = h.size + 1 → h'[b]? = some o → Keeps [] h h' → K b h') : AllocR h o K := by
  unfold AllocR
  rintro b h' rfl rfl
  exact H _ _ rfl (by simp) (by rw [push_get, if_pos rfl]) (keeps_push h o)
theorem BoxR.i {h : Heap} {b : Nat} {K : Heap → Prop} (H : ∀ h', h'.size = h.size → Keeps [b] h h' → K h') : BoxR h b K := by
  unfold BoxR
  exact fun h' h1 h2 => H h' h1 ⟨by omega, fun b' _ hn => h2 b' (by simpa using hn)⟩
theorem StoreR.i {h : Heap} {b off : Nat} {vs : List Value} {bs : List Nat} {K : Heap → Prop} {c : List Value} {T : TypeId} (hb : h[b]? = some (.cells ⟨c⟩ T (0, 0))) (hl : off + vs.length ≤ c.length) (hn : b ∉ bs)
    (H : ∀ h', h'.size = h.size → h'[b]? = some (.cells ⟨spliceL off vs c⟩ T (0, 0)) → Keeps [b] h h' → K h') : StoreR h b off vs bs K := by
  unfold StoreR
  exact ⟨c, T, hb, hl, hn, fun h' h1 h2 h3 => H h' h1 h2 ⟨by omega, fun b' _ hn => h3 b' (by simpa using hn)⟩⟩
theorem IfR.i {c : Bool} {A B : Prop} (h1 : c = true → A) (h2 : c = false → B) : IfR c A B := by unfold IfR; exact ⟨h1, h2⟩
theorem IfR.t {c : Bool} {A B : Prop} (hc : c = true) (h : A) : IfR c A B := by unfold IfR; exact ⟨fun _ => h, fun h' => (by rw [hc] at h'; cases h')⟩
theorem IfR.f {c : Bool} {A B : Prop} (hc : c = false) (h : B) : IfR c A B := by unfold IfR; exact ⟨fun h' => (by rw [hc] at h'; cases h'), fun _ => h⟩
theorem MeetR.pass {first : Post → EnvC → Boxes → Heap → Prop} {rest : EnvC → Boxes → Heap → Prop} {Q : Post} {e : EnvC} {bx : Boxes} {h : Heap}
    (H : first (fun x e bx h => match x with | .normal => rest e bx h | x => Q x e bx h) e bx h) : MeetR first rest Q e bx h := by unfold MeetR; exact H
/-- a loop: the slots and the boxes that are kept, what holds at its head -/
theorem LoopR.i {body : Post → EnvC → Boxes → Heap → Prop} {Q : Post} {e : EnvC} {bx : Boxes} {h : Heap} (L B : List Nat) (I : Nat → EnvC → Boxes → Heap → Prop) (d : Nat)
    (h0 : keepS L B e bx fun e bx => I d e bx h)
    (h1 : ∀ d e bx h, I d e bx h → body (fun x e bx h => match x with
      | .normal => ∃ d', d' < d ∧ keepS L B e bx fun e bx => I d' e bx h
      | x => Q x e bx h) e bx h) : LoopR body Q e bx h := by
  unfold LoopR; exact ⟨L, B, I, ⟨d, h0⟩, h1⟩

/-- a call that keeps all blocks -/
theorem CallR.i {P : Program} {f : Nat} {args : List Value} {bs : List Nat} {h : Heap} {K : Value → Heap → Prop} {R : Value → Heap → Prop}
    (hc : CallH P f args h fun v h' => Keeps [] h h' ∧ R v h') (hK : ∀ v h', Keeps [] h h' → R v h' → K v h') : CallR P f args bs h K := by
  unfold CallR
  intro hb w hw
  refine (hc w hw).mono fun e w' he => ?_
  obtain ⟨v, h1, h2, h3, h4⟩ := he
  exact ⟨v, h1, h2, fun b hb' => h3.same b (hb b hb') (by simp), hK v _ h3 h4⟩
/-- a call that may change the blocks of 'M' -/
theorem CallR.m {P : Program} {f : Nat} {args : List Value} {bs : List Nat} {h : Heap} {K : Value → Heap → Prop} {R : Value → Heap → Prop} {M : List Nat}
    (hc : CallH P f args h fun v h' => Keeps M h h' ∧ R v h') (hM : ∀ b ∈ bs, b ∉ M) (hK : ∀ v h', Keeps M h h' → R v h' → K v h') : CallR P f args bs h K := by
  unfold CallR
  intro hb w hw
  refine (hc w hw).mono fun e w' he => ?_
  obtain ⟨v, h1, h2, h3, h4⟩ := he
  exact ⟨v, h1, h2, fun b hb' => h3.same b (hb b hb') (hM b hb'), hK v _ h3 h4⟩
theorem CallH.mono {P : Program} {f : Nat} {args : List Value} {h : Heap} {R R' : Value → Heap → Prop} (hc : CallH P f args h R) (hR : ∀ v h', R v h' → R' v h') : CallH P f args h R' := by
  intro w hw
  refine (hc w hw).mono fun e w' he => ?_
  obtain ⟨v, h1, h2, h3⟩ := he
  exact ⟨v, h1, h2, hR v _ h3⟩

theorem beqB (a : Int) (b : Int) : (a == b) = decide (a = b) := rfl

end Go.Eng
