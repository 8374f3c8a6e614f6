/-
  The engine, part D: a region that draws its order, taken in the order of its text.
-/
import Derived.OrdersHeld
set_option linter.all false
namespace Go.Eng
open Go
section
variable {P : Program} {ops : Array Oper} {Q : Exit → Act → World → Prop} {md : Region.Mode} {S : Array Bool → World → Prop}

/-- what has come up is closed under what it waited for -/
def Closed (md : Region.Mode) (ops : Array Oper) (L : Array Bool) : Prop :=
  L.size = ops.size ∧ ∀ j oj, ops[j]? = some oj → L.getD j false = true → ∀ e ∈ oj.after, Region.binds md e = true → L.getD e.on false = true

theorem getD_tf {L : Array Bool} {i : Nat} (h : L.getD i true = false) : L.getD i false = false ∧ i < L.size := by
  rcases Nat.lt_or_ge i L.size with h' | h'
  · simp [h'] at h ⊢; exact h
  · simp [Array.getElem?_eq_none h'] at h

theorem Closed.set {L : Array Bool} {i : Nat} (h : Closed md ops L) (hi : i ∈ Region.ready md ops L) : Closed md ops (L.setIfInBounds i true) := by
  obtain ⟨_, oi, hoi, hall⟩ := mem_ready.1 hi
  refine ⟨by simp [h.1], fun j oj hj hl e he hb => ?_⟩
  by_cases hij : i = j
  · subst hij
    have : oj = oi := Option.some.inj (hj.symm.trans hoi)
    subst this
    exact getD_set_true (hall e he hb)
  · rw [getD_set_ne false hij] at hl
    exact getD_set_true (h.2 j oj hj hl e he hb)

/-- whatever comes up next, and 'S' stands behind it -/
def AnyS (P : Program) (md : Region.Mode) (ops : Array Oper) (Q : Exit → Act → World → Prop) (S : Array Bool → World → Prop) : Nat → Array Bool → Act → World → Prop
  | 0, L, a, w => Region.ready md ops L = [] ∧ Q .normal a w
  | f + 1, L, a, w =>
    (Region.ready md ops L = [] → Q .normal a w) ∧
    ∀ i ∈ Region.ready md ops L, wpOp P ops Q i (fun a' w' => S (L.setIfInBounds i true) w' ∧ AnyS P md ops Q S f (L.setIfInBounds i true) a' w') a w

theorem AnyS.any : ∀ (f : Nat) (L : Array Bool) (a : Act) (w : World), AnyS P md ops Q S f L a w → wpAny P md ops Q f L a w
  | 0, _, _, _, h => h
  | f + 1, _, _, _, h => ⟨h.1, fun i hi => wpOp_mono (fun a' w' h' => AnyS.any f _ a' w' h'.2) (h.2 i hi)⟩

theorem AnyS.weaken {S' : Array Bool → World → Prop} : ∀ (f : Nat) (L : Array Bool) (a : Act) (w : World),
    (∀ L' w, (∀ i, L.getD i false = true → L'.getD i false = true) → S L' w → S' L' w) → AnyS P md ops Q S f L a w → AnyS P md ops Q S' f L a w
  | 0, _, _, _, _, h => h
  | f + 1, L, a, w, hS, h => ⟨h.1, fun i hi => wpOp_mono (fun a' w' h' => ⟨hS _ _ (fun j hj => getD_set_true hj) h'.1,
      AnyS.weaken f _ a' w' (fun L' w'' hL => hS L' w'' (fun j hj => hL j (getD_set_true hj))) h'.2⟩) (h.2 i hi)⟩

/-- AN OPERATION THAT MAY COME UP NOW MAY BE TAKEN FIRST, if it yields its value in every world in which it may yet come up. -/
theorem AnyS.first {W : World → Prop} {i : Nat} {oi : Oper} {v : Value} (hi : ops[i]? = some oi) (hsel : ∀ (j : Nat) (o : Oper) cs b, ops[j]? = some o → o.op ≠ .select cs b)
    (hQ : ∀ c a w, Q (.panic c) (a.put oi.dst v) w → Q (.panic c) a w)
    (hdown : ∀ L w, S (L.setIfInBounds i true) w → S L w)
    (hW : ∀ L w, Closed md ops L → L.getD i true = false → S L w → W w) :
    ∀ (f : Nat) (L : Array Bool) (a : Act) (w : World), Closed md ops L →
      (∀ j oj, ops[j]? = some oj → j ≠ i → L.getD j true = false → (∀ e ∈ oj.after, Region.binds md e = true → e.on ≠ i) → oi.apart ops oj = true) →
      i ∈ Region.ready md ops L → YieldsIf P ops W oi v a → S L w → S (L.setIfInBounds i true) w →
      AnyS P md ops Q S f (L.setIfInBounds i true) (a.put oi.dst v) w → AnyS P md ops Q S (f + 1) L a w := by
  intro f
  induction f with
  | zero =>
    intro L a w hcl _ hr hy hS hS1 H
    refine ⟨fun h => (by rw [h] at hr; cases hr), fun j hj => ?_⟩
    by_cases hji : j = i
    · subst hji; exact hy.wpOp hi (hW L w hcl (mem_ready.1 hr).1 hS) ⟨hS1, H⟩
    · have := ready_mono hj hji
      rw [H.1] at this
      cases this
  | succ f ih =>
    intro L a w hcl hfree hr hy hS hS1 H
    refine ⟨fun h => (by rw [h] at hr; cases hr), fun j hj => ?_⟩
    by_cases hji : j = i
    · subst hji; exact hy.wpOp hi (hW L w hcl (mem_ready.1 hr).1 hS) ⟨hS1, H⟩
    · have h1 := H.2 j (ready_mono hj hji)
      obtain ⟨hjun, oj, hoj, hall⟩ := mem_ready.1 hj
      have hnot : ∀ e ∈ oj.after, Region.binds md e = true → e.on ≠ i := fun e he hb heq => by
        have h1 := hall e he hb
        have h0 := (getD_tf (mem_ready.1 hr).1).1
        rw [heq, h0] at h1
        cases h1
      have h2 := wpOp_putIf hoj (hfree j oj hoj hji hjun hnot) (fun cs b => hsel i oi cs b hi) (fun cs b => hsel j oj cs b hoj) hQ hy h1
      refine wpOp_mono (fun a' w' h3 => ?_) h2
      obtain ⟨hy', hS', hA⟩ := h3
      rw [Array.setIfInBounds_comm _ _ (Ne.symm hji)] at hS' hA
      refine ⟨hdown _ _ hS', ih (L.setIfInBounds j true) a' w' (hcl.set hj) (fun k ok hk hki hun hno => ?_) (ready_mono hr (Ne.symm hji)) hy' (hdown _ _ hS') hS' hA⟩
      refine hfree k ok hk hki ?_ hno
      by_cases hjk : j = k
      · subst hjk; exact hjun
      · rw [getD_set_ne true hjk] at hun; exact hun

/-- where just one may come up -/
theorem AnyS.only {i : Nat} {f : Nat} {L : Array Bool} {a : Act} {w : World} (hr : Region.ready md ops L = [i])
    (h : wpOp P ops Q i (fun a' w' => S (L.setIfInBounds i true) w' ∧ AnyS P md ops Q S f (L.setIfInBounds i true) a' w') a w) : AnyS P md ops Q S (f + 1) L a w := by
  refine ⟨fun h0 => (by rw [h0] at hr; cases hr), fun j hj => ?_⟩
  rw [hr] at hj
  have : j = i := by simpa using hj
  subst this
  exact h

end

/-! ### The text's order (or another one that fits) -/

/-- pure; reads a private box; reads memory; makes a block; writes memory or calls; writes a private box -/
inductive Cls where
  | p0 | pb | rd | al | ef | be
  deriving DecidableEq

def Cls.heavy : Cls → Bool
  | .ef | .be => true
  | _ => false
def Cls.isBe : Cls → Bool
  | .be => true
  | _ => false

/-- every block is as it was; there may be more -/
def HExt (w w' : World) : Prop := w.heap.size ≤ w'.heap.size ∧ ∀ b, b < w.heap.size → w'.heap[b]? = w.heap[b]?
theorem HExt.refl (w : World) : HExt w w := ⟨Nat.le_refl _, fun _ _ => rfl⟩
theorem HExt.trans {a b c : World} (h : HExt a b) (h' : HExt b c) : HExt a c :=
  ⟨Nat.le_trans h.1 h'.1, fun i hi => (h'.2 i (Nat.lt_of_lt_of_le hi h.1)).trans (h.2 i hi)⟩

def TextRun (P : Program) (ops : Array Oper) (Q : Exit → Act → World → Prop) (F : (World → Prop) → Act → World → Prop) (cls : Nat → Cls) : List Nat → (World → Prop) → Act → World → Prop
  | [], B, a, w => F B a w
  | k :: l, B, a, w => match cls k with
    | .p0 => ∃ o v, ops[k]? = some o ∧ YieldsIf P ops (fun _ => True) o v a ∧ TextRun P ops Q F cls l B (a.put o.dst v) w
    | .pb => ∃ o v, ops[k]? = some o ∧ YieldsIf P ops B o v a ∧ TextRun P ops Q F cls l B (a.put o.dst v) w
    | .rd => ∃ o v, ops[k]? = some o ∧ YieldsIf P ops (HExt w) o v a ∧ TextRun P ops Q F cls l B (a.put o.dst v) w
    | .al => wpOp P ops Q k (fun a' w' => HExt w w' ∧ ∃ B' : World → Prop, B' w' ∧ (∀ x, B' x → B x) ∧ TextRun P ops Q F cls l B' a' w') a w
    | .ef => wpOp P ops Q k (fun a' w' => B w' ∧ TextRun P ops Q F cls l B a' w') a w
    | .be => wpOp P ops Q k (fun a' w' => ∃ B' : World → Prop, B' w' ∧ TextRun P ops Q F cls l B' a' w') a w

/-- does 'j' wait for 'i', straight or through others? -/
def reachB (ops : Array Oper) (i : Nat) : Nat → Nat → Bool
  | 0, _ => false
  | f + 1, j => match ops[j]? with
    | some o => o.after.any fun e => Region.binds .any e && (e.on == i || reachB ops i f e.on)
    | none => false

theorem reachB_closed {ops : Array Oper} {L : Array Bool} (hc : Closed .any ops L) {i : Nat} : ∀ (f j : Nat), reachB ops i f j = true → L.getD j false = true → L.getD i false = true
  | 0, _, h, _ => by cases h
  | f + 1, j, h, hj => by
    simp only [reachB] at h
    split at h
    · rename_i o ho
      obtain ⟨e, he, hb⟩ := Array.any_eq_true'.1 h
      simp only [Bool.and_eq_true, Bool.or_eq_true, beq_iff_eq] at hb
      have h1 := hc.2 j o ho hj e he hb.1
      rcases hb.2 with h2 | h2
      · rw [← h2]; exact h1
      · exact reachB_closed hc f _ h2 h1
    · cases h

/-- the first in a list that is so; else a number past all -/
def firstOf (p : Nat → Bool) (n : Nat) : List Nat → Nat
  | [] => n
  | k :: l => if p k then k else firstOf p n l

def okBefore (ops : Array Oper) (k : Nat) (h : Nat) : Bool := decide (ops.size ≤ h) || reachB ops k ops.size h

def drawB (ops : Array Oper) (cls : Nat → Cls) : List Nat → Array Bool → Bool
  | [], L => (Region.ready .any ops L).isEmpty
  | k :: l, L => (match cls k with
      | .p0 => (Region.ready .any ops L).contains k && Region.free .any ops L k
      | .pb => (Region.ready .any ops L).contains k && Region.free .any ops L k && okBefore ops k (firstOf (fun i => (cls i).isBe) ops.size l)
      | .rd => (Region.ready .any ops L).contains k && Region.free .any ops L k && okBefore ops k (firstOf (fun i => (cls i).heavy) ops.size l)
      | _ => decide (Region.ready .any ops L = [k]))
    && drawB ops cls l (L.setIfInBounds k true)

section
variable {P : Program} {ops : Array Oper} {Q : Exit → Act → World → Prop} {cls : Nat → Cls}

def StageS (ops : Array Oper) (cls : Nat → Cls) (l : List Nat) (B : World → Prop) (w : World) (L : Array Bool) (w' : World) : Prop :=
  (L.getD (firstOf (fun i => (cls i).heavy) ops.size l) false = false → HExt w w') ∧
  (L.getD (firstOf (fun i => (cls i).isBe) ops.size l) false = false → B w')

theorem firstOf_cons_no {p : Nat → Bool} {n k : Nat} {l : List Nat} (h : p k = false) : firstOf p n (k :: l) = firstOf p n l := by simp [firstOf, h]
theorem firstOf_is {p : Nat → Bool} {n : Nat} : ∀ (l : List Nat), firstOf p n l = n ∨ p (firstOf p n l) = true
  | [] => .inl rfl
  | k :: l => by
    by_cases h : p k = true
    · right; simp [firstOf, h]
    · simp only [firstOf, h]; exact firstOf_is l

theorem okBefore_spec {L : Array Bool} (hc : Closed .any ops L) {k h : Nat} (ho : okBefore ops k h = true) (hk : L.getD k true = false) : L.getD h false = false := by
  simp only [okBefore, Bool.or_eq_true, decide_eq_true_eq] at ho
  rcases ho with ho | ho
  · simp [Array.getElem?_eq_none (show L.size ≤ h by rw [hc.1]; exact ho)]
  · cases hl : L.getD h false with
    | false => rfl
    | true =>
      have := reachB_closed hc _ _ ho hl
      rw [(getD_tf hk).1] at this
      cases this

theorem text_any (hsel : Region.noSelect ops = true) (hQ : ∀ c a w (i : Nat) (o : Oper) v, ops[i]? = some o → Q (.panic c) (a.put o.dst v) w → Q (.panic c) a w) :
    ∀ (l : List Nat) (B : World → Prop) (L : Array Bool) (a : Act) (w : World), drawB ops cls l L = true → Closed .any ops L → (∀ k ∈ l, k < ops.size) →
      B w → TextRun P ops Q (fun _ a w => Q .normal a w) cls l B a w → AnyS P .any ops Q (StageS ops cls l B w) l.length L a w
  | [], B, L, a, w, hd, hc, hl, hB, h => ⟨by simpa [drawB] using hd, h⟩
  | k :: l, B, L, a, w, hd, hc, hl, hB, h => by
    have hkn : k < ops.size := hl k (by simp)
    have hln : ∀ k ∈ l, k < ops.size := fun i hi => hl i (by simp [hi])
    have hkL : k < L.size := by rw [hc.1]; exact hkn
    have hsetk : (L.setIfInBounds k true).getD k false = true := by simp [hkL]
    simp only [drawB, Bool.and_eq_true] at hd
    obtain ⟨hd1, hd2⟩ := hd
    have neq : ∀ (p : Nat → Bool), p k = false → firstOf p ops.size l ≠ k := fun p hp he => by
      rcases firstOf_is (p := p) (n := ops.size) l with h1 | h1
      · omega
      · rw [he, hp] at h1; cases h1
    have quiet : ∀ (o : Oper) (v : Value) (W : World → Prop), ops[k]? = some o → (Region.ready .any ops L).contains k = true → Region.free .any ops L k = true →
        YieldsIf P ops W o v a → (cls k).heavy = false →
        (∀ L' w', Closed .any ops L' → L'.getD k true = false → StageS ops cls l B w L' w' → W w') → TextRun P ops Q (fun _ a w => Q .normal a w) cls l B (a.put o.dst v) w →
        AnyS P .any ops Q (StageS ops cls (k :: l) B w) (k :: l).length L a w := by
      intro o v W ho hr hf hy hh hW ht
      have hb : (cls k).isBe = false := by cases hck : cls k <;> simp_all [Cls.heavy, Cls.isBe]
      have hS : StageS ops cls (k :: l) B w = StageS ops cls l B w := by
        unfold StageS
        rw [firstOf_cons_no (p := fun i => (cls i).heavy) hh, firstOf_cons_no (p := fun i => (cls i).isBe) hb]
      have hr' : k ∈ Region.ready .any ops L := by simpa using hr
      rw [hS]
      have now : ∀ L', StageS ops cls l B w L' w := fun L' => ⟨fun _ => HExt.refl w, fun _ => hB⟩
      refine AnyS.first (W := W) ho (Region.noSelect_spec hsel) (fun c a w hq => hQ c a w k o v ho hq) (fun L' w' h' => ?_) hW l.length L a w hc (Region.free_spec ho hf) hr' hy (now _) (now _)
        (text_any hsel hQ l B (L.setIfInBounds k true) (a.put o.dst v) w hd2 (hc.set hr') hln hB ht)
      refine ⟨fun h0 => h'.1 ?_, fun h0 => h'.2 ?_⟩
      · rw [getD_set_ne false (Ne.symm (neq _ hh))]; exact h0
      · rw [getD_set_ne false (Ne.symm (neq _ hb))]; exact h0
    cases hck : cls k with
    | p0 =>
      simp only [TextRun, hck] at h hd1
      obtain ⟨o, v, ho, hy, ht⟩ := h
      simp only [Bool.and_eq_true] at hd1
      exact quiet o v _ ho hd1.1 hd1.2 hy (by simp [hck, Cls.heavy]) (fun _ _ _ _ _ => trivial) ht
    | pb =>
      simp only [TextRun, hck] at h hd1
      obtain ⟨o, v, ho, hy, ht⟩ := h
      simp only [Bool.and_eq_true] at hd1
      exact quiet o v _ ho hd1.1.1 hd1.1.2 hy (by simp [hck, Cls.heavy]) (fun L' w' hc' hk' hS' => hS'.2 (okBefore_spec hc' hd1.2 hk')) ht
    | rd =>
      simp only [TextRun, hck] at h hd1
      obtain ⟨o, v, ho, hy, ht⟩ := h
      simp only [Bool.and_eq_true] at hd1
      exact quiet o v _ ho hd1.1.1 hd1.1.2 hy (by simp [hck, Cls.heavy]) (fun L' w' hc' hk' hS' => hS'.1 (okBefore_spec hc' hd1.2 hk')) ht
    | al =>
      simp only [TextRun, hck] at h hd1
      have hr : Region.ready .any ops L = [k] := by simpa using hd1
      have hr' : k ∈ Region.ready .any ops L := by rw [hr]; simp
      refine AnyS.only hr (wpOp_mono (fun a' w' h' => ?_) h)
      obtain ⟨hx, B', hB', hBB, ht⟩ := h'
      have hh : (cls k).heavy = false := by simp [hck, Cls.heavy]
      have hb : (cls k).isBe = false := by simp [hck, Cls.isBe]
      refine ⟨⟨fun _ => hx, fun _ => hBB _ hB'⟩, AnyS.weaken _ _ _ _ (fun L' x _ hS => ?_) (text_any hsel hQ l B' (L.setIfInBounds k true) a' w' hd2 (hc.set hr') hln hB' ht)⟩
      unfold StageS at hS ⊢
      rw [firstOf_cons_no (p := fun i => (cls i).heavy) hh, firstOf_cons_no (p := fun i => (cls i).isBe) hb]
      exact ⟨fun h0 => hx.trans (hS.1 h0), fun h0 => hBB _ (hS.2 h0)⟩
    | ef =>
      simp only [TextRun, hck] at h hd1
      have hr : Region.ready .any ops L = [k] := by simpa using hd1
      have hr' : k ∈ Region.ready .any ops L := by rw [hr]; simp
      refine AnyS.only hr (wpOp_mono (fun a' w' h' => ?_) h)
      obtain ⟨hB', ht⟩ := h'
      have hh : (cls k).heavy = true := by simp [hck, Cls.heavy]
      have hb : (cls k).isBe = false := by simp [hck, Cls.isBe]
      have hfk : firstOf (fun i => (cls i).heavy) ops.size (k :: l) = k := by simp [firstOf, hh]
      refine ⟨⟨fun h0 => ?_, fun _ => hB'⟩, AnyS.weaken _ _ _ _ (fun L' x hsub hS => ?_) (text_any hsel hQ l B (L.setIfInBounds k true) a' w' hd2 (hc.set hr') hln hB' ht)⟩
      · rw [hfk, hsetk] at h0; cases h0
      · unfold StageS at hS ⊢
        refine ⟨fun h0 => ?_, fun h0 => ?_⟩
        · rw [hfk, hsub k hsetk] at h0; cases h0
        · rw [firstOf_cons_no (p := fun i => (cls i).isBe) hb] at h0; exact hS.2 h0
    | be =>
      simp only [TextRun, hck] at h hd1
      have hr : Region.ready .any ops L = [k] := by simpa using hd1
      have hr' : k ∈ Region.ready .any ops L := by rw [hr]; simp
      refine AnyS.only hr (wpOp_mono (fun a' w' h' => ?_) h)
      obtain ⟨B', hB', ht⟩ := h'
      have hh : (cls k).heavy = true := by simp [hck, Cls.heavy]
      have hb : (cls k).isBe = true := by simp [hck, Cls.isBe]
      have hfk : firstOf (fun i => (cls i).heavy) ops.size (k :: l) = k := by simp [firstOf, hh]
      have hbk : firstOf (fun i => (cls i).isBe) ops.size (k :: l) = k := by simp [firstOf, hb]
      refine ⟨⟨fun h0 => ?_, fun h0 => ?_⟩, AnyS.weaken _ _ _ _ (fun L' x hsub hS => ?_) (text_any hsel hQ l B' (L.setIfInBounds k true) a' w' hd2 (hc.set hr') hln hB' ht)⟩
      · rw [hfk, hsetk] at h0; cases h0
      · rw [hbk, hsetk] at h0; cases h0
      · unfold StageS at hS ⊢
        refine ⟨fun h0 => ?_, fun h0 => ?_⟩
        · rw [hfk, hsub k hsetk] at h0; cases h0
        · rw [hbk, hsub k hsetk] at h0; cases h0

/-- A REGION THAT DRAWS ITS ORDER, in an order that fits. -/
theorem wp_region_text {id : Nat} {a : Act} {w : World} {ord : List Nat} (hm : P.follows .mixedOrders = true) (hlen : ord.length = ops.size) (hall : ∀ k ∈ ord, k < ops.size)
    (hsel : Region.noSelect ops = true) (hd : drawB ops cls ord (Array.replicate ops.size false) = true)
    (hQ : ∀ c a w (i : Nat) (o : Oper) v, ops[i]? = some o → Q (.panic c) (a.put o.dst v) w → Q (.panic c) a w)
    {B : World → Prop} (hB : B { w with drawn := w.drawn + 1 }) (h : TextRun P ops Q (fun _ a w => Q .normal a w) cls ord B a { w with drawn := w.drawn + 1 }) : (Code.region id ops true).wp P Q a w := by
  refine wp_region_any hm ?_
  have hc : Closed .any ops (Array.replicate ops.size false) := ⟨by simp, fun j oj hj hl => by
    exfalso
    rcases Nat.lt_or_ge j ops.size with h' | h'
    · simp [h'] at hl
    · simp [Array.getElem?_eq_none (show (Array.replicate ops.size false).size ≤ j by simpa using h')] at hl⟩
  have := text_any hsel hQ ord B (Array.replicate ops.size false) a _ hd hc hall hB h
  rw [hlen] at this
  exact this.any

end
/-! ### Several orders -/

/-- the orders that are looked at: a list, that parts where several operations may come up -/
inductive Tr where
  | nil
  | cons (k : Nat) (t : Tr)
  | both (s t : Tr)

def Tr.len : Tr → Nat
  | .nil => 0
  | .cons _ t => t.len + 1
  | .both s _ => s.len

def Tr.heads : Tr → List Nat
  | .nil => []
  | .cons k _ => [k]
  | .both s t => s.heads ++ t.heads

def TreeRun (P : Program) (ops : Array Oper) (Q : Exit → Act → World → Prop) (cls : Nat → Cls) : Tr → (World → Prop) → Act → World → Prop
  | .nil, _, a, w => Q .normal a w
  | .cons k t, B, a, w => TextRun P ops Q (fun B a w => TreeRun P ops Q cls t B a w) cls [k] B a w
  | .both s t, B, a, w => TreeRun P ops Q cls s B a w ∧ TreeRun P ops Q cls t B a w

/-- what is left of a kind waits for 'k' -/
def allBefore (ops : Array Oper) (p : Nat → Bool) (L : Array Bool) (k : Nat) : Bool :=
  (List.range ops.size).all fun h => !p h || L.getD h true || reachB ops k ops.size h

mutual
def drawT (ops : Array Oper) (cls : Nat → Cls) : Tr → Array Bool → Bool
  | .nil, L => (Region.ready .any ops L).isEmpty
  | .cons k t, L => (match cls k with
      | .p0 => (Region.ready .any ops L).contains k && Region.free .any ops L k
      | .pb => (Region.ready .any ops L).contains k && Region.free .any ops L k && allBefore ops (fun i => (cls i).isBe) L k
      | .rd => (Region.ready .any ops L).contains k && Region.free .any ops L k && allBefore ops (fun i => (cls i).heavy) L k
      | _ => decide (Region.ready .any ops L = [k]))
    && drawT ops cls t (L.setIfInBounds k true)
  | .both s t, L => decide (s.len = t.len) && (Region.ready .any ops L).all (fun k => (s.heads ++ t.heads).contains k) && drawH ops cls s L && drawH ops cls t L
def drawH (ops : Array Oper) (cls : Nat → Cls) : Tr → Array Bool → Bool
  | .nil, _ => false
  | .cons k t, L => (Region.ready .any ops L).contains k && drawT ops cls t (L.setIfInBounds k true)
  | .both s t, L => decide (s.len = t.len) && drawH ops cls s L && drawH ops cls t L
end

section
variable {P : Program} {ops : Array Oper} {Q : Exit → Act → World → Prop} {cls : Nat → Cls}

def StageT (ops : Array Oper) (cls : Nat → Cls) (L0 : Array Bool) (B : World → Prop) (w : World) (L : Array Bool) (w' : World) : Prop :=
  ((∀ h, (cls h).heavy = true → L0.getD h true = false → L.getD h false = false) → HExt w w') ∧
  ((∀ h, (cls h).isBe = true → L0.getD h true = false → L.getD h false = false) → B w')

theorem allBefore_spec {p : Nat → Bool} {L0 L : Array Bool} {k : Nat} (hc : Closed .any ops L) (h0 : L0.size = ops.size) (ha : allBefore ops p L0 k = true) (hk : L.getD k true = false) :
    ∀ h, p h = true → L0.getD h true = false → L.getD h false = false := by
  intro h hp hl
  have hlt : h < ops.size := by rw [← h0]; exact (getD_tf hl).2
  have := List.all_eq_true.1 ha h (by simpa using hlt)
  rw [hp, hl] at this
  simp only [Bool.not_true, Bool.false_or] at this
  cases hx : L.getD h false with
  | false => rfl
  | true =>
    have h2 := reachB_closed hc _ _ this hx
    rw [(getD_tf hk).1] at h2
    cases h2

theorem set_gone {L0 : Array Bool} {k h : Nat} (h1 : (L0.setIfInBounds k true).getD h true = false) : L0.getD h true = false ∧ h ≠ k := by
  by_cases e : k = h
  · subst e
    obtain ⟨h2, h3⟩ := getD_tf h1
    simp at h3
    simp [h3] at h2
  · rw [getD_set_ne true e] at h1
    exact ⟨h1, fun x => e x.symm⟩

theorem set_still {L0 : Array Bool} {k h : Nat} (h1 : L0.getD h true = false) (h2 : h ≠ k) : (L0.setIfInBounds k true).getD h true = false := by
  rw [getD_set_ne true (fun e => h2 e.symm)]; exact h1

/-- one operation is taken -/
theorem tree_step (hsel : Region.noSelect ops = true) (hQ : ∀ c a w (i : Nat) (o : Oper) v, ops[i]? = some o → Q (.panic c) (a.put o.dst v) w → Q (.panic c) a w)
    {k : Nat} {t : Tr} {n : Nat}
    (ih : ∀ (B : World → Prop) (L : Array Bool) (a : Act) (w : World), drawT ops cls t L = true → Closed .any ops L → B w → TreeRun P ops Q cls t B a w → AnyS P .any ops Q (StageT ops cls L B w) n L a w)
    {B : World → Prop} {L : Array Bool} {a : Act} {w : World} (hr : k ∈ Region.ready .any ops L) (hd : drawT ops cls t (L.setIfInBounds k true) = true) (hc : Closed .any ops L) (hB : B w)
    (h : TreeRun P ops Q cls (.cons k t) B a w) :
    wpOp P ops Q k (fun a' w' => StageT ops cls L B w (L.setIfInBounds k true) w' ∧ AnyS P .any ops Q (StageT ops cls L B w) n (L.setIfInBounds k true) a' w') a w := by
  have hkL : L.getD k true = false := (mem_ready.1 hr).1
  have hkn := (getD_tf hkL).2
  have hset : (L.setIfInBounds k true).getD k false = true := by simp [hkn]
  have hc' := hc.set hr
  -- what is still to come is as it was
  have low : ∀ (p : Nat → Bool), ∀ L' : Array Bool, (∀ h, p h = true → L.getD h true = false → L'.getD h false = false) → ∀ h, p h = true → (L.setIfInBounds k true).getD h true = false → L'.getD h false = false :=
    fun p L' H h hp hh => H h hp (set_gone hh).1
  simp only [TreeRun, TextRun] at h
  split at h
  · rename_i hck
    obtain ⟨o, v, ho, hy, ht⟩ := h
    refine hy.wpOp ho trivial ⟨⟨fun _ => HExt.refl w, fun _ => hB⟩, AnyS.weaken _ _ _ _ (fun L' x _ hS => ⟨fun H => hS.1 (low _ L' H), fun H => hS.2 (low _ L' H)⟩) (ih B _ _ w hd hc' hB ht)⟩
  · obtain ⟨o, v, ho, hy, ht⟩ := h
    refine hy.wpOp ho hB ⟨⟨fun _ => HExt.refl w, fun _ => hB⟩, AnyS.weaken _ _ _ _ (fun L' x _ hS => ⟨fun H => hS.1 (low _ L' H), fun H => hS.2 (low _ L' H)⟩) (ih B _ _ w hd hc' hB ht)⟩
  · obtain ⟨o, v, ho, hy, ht⟩ := h
    refine hy.wpOp ho (HExt.refl w) ⟨⟨fun _ => HExt.refl w, fun _ => hB⟩, AnyS.weaken _ _ _ _ (fun L' x _ hS => ⟨fun H => hS.1 (low _ L' H), fun H => hS.2 (low _ L' H)⟩) (ih B _ _ w hd hc' hB ht)⟩
  · refine wpOp_mono (fun a' w' h' => ?_) h
    obtain ⟨hx, B', hB', hBB, ht⟩ := h'
    exact ⟨⟨fun _ => hx, fun _ => hBB _ hB'⟩, AnyS.weaken _ _ _ _ (fun L' x _ hS => ⟨fun H => hx.trans (hS.1 (low _ L' H)), fun H => hBB _ (hS.2 (low _ L' H))⟩) (ih B' _ a' w' hd hc' hB' ht)⟩
  · rename_i hck
    refine wpOp_mono (fun a' w' h' => ?_) h
    obtain ⟨hB', ht⟩ := h'
    have hh : (cls k).heavy = true := by simp [hck, Cls.heavy]
    refine ⟨⟨fun H => ?_, fun _ => hB'⟩, AnyS.weaken _ _ _ _ (fun L' x hsub hS => ⟨fun H => ?_, fun H => hS.2 (low _ L' H)⟩) (ih B _ a' w' hd hc' hB' ht)⟩
    · have := H k hh hkL; rw [hset] at this; cases this
    · have := H k hh hkL; rw [hsub k hset] at this; cases this
  · rename_i hck
    refine wpOp_mono (fun a' w' h' => ?_) h
    obtain ⟨B', hB', ht⟩ := h'
    have hh : (cls k).heavy = true := by simp [hck, Cls.heavy]
    have hb : (cls k).isBe = true := by simp [hck, Cls.isBe]
    refine ⟨⟨fun H => ?_, fun H => ?_⟩, AnyS.weaken _ _ _ _ (fun L' x hsub hS => ⟨fun H => ?_, fun H => ?_⟩) (ih B' _ a' w' hd hc' hB' ht)⟩
    · have := H k hh hkL; rw [hset] at this; cases this
    · have := H k hb hkL; rw [hset] at this; cases this
    · have := H k hh hkL; rw [hsub k hset] at this; cases this
    · have := H k hb hkL; rw [hsub k hset] at this; cases this

theorem heads_some {cls : Nat → Cls} {ops : Array Oper} {L : Array Bool} : ∀ (t : Tr), drawH ops cls t L = true → ∃ k, k ∈ t.heads
  | .nil, h => by simp [drawH] at h
  | .cons k t, _ => ⟨k, by simp [Tr.heads]⟩
  | .both s t, h => by
    simp only [drawH, Bool.and_eq_true] at h
    obtain ⟨k, hk⟩ := heads_some s h.1.2
    exact ⟨k, by simp [Tr.heads, hk]⟩
theorem heads_ready {cls : Nat → Cls} {ops : Array Oper} {L : Array Bool} : ∀ (t : Tr), drawH ops cls t L = true → ∀ k ∈ t.heads, k ∈ Region.ready .any ops L
  | .nil, h, _, _ => by simp [drawH] at h
  | .cons k t, h, j, hj => by
    simp only [drawH, Bool.and_eq_true] at h
    simp [Tr.heads] at hj; subst hj
    simpa using h.1
  | .both s t, h, j, hj => by
    simp only [drawH, Bool.and_eq_true] at h
    simp only [Tr.heads, List.mem_append] at hj
    rcases hj with hj | hj
    · exact heads_ready s h.1.2 j hj
    · exact heads_ready t h.2 j hj

mutual
theorem tree_any (hsel : Region.noSelect ops = true) (hQ : ∀ c a w (i : Nat) (o : Oper) v, ops[i]? = some o → Q (.panic c) (a.put o.dst v) w → Q (.panic c) a w) :
    ∀ (t : Tr) (B : World → Prop) (L : Array Bool) (a : Act) (w : World), drawT ops cls t L = true → Closed .any ops L → B w → TreeRun P ops Q cls t B a w → AnyS P .any ops Q (StageT ops cls L B w) t.len L a w
  | .nil, B, L, a, w, hd, hc, hB, h => ⟨by simpa [drawT] using hd, h⟩
  | .cons k t, B, L, a, w, hd, hc, hB, h => by
    have ih := fun B L a w h1 h2 h3 h4 => tree_any hsel hQ t B L a w h1 h2 h3 h4
    simp only [drawT, Bool.and_eq_true] at hd
    obtain ⟨hd1, hd2⟩ := hd
    have heavyCase : Region.ready .any ops L = [k] → AnyS P .any ops Q (StageT ops cls L B w) (Tr.cons k t).len L a w := fun hr => by
      have hr' : k ∈ Region.ready .any ops L := by rw [hr]; simp
      exact AnyS.only hr (tree_step hsel hQ ih hr' hd2 hc hB h)
    have quiet : ∀ (o : Oper) (v : Value) (W : World → Prop), ops[k]? = some o → (Region.ready .any ops L).contains k = true → Region.free .any ops L k = true →
        YieldsIf P ops W o v a → (cls k).heavy = false →
        (∀ L' w', Closed .any ops L' → L'.getD k true = false → StageT ops cls L B w L' w' → W w') → TreeRun P ops Q cls t B (a.put o.dst v) w →
        AnyS P .any ops Q (StageT ops cls L B w) (Tr.cons k t).len L a w := by
      intro o v W ho hr hf hy hh hW ht
      have hb : (cls k).isBe = false := by cases hck : cls k <;> simp_all [Cls.heavy, Cls.isBe]
      have hr' : k ∈ Region.ready .any ops L := by simpa using hr
      have now : ∀ L', StageT ops cls L B w L' w := fun L' => ⟨fun _ => HExt.refl w, fun _ => hB⟩
      have hsub := ih B _ _ w hd2 (hc.set hr') hB ht
      refine AnyS.first (W := W) ho (Region.noSelect_spec hsel) (fun c a w hq => hQ c a w k o v ho hq) (fun L' w' h' => ⟨fun H => h'.1 fun x hx hl => ?_, fun H => h'.2 fun x hx hl => ?_⟩) hW t.len L a w hc (Region.free_spec ho hf) hr' hy (now _) (now _)
        (AnyS.weaken _ _ _ _ (fun L' x _ hS => ⟨fun H => hS.1 fun y hy hl => H y hy (set_gone hl).1, fun H => hS.2 fun y hy hl => H y hy (set_gone hl).1⟩) hsub)
      · have hne : k ≠ x := fun e => by subst e; rw [hh] at hx; cases hx
        rw [getD_set_ne false hne]; exact H x hx hl
      · have hne : k ≠ x := fun e => by subst e; rw [hb] at hx; cases hx
        rw [getD_set_ne false hne]; exact H x hx hl
    have h' := h
    simp only [TreeRun, TextRun] at h'
    split at h'
    · rename_i hck
      rw [hck] at hd1
      simp only [Bool.and_eq_true] at hd1
      obtain ⟨o, v, ho, hy, ht⟩ := h'
      exact quiet o v _ ho hd1.1 hd1.2 hy (by simp [hck, Cls.heavy]) (fun _ _ _ _ _ => trivial) ht
    · rename_i hck
      rw [hck] at hd1
      simp only [Bool.and_eq_true] at hd1
      obtain ⟨o, v, ho, hy, ht⟩ := h'
      exact quiet o v _ ho hd1.1.1 hd1.1.2 hy (by simp [hck, Cls.heavy]) (fun L' w' hc' hk' hS' => hS'.2 (allBefore_spec hc' hc.1 hd1.2 hk')) ht
    · rename_i hck
      rw [hck] at hd1
      simp only [Bool.and_eq_true] at hd1
      obtain ⟨o, v, ho, hy, ht⟩ := h'
      exact quiet o v _ ho hd1.1.1 hd1.1.2 hy (by simp [hck, Cls.heavy]) (fun L' w' hc' hk' hS' => hS'.1 (allBefore_spec hc' hc.1 hd1.2 hk')) ht
    · rename_i hck
      rw [hck] at hd1
      exact heavyCase (by simpa using hd1)
    · rename_i hck
      rw [hck] at hd1
      exact heavyCase (by simpa using hd1)
    · rename_i hck
      rw [hck] at hd1
      exact heavyCase (by simpa using hd1)
  | .both s t, B, L, a, w, hd, hc, hB, h => by
    simp only [drawT, Bool.and_eq_true, decide_eq_true_eq] at hd
    obtain ⟨⟨⟨hl, hall⟩, hs⟩, ht⟩ := hd
    have h1 := tree_head hsel hQ s B L a w hs hc hB h.1
    have h2 := tree_head hsel hQ t B L a w ht hc hB h.2
    obtain ⟨n, hn1, hh1⟩ := h1
    obtain ⟨m, hm1, hh2⟩ := h2
    have hnm : m = n := by omega
    subst hnm
    simp only [Tr.len]
    rw [hn1]
    refine ⟨fun h0 => ?_, fun j hj => ?_⟩
    · exfalso
      obtain ⟨k, hk⟩ := heads_some s hs
      have := heads_ready s hs k hk
      rw [h0] at this; cases this
    · have := List.all_eq_true.1 hall j hj
      rw [List.contains_iff_mem, List.mem_append] at this
      rcases this with h | h
      · exact hh1 j h
      · exact hh2 j h
theorem tree_head (hsel : Region.noSelect ops = true) (hQ : ∀ c a w (i : Nat) (o : Oper) v, ops[i]? = some o → Q (.panic c) (a.put o.dst v) w → Q (.panic c) a w) :
    ∀ (t : Tr) (B : World → Prop) (L : Array Bool) (a : Act) (w : World), drawH ops cls t L = true → Closed .any ops L → B w → TreeRun P ops Q cls t B a w →
      ∃ n, t.len = n + 1 ∧ ∀ k ∈ t.heads, wpOp P ops Q k (fun a' w' => StageT ops cls L B w (L.setIfInBounds k true) w' ∧ AnyS P .any ops Q (StageT ops cls L B w) n (L.setIfInBounds k true) a' w') a w
  | .nil, B, L, a, w, hd, hc, hB, h => by simp [drawH] at hd
  | .cons k t, B, L, a, w, hd, hc, hB, h => by
    simp only [drawH, Bool.and_eq_true] at hd
    refine ⟨t.len, rfl, fun j hj => ?_⟩
    simp [Tr.heads] at hj
    subst hj
    exact tree_step hsel hQ (fun B L a w h1 h2 h3 h4 => tree_any hsel hQ t B L a w h1 h2 h3 h4) (by simpa using hd.1) hd.2 hc hB h
  | .both s t, B, L, a, w, hd, hc, hB, h => by
    simp only [drawH, Bool.and_eq_true, decide_eq_true_eq] at hd
    obtain ⟨n, hn, h1⟩ := tree_head hsel hQ s B L a w hd.1.2 hc hB h.1
    obtain ⟨m, hm, h2⟩ := tree_head hsel hQ t B L a w hd.2 hc hB h.2
    have : m = n := by omega
    subst this
    refine ⟨m, by simp only [Tr.len]; exact hn, fun j hj => ?_⟩
    simp only [Tr.heads, List.mem_append] at hj
    rcases hj with hj | hj
    · exact h1 j hj
    · exact h2 j hj
end

/-- A REGION THAT DRAWS ITS ORDER, all its orders that matter. -/
theorem wp_region_tree {id : Nat} {a : Act} {w : World} {t : Tr} (hm : P.follows .mixedOrders = true) (hlen : t.len = ops.size)
    (hsel : Region.noSelect ops = true) (hd : drawT ops cls t (Array.replicate ops.size false) = true)
    (hQ : ∀ c a w (i : Nat) (o : Oper) v, ops[i]? = some o → Q (.panic c) (a.put o.dst v) w → Q (.panic c) a w)
    {B : World → Prop} (hB : B { w with drawn := w.drawn + 1 }) (h : TreeRun P ops Q cls t B a { w with drawn := w.drawn + 1 }) : (Code.region id ops true).wp P Q a w := by
  refine wp_region_any hm ?_
  have hc : Closed .any ops (Array.replicate ops.size false) := ⟨by simp, fun j oj hj hl => by
    exfalso
    rcases Nat.lt_or_ge j ops.size with h' | h'
    · simp [h'] at hl
    · simp [Array.getElem?_eq_none (show (Array.replicate ops.size false).size ≤ j by simpa using h')] at hl⟩
  have := tree_any hsel hQ t B (Array.replicate ops.size false) a _ hd hc hB h
  rw [hlen] at this
  exact this.any

end
end Go.Eng
