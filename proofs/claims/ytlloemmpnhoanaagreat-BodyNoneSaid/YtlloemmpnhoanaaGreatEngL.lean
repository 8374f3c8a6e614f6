/-
  The engine: slices of the call's own, that are appended to; maps.
-/
import Derived.Test.YtlloemmpnhoanaaGreatEngM
import Derived.Laws.Strings
set_option linter.all false
namespace Go.Eng
open Go

/-- a loop whose slots, boxes and memory are told by a state that a person keeps -/
theorem LoopR.on {σ : Type} {body : Post → EnvC → Boxes → Heap → Prop} {Q : Post} {e : EnvC} {bx : Boxes} {h : Heap} (L B : List Nat) (env : σ → EnvC) (bxs : σ → Boxes) (inv : σ → Heap → Prop) (m : σ → Nat) (s0 : σ)
    (h0 : keepS L B e bx fun e' bx' => ∃ s, m s = m s0 ∧ e' = env s ∧ bx' = bxs s ∧ inv s h)
    (h1 : ∀ s h, inv s h → body (fun x e bx h => match x with
      | .normal => ∃ d', d' < m s ∧ keepS L B e bx fun e bx => ∃ s', m s' = d' ∧ e = env s' ∧ bx = bxs s' ∧ inv s' h
      | x => Q x e bx h) (env s) (bxs s) h) : LoopR body Q e bx h := by
  refine LoopR.i L B (fun d e bx h => ∃ s, m s = d ∧ e = env s ∧ bx = bxs s ∧ inv s h) (m s0) h0 ?_
  rintro d e bx h ⟨s, rfl, rfl, rfl, hs⟩
  exact h1 s h hs

/-- sums that stay in their kind -/
theorem wrapI {x : Int} (h1 : -9223372036854775808 ≤ x) (h2 : x ≤ 9223372036854775807) : IntKind.i64.wrap x = x := by
  rw [IntKind.wrap_i64]
  omega
theorem wrapN {x : Int} {n : Nat} (h : x = (n : Int)) (h2 : n ≤ 9223372036854775807) : IntKind.i64.wrap x = (n : Int) := by
  subst h; exact wrapI (by omega) (by omega)

/-- ways that meet: what holds there is shown once -/
theorem MeetR.share {first : Post → EnvC → Boxes → Heap → Prop} {rest : EnvC → Boxes → Heap → Prop} {Q : Post} {e : EnvC} {bx : Boxes} {h : Heap} (I : EnvC → Boxes → Heap → Prop)
    (h1 : ∀ rest' : EnvC → Boxes → Heap → Prop, (∀ e bx h, I e bx h → rest' e bx h) → first (fun x e bx h => match x with | .normal => rest' e bx h | x => Q x e bx h) e bx h)
    (h2 : ∀ e bx h, I e bx h → rest e bx h) : MeetR first rest Q e bx h := MeetR.pass (h1 rest h2)

/-- texts -/
theorem toList_beq (a b : ByteArray) : (a.toList == b.toList) = decide (a = b) := by
  rw [ByteArray.toList_eq, ByteArray.toList_eq]
  have : (a.data.toList = b.data.toList) ↔ a = b := ⟨fun h => by cases a; cases b; congr; exact Array.toList_inj.1 h, fun h => by rw [h]⟩
  by_cases h : a = b
  · subst h; simp
  · have h' : ¬ a.data.toList = b.data.toList := fun e => h (this.1 e)
    rw [decide_eq_false h]; exact beq_eq_false_iff_ne.2 h'
theorem intBeq (a b : Int) : (a == b) = decide (a = b) := rfl
theorem bif_or (a b : Bool) : (bif a then true else b) = (a || b) := by cases a <;> rfl
theorem bif_and (a b : Bool) : (bif a then b else false) = (a && b) := by cases a <;> rfl

/-- the block of an address -/
def blkA : Option Addr → List Nat
  | none => []
  | some a => [a.block]

/-- a slice from its block's first cell on, all of whose cells are known, and which nobody else writes -/
def Own (h : Heap) (e : TypeId) (sz : Nat) (a : Option Addr) (len cap : Nat) (l : List Value) : Prop :=
  (a = none ∧ len = 0 ∧ cap = 0 ∧ l = []) ∨
  ∃ b c, a = some ⟨b, 0, none⟩ ∧ h[b]? = some (.cells ⟨c⟩ e (0, 0)) ∧ c.take l.length = l ∧ c.length = cap * sz ∧ l.length = len * sz ∧ len ≤ cap

theorem Own.keep {h h' : Heap} {M : List Nat} {e : TypeId} {sz : Nat} {a : Option Addr} {len cap : Nat} {l : List Value} (o : Own h e sz a len cap l) (k : Keeps M h h') (hm : ∀ b ∈ blkA a, b ∉ M) : Own h' e sz a len cap l := by
  rcases o with o | ⟨b, c, h1, h2, h3⟩
  · exact .inl o
  · exact .inr ⟨b, c, h1, k.obj h2 (hm b (by simp [h1, blkA])), h3⟩

theorem Own.nil (h : Heap) (e : TypeId) (sz : Nat) : Own h e sz none 0 0 [] := .inl ⟨rfl, rfl, rfl, rfl⟩

theorem Own.lt {h : Heap} {e : TypeId} {sz : Nat} {a : Option Addr} {len cap : Nat} {l : List Value} (o : Own h e sz a len cap l) : ∀ b ∈ blkA a, b < h.size := by
  intro b hb
  rcases o with ⟨rfl, _⟩ | ⟨b', c, rfl, h2, _⟩
  · cases hb
  · simp [blkA] at hb; subst hb; exact obj_lt h2

/-- cells that are those of these, one behind the other -/
def Reps {α : Type} [Rp α] (h : Heap) : List Value → List α → Prop
  | l, [] => l = []
  | l, x :: xs => ∃ cs r, l = cs ++ r ∧ rep h cs x ∧ Reps h r xs

theorem Reps.snoc {α : Type} [Rp α] {h : Heap} : ∀ {xs : List α} {l : List Value} {cs : List Value} {x : α}, Reps h l xs → rep h cs x → Reps h (l ++ cs) (xs ++ [x])
  | [], l, cs, x, h1, h2 => by
    simp only [Reps] at h1; subst h1
    exact ⟨cs, [], by simp, h2, rfl⟩
  | y :: ys, l, cs, x, h1, h2 => by
    obtain ⟨c, r, rfl, h3, h4⟩ := h1
    exact ⟨c, r ++ cs, by simp, h3, Reps.snoc h4 h2⟩

theorem Reps.len {α : Type} [Rp α] {h : Heap} : ∀ {xs : List α} {l : List Value}, Reps h l xs → l.length = xs.length * Rp.n α
  | [], l, h1 => by simp only [Reps] at h1; subst h1; simp
  | y :: ys, l, h1 => by
    obtain ⟨c, r, rfl, h3, h4⟩ := h1
    rw [List.length_append, Rp.len h3, h4.len, List.length_cons, Nat.add_mul]; omega

theorem Reps.keep {α : Type} [Rp α] {h h' : Heap} (k : Keeps [] h h') : ∀ {xs : List α} {l : List Value}, Reps h l xs → Reps h' l xs
  | [], l, h1 => h1
  | y :: ys, l, h1 => by
    obtain ⟨c, r, rfl, h3, h4⟩ := h1
    exact ⟨c, r, rfl, Rp.keep k h3, h4.keep k⟩

theorem Reps.at_ {α : Type} [Rp α] {h : Heap} : ∀ {xs : List α} {l : List Value}, Reps h l xs → ∀ i (hi : i < xs.length), ∃ cs, rep h cs xs[i] ∧ ∀ j, j < cs.length → l[i * Rp.n α + j]? = cs[j]?
  | [], l, h1, i, hi => absurd hi (by simp)
  | y :: ys, l, h1, 0, hi => by
    obtain ⟨c, r, rfl, h3, h4⟩ := h1
    exact ⟨c, h3, fun j hj => by rw [Nat.zero_mul, Nat.zero_add, List.getElem?_append_left hj]⟩
  | y :: ys, l, h1, i + 1, hi => by
    obtain ⟨c, r, rfl, h3, h4⟩ := h1
    obtain ⟨cs, h5, h6⟩ := h4.at_ i (by simpa using hi)
    refine ⟨cs, h5, fun j hj => ?_⟩
    have := Rp.len h3
    rw [Nat.add_mul, Nat.one_mul, List.getElem?_append_right (by omega), ← h6 j hj]
    congr 1; omega

/-- such a slice holds these -/
theorem Own.sl {α : Type} [Rp α] {h : Heap} {e : TypeId} {sz : Nat} {a : Option Addr} {len cap : Nat} {l : List Value} {xs : List α} (o : Own h e sz a len cap l) (r : Reps h l xs) (hs : sz = Rp.n α) (hp : 0 < sz) (hb : xs.length ≤ 281474976710656) : Sl h a len cap xs := by
  subst hs
  have hr := r.len
  rcases o with ⟨rfl, rfl, rfl, rfl⟩ | ⟨b, c, rfl, h2, h3, h4, h5, h6⟩
  · have : xs = [] := by
      have h0 : xs.length * Rp.n α = 0 := by simpa using hr.symm
      rcases Nat.mul_eq_zero.1 h0 with h | h
      · exact List.eq_nil_of_length_eq_zero h
      · omega
    subst this; exact Sl.nil
  · have hl : len = xs.length := Nat.eq_of_mul_eq_mul_right hp (h5.symm.trans hr)
    refine ⟨hl, h6, hb, fun i hi => ?_⟩
    obtain ⟨cs, h7, h8⟩ := r.at_ i hi
    refine ⟨b, 0, rfl, cs, h7, fun j hj => ?_⟩
    rw [← h8 j hj, ← h3]
    have hcs := Rp.len h7
    have hlt : i * Rp.n α + j < l.length := by
      rw [hr]
      have := Nat.mul_le_mul_right (Rp.n α) (show i + 1 ≤ xs.length by omega)
      rw [Nat.add_mul] at this; omega
    have hlc : l.length ≤ c.length := by rw [h4, h5]; exact Nat.mul_le_mul_right _ h6
    simp only [Heap.cell?, h2, Nat.zero_add]
    rw [List.getElem?_take, if_pos hlt]
    simp

theorem growBy_le : ∀ (r need c : Nat), Builtin.growBy need r c ≤ max c (2 * need + 192)
  | 0, need, c => by simp [Builtin.growBy]; omega
  | r + 1, need, c => by
    simp only [Builtin.growBy]
    split
    · omega
    · have := growBy_le r need (c + (c + 768) / 4)
      omega

theorem nextcap_le (need old : Nat) (h : old < need) : Builtin.nextslicecap need old ≤ 2 * need + 192 := by
  unfold Builtin.nextslicecap
  split
  · omega
  · split
    · omega
    · have := growBy_le 4 need old; omega

theorem loadCells_run {P : Program} {w : World} {b off n : Nat} {vs : List Value} (hn : vs.length = n) (hc : ∀ k, k < n → Heap.cell? w.heap b (off + k) = vs[k]?) :
    (loadCells ⟨b, off, none⟩ n).run P w = .ok ⟨vs⟩ w := by
  unfold loadCells
  rw [load_cells n 0 off vs #[] hn (by simpa using hc)]
  simp

theorem zeroCells_eq (z : Array Value) (n : Nat) : ∃ l : List Value, Builtin.zeroCells z n = ⟨l⟩ ∧ l.length = n * z.size := by
  refine ⟨(Builtin.zeroCells z n).toList, rfl, by simp [Builtin.zeroCells]⟩

theorem cut_cap (need old : Nat) (e : TypeId) (t : Nat) (hb : need < 2 ^ 63) : ∃ c, (Question.appendCap need old e).cut t = c ∧ need ≤ c ∧ (Question.appendCap need old e).forced = false :=
  ⟨_, rfl, by simp only [Question.cut]; omega, rfl⟩

theorem splice_take : ∀ (off : Nat) (vs c : List Value), off + vs.length ≤ c.length → (spliceL off vs c).take (off + vs.length) = c.take off ++ vs
  | 0, [], c, _ => by simp [splice_nil]
  | 0, v :: vs, [], h => by simp at h
  | 0, v :: vs, x :: c, h => by
    have := splice_take 0 vs c (by simp at h ⊢; omega)
    simp only [spliceL]
    simp at this
    simp [this]
  | off + 1, vs, [], h => by simp at h
  | off + 1, vs, x :: c, h => by
    have := splice_take off vs c (by simp at h; omega)
    simp only [spliceL]
    rw [show off + 1 + vs.length = (off + vs.length) + 1 by omega, List.take_succ_cons, this, List.take_succ_cons]
    rfl

/-- APPEND, of elements that lie somewhere, onto a slice of the call's own. -/
theorem append_own {P : Program} {sT xT ty e : TypeId} {sz by_ : Nat} {z : Value} {i : TypeInfo} (hu : P.underlying sT = some (.slice e)) (hx : P.underlying xT = some (.slice e)) (hi : P.info? e = some i)
    (hsz : i.size = sz) (hby : i.bytes = by_) (hz : i.zero = some z) (hzc : (cellsOf z).length = sz)
    {h : Heap} {a : Option Addr} {len cap : Nat} {l : List Value} (o : Own h e sz a len cap l) {xb xo n xc : Nat} {new : List Value} (hn : new.length = n * sz) (hnew : ∀ j, j < new.length → Heap.cell? h xb (xo + j) = new[j]?)
    (hone : allOne new = true) (hbig : (2 * (len + n) + 192) * by_ ≤ 2 ^ 48) (hby0 : 0 < by_) {bs : List Nat} (hbs : ∀ b ∈ blkA a, b ∉ bs) {K : Value → Heap → Prop}
    (H : ∀ a' cap' h', Own h' e sz a' (len + n) cap' (l ++ new) → Keeps (blkA a) h h' → (∀ b ∈ blkA a', b ∈ blkA a ∨ h.size ≤ b) → K (.slice a' (len + n) cap') h') :
    SemR P (Builtin.append_ #[sT, xT] ty ⟨[.slice a len cap, .slice (some ⟨xb, xo, none⟩) n xc]⟩) bs h K := by
  unfold SemR
  intro hlt w hw
  subst hw
  have hsize : (sizeOf e).run P w = .ok sz w := by simp [sizeOf, typeInfo_run P e w hi, hsz]
  have hnewL : (loadCells ⟨xb, xo, none⟩ (n * sz)).run P w = .ok ⟨new⟩ w := loadCells_run hn (fun k hk => hnew k (by omega))
  have hneed : len + n < 2 ^ 48 := by
    have : 2 * (len + n) + 192 ≤ (2 * (len + n) + 192) * by_ := Nat.le_mul_of_pos_right _ hby0
    omega
  by_cases hfit : len + n ≤ cap
  · rcases o with ⟨rfl, rfl, rfl, rfl⟩ | ⟨b, c, rfl, h2, h3, h4, h5, h6⟩
    · have hn0 : n = 0 := by omega
      subst hn0
      have hnil : new = [] := by simpa using hn
      subst hnil
      refine ⟨_, w, ?_, SameOut.refl w, fun b _ => rfl, H none 0 w.heap (.inl ⟨rfl, rfl, rfl, rfl⟩) (Keeps.refl _ _) (by simp [blkA])⟩
      simp only [Nat.zero_mul] at hnewL
      simp [Builtin.append_, Sem.run_bind, underlying_run P sT w hu, underlying_run P xT w hx, hsize, Builtin.lenOf, Builtin.firstCells, hnewL]
    · have hroom : len * sz + new.length ≤ c.length := by
        rw [hn, h4, ← Nat.add_mul]; exact Nat.mul_le_mul_right _ hfit
      obtain ⟨w', r1, r2, r3, r4, r5⟩ := store_cells (P := P) new 0 (len * sz) c w (allOne_one' hone) (by simpa using hroom) h2
      refine ⟨_, w', ?_, r2, fun b' hb' => r5 b' (fun e => hbs b (by simp [blkA]) (e ▸ hb')), H (some ⟨b, 0, none⟩) cap w'.heap (.inr ⟨b, _, rfl, r4, ?_, ?_, ?_, hfit⟩) ⟨by omega, fun b' _ hb' => r5 b' (by simpa [blkA] using hb')⟩ (fun b' hb' => .inl hb')⟩
      · simp [Builtin.append_, underlying_run P sT w hu, hsize, underlying_run P xT w hx, Builtin.lenOf, hfit, Builtin.firstCells, hnewL, addr_add]
        rw [r1]
        rfl
      · have := splice_take (len * sz) new c (by omega)
        simp only [Nat.add_zero]
        rw [List.length_append, h5, this, ← h5, h3]
      · simp only [Nat.add_zero, spliceL_length]; exact h4
      · simp [h5, hn, Nat.add_mul]
  · have hold : (Builtin.firstCells sz len (.slice a len cap)).run P w = .ok ⟨l⟩ w := by
      rcases o with ⟨rfl, rfl, rfl, rfl⟩ | ⟨b, c, rfl, h2, h3, h4, h5, h6⟩
      · simp [Builtin.firstCells]
      · simp only [Builtin.firstCells]
        refine loadCells_run h5 (fun k hk => ?_)
        have : l.length ≤ c.length := by rw [h4, h5]; exact Nat.mul_le_mul_right _ h6
        have hk' : k < l.length := by omega
        simp only [Heap.cell?, h2, Nat.zero_add]
        rw [← h3]
        simp [hk', show k < c.length by omega]
    have hcap : cap < len + n := by omega
    have hncap := nextcap_le (len + n) cap hcap
    obtain ⟨nc, hnc, hle, hforced⟩ := cut_cap (len + n) cap e (w.tape w.drawn (.appendCap (len + n) cap e)) (by omega)
    obtain ⟨zl, hzl, hzlen⟩ := zeroCells_eq z.cells (nc - (len + n))
    have hz' : z.cells.size = sz := by rw [cellsOf_eq]; simpa using hzc
    let w1 : World := w.drew
    let w2 : World := { w1 with heap := w.heap.push (.cells ⟨l ++ new ++ zl⟩ e) }
    have hl : l.length = len * sz := by
      rcases o with ⟨rfl, rfl, rfl, rfl⟩ | ⟨b, c, rfl, h2, h3, h4, h5, h6⟩
      · simp
      · exact h5
    refine ⟨.slice (some ⟨w.heap.size, 0, none⟩) (len + n) nc, w2, ?_, ⟨rfl, rfl, rfl⟩, fun b hb => ?_, H _ nc w2.heap (.inr ⟨w.heap.size, l ++ new ++ zl, rfl, ?_, ?_, ?_, ?_, hle⟩) ?_ ?_⟩
    · have hold1 : (Builtin.firstCells sz len (.slice a len cap)).run P w1 = .ok ⟨l⟩ w1 := by
        rcases o with ⟨rfl, rfl, rfl, rfl⟩ | ⟨b, c, rfl, h2, h3, h4, h5, h6⟩
        · simp [Builtin.firstCells]
        · simp only [Builtin.firstCells]
          refine loadCells_run h5 (fun k hk => ?_)
          have : l.length ≤ c.length := by rw [h4, h5]; exact Nat.mul_le_mul_right _ h6
          have hk' : k < l.length := by omega
          show Heap.cell? w.heap _ _ = _
          simp only [Heap.cell?, h2, Nat.zero_add]
          rw [← h3]
          simp [hk', show k < c.length by omega]
      have hnew1 : (loadCells ⟨xb, xo, none⟩ (n * sz)).run P w1 = .ok ⟨new⟩ w1 := loadCells_run (w := w1) hn (fun k hk => hnew k (by omega))
      have hzv : (zeroValue e).run P w1 = .ok z w1 := by simp [zeroValue, typeInfo_run P e w1 hi, hz]
      have hch : (choose (.appendCap (len + n) cap e)).run P w = .ok nc w1 := by rw [run_choose, hforced]; simp [hnc, w1]
      have hb1 : ¬ (Builtin.nextslicecap (len + n) cap * by_ > 2 ^ 48) := by
        have := Nat.mul_le_mul_right by_ hncap
        omega
      have hti : (typeInfo e).run P w = .ok i w := typeInfo_run P e w hi
      have hti1 : (typeInfo e).run P w1 = .ok i w1 := typeInfo_run P e w1 hi
      have hbz : ¬ (by_ = 0) := by omega
      have hold2 : (Builtin.firstCells sz len (.slice a len cap)).run P w.drew = .ok ⟨l⟩ w.drew := hold1
      have hnew2 : (Builtin.firstCells sz n (.slice (some ⟨xb, xo, none⟩) n xc)).run P w.drew = .ok ⟨new⟩ w.drew := hnew1
      have hzv2 : (zeroValue e).run P w.drew = .ok z w.drew := hzv
      have hti2 : (typeInfo e).run P w.drew = .ok i w.drew := hti1
      have hb2 : ¬ (281474976710656 < Builtin.nextslicecap (len + n) cap * by_) := hb1
      simp [Builtin.append_, underlying_run P sT w hu, hsize, underlying_run P xT w hx, Builtin.lenOf, hfit, hti, hbz, hb2, hby, hforced, hnc, hti2, hold2, hnew2, hzv2, hzl, newRow, w2]
      rfl
    · show (w.heap.push _)[b]? = _
      rw [push_get, if_neg (by have := hlt b hb; omega)]
    · show (w.heap.push _)[w.heap.size]? = _
      rw [push_get, if_pos rfl]
    · rw [List.take_append_of_le_length (by simp)]; exact List.take_of_length_le (by simp)
    · rw [List.length_append, List.length_append, hzlen, hz', hl, hn, ← Nat.add_mul, ← Nat.add_mul]
      congr 1; omega
    · rw [List.length_append, hl, hn, Nat.add_mul]
    · exact (keeps_push w.heap _).mono (by simp)
    · intro b hb; simp [blkA] at hb; right; omega


/-! ### Maps with whole numbers as keys: their entries in the order in which they came in -/

def MapL (h : Heap) (r : Nat) (m : List (Int × Value)) : Prop :=
  ∃ es cl, h[r]? = some (.map es cl) ∧ es.toList.map (fun e => (e.key, e.val)) = m.map (fun p => (Value.int .i64 p.1, p.2)) ∧ (m.map (·.1)).Nodup ∧
    (es.toList.map (·.born)).Nodup ∧ ∀ e ∈ es.toList, e.born < cl

theorem MapL.keep {M : List Nat} {h h' : Heap} {r : Nat} {m : List (Int × Value)} (o : MapL h r m) (k : Keeps M h h') (hm : r ∉ M) : MapL h' r m := by
  obtain ⟨es, cl, h1, h2⟩ := o
  exact ⟨es, cl, k.obj h1 hm, h2⟩

theorem MapL.new {h : Heap} {r : Nat} (hr : h[r]? = some (.map #[] 0)) : MapL h r [] := ⟨#[], 0, hr, by simp, by simp, by simp, by simp⟩
theorem MapL.lt {h : Heap} {r : Nat} {m : List (Int × Value)} (o : MapL h r m) : r < h.size := by
  obtain ⟨es, cl, h1, _⟩ := o; exact obj_lt h1

/-- what a list of entries has for a key -/
def lookI : List (Int × Value) → Int → Option Value
  | [], _ => none
  | (k, v) :: r, n => if n = k then some v else lookI r n

def putI : List (Int × Value) → Int → Value → List (Int × Value)
  | [], n, v => [(n, v)]
  | (k, u) :: r, n, v => if n = k then (k, v) :: r else (k, u) :: putI r n v

theorem lookI_put : ∀ (m : List (Int × Value)) (n : Int) (v : Value) (k : Int), lookI (putI m n v) k = if k = n then some v else lookI m k
  | [], n, v, k => by simp [putI, lookI]
  | (k', u) :: r, n, v, k => by
    by_cases h : n = k'
    · subst h; simp only [putI, if_true, lookI]; split <;> simp_all
    · simp only [putI, if_neg h, lookI]
      rw [lookI_put r n v k]
      by_cases h2 : k = k'
      · subst h2; simp [Ne.symm h]
      · simp [h2]

theorem putI_keys : ∀ (m : List (Int × Value)) (n : Int) (v : Value), (putI m n v).map (·.1) = if n ∈ m.map (·.1) then m.map (·.1) else m.map (·.1) ++ [n]
  | [], n, v => by simp [putI]
  | (k, u) :: r, n, v => by
    by_cases h : n = k
    · subst h; simp [putI]
    · simp only [putI, if_neg h, List.map_cons, putI_keys r n v]
      by_cases h2 : n ∈ r.map (·.1)
      · rw [if_pos h2, if_pos (by simp [h2])]
      · rw [if_neg h2, if_neg (by simp only [List.mem_cons, not_or]; exact ⟨h, h2⟩)]; simp

theorem findNow_look : ∀ (es : List MapEntry) (m : List (Int × Value)) (n : Int) (i : Nat), es.map (fun e => (e.key, e.val)) = m.map (fun p => (Value.int .i64 p.1, p.2)) →
    (∃ r, Instr.findNow (.int .i64) (.int .i64 n) es i = some r ∧ r.map (·.2) = lookI m n ∧ ∀ p, r = some p → ∃ j, p.1 = i + j ∧ j < es.length ∧ (m[j]?).map (·.1) = some n)
  | [], [], n, i, _ => ⟨none, rfl, rfl, fun p h => by cases h⟩
  | [], _ :: _, n, i, h => by simp at h
  | _ :: _, [], n, i, h => by simp at h
  | e :: es, (k, v) :: m, n, i, h => by
    simp only [List.map_cons, List.cons.injEq, Prod.mk.injEq] at h
    obtain ⟨⟨h1, h2⟩, h3⟩ := h
    simp only [Instr.findNow, h1, Instr.sameNow, if_true]
    by_cases hk : n = k
    · subst hk
      simp only [beq_self_eq_true]
      exact ⟨_, rfl, by simp [lookI, h2], fun p hp => by cases hp; exact ⟨0, rfl, by simp, by simp⟩⟩
    · have : (n == k) = false := by simp [hk]
      simp only [this]
      obtain ⟨r, h4, h5, h6⟩ := findNow_look es m n (i + 1) h3
      refine ⟨r, h4, by simp [lookI, hk, h5], fun p hp => ?_⟩
      obtain ⟨j, h7, h8, h9⟩ := h6 p hp
      exact ⟨j + 1, by omega, by simp; omega, by simpa using h9⟩

theorem LookR.int {c : Option Bool} {h : Heap} {r : Nat} {n : Int} {K : Option Value → Prop} {m : List (Int × Value)} (o : MapL h r m) (hK : K (lookI m n)) : LookR c h (.int .i64) r (.int .i64 n) K := by
  obtain ⟨es, cl, h1, h2, _⟩ := o
  obtain ⟨q, h3, h4, _⟩ := findNow_look es.toList m n 0 h2
  exact LookR.i ⟨es, cl, h1, by rw [h3]; simp [h4]⟩ hK

theorem LookR.is {c : Option Bool} {h : Heap} {r : Nat} {n : Int} {K : Option Value → Prop} {m : List (Int × Value)} {o : Option Value} (hm : MapL h r m) (ho : lookI m n = o) (hK : K o) : LookR c h (.int .i64) r (.int .i64 n) K := by
  subst ho; exact LookR.int hm hK

/-- where it's all the same whether nothing or a nought is there -/
theorem LookR.z {c : Option Bool} {h : Heap} {r : Nat} {n : Int} {K : Option Value → Prop} {m : List (Int × Value)} (z : Value) {v : Value} (hm : MapL h r m) (hz : K none = K (some z)) (hv : (lookI m n).getD z = v) (hK : K (some v)) : LookR c h (.int .i64) r (.int .i64 n) K := by
  refine LookR.int hm ?_
  subst hv
  cases hl : lookI m n with
  | none => rw [hz]; simpa [hl] using hK
  | some v => simpa [hl] using hK

theorem LenR.int {c : Option Bool} {h : Heap} {r : Nat} {K : Nat → Prop} {m : List (Int × Value)} (o : MapL h r m) (hK : K m.length) : LenR c h r K := by
  obtain ⟨es, cl, h1, h2, _⟩ := o
  refine LenR.i ⟨es, cl, h1, ?_⟩ hK
  have := congrArg List.length h2
  simpa using this

theorem put_modify : ∀ (es : List MapEntry) (m : List (Int × Value)) (n : Int) (v : Value) (j : Nat), es.map (fun e => (e.key, e.val)) = m.map (fun p => (Value.int .i64 p.1, p.2)) → (m.map (·.1)).Nodup →
    (m[j]?).map (·.1) = some n → (es.modify j fun e => { e with key := .int .i64 n, val := v }).map (fun e => (e.key, e.val)) = (putI m n v).map (fun p => (Value.int .i64 p.1, p.2))
  | [], [], n, v, j, _, _, h => by simp at h
  | [], _ :: _, n, v, j, h, _, _ => by simp at h
  | _ :: _, [], n, v, j, h, _, _ => by simp at h
  | e :: es, (k, u) :: m, n, v, 0, h, hd, hj => by
    simp only [List.map_cons, List.cons.injEq, Prod.mk.injEq] at h
    simp at hj; subst hj
    simp [putI, h.2]
  | e :: es, (k, u) :: m, n, v, j + 1, h, hd, hj => by
    simp only [List.map_cons, List.cons.injEq, Prod.mk.injEq] at h
    simp only [List.map_cons, List.nodup_cons] at hd
    have hne : n ≠ k := by
      rintro rfl
      refine hd.1 ?_
      simp only [List.getElem?_cons_succ, Option.map_eq_some_iff] at hj
      obtain ⟨p, hp, rfl⟩ := hj
      exact List.mem_map.2 ⟨p, List.mem_of_getElem? hp, rfl⟩
    have := put_modify es m n v j h.2 hd.2 (by simpa using hj)
    simp [putI, hne, h.1, this]

theorem put_push : ∀ (m : List (Int × Value)) (n : Int) (v : Value), lookI m n = none → putI m n v = m ++ [(n, v)]
  | [], n, v, _ => rfl
  | (k, u) :: m, n, v, h => by
    simp only [lookI] at h
    split at h
    · cases h
    · rename_i hne
      simp [putI, hne, put_push m n v h]

theorem getObj_run {P : Program} {w : World} {r : Nat} {es : Array MapEntry} {cl : Nat} (h : w.heap[r]? = some (.map es cl)) : (getObj r).run P w = .ok (.map es cl) w := by simp [getObj, Sem.run, h]
theorem setObj_run {P : Program} {w : World} {r : Nat} {es : Array MapEntry} {cl : Nat} (h : w.heap[r]? = some (.map es cl)) (o : Obj) : (setObj r o).run P w = .ok () { w with heap := w.heap.setIfInBounds r o } := by simp [setObj, Sem.run, h]

theorem set_get (h : Heap) (r : Nat) (o : Obj) (b : Nat) (hr : r < h.size) : (h.setIfInBounds r o)[b]? = if b = r then some o else h[b]? := by
  by_cases e : b = r
  · subst e; simp [hr]
  · simp [e, Array.getElem?_setIfInBounds_ne (Ne.symm e)]
theorem keeps_set (h : Heap) (r : Nat) (o : Obj) (hr : r < h.size) : Keeps [r] h (h.setIfInBounds r o) := ⟨by simp, fun b _ hn => by rw [set_get h r o b hr, if_neg (by simpa using hn)]⟩

/-- STORE INTO A MAP -/
theorem SemR.put {P : Program} {T kT eT : TypeId} (hu : P.underlying T = some (.map kT eT)) (hk : P.underlying kT = some (.int .i64)) {h : Heap} {r : Nat} {m : List (Int × Value)} (o : MapL h r m) {n : Int} {v : Value} {bs : List Nat} (hb : r ∉ bs)
    {K : Unit → Heap → Prop} (H : ∀ h', h'.size = h.size → MapL h' r (putI m n v) → Keeps [r] h h' → K () h') : SemR P (Instr.mapUpdate T (.map (some r)) (.int .i64 n) v) bs h K := by
  unfold SemR
  intro hlt w hw
  subst hw
  have hr := o.lt
  obtain ⟨es, cl, h1, h2, h3, h4, h5⟩ := o
  obtain ⟨q, h6, h7, h8⟩ := findNow_look es.toList m n 0 h2
  have fin : ∀ (ob : Obj), (∀ h' : Heap, h'[r]? = some ob → MapL h' r (putI m n v)) → (Instr.mapUpdate T (.map (some r)) (.int .i64 n) v).run P w = .ok () { w with heap := w.heap.setIfInBounds r ob } →
      ∃ v' w', (Instr.mapUpdate T (.map (some r)) (.int .i64 n) v).run P w = .ok v' w' ∧ SameOut w w' ∧ (∀ b ∈ bs, w'.heap[b]? = w.heap[b]?) ∧ K v' w'.heap := fun ob hm hrun => by
    refine ⟨(), _, hrun, ⟨rfl, rfl, rfl⟩, fun b hb' => ?_, H _ (by simp) (hm _ (by rw [set_get _ _ _ _ hr, if_pos rfl])) (keeps_set _ _ _ hr)⟩
    show (w.heap.setIfInBounds r ob)[b]? = _
    rw [set_get _ _ _ _ hr, if_neg (by intro e; subst e; exact hb hb')]
  cases q with
  | none =>
    have hl : lookI m n = none := by simpa using h7.symm
    refine fin (.map (es.push { key := .int .i64 n, val := v, born := cl }) (cl + 1)) (fun h' hh => ⟨_, _, hh, ?_, ?_, ?_, ?_⟩) ?_
    · simp only [Array.toList_push, List.map_append, List.map_cons, List.map_nil, h2, put_push m n v hl]
    · rw [put_push m n v hl]
      simp only [List.map_append, List.map_cons, List.map_nil]
      refine List.nodup_append.2 ⟨h3, by simp, ?_⟩
      intro a ha b hb hab
      simp at hb; subst hb; subst hab
      clear h7 h8 h6 fin
      induction m generalizing es with
      | nil => cases ha
      | cons p m ih =>
        obtain ⟨k, u⟩ := p
        simp only [lookI] at hl
        split at hl
        · cases hl
        · rename_i hne
          simp only [List.map_cons, List.mem_cons] at ha
          rcases ha with ha | ha
          · exact hne ha
          · have hm2 : m.map (·.1) = m.map (·.1) := rfl
            exact absurd ha (by
              clear ih
              intro ha
              have : ∀ (m : List (Int × Value)) (a : Int), lookI m a = none → a ∉ m.map (·.1) := by
                intro m
                induction m with
                | nil => intro a _ h; cases h
                | cons p m ih =>
                  intro a hl h
                  obtain ⟨k, u⟩ := p
                  simp only [lookI] at hl
                  split at hl
                  · cases hl
                  · rename_i hne
                    simp only [List.map_cons, List.mem_cons] at h
                    rcases h with h | h
                    · exact hne h
                    · exact ih a hl h
              exact this m a hl ha)
    · simp only [Array.toList_push, List.map_append, List.map_cons, List.map_nil]
      refine List.nodup_append.2 ⟨h4, by simp, ?_⟩
      intro a ha b hb hab
      simp at hb; subst hb; subst hab
      obtain ⟨e, he, hee⟩ := List.mem_map.1 ha
      have := h5 e he
      omega
    · intro e he
      simp only [Array.toList_push, List.mem_append, List.mem_singleton] at he
      rcases he with he | rfl
      · have := h5 e he; omega
      · simp
    · simp only [Instr.mapUpdate, Sem.run_bind, underlying_run P T w hu, Result.andThen_ok, getObj_run h1]
      rw [checkKey_plain hk (.inl ⟨_, rfl⟩)]
      simp only [Result.andThen_ok, findKey_now hk h6 w, setObj_run h1]
  | some p =>
    obtain ⟨j, hj1, hj2, hj3⟩ := h8 p rfl
    have hj : p.1 = j := by omega
    have hjl : j < es.size := by simpa using hj2
    have hkey : (es[j]'hjl).key = .int .i64 n := by
      have := congrArg (fun l => l[j]?) h2
      simp only [List.getElem?_map] at this
      cases hm : m[j]? with
      | none => rw [hm] at hj3; simp at hj3
      | some q =>
        rw [hm] at this hj3
        simp at hj3
        simp [hjl] at this
        rw [this.1, hj3]
    refine fin (.map (es.modify j fun e => { e with key := .int .i64 n, val := v }) cl) (fun h' hh => ⟨_, _, hh, ?_, ?_, ?_, ?_⟩) ?_
    · rw [Array.toList_modify]; exact put_modify es.toList m n v j h2 h3 hj3
    · rw [putI_keys]
      have : n ∈ m.map (·.1) := by
        simp only [Option.map_eq_some_iff] at hj3
        obtain ⟨q, hq, rfl⟩ := hj3
        exact List.mem_map.2 ⟨q, List.mem_of_getElem? hq, rfl⟩
      rw [if_pos this]; exact h3
    · have : (es.modify j fun e => { e with key := .int .i64 n, val := v }).toList.map (·.born) = es.toList.map (·.born) := by
        rw [Array.toList_modify]
        apply List.ext_getElem?
        intro i
        simp only [List.getElem?_map, List.getElem?_modify]
        cases es.toList[i]? with
        | none => simp
        | some e => by_cases hij : j = i <;> simp [hij]
      rw [this]; exact h4
    · intro e he
      rw [Array.toList_modify] at he
      obtain ⟨i, hi⟩ := List.getElem?_of_mem he
      rw [List.getElem?_modify] at hi
      cases hee : es.toList[i]? with
      | none => rw [hee] at hi; simp at hi
      | some e0 =>
        rw [hee] at hi
        simp at hi
        have := h5 e0 (List.mem_of_getElem? hee)
        rw [← hi]
        split <;> simpa using this
    · simp only [Instr.mapUpdate, Sem.run_bind, underlying_run P T w hu, Result.andThen_ok, getObj_run h1]
      rw [checkKey_plain hk (.inl ⟨_, rfl⟩)]
      simp only [Result.andThen_ok, findKey_now hk h6 w]
      rw [hj]
      have hold : ((es[j]?).map (·.key)).getD (Value.int .i64 n) = .int .i64 n := by simp [hjl, hkey]
      simp only [hold, Instr.keyThatStays, Instr.sameBits, beq_self_eq_true, Bool.and_self, if_true, Sem.run_bind, Sem.run_pure, Result.andThen_ok, setObj_run h1]

end Go.Eng
