/-
  Joined texts: EngU, BodyF, BodyG, BodyH, BodyI, BodyJ, BodyK, BodyL, BodyM, BodyN, EngE.
-/
import Derived.Test.YteambknhlbiajaaGreatDoorJLawFApartc
import Derived.Laws.IdiomStrings
import Derived.Lib.UnsafeStr
import Derived.Lib.Builder
import Derived.Laws.Externs
import Derived.Lib.MakeNoZero
import Derived.Test.YteambknhlbiajaaGreatDoorJLawFApartd
import Derived.Laws.StructEq
import Derived.ChangeKeysEq
/-
  The engine, for its user: texts as bytes, buffers that are written on behind what a text shares.
-/
set_option linter.all false
namespace Go.Eng
open Go

theorem bytesV_len (s : ByteArray) : (bytesV s).length = s.size := by simp [bytesV]
def bytesL (l : List UInt8) : List Value := l.map fun b => .int .u8 (b.toNat : Int)
theorem bytesV_eq (s : ByteArray) : bytesV s = bytesL s.data.toList := rfl
theorem bytesL_len (l : List UInt8) : (bytesL l).length = l.length := by simp [bytesL]
theorem bytesL_app (a b : List UInt8) : bytesL (a ++ b) = bytesL a ++ bytesL b := by simp [bytesL]

/-- the bytes of a text -/
theorem SemR.bytesOf {P : Program} {src dst e : TypeId} {s : ByteArray} (hs : P.underlying src = some .string) (hd : P.underlying dst = some (.slice e)) (he : P.underlying e = some (.int .u8)) {bs : List Nat} {h : Heap} {K : Value → Heap → Prop}
    (H : ∀ b cap h' r fz, b = h.size → h'.size = h.size + 1 → s.size ≤ cap → h'[b]? = some (.cells ⟨bytesV s ++ r⟩ e fz) → Keeps [] h h' → K (.slice (some ⟨b, 0, none⟩) s.size cap) h') :
    SemR P (convert src dst (.string s)) bs h K := by
  unfold SemR
  intro hlt w hw
  subst hw
  have hr := run_bytes_of_string (P := P) w src dst e s hs hd he
  refine ⟨_, _, hr, ⟨rfl, rfl, rfl⟩, fun b hb => ?_, ?_⟩
  · show (w.heap.push _)[b]? = _
    rw [push_get, if_neg (by have := hlt b hb; omega)]
  · have hc : s.size ≤ grownCap w s.size 0 e := by
      simp only [grownCap, Question.cut]; omega
    refine H w.heap.size _ (w.heap.push _) (List.replicate (grownCap w s.size 0 e - s.size) (.int .u8 0)) ((bytesRow s (grownCap w s.size 0 e)).size, (bytesRow s (grownCap w s.size 0 e)).size + 1) rfl (by simp) hc ?_ (keeps_push _ _)
    rw [push_get, if_pos rfl]
    congr 2
    · apply Array.ext'
      simp [bytesRow, bytesV]

/-- a text out of bytes -/
theorem SemR.textOf {P : Program} {src dst e : TypeId} {b off n cap : Nat} {l : List UInt8} (hs : P.underlying src = some (.slice e)) (he : P.underlying e = some (.int .u8)) (hd : P.underlying dst = some .string) {h : Heap} (hn : n = l.length)
    (hc : ∀ j (hj : j < l.length), Heap.cell? h b (off + j) = some (.int .u8 (l[j].toNat : Int))) {bs : List Nat} {K : Value → Heap → Prop} (H : K (.string ⟨l.toArray⟩) h) :
    SemR P (convert src dst (.slice (some ⟨b, off, none⟩) n cap)) bs h K := by
  unfold SemR
  intro hlt w hw
  subst hw
  subst hn
  exact ⟨_, w, run_convert_bytes_back w src dst e ⟨b, off, none⟩ cap l hs he hd (fun j hj => by rw [addr_add, cell?_eq]; exact hc j hj), SameOut.refl w, fun _ _ => rfl, H⟩
theorem SemR.textNil {P : Program} {src dst e : TypeId} {n cap : Nat} (hs : P.underlying src = some (.slice e)) (he : P.underlying e = some (.int .u8)) (hd : P.underlying dst = some .string) {h : Heap} {bs : List Nat} {K : Value → Heap → Prop} (H : K (.string ⟨#[]⟩) h) :
    SemR P (convert src dst (.slice none n cap)) bs h K := by
  unfold SemR
  intro hlt w hw
  subst hw
  refine ⟨_, w, ?_, SameOut.refl w, fun _ _ => rfl, H⟩
  rw [run_convert_bytes_string w src dst e none n cap hs he hd]
  rfl

/-! ### Buffers -/

theorem store_cellsF {P : Program} {b : Nat} {T : TypeId} {fz : Nat × Nat} : ∀ (vs : List Value) (i off : Nat) (c : List Value) (w : World), (∀ v ∈ vs, v.oneCell' = true) → off + i + vs.length ≤ c.length → fz.2 ≤ off + i →
    w.heap[b]? = some (.cells ⟨c⟩ T fz) → ∃ w', (storeCells ⟨b, off, none⟩ vs i).run P w = .ok () w' ∧ SameOut w w' ∧ w'.heap.size = w.heap.size ∧
      w'.heap[b]? = some (.cells ⟨spliceL (off + i) vs c⟩ T fz) ∧ ∀ b', b' ≠ b → w'.heap[b']? = w.heap[b']?
  | [], i, off, c, w, _, _, _, hb => ⟨w, by simp [storeCells], SameOut.refl w, rfl, by rw [splice_nil]; exact hb, fun _ _ => rfl⟩
  | v :: vs, i, off, c, w, hv, hl, hz, hb => by
    simp only [List.length_cons] at hl
    have hcell : w.cell? ⟨b, off + i, none⟩ = some (c[off + i]'(by omega)) := by
      rw [cell?_eq]; simp [Heap.cell?, hb, show off + i < c.length by omega]
    have hfr : w.frozen? ⟨b, off + i, none⟩ = false := by
      obtain ⟨lo, hi⟩ := fz
      simp [World.frozen?, hb]; intro _; simpa using hz
    have hrun := run_store P w ⟨b, off + i, none⟩ v .plain (hv v (by simp))
    rw [hcell] at hrun
    simp only [hfr, Bool.false_eq_true, if_false] at hrun
    have hb2 : (w.setCell ⟨b, off + i, none⟩ v).heap[b]? = some (.cells ⟨c.set (off + i) v⟩ T fz) := by
      rw [setCell_heap, Array.getElem?_modify]
      simp [hb, setObj1, Array.setIfInBounds, show off + i < c.length by omega]
    obtain ⟨w', h1, h2, h3, h4, h5⟩ := store_cellsF vs (i + 1) off (c.set (off + i) v) (w.setCell ⟨b, off + i, none⟩ v) (fun u hu => hv u (by simp [hu])) (by simp; omega) (by omega) hb2
    refine ⟨w', ?_, ⟨h2.1, h2.2⟩, ?_, ?_, fun b' hne => ?_⟩
    · simp only [storeCells, Sem.run_bind, addr_add]
      rw [hrun]
      simp only [Result.andThen_ok]
      exact h1
    · rw [h3, setCell_heap]; simp
    · rw [h4, show off + (i + 1) = off + i + 1 by omega, splice_cons v vs (off + i) c (by omega)]
    · rw [h5 b' hne, setCell_heap, Array.getElem?_modify, if_neg (Ne.symm hne)]

/-- a slice of bytes from its block's first cell on, that nobody else writes -/
def Buf (h : Heap) (e : TypeId) (a : Option Addr) (n c : Nat) (s : List UInt8) : Prop :=
  (a = none ∧ n = 0 ∧ c = 0 ∧ s = []) ∨
  ∃ g cs fz, a = some ⟨g, 0, none⟩ ∧ h[g]? = some (.cells ⟨cs⟩ e fz) ∧ cs.take n = bytesL s ∧ cs.length = c ∧ n = s.length ∧ n ≤ c ∧ fz.2 ≤ n ∧ 0 < c

theorem Buf.keep {M : List Nat} {h h' : Heap} {e : TypeId} {a : Option Addr} {n c : Nat} {s : List UInt8} (o : Buf h e a n c s) (k : Keeps M h h') (hm : ∀ b ∈ blkA a, b ∉ M) : Buf h' e a n c s := by
  rcases o with o | ⟨g, cs, fz, h1, h2, h3⟩
  · exact .inl o
  · exact .inr ⟨g, cs, fz, h1, k.obj h2 (hm g (by simp [h1, blkA])), h3⟩
theorem Buf.lt {h : Heap} {e : TypeId} {a : Option Addr} {n c : Nat} {s : List UInt8} (o : Buf h e a n c s) : ∀ b ∈ blkA a, b < h.size := by
  intro b hb
  rcases o with ⟨rfl, _⟩ | ⟨g, cs, fz, rfl, h2, _⟩
  · cases hb
  · simp [blkA] at hb; subst hb; exact obj_lt h2
theorem Buf.len {h : Heap} {e : TypeId} {a : Option Addr} {n c : Nat} {s : List UInt8} (o : Buf h e a n c s) : n = s.length ∧ n ≤ c := by
  rcases o with ⟨_, rfl, rfl, rfl⟩ | ⟨g, cs, fz, _, _, _, _, h5, h6, _, _⟩
  · exact ⟨rfl, Nat.le_refl _⟩
  · exact ⟨h5, h6⟩

theorem allOne_bytes : ∀ l : List UInt8, allOne (bytesL l) = true
  | [] => rfl
  | x :: l => by simpa [allOne, oneV, bytesL] using allOne_bytes l

theorem firstCells_str {P : Program} (w : World) (size : Nat) (s : ByteArray) : (Builtin.firstCells size s.size (.string s)).run P w = .ok ⟨bytesV s⟩ w := by
  simp [Builtin.firstCells, bytesV]
  apply Array.ext'
  simp

theorem SemR.appendStr {P : Program} {sT xT ty e : TypeId} {i : TypeInfo} {z : Value} (hu : P.underlying sT = some (.slice e)) (hx : P.underlying xT = some .string) (hi : P.info? e = some i) (hsz : i.size = 1) (hby : i.bytes = 1) (hz : i.zero = some z) (hzc : cellsOf z = [z])
    {h : Heap} {a : Option Addr} {n c : Nat} {l : List UInt8} {s : ByteArray} (o : Buf h e a n c l) (hbig : n + s.size ≤ 70368744177664) {bs : List Nat} (hbs : ∀ b ∈ blkA a, b ∉ bs) {K : Value → Heap → Prop}
    (H : ∀ a' c' h', Buf h' e a' (n + s.size) c' (l ++ s.data.toList) → Keeps (blkA a) h h' → (∀ b ∈ blkA a', b ∈ blkA a ∨ h.size ≤ b) → c ≤ c' → (n + s.size ≤ c → c' = c ∧ a' = a) → K (.slice a' (n + s.size) c') h') :
    SemR P (Builtin.append_ #[sT, xT] ty ⟨[.slice a n c, .string s]⟩) bs h K := by
  unfold SemR
  intro hlt w hw
  subst hw
  have hsize : (sizeOf e).run P w = .ok 1 w := by simp [sizeOf, typeInfo_run P e w hi, hsz]
  have hnew := firstCells_str (P := P) w 1 s
  have hlen := o.len
  by_cases hfit : n + s.size ≤ c
  · rcases o with ⟨rfl, rfl, rfl, rfl⟩ | ⟨g, cs, fz, rfl, h2, h3, h4, h5, h6, h7, h8⟩
    · have hn0 : s.size = 0 := by omega
      have hb0 : bytesV s = [] := List.eq_nil_of_length_eq_zero (by rw [bytesV_len]; exact hn0)
      have hd0 : s.data.toList = [] := List.eq_nil_of_length_eq_zero (by rw [Array.length_toList]; exact hn0)
      have hnew0 := hnew
      rw [hn0, hb0] at hnew0
      refine ⟨.slice none (0 + s.size) 0, w, ?_, SameOut.refl w, fun b _ => rfl, H none 0 w.heap (.inl ⟨rfl, by omega, rfl, by simp [hd0]⟩) (Keeps.refl _ _) (by simp [blkA]) (Nat.le_refl _) (fun _ => ⟨rfl, rfl⟩)⟩
      simp [Builtin.append_, underlying_run P sT w hu, underlying_run P xT w hx, hsize, Builtin.lenOf, hn0, hnew0]
    · have hroom : n + (bytesV s).length ≤ cs.length := by rw [bytesV_len, h4]; exact hfit
      obtain ⟨w', r1, r2, r3, r4, r5⟩ := store_cellsF (P := P) (bytesV s) 0 n cs w (allOne_one' (by rw [bytesV_eq]; exact allOne_bytes _)) (by simpa using hroom) (by simpa using h7) h2
      refine ⟨_, w', ?_, r2, fun b' hb' => r5 b' (fun e => hbs g (by simp [blkA]) (e ▸ hb')), H (some ⟨g, 0, none⟩) c w'.heap (.inr ⟨g, _, fz, rfl, r4, ?_, ?_, ?_, hfit, by omega, h8⟩) ⟨by omega, fun b' _ hb' => r5 b' (by simpa [blkA] using hb')⟩ (fun b' hb' => .inl hb') (Nat.le_refl _) (fun _ => ⟨rfl, rfl⟩)⟩
      · simp [Builtin.append_, underlying_run P sT w hu, hsize, underlying_run P xT w hx, Builtin.lenOf, hfit, hnew, addr_add]
        rw [r1]
        rfl
      · have := splice_take n (bytesV s) cs (by omega)
        simp only [Nat.add_zero]
        rw [bytesV_len] at this
        rw [this, h3, bytesL_app, bytesV_eq]
      · simp only [Nat.add_zero, spliceL_length]; exact h4
      · simp [h5]
  · have hcap : c < n + s.size := by omega
    have hold : ∀ w' : World, w'.heap = w.heap → (Builtin.firstCells 1 n (.slice a n c)).run P w' = .ok ⟨bytesL l⟩ w' := by
      intro w' hw'
      rcases o with ⟨rfl, rfl, rfl, rfl⟩ | ⟨g, cs, fz, rfl, h2, h3, h4, h5, h6, h7, h8⟩
      · simp [Builtin.firstCells, bytesL]
      · simp only [Builtin.firstCells]
        refine loadCells_run (by rw [bytesL_len]; omega) (fun k hk => ?_)
        rw [Nat.mul_one] at hk
        simp only [Heap.cell?, hw', h2, Nat.zero_add]
        rw [← h3]
        simp [hk, show k < cs.length by omega]
    have hncap := nextcap_le (n + s.size) c hcap
    obtain ⟨nc, hnc, hle, hforced⟩ := cut_cap (n + s.size) c e (w.tape w.drawn (.appendCap (n + s.size) c e)) (by omega)
    obtain ⟨zl, hzl, hzlen⟩ := zeroCells_eq z.cells (nc - (n + s.size))
    have hz' : z.cells.size = 1 := by rw [cellsOf_eq, hzc]; rfl
    let w2 : World := { w.drew with heap := w.heap.push (.cells ⟨bytesL l ++ bytesV s ++ zl⟩ e) }
    refine ⟨.slice (some ⟨w.heap.size, 0, none⟩) (n + s.size) nc, w2, ?_, ⟨rfl, rfl, rfl⟩, fun b hb => ?_, H _ nc w2.heap (.inr ⟨w.heap.size, bytesL l ++ bytesV s ++ zl, (0, 0), rfl, ?_, ?_, ?_, ?_, hle, Nat.zero_le _, by omega⟩) ?_ ?_ (by omega) (fun h => absurd h hfit)⟩
    · have hti : (typeInfo e).run P w = .ok i w := typeInfo_run P e w hi
      have hti2 : (typeInfo e).run P w.drew = .ok i w.drew := typeInfo_run P e w.drew hi
      have hold2 := hold w.drew rfl
      have hnew2 := firstCells_str (P := P) w.drew 1 s
      have hzv2 : (zeroValue e).run P w.drew = .ok z w.drew := by simp [zeroValue, typeInfo_run P e w.drew hi, hz]
      have hb2 : ¬ (281474976710656 < Builtin.nextslicecap (n + s.size) c) := by omega
      have hbz : ¬ (i.bytes = 0) := by omega
      simp [Builtin.append_, underlying_run P sT w hu, hsize, underlying_run P xT w hx, Builtin.lenOf, hfit, hti, hbz, hb2, hby, hforced, hnc, hti2, hold2, hnew2, hzv2, hzl, newRow, w2]
      rfl
    · show (w.heap.push _)[b]? = _
      rw [push_get, if_neg (by have := hlt b hb; omega)]
    · show (w.heap.push _)[w.heap.size]? = _
      rw [push_get, if_pos rfl]
    · rw [bytesL_app, ← bytesV_eq]
      have : (bytesL l ++ bytesV s).length = n + s.size := by simp [bytesL_len, bytesV_len, hlen.1]
      rw [← this, List.take_left]
    · simp [bytesL_len, bytesV_len, hzlen, hz']; omega
    · simp [hlen.1]
    · exact ⟨by simp [w2], fun b hb _ => by show (w.heap.push _)[b]? = _; rw [push_get, if_neg (by omega)]⟩
    · intro b hb; right; simp [blkA] at hb; omega

/-! ### Functions without a body -/

theorem SemR.ext {P : Program} {f : FuncId} {fn : Func} {e : Array Value → Sem Value} (hf : P.funcs[f]? = some fn) (hname : (fn.name == "runtime.NumGoroutine") = false) (hb : fn.body.isNone = true) (hn : Extern.findNext fn = none) (he : Extern.find fn = some e)
    {args : Array Value} {bs : List Nat} {h : Heap} {K : Value → Heap → Prop} (H : SemR P (e args) bs h K) : SemR P (extCall f args) bs h K := by
  unfold SemR at H ⊢
  intro hlt w hw
  obtain ⟨v, w', h1, h2⟩ := H hlt w hw
  refine ⟨v, w', ?_, h2⟩
  unfold extCall
  simp only [Sem.run_bind, run_callFunc_extern hf hname hb hn he, h1, Result.andThen_ok]
  simp

theorem SemR.pure {P : Program} {α : Type} {s : Sem α} {bs : List Nat} {h : Heap} {K : α → Heap → Prop} {v : α} (hs : ∀ w : World, w.heap = h → s.run P w = .ok v w) (H : K v h) : SemR P s bs h K := by
  unfold SemR
  intro hlt w hw
  exact ⟨v, w, hs w hw, SameOut.refl w, fun b _ => by rw [hw], by rw [hw]; exact H⟩

/-- a buffer of whatever bytes -/
theorem SemR.noZero {P : Program} {ps : Array TypeId} {t e : TypeId} (ht : P.underlying t = some (.slice e)) {n : Nat} (hn : n ≤ 281474976710656) (hp : 0 < n) {bs : List Nat} {h : Heap} {K : Value → Heap → Prop}
    (H : ∀ b c cs h', b = h.size → h'.size = h.size + 1 → h'[b]? = some (.cells ⟨cs⟩ e (0, 0)) → cs.length = c → n ≤ c → Keeps [] h h' → K (.slice (some ⟨b, 0, none⟩) n c) h') :
    SemR P (Extern.BytealgMakeNoZero.makeNoZero ps #[t] #[.int .i64 (n : Int)]) bs h K := by
  unfold SemR
  intro hlt w hw
  subst hw
  obtain ⟨cs, h1, h2, _⟩ := Lib.run_makeNoZero (P := P) w ps t e ht n hn
  refine ⟨_, _, h1, ⟨rfl, rfl, rfl⟩, fun b hb => ?_, H w.heap.size cs.size cs.toList (w.heap.push (.cells cs e)) rfl (by simp) (by rw [push_get, if_pos rfl]) (by simp) h2 (keeps_push _ _)⟩
  show (w.heap.push _)[b]? = _
  rw [push_get, if_neg (by have := hlt b hb; omega)]

theorem BothR.i {a b : Prop} (h1 : a) (h2 : b) : BothR a b := by unfold BothR; exact ⟨h1, h2⟩

theorem freeze_heap (w : World) (g : Nat) {n : Nat} (hn : n ≠ 0) {cs : Array Value} {e : TypeId} {fz : Nat × Nat} (hg : w.heap[g]? = some (.cells cs e fz)) :
    (w.freeze ⟨g, 0, none⟩ n).heap.size = w.heap.size ∧ (∃ fz', (w.freeze ⟨g, 0, none⟩ n).heap[g]? = some (.cells cs e fz') ∧ fz'.2 ≤ max fz.2 n) ∧ ∀ b, b ≠ g → (w.freeze ⟨g, 0, none⟩ n).heap[b]? = w.heap[b]? := by
  unfold World.freeze
  rw [if_neg hn]
  obtain ⟨lo, hi⟩ := fz
  refine ⟨by simp, ⟨if lo == hi then (0, 0 + n) else (min lo 0, max hi (0 + n)), ?_, ?_⟩, fun b hb => ?_⟩
  · simp only [Array.getElem?_modify, if_true, hg, Option.map_some]
  · split
    · simp; omega
    · simp
  · simp only [Array.getElem?_modify]
    rw [if_neg (fun e => hb e.symm)]

theorem SemR.unsafeStr {P : Program} {pt it ty e : TypeId} (hp : P.underlying pt = some (.pointer e)) (hc : P.cellsOf e = 1) {h : Heap} {g n c : Nat} {l : List UInt8} (o : Buf h e (some ⟨g, 0, none⟩) n c l) (h63 : l.length ≤ 70368744177664) {bs : List Nat} (hg : g ∉ bs) {K : Value → Heap → Prop}
    (H : ∀ h', Buf h' e (some ⟨g, 0, none⟩) n c l → h'.size = h.size → Keeps [g] h h' → K (.string ⟨l.toArray⟩) h') :
    SemR P (Builtin.unsafeString_ #[pt, it] ty ⟨[.pointer (some ⟨g, 0, none⟩), .int .i64 (n : Int)]⟩) bs h K := by
  rcases o with ⟨h1, _⟩ | ⟨g', cs, fz, h1, h2, h3, h4, h5, h6, h7, h8⟩
  · cases h1
  simp only [Option.some.injEq, Addr.mk.injEq, and_true] at h1
  subst h1
  subst h5
  by_cases h0 : l = []
  · subst h0
    refine SemR.pure (fun w _ => Lib.run_unsafeString_none w pt it ty (some ⟨g, 0, none⟩)) ?_
    exact H h (.inr ⟨g, cs, fz, rfl, h2, h3, h4, rfl, h6, h7, h8⟩) rfl (Keeps.refl _ _)
  · unfold SemR
    intro hlt w hw
    subst hw
    have hl0 : l.length ≠ 0 := by simpa using h0
    have hsh : w.shape? g = some (e, cs.length) := by unfold World.shape?; rw [h2]; simp
    have hr := Lib.run_unsafeString_row (P := P) w pt it ty e hp hc g cs.length hsh l h0 (by omega) (by omega) (fun j x hj => by
      rw [addr_add, Nat.zero_add, cell?_eq]
      simp only [Heap.cell?, h2]
      have hj' : j < l.length := (List.getElem?_eq_some_iff.1 hj).1
      have h9 : (cs.take l.length)[j]? = (bytesL l)[j]? := by rw [h3]
      rw [List.getElem?_take, if_pos hj'] at h9
      simp only [List.getElem?_toArray]
      rw [h9]
      simp [bytesL, hj])
    obtain ⟨q1, ⟨fz', q2, q3⟩, q4⟩ := freeze_heap w g hl0 h2
    refine ⟨_, _, hr, ?_, fun b hb => q4 b (fun x => hg (x ▸ hb)), H _ (.inr ⟨g, cs, fz', rfl, q2, h3, h4, rfl, h6, by omega, h8⟩) q1 ⟨by omega, fun b _ hb => q4 b (by simpa using hb)⟩⟩
    unfold World.freeze
    rw [if_neg hl0]
    exact ⟨rfl, rfl, rfl⟩

theorem slA_zero (a : Option Addr) (c s : Nat) : slA a c 0 s = a := by
  unfold slA; split
  · rfl
  · cases a <;> simp [Addr.add]

/-- 'append(nil, make(n)...)' -/
theorem SemR.appendMake {P : Program} {sT nT ty e : TypeId} {i : TypeInfo} {z : Value} {k : IntKind} (hu : P.underlying sT = some (.slice e)) (hx : P.underlying nT = some (.int k)) (hi : P.info? e = some i) (hsz : i.size = 1) {by_ : Nat} (hby : i.bytes = by_) (hz : i.zero = some z) (hzc : cellsOf z = [z])
    {n : Nat} (hp : 0 < n) (hbig : (2 * n + 192) * by_ ≤ 281474976710656) (hb0 : 0 < by_) {h : Heap} {bs : List Nat} {K : Value → Heap → Prop}
    (H : ∀ b c h', b = h.size → h'.size = h.size + 1 → h'[b]? = some (.cells ⟨List.replicate c z⟩ e (0, 0)) → n ≤ c → Keeps [] h h' → K (.slice (some ⟨b, 0, none⟩) n c) h') :
    SemR P (Builtin.append_ #[sT, nT] ty ⟨[.slice none 0 0, .int .i64 (n : Int)]⟩) bs h K := by
  unfold SemR
  intro hlt w hw
  subst hw
  have hn1 : n ≤ 281474976710656 := by
    have : 2 * n + 192 ≤ (2 * n + 192) * by_ := Nat.le_mul_of_pos_right _ hb0
    omega
  have hn2 : n * by_ ≤ 281474976710656 := by
    have := Nat.mul_le_mul_right by_ (show n ≤ 2 * n + 192 by omega)
    omega
  have hncap := nextcap_le n 0 hp
  have hn3 : Builtin.nextslicecap n 0 * by_ ≤ 281474976710656 := by
    have := Nat.mul_le_mul_right by_ hncap
    omega
  obtain ⟨nc, hnc, hle, hforced⟩ := cut_cap n 0 e (w.tape w.drawn (.appendCap n 0 e)) (by omega)
  have hz' : z.cells = #[z] := by rw [cellsOf_eq, hzc]
  have zc : ∀ m, Builtin.zeroCells z.cells m = ⟨List.replicate m z⟩ := by
    intro m
    rw [hz']
    apply Array.ext'
    simp only [Builtin.zeroCells]
    apply List.ext_getElem
    · simp
    · intro k k1 k2
      simp [Nat.mod_one]
  have hti : (typeInfo e).run P w = .ok i w := typeInfo_run P e w hi
  have hti2 : (typeInfo e).run P w.drew = .ok i w.drew := typeInfo_run P e w.drew hi
  have hsize : (sizeOf e).run P w = .ok 1 w := by simp [sizeOf, typeInfo_run P e w hi, hsz]
  have hzv2 : (zeroValue e).run P w.drew = .ok z w.drew := by simp [zeroValue, typeInfo_run P e w.drew hi, hz]
  have hwrap : IntKind.i64.wrap (n : Int) = (n : Int) := wrapN rfl (by omega)
  have c1 : ¬ (281474976710656 < (n : Int) * (by_ : Int)) := by
    have : (n : Int) * (by_ : Int) = ((n * by_ : Nat) : Int) := by simp
    rw [this]; omega
  have c2 : ¬ (281474976710656 < Builtin.nextslicecap n 0 * by_) := by omega
  have c3 : ¬ (9223372036854775807 < (n : Int)) := by omega
  have c4 : ¬ ((n : Int) < 0) := by omega
  have c5 : ¬ (n = 0) := by omega
  refine ⟨.slice (some ⟨w.heap.size, 0, none⟩) n nc, { w.drew with heap := w.heap.push (.cells ⟨List.replicate nc z⟩ e) }, ?_, ⟨rfl, rfl, rfl⟩, fun b hb => ?_, H w.heap.size nc (w.heap.push (.cells ⟨List.replicate nc z⟩ e)) rfl (by simp) (by rw [push_get, if_pos rfl]) hle (keeps_push _ _)⟩
  · have hb0' : ¬ (by_ = 0) := by omega
    simp [Builtin.append_, underlying_run P sT w hu, underlying_run P nT w hx, hsize, asInt, asIntOf, hwrap, c4, hti, hby, c1, c2, c3, c5, hb0', hforced, hnc, hti2, hzv2, zc, Builtin.firstCells, newRow]
    rw [show n + (nc - n) = nc by omega]
    rfl
  · show (w.heap.push _)[b]? = _
    rw [push_get, if_neg (by have := hlt b hb; omega)]

/-- nothing is appended -/
theorem SemR.append0 {P : Program} {sT xT ty e e' : TypeId} {i : TypeInfo} (hu : P.underlying sT = some (.slice e)) (hx : P.underlying xT = some (.slice e')) (hi : P.info? e = some i) {h : Heap} {a x : Option Addr} {n c xc : Nat} (hc : n ≤ c) {bs : List Nat} {K : Value → Heap → Prop} (H : K (.slice a n c) h) :
    SemR P (Builtin.append_ #[sT, xT] ty ⟨[.slice a n c, .slice x 0 xc]⟩) bs h K := by
  refine SemR.pure (fun w hw => ?_) H
  have hsize : (sizeOf e).run P w = .ok i.size w := by simp [sizeOf, typeInfo_run P e w hi]
  cases a <;> cases x <;> simp [Builtin.append_, underlying_run P sT w hu, underlying_run P xT w hx, hsize, Builtin.lenOf, hc, Builtin.firstCells, loadCells, loadCellsFrom, storeCells]
end Go.Eng
/-
  Layer 1: texts as words.
-/
set_option linter.all false
set_option maxRecDepth 100000
namespace Go.Proofs.YteambknhlbiajaaGreatDoor
open Go Go.Eng

/-- a word's byte -/
def byteW (w : UInt64) (i : Nat) : UInt8 := UInt8.ofNat (w.toNat / 2 ^ (8 * (i % 8)))
/-- the first bytes of words -/
def untextL (ws : List UInt64) (n : Nat) : List UInt8 := (List.range n).map fun i => byteW (ws[i / 8]?.getD 0) i

theorem wrap_u8 (n : Int) : IntKind.u8.wrap n = n % 256 := by simp [IntKind.wrap, IntKind.bits, IntKind.signed]
theorem wrap_u64' (n : Int) : IntKind.u64.wrap n = n % 18446744073709551616 := by simp [IntKind.wrap, IntKind.bits, IntKind.signed]

theorem shift_amt (i : Nat) (hi : i ≤ 1000000) : IntKind.i64.wrap (8 * ((i : Int).tmod 8)) = ((8 * (i % 8) : Nat) : Int) := by
  have : (i : Int).tmod 8 = ((i % 8 : Nat) : Int) := by rw [Int.tmod_eq_emod_of_nonneg (by omega)]; omega
  rw [this, wrapN (n := 8 * (i % 8)) (by omega) (by omega)]
theorem quo_amt (i : Nat) (hi : i ≤ 1000000) : IntKind.i64.wrap ((i : Int).tdiv 8) = ((i / 8 : Nat) : Int) := by
  have : (i : Int).tdiv 8 = ((i / 8 : Nat) : Int) := by rw [Int.tdiv_eq_ediv_of_nonneg (by omega)]; omega
  rw [this, wrapN (n := i / 8) (by omega) (by omega)]

theorem byte_val (w : UInt64) (i : Nat) : Value.int .u8 (IntKind.u8.wrap ((w.toNat : Int).fdiv (2 ^ (min ((8 * (i % 8) : Nat) : Int).toNat 64)))) = .int .u8 ((byteW w i).toNat : Int) := by
  congr 1
  rw [wrap_u8]
  have h1 : min ((8 * (i % 8) : Nat) : Int).toNat 64 = 8 * (i % 8) := by omega
  rw [h1, Int.fdiv_eq_ediv_of_nonneg _ (by exact Int.le_of_lt (Int.pow_pos (by decide)))]
  unfold byteW
  rw [UInt8.toNat_ofNat']
  have : (2 : Int) ^ (8 * (i % 8)) = ((2 ^ (8 * (i % 8)) : Nat) : Int) := by simp
  rw [this]
  norm_cast

theorem untext_spec {h : Heap} {a : Option Addr} {m c : Nat} {ws : List UInt64} (S : Sl h a m c ws) (n : Nat) (hn : n ≤ 8 * m) (hm : m ≤ 1000) : CallH Tryz.prog 80 [.slice a m c, .int .i64 (n : Int)] h (fun v h' => Keeps [] h h' ∧ v = .tuple #[.string ⟨(untextL ws n).toArray⟩, .int .i64 0]) := by
  refine call_of hmix Tryz.func80 rfl ok80 (by simp [Tryz.f80]) ?_
  conv => whnf
  have hl := S.hlen
  have e8 : IntKind.i64.wrap (8 * (m : Int)) = ((8 * m : Nat) : Int) := wrapN (by omega) (by omega)
  refine IfR.f (by simp [bif_or, e8]; omega) ?_
  conv => whnf
  refine SemR.make (n := n) rfl rfl rfl rfl rfl (by show 1 * n ≤ _; omega) (by omega) fun b1 h1 e1 s1 o1 k1 => ?_
  conv => whnf
  refine LoopR.on [0, 6, 20, 21] [] (fun i : Nat => [(0, .v (.slice a m c)), (6, .v (.slice (some ⟨b1, 0, none⟩) n n)), (20, .v (.int .i64 (n : Int))), (21, .v (.int .i64 (i : Int)))]) (fun _ => [])
    (fun i h' => i ≤ n ∧ Keeps [] h h' ∧ h1.size ≤ h'.size ∧ h'[b1]? = some (.cells ⟨bytesL (untextL ws i) ++ List.replicate (n - i) (.int .u8 0)⟩ 5 (0, 0))) (fun i => n - i) 0 ?_ ?_
  · conv => whnf
    exact ⟨0, rfl, rfl, rfl, Nat.zero_le _, k1, Nat.le_refl _, o1⟩
  · rintro i h2 ⟨hi, k2, z2, o2⟩
    conv => whnf
    refine IfR.i (fun hc => ?_) (fun hc => ?_)
    · have hi1 : i < n := by simp at hc; omega
      conv => whnf
      refine Need.i (by decide) ?_
      have hi8 : i / 8 < ws.length := by omega
      obtain ⟨b, off, hb, _, hcell⟩ := (S.keep k2).at1 (i / 8) hi8
      conv => whnf
      refine IdxS.i (i / 8) (quo_amt i (by omega)) (by omega) hb ?_
      conv => whnf
      refine LoadR.i hcell ?_
      conv => whnf
      refine Need.i (by decide) ?_
      conv => whnf
      refine Need.i (by rw [shift_amt i (by omega)]; omega) ?_
      conv => whnf
      refine IdxS.i i rfl hi1 rfl ?_
      have er : List.replicate (n - i) (Value.int .u8 0) = .int .u8 0 :: List.replicate (n - (i + 1)) (.int .u8 0) := by
        rw [show n - i = (n - (i + 1)) + 1 by omega, List.replicate_succ]
      rw [er] at o2
      have hlen : (bytesL (untextL ws i)).length = i := by simp [bytesL_len, untextL]
      conv => whnf
      refine StoreR.i o2 ?_ (by simp [blocksOf]) fun h4 s4 o4 k4 => ?_
      · simp only [List.length_append, List.length_cons, hlen, List.length_replicate]
        show 0 + i * 1 + 1 ≤ _
        omega
      conv => whnf
      refine ⟨n - (i + 1), by omega, ?_⟩
      conv => whnf
      refine ⟨i + 1, rfl, by rw [wrapN (n := i + 1) (by simp) (by omega)], rfl, by omega, k2.new1 k4 (by omega), by omega, ?_⟩
      rw [shift_amt i (by omega)] at o4
      have e4 : spliceL (0 + i * 1) [Value.int .u8 ((byteW ws[i / 8] i).toNat : Int)] (bytesL (untextL ws i) ++ .int .u8 0 :: List.replicate (n - (i + 1)) (.int .u8 0)) = bytesL (untextL ws (i + 1)) ++ List.replicate (n - (i + 1)) (.int .u8 0) := by
        have := splice_at (A := bytesL (untextL ws i)) (x := .int .u8 0) (v := Value.int .u8 ((byteW ws[i / 8] i).toNat : Int)) (B := List.replicate (n - (i + 1)) (.int .u8 0))
        rw [hlen] at this
        rw [show 0 + i * 1 = i by omega, this]
        simp [untextL, List.range_succ, bytesL, hi8]
      rw [← e4, ← byte_val]; exact o4
    · have hi1 : i = n := by simp at hc; omega
      subst hi1
      conv => whnf
      refine SemR.textOf (l := untextL ws i) rfl rfl rfl (by simp [untextL]) (fun j hj => ?_) ?_
      · simp only [Heap.cell?, o2]
        simp [bytesL, hj, List.getElem?_append]
      conv => whnf
      exact ⟨k2, rfl⟩

/-- bytes as a number, the first one least -/
def packN : List UInt8 → Nat
  | [] => 0
  | b :: r => b.toNat + 256 * packN r
theorem packN_lt : ∀ l : List UInt8, packN l < 256 ^ l.length
  | [] => by simp [packN]
  | b :: r => by
    have := packN_lt r
    have hb := b.toNat_lt
    simp only [packN, List.length_cons, Nat.pow_succ]
    omega
theorem packN_snoc : ∀ (l : List UInt8) (c : UInt8), packN (l ++ [c]) = packN l + 256 ^ l.length * c.toNat
  | [], c => by simp [packN]
  | b :: r, c => by
    have := packN_snoc r c
    simp only [List.cons_append, packN, this, List.length_cons, Nat.pow_succ]
    rw [Nat.mul_add, Nat.mul_comm (256 ^ r.length) 256, Nat.mul_assoc]; omega

/-- a text's word -/
def wordT (l : List UInt8) (j : Nat) : UInt64 := UInt64.ofNat (packN ((l.drop (8 * j)).take 8))
def textL (l : List UInt8) (n : Nat) : List UInt64 := (List.range n).map fun j => wordT l j

theorem pack8_lt (l : List UInt8) (j : Nat) : packN ((l.drop (8 * j)).take 8) < 18446744073709551616 := by
  have h1 := packN_lt ((l.drop (8 * j)).take 8)
  have h2 : ((l.drop (8 * j)).take 8).length ≤ 8 := by simp; omega
  have h3 : 256 ^ ((l.drop (8 * j)).take 8).length ≤ 256 ^ 8 := Nat.pow_le_pow_right (by decide) h2
  have h4 : 256 ^ 8 = 18446744073709551616 := by decide
  omega
theorem wordT_toNat (l : List UInt8) (j : Nat) : (wordT l j).toNat = packN ((l.drop (8 * j)).take 8) := by
  unfold wordT
  rw [UInt64.toNat_ofNat']
  exact Nat.mod_eq_of_lt (pack8_lt l j)

theorem drop_take_other (l : List UInt8) (i j : Nat) (hi : i < l.length) (hj : j ≠ i / 8) : ((l.take (i + 1)).drop (8 * j)).take 8 = ((l.take i).drop (8 * j)).take 8 := by
  apply List.ext_getElem?
  intro k
  simp only [List.getElem?_take, List.getElem?_drop]
  by_cases h1 : k < 8
  · rw [if_pos h1, if_pos h1]
    by_cases h2 : 8 * j + k < i
    · rw [if_pos (by omega), if_pos h2]
    · by_cases h3 : 8 * j + k < i + 1
      · have : 8 * j + k = i := by omega
        omega
      · rw [if_neg h3, if_neg h2]
  · rw [if_neg h1, if_neg h1]
theorem drop_take_here (l : List UInt8) (i : Nat) (hi : i < l.length) : ((l.take (i + 1)).drop (8 * (i / 8))).take 8 = ((l.take i).drop (8 * (i / 8))).take 8 ++ [l[i]] := by
  rw [List.take_succ_eq_append_getElem hi, List.drop_append, List.take_append]
  have h1 : (l.take i).length = i := by simp; omega
  have h2 : 8 * (i / 8) - (l.take i).length = 0 := by rw [h1]; omega
  rw [h2, List.drop_zero]
  congr 1
  have h3 : (List.drop (8 * (i / 8)) (l.take i)).length = i % 8 := by rw [List.length_drop, h1]; omega
  rw [h3]
  have : 8 - i % 8 = (7 - i % 8) + 1 := by omega
  rw [this]; simp

theorem or_val (l : List UInt8) (i : Nat) (hi : i < l.length) :
    Value.int .u64 (IntKind.u64.wrap ((BitVec.ofInt IntKind.u64.bits ((wordT (l.take i) (i / 8)).toNat : Int) ||| BitVec.ofInt IntKind.u64.bits (IntKind.u64.wrap (IntKind.u64.wrap (l[i].toNat : Int) * 2 ^ (min ((8 * (i % 8) : Nat) : Int).toNat 64)))).toNat : Int)) = wv (wordT (l.take (i + 1)) (i / 8)) := by
  have h1 : min ((8 * (i % 8) : Nat) : Int).toNat 64 = 8 * (i % 8) := by omega
  rw [h1]
  unfold wv
  congr 1
  rw [wordT_toNat, wordT_toNat, drop_take_here l i hi, packN_snoc]
  generalize hA : ((l.take i).drop (8 * (i / 8))).take 8 = A
  have hlen : A.length = i % 8 := by subst hA; simp; omega
  have hA1 := packN_lt A
  rw [hlen] at hA1 ⊢
  have hp : (256 : Nat) ^ (i % 8) = 2 ^ (8 * (i % 8)) := by rw [Nat.pow_mul]
  have hc := l[i].toNat_lt
  have hk : i % 8 < 8 := by omega
  have hb : l[i].toNat * 2 ^ (8 * (i % 8)) < 18446744073709551616 := by
    have h5 : 2 ^ (8 * (i % 8)) ≤ 2 ^ 56 := Nat.pow_le_pow_right (by decide) (by omega)
    have h6 : l[i].toNat * 2 ^ (8 * (i % 8)) ≤ 255 * 2 ^ 56 := Nat.mul_le_mul (by omega) h5
    have h7 : 255 * 2 ^ 56 < 18446744073709551616 := by decide
    omega
  have hA2 : packN A < 18446744073709551616 := by
    have h5 : 2 ^ (8 * (i % 8)) ≤ 2 ^ 56 := Nat.pow_le_pow_right (by decide) (by omega)
    have h7 : 2 ^ 56 < 18446744073709551616 := by decide
    omega
  have w1 : IntKind.u64.wrap (l[i].toNat : Int) = (l[i].toNat : Int) := by rw [wrap_u64']; omega
  have w2 : IntKind.u64.wrap ((l[i].toNat : Int) * 2 ^ (8 * (i % 8))) = ((l[i].toNat * 2 ^ (8 * (i % 8)) : Nat) : Int) := by
    rw [wrap_u64']
    have : (l[i].toNat : Int) * 2 ^ (8 * (i % 8)) = ((l[i].toNat * 2 ^ (8 * (i % 8)) : Nat) : Int) := by simp
    rw [this]
    omega
  rw [w1, w2]
  have hbits : IntKind.u64.bits = 64 := rfl
  rw [hbits, BitVec.toNat_or]
  have t1 : (BitVec.ofInt 64 ((packN A : Nat) : Int)).toNat = packN A := by
    rw [BitVec.toNat_ofInt]; omega
  have t2 : (BitVec.ofInt 64 ((l[i].toNat * 2 ^ (8 * (i % 8)) : Nat) : Int)).toNat = l[i].toNat * 2 ^ (8 * (i % 8)) := by
    rw [BitVec.toNat_ofInt]; omega
  rw [t1, t2]
  have hor : packN A ||| l[i].toNat * 2 ^ (8 * (i % 8)) = packN A + 256 ^ (i % 8) * l[i].toNat := by
    rw [hp, Nat.or_comm, Nat.mul_comm, ← Nat.two_pow_add_eq_or_of_lt (by rw [← hp]; exact hA1)]
    omega
  rw [hor, wrap_u64']
  have hs : packN A + 256 ^ (i % 8) * l[i].toNat < 18446744073709551616 := by
    have := packN_lt (A ++ [l[i]])
    rw [packN_snoc, hlen, List.length_append, hlen] at this
    have h8 : 256 ^ (i % 8 + [l[i]].length) ≤ 256 ^ 8 := Nat.pow_le_pow_right (by decide) (by simp; omega)
    have h9 : 256 ^ 8 = 18446744073709551616 := by decide
    omega
  omega

theorem text_spec (s : ByteArray) (n : Nat) (h : Heap) (hn : n ≤ 64) (hs : s.size ≤ 8 * n) : CallH Tryz.prog 36 [.string s, .int .i64 (n : Int)] h (fun v h' => Keeps [] h h' ∧ ∃ b, v = .tuple #[.slice (some ⟨b, 0, none⟩) n n, .int .i64 0] ∧ h.size ≤ b ∧ b < h'.size ∧ h'[b]? = some (.cells ⟨(textL s.data.toList n).map wv⟩ 22 (0, 0))) := by
  refine call_of hmix Tryz.func36 rfl ok36 (by simp [Tryz.f36]) ?_
  conv => whnf
  have e8 : IntKind.i64.wrap (8 * (n : Int)) = ((8 * n : Nat) : Int) := wrapN (by omega) (by omega)
  have hsl : s.data.toList.length = s.size := by rw [Array.length_toList]; rfl
  refine IfR.f (by simp [bif_or]; omega) ?_
  conv => whnf
  refine IfR.f (by simp [e8]; omega) ?_
  conv => whnf
  refine SemR.make (n := n) rfl rfl rfl rfl rfl (by show 8 * n ≤ _; omega) (by omega) fun b1 h1 e1 s1 o1 k1 => ?_
  conv => whnf
  refine SemR.bytesOf rfl rfl rfl fun b2 c2 h2 r2 fz2 e2 s2 hc2 o2 k2 => ?_
  conv => whnf
  refine LoopR.on [6, 25, 26, 27] [] (fun i : Nat => [(6, .v (.slice (some ⟨b1, 0, none⟩) n n)), (25, .v (.slice (some ⟨b2, 0, none⟩) s.size c2)), (26, .v (.int .i64 (s.size : Int))), (27, .v (.int .i64 (i : Int)))]) (fun _ => [])
    (fun i h' => i ≤ s.size ∧ Keeps [] h h' ∧ h2.size ≤ h'.size ∧ h'[b1]? = some (.cells ⟨(textL (s.data.toList.take i) n).map wv⟩ 22 (0, 0)) ∧ h'[b2]? = some (.cells ⟨bytesV s ++ r2⟩ 5 fz2)) (fun i => s.size - i) 0 ?_ ?_
  · conv => whnf
    refine ⟨0, rfl, rfl, rfl, Nat.zero_le _, k1.trans k2, Nat.le_refl _, ?_, o2⟩
    rw [k2.obj o1 (by simp)]
    congr 3
    simp [textL, wordT, packN, List.map_const']
    exact .inr rfl
  · rintro i h3 ⟨hi, k3, z3, o3, o4⟩
    conv => whnf
    refine IfR.i (fun hc => ?_) (fun hc => ?_)
    · have hi1 : i < s.size := by simp at hc; omega
      have hi2 : i < s.data.toList.length := by omega
      conv => whnf
      refine IdxS.i i rfl hi1 rfl ?_
      conv => whnf
      refine LoadR.o (v := .int .u8 (s.data.toList[i].toNat : Int)) o4 ?_ ?_
      · rw [nth_eq]
        show (bytesV s ++ r2)[0 + i * 1]? = _
        rw [show 0 + i * 1 = i by omega, List.getElem?_append_left (by rw [bytesV_len]; exact hi1)]
        simp [bytesV]
        exact ⟨_, Array.getElem?_eq_getElem (by simpa using hi2), rfl⟩
      conv => whnf
      refine Need.i (by decide) ?_
      have hi8 : i / 8 < n := by omega
      conv => whnf
      refine IdxS.i (i / 8) (quo_amt i (by omega)) hi8 rfl ?_
      conv => whnf
      refine LoadR.o (v := wv (wordT (s.data.toList.take i) (i / 8))) o3 ?_ ?_
      · rw [nth_eq]
        show ((textL (s.data.toList.take i) n).map wv)[0 + i / 8 * 1]? = _
        rw [show 0 + i / 8 * 1 = i / 8 by omega]
        simp [textL, hi8]
      conv => whnf
      refine Need.i (by decide) ?_
      conv => whnf
      refine Need.i (by rw [shift_amt i (by omega)]; omega) ?_
      conv => whnf
      refine IdxS.i (i / 8) (quo_amt i (by omega)) hi8 rfl ?_
      conv => whnf
      refine StoreR.i o3 ?_ (by simp [blocksOf]) fun h5 s5 o5 k5 => ?_
      · show 0 + i / 8 * 1 + 1 ≤ _
        simp [textL]; omega
      conv => whnf
      refine ⟨s.size - (i + 1), by omega, ?_⟩
      conv => whnf
      refine ⟨i + 1, rfl, by rw [wrapN (n := i + 1) (by simp) (by omega)], rfl, by omega, k3.new1 k5 (by omega), by omega, ?_, k5.obj o4 (by simp; omega)⟩
      rw [shift_amt i (by omega)] at o5
      have hv := or_val s.data.toList i hi2
      have e5 : spliceL (0 + i / 8 * 1) [wv (wordT (s.data.toList.take (i + 1)) (i / 8))] ((textL (s.data.toList.take i) n).map wv) = (textL (s.data.toList.take (i + 1)) n).map wv := by
        rw [show 0 + i / 8 * 1 = i / 8 by omega]
        have hsp : ∀ (k : Nat) (L : List Value) (v : Value), k < L.length → spliceL k [v] L = L.set k v := by
          intro k
          induction k with
          | zero => intro L v hL; cases L with
            | nil => simp at hL
            | cons a L => cases L <;> rfl
          | succ k ih => intro L v hL; cases L with
            | nil => simp at hL
            | cons a L => simp only [spliceL, List.set_cons_succ]; rw [ih L v (by simpa using hL)]
        rw [hsp _ _ _ (by simp [textL]; exact hi8)]
        apply List.ext_getElem
        · simp [textL]
        · intro j j1 j2
          have hj : j < n := by simpa [textL] using j2
          rw [List.getElem_set]
          split
          · rename_i e; subst e
            simp [textL]
          · rename_i e
            simp only [textL, List.getElem_map, List.getElem_range]
            congr 1
            unfold wordT
            rw [drop_take_other _ i j hi2 (fun x => e x.symm)]
      rw [← e5, ← hv]; exact o5
    · have hi1 : i = s.size := by simp at hc; omega
      conv => whnf
      rw [hi1, ← hsl, List.take_length] at o3
      exact ⟨k3, b1, rfl, by omega, by omega, o3⟩
end Go.Proofs.YteambknhlbiajaaGreatDoor
/-
  Builders of texts; functions of package slices.
-/
set_option linter.all false
set_option maxRecDepth 100000
namespace Go.Proofs.YteambknhlbiajaaGreatDoor
open Go Go.Eng

end Go.Proofs.YteambknhlbiajaaGreatDoor
/-
  Functions of packages strings, slices, bits that the layers call.
-/
set_option linter.all false
set_option maxRecDepth 100000
namespace Go.Proofs.YteambknhlbiajaaGreatDoor
open Go Go.Eng

theorem mul64_spec (y : Int) (hy : y = 16 ∨ y = 128) (h : Heap) : CallH Tryz.prog 146 [.int .u64 1, .int .u64 y] h (fun v h' => Keeps [] h h' ∧ v = .tuple #[.int .u64 0, .int .u64 y]) := by
  refine call_of hmix Tryz.func146 rfl ok146 (by simp [Tryz.f146]) ?_
  conv => whnf
  repeat (first | (refine Need.i (by decide) ?_; conv => whnf))
  refine ⟨Keeps.refl _ _, ?_⟩
  rcases hy with rfl | rfl <;> rfl

theorem mul_spec (y : Int) (hy : y = 16 ∨ y = 128) (h : Heap) : CallH Tryz.prog 119 [.int .u64 1, .int .u64 y] h (fun v h' => Keeps [] h h' ∧ v = .tuple #[.int .u64 0, .int .u64 y]) := by
  refine call_of hmix Tryz.func119 rfl ok119 (by simp [Tryz.f119]) ?_
  conv => whnf
  refine IfR.f rfl ?_
  conv => whnf
  refine CallR.i (mul64_spec y hy h) fun v h1 k1 hv => ?_
  subst hv
  conv => whnf
  exact ⟨k1, rfl⟩

def zeros (n : Nat) : List UInt8 := List.replicate n 0

end Go.Proofs.YteambknhlbiajaaGreatDoor
/-
  Functions of package slices that the layers call.
-/
set_option linter.all false
set_option maxRecDepth 100000
namespace Go.Proofs.YteambknhlbiajaaGreatDoor
open Go Go.Eng

theorem allOne_ints : ∀ l : List Int, allOne (l.map fun x => Value.int .i64 x) = true
  | [] => rfl
  | x :: l => by simpa [allOne, oneV] using allOne_ints l

theorem growI_spec (n : Nat) (hn : n ≤ 1000000) (h : Heap) : CallH Tryz.prog 118 [.slice none 0 0, .int .i64 (n : Int)] h (fun v h' => Keeps [] h h' ∧ ∃ a c, v = .slice a 0 c ∧ Own h' 3 1 a 0 c [] ∧ ∀ b ∈ blkA a, h.size ≤ b) := by
  have e1 : IntKind.i64.wrap ((n : Int) - IntKind.i64.wrap (((0 : Nat) : Int) - ((0 : Nat) : Int))) = (n : Int) := by
    rw [wrapN (x := ((0 : Nat) : Int) - ((0 : Nat) : Int)) (n := 0) (by simp) (by omega), wrapN (n := n) (by simp) (by omega)]
  refine call_of hmix Tryz.func118 rfl ok118 (by simp [Tryz.f118]) ?_
  conv => whnf
  refine MeetR.pass ?_
  conv => whnf
  refine IfR.f (by simp) ?_
  conv => whnf
  refine MeetR.pass ?_
  conv => whnf
  rw [e1]
  refine IfR.i (fun hc => ?_) (fun hc => ?_)
  · have hp : 0 < n := by simp at hc; omega
    conv => whnf
    refine SliceR.i 0 0 rfl rfl (Nat.le_refl _) (Nat.zero_le _) ?_
    conv => whnf
    rw [slA_zero]
    refine SemR.appendMake (by_ := 8) rfl rfl rfl rfl rfl rfl rfl hp (by omega) (by decide) fun b c h1 e1 s1 o1 hc k1 => ?_
    conv => whnf
    refine SliceR.i 0 0 rfl rfl (Nat.le_refl _) (Nat.zero_le _) ?_
    conv => whnf
    refine ⟨k1, some ⟨b, 0, none⟩, c, ?_, .inr ⟨b, _, rfl, o1, rfl, by simp, rfl, Nat.zero_le _⟩, by simp [blkA]; omega⟩
    rw [slA_zero]; rfl
  · conv => whnf
    exact ⟨Keeps.refl _ _, none, 0, rfl, .inl ⟨rfl, rfl, rfl, rfl⟩, by simp [blkA]⟩

theorem reps_ints (h : Heap) (xs : List Int) (hx : ∀ x ∈ xs, inI64 x) : Reps h (xs.map fun x => Value.int .i64 x) xs := by
  induction xs with
  | nil => rfl
  | cons x l ih => exact ⟨[.int .i64 x], _, rfl, ⟨rfl, hx x (by simp)⟩, ih (fun y hy => hx y (by simp [hy]))⟩

/-- one behind the other -/
theorem concat_spec {h : Heap} {a : Option Addr} {n c : Nat} {xss : List (List Int)} (S : Sl h a n c xss) (hx : ∀ xs ∈ xss, ∀ x ∈ xs, inI64 x) (hb : xss.flatten.length ≤ 1000) (hn : n ≤ 1000) : CallH Tryz.prog 96 [.slice a n c] h
    (fun v h' => Keeps [] h h' ∧ ∃ a' c', v = .slice a' xss.flatten.length c' ∧ Own h' 3 1 a' xss.flatten.length c' (xss.flatten.map fun x => .int .i64 x) ∧ ∀ b ∈ blkA a', h.size ≤ b) := by
  have hl := S.hlen
  have flen : ∀ i (hi : i < xss.length), (xss.take (i + 1)).flatten = (xss.take i).flatten ++ xss[i] := by
    intro i hi
    rw [List.take_succ_eq_append_getElem hi, List.flatten_append]; simp
  have fle : ∀ i, (xss.take i).flatten.length ≤ xss.flatten.length := by
    intro i
    have : xss.flatten = (xss.take i).flatten ++ (xss.drop i).flatten := by rw [← List.flatten_append, List.take_append_drop]
    rw [this, List.length_append]; omega
  refine call_of hmix Tryz.func96 rfl ok96 (by simp [Tryz.f96]) ?_
  conv => whnf
  refine LoopR.on [0, 3, 9, 10, 11] [] (fun i : Nat => [(0, .v (.slice a n c)), (3, .v (.int .i64 ((xss.take i).flatten.length : Int))), (9, .v (.slice a n c)), (10, .v (.int .i64 (n : Int))), (11, .v (.int .i64 (i : Int)))]) (fun _ => [])
    (fun i h' => i ≤ n ∧ h' = h) (fun i => n - i) 0 ?_ ?_
  · conv => whnf
    exact ⟨0, rfl, rfl, rfl, Nat.zero_le _, rfl⟩
  · rintro i h2 ⟨hi, rfl⟩
    conv => whnf
    refine IfR.i (fun hc => ?_) (fun hc => ?_)
    · have hi1 : i < xss.length := by simp at hc; omega
      obtain ⟨b, off, hb', cs, ⟨xa, xn, xc, rfl, SX⟩, hcell⟩ := S.at_ i hi1
      conv => whnf
      first | refine IdxS.i i rfl (by omega) hb' ?_ | (refine MeetR.pass ?_; (conv => whnf); refine IdxS.i i rfl (by omega) hb' ?_)
      conv => whnf
      refine LoadR.i (hcell 0 (by simp)) ?_
      have f1 := flen i hi1
      have f2 := fle (i + 1)
      have f3 : (xss.take (i + 1)).flatten.length = (xss.take i).flatten.length + xn := by rw [f1, List.length_append, SX.hlen]
      conv => whnf
      rw [wrapN (n := (xss.take (i + 1)).flatten.length) (by rw [f3]; simp) (by omega)]
      refine IfR.f (by simp) ?_
      conv => whnf
      refine ⟨n - (i + 1), by omega, ?_⟩
      conv => whnf
      exact ⟨i + 1, rfl, by rw [wrapN (x := (i : Int) + 1) (n := i + 1) (by simp) (by omega)], rfl, by omega, rfl⟩
    · have hi1 : i = xss.length := by simp at hc; omega
      subst hi1
      conv => whnf
      rw [List.take_length]
      refine CallR.i (growI_spec xss.flatten.length (by omega) h2) fun v h3 k3 hv => ?_
      obtain ⟨a3, c3, rfl, O3, n3⟩ := hv
      conv => whnf
      refine LoopR.on [6, 25, 26, 27] [] (fun q : Nat × Option Addr × Nat => [(6, .v (.slice q.2.1 (xss.take q.1).flatten.length q.2.2)), (25, .v (.slice a n c)), (26, .v (.int .i64 (n : Int))), (27, .v (.int .i64 (q.1 : Int)))]) (fun _ => [])
        (fun q h' => q.1 ≤ n ∧ Keeps [] h2 h' ∧ Own h' 3 1 q.2.1 (xss.take q.1).flatten.length q.2.2 ((xss.take q.1).flatten.map fun x => .int .i64 x) ∧ ∀ b ∈ blkA q.2.1, h2.size ≤ b) (fun q => n - q.1) (0, a3, c3) ?_ ?_
      · conv => whnf
        exact ⟨(0, a3, c3), rfl, rfl, rfl, Nat.zero_le _, k3, O3, n3⟩
      · rintro ⟨i, ai, ci⟩ h4 ⟨hi, k4, O4, n4⟩
        simp only at hi O4 n4
        conv => whnf
        refine IfR.i (fun hc => ?_) (fun hc => ?_)
        · have hi1 : i < xss.length := by simp at hc; omega
          obtain ⟨b, off, hb', cs, ⟨xa, xn, xc, rfl, SX⟩, hcell⟩ := S.at_ i hi1
          have hc4 := hcell.keep k4
          conv => whnf
          refine IdxS.i i rfl (by omega) hb' ?_
          conv => whnf
          refine LoadR.i (hc4 0 (by simp)) ?_
          have f1 := flen i hi1
          have f2 := fle (i + 1)
          have f3 : (xss.take (i + 1)).flatten.length = (xss.take i).flatten.length + xn := by rw [f1, List.length_append, SX.hlen]
          have SX4 := SX.keep k4
          have lenX := SX.hlen
          conv => whnf
          rcases Nat.eq_zero_or_pos xn with h0 | h0
          · subst h0
            have hx0 : xss[i] = [] := List.eq_nil_of_length_eq_zero lenX.symm
            have hcap : (xss.take i).flatten.length ≤ ci := by
              rcases O4 with ⟨rfl, h1, rfl, h2⟩ | ⟨b, c, _, _, _, _, _, h6⟩
              · omega
              · exact h6
            refine SemR.append0 rfl rfl rfl hcap ?_
            conv => whnf
            refine ⟨n - (i + 1), by omega, ?_⟩
            conv => whnf
            refine ⟨(i + 1, ai, ci), rfl, ?_, rfl, by simp only; omega, k4, ?_, n4⟩
            · have e : (xss.take (i + 1)).flatten.length = (xss.take i).flatten.length := by rw [f3, Nat.add_zero]
              simp only [e, Nat.add_zero]
              rw [wrapN (x := (i : Int) + 1) (n := i + 1) (by simp) (by omega)]
            · simp only
              rw [f1, hx0, List.append_nil]; exact O4
          · obtain ⟨xb, xo, rfl⟩ := SX.nonnil h0
            refine append_own (e := 3) (sz := 1) (by_ := 8) (new := xss[i].map fun x => .int .i64 x) rfl rfl rfl rfl rfl rfl rfl O4 (by simp [lenX]) (SX4.cells1) (allOne_ints _) (by omega) (by decide) (by simp [blocksOf]) ?_
            intro a5 c5 h5 O5 k5 n5
            conv => whnf
            refine ⟨n - (i + 1), by omega, ?_⟩
            conv => whnf
            refine ⟨(i + 1, a5, c5), rfl, ?_, rfl, by simp only; omega, k4.nil_of k5 n4, ?_, fun b hb => ?_⟩
            · simp only [f3]
              rw [wrapN (x := (i : Int) + 1) (n := i + 1) (by simp) (by omega)]
            · simp only
              rw [f1, List.length_append, ← lenX, List.map_append]; exact O5
            · rcases n5 b hb with h | h
              · exact n4 b h
              · have := k4.size; omega
        · have hi1 : i = xss.length := by simp at hc; omega
          subst hi1
          conv => whnf
          rw [List.take_length] at O4
          refine ⟨k4, ai, ci, ?_, O4, n4⟩
          rw [List.take_length]

theorem allOne_rep (n : Nat) (v : Value) (hv : oneV v = true) : allOne (List.replicate n v) = true := by
  induction n with
  | zero => rfl
  | succ n ih => rw [List.replicate_succ]; simp only [allOne, hv]; exact ih
theorem splice_drop {A N L : List Value} : spliceL A.length N (A ++ L) = A ++ spliceL 0 N L := by
  induction A with
  | nil => rfl
  | cons a A ih => simp only [List.length_cons, List.cons_append, spliceL, ih]

theorem repeatI_spec {h : Heap} {b : Nat} (o : h[b]? = some (.cells ⟨[.int .i64 (-1)]⟩ 3 (0, 0))) : CallH Tryz.prog 97 [.slice (some ⟨b, 0, none⟩) 1 1, .int .i64 16] h
    (fun v h' => Keeps [] h h' ∧ ∃ b', v = .slice (some ⟨b', 0, none⟩) 16 16 ∧ h'[b']? = some (.cells ⟨List.replicate 16 (.int .i64 (-1))⟩ 3 (0, 0)) ∧ h.size ≤ b') := by
  refine call_of hmix Tryz.func97 rfl ok97 (by simp [Tryz.f97]) ?_
  conv => whnf
  refine MeetR.pass ?_
  conv => whnf
  refine IfR.f rfl ?_
  conv => whnf
  refine CallR.i (mul_spec 16 (.inl rfl) h) fun v h1 k1 hv => ?_
  subst hv
  conv => whnf
  first | refine IfR.f rfl ?_ | (refine MeetR.pass ?_; (conv => whnf); refine IfR.f rfl ?_)
  conv => whnf
  refine SemR.make (n := 16) rfl rfl rfl rfl rfl (by decide) (by decide) fun b2 h2 e2 s2 o2 k2 => ?_
  have ob := (k1.trans k2).obj o (by simp)
  have hbl : b < h.size := obj_lt o
  have z1 := k1.size
  conv => whnf
  refine SemR.copy (sz := 1) (new := [.int .i64 (-1)]) rfl rfl rfl o2 rfl (fun j hj => by simp only [Heap.cell?, ob]; simp) rfl (by decide) (by simp [blocksOf]) fun h3 s3 o3 k3 => ?_
  conv => whnf
  refine LoopR.on [7, 8] [] (fun j : Nat => [(7, .v (.slice (some ⟨b2, 0, none⟩) 16 16)), (8, .v (.int .i64 ((2 ^ j : Nat) : Int)))]) (fun _ => [])
    (fun j h' => j ≤ 4 ∧ Keeps [] h h' ∧ h'[b2]? = some (.cells ⟨List.replicate (2 ^ j) (.int .i64 (-1)) ++ List.replicate (16 - 2 ^ j) (.int .i64 0)⟩ 3 (0, 0))) (fun j => 4 - j) 0 ?_ ?_
  · conv => whnf
    exact ⟨0, rfl, rfl, rfl, by decide, (k1.trans k2).new1 k3 (by omega), o3⟩
  · rintro j h4 ⟨hj, k4, o4⟩
    have hp : 2 ^ j ≤ 16 := by
      have : 2 ^ j ≤ 2 ^ 4 := Nat.pow_le_pow_right (by decide) hj
      simpa using this
    generalize hq : 2 ^ j = q at *
    conv => whnf
    refine IfR.i (fun hc => ?_) (fun hc => ?_)
    · have hj1 : j < 4 := by
        rcases Nat.lt_or_ge j 4 with h | h
        · exact h
        · have : j = 4 := by omega
          subst this; subst hq; simp at hc
      have hp2 : 2 ^ (j + 1) ≤ 16 := by
        have : 2 ^ (j + 1) ≤ 2 ^ 4 := Nat.pow_le_pow_right (by decide) (by omega)
        simpa using this
      have hps : 2 ^ (j + 1) = q + q := by rw [Nat.pow_succ]; omega
      conv => whnf
      refine SliceR.i q 16 rfl rfl (by omega) (by omega) ?_
      conv => whnf
      refine SliceR.i 0 q rfl rfl (by omega) (by omega) ?_
      conv => whnf
      have hq0 : 0 < q := by rw [← hq]; exact Nat.pow_pos (by decide)
      have eA : ∀ s, slA (some ⟨b2, 0, none⟩) 16 q s = some ⟨b2, 0 + q * s, none⟩ := by
        intro s
        unfold slA
        rw [if_neg (by omega)]
        simp [addr_add]
      rw [slA_zero, eA]
      refine SemR.copy (sz := 1) (new := List.replicate q (.int .i64 (-1))) rfl rfl rfl o4 (by rw [List.length_replicate]; omega) (fun k hk => ?_) (allOne_rep q _ rfl) ?_ (by simp [blocksOf]) fun h5 s5 o5 k5 => ?_
      · have hk' : k < q := by simpa using hk
        simp only [Heap.cell?, o4]
        simp [hk', List.getElem?_append]
      · show 0 + q * 1 + _ ≤ _
        simp only [List.length_append, List.length_replicate]; omega
      conv => whnf
      refine ⟨4 - (j + 1), by omega, ?_⟩
      conv => whnf
      have em : min (q - 0) (16 - q) = q := by omega
      refine ⟨j + 1, rfl, ?_, rfl, by omega, k4.new1 k5 (by omega), ?_⟩
      · rw [em, hps, wrapN (n := q + q) (by simp) (by omega)]
      · have e5 : spliceL (0 + q * 1) (List.replicate q (Value.int .i64 (-1))) (List.replicate q (Value.int .i64 (-1)) ++ List.replicate (16 - q) (Value.int .i64 0)) = List.replicate (2 ^ (j + 1)) (Value.int .i64 (-1)) ++ List.replicate (16 - 2 ^ (j + 1)) (Value.int .i64 0) := by
          have e6 : List.replicate (16 - q) (Value.int .i64 0) = List.replicate (List.replicate q (Value.int .i64 (-1))).length (Value.int .i64 0) ++ List.replicate (16 - 2 ^ (j + 1)) (Value.int .i64 0) := by
            rw [List.length_replicate, List.replicate_append_replicate]
            congr 1; omega
          rw [e6, show 0 + q * 1 = (List.replicate q (Value.int .i64 (-1))).length by rw [List.length_replicate]; omega, splice_drop, splice_head, ← List.append_assoc, List.replicate_append_replicate, hps]
        rw [← e5]; exact o5
    · have hj1 : j = 4 := by
        rcases Nat.lt_or_ge j 4 with h | h
        · have : 2 ^ j < 2 ^ 4 := Nat.pow_lt_pow_right (by decide) h
          have h2 : (q : Int) < 16 := by
            have : 2 ^ j < 16 := by simpa using this
            omega
          simp at hc; omega
        · omega
      subst hj1
      have hq' : q = 16 := by rw [← hq]
      subst hq'
      conv => whnf
      exact ⟨k4, b2, rfl, o4, by omega⟩

def usedB (n : Int) : Bool := decide (n ≠ -1)
def oddB (n : Int) : Bool := decide (n < -1) || decide (96 ≤ n)

theorem used_spec (n : Int) (h : Heap) : CallH Tryz.prog 78 [.int .i64 n] h (fun v h' => Keeps [] h h' ∧ v = .bool (usedB n)) := by
  refine call_of hmix Tryz.func78 rfl ok78 (by simp [Tryz.f78]) ?_
  conv => whnf
  refine ⟨Keeps.refl _ _, ?_⟩
  congr 1
  rw [Bool.eq_iff_iff]; simp [usedB]
theorem odd_spec (n : Int) (h : Heap) : CallH Tryz.prog 77 [.int .i64 n] h (fun v h' => Keeps [] h h' ∧ v = .bool (oddB n)) := by
  refine call_of hmix Tryz.func77 rfl ok77 (by simp [Tryz.f77]) ?_
  conv => whnf
  refine ⟨Keeps.refl _ _, ?_⟩
  congr 1

/-- the first that is so -/
def idxF (p : Int → Bool) : List Int → Nat → Int
  | [], _ => -1
  | x :: l, i => if p x then (i : Int) else idxF p l (i + 1)
theorem idxF_any (p : Int → Bool) : ∀ (l : List Int) (i : Nat), decide (0 ≤ idxF p l i) = l.any p
  | [], i => rfl
  | x :: l, i => by
    simp only [idxF, List.any_cons]
    split
    · rename_i hp; rw [hp]; simp
    · rename_i hp
      rw [idxF_any p l (i + 1)]
      simp [hp]

theorem indexFunc_used (p : Int → Bool) (hcall : ∀ (x : Int) (h : Heap), CallH Tryz.prog 78 [.int .i64 x] h (fun v h' => Keeps [] h h' ∧ v = .bool (p x))) {h : Heap} {a : Option Addr} {n c : Nat} {xs : List Int} (S : Sl h a n c xs) (hn : n ≤ 1000000000) :
    CallH Tryz.prog 106 [.slice a n c, .func (.func 78) #[] #[]] h (fun v h' => Keeps [] h h' ∧ v = .int .i64 (idxF p xs 0)) := by
  have hl := S.hlen
  refine call_of hmix Tryz.func106 rfl ok106 (by simp [Tryz.f106]) ?_
  conv => whnf
  refine LoopR.on [0, 1, 7, 8] [] (fun i : Nat => [(0, .v (.slice a n c)), (1, .v (.func (.func 78) #[] #[])), (7, .v (.int .i64 (n : Int))), (8, .v (.int .i64 (i : Int)))]) (fun _ => [])
    (fun i h' => i ≤ n ∧ Keeps [] h h' ∧ idxF p xs 0 = idxF p (xs.drop i) i) (fun i => n - i) 0 ?_ ?_
  · conv => whnf
    exact ⟨0, rfl, rfl, rfl, Nat.zero_le _, Keeps.refl _ _, rfl⟩
  · rintro i h2 ⟨hi, k2, hI⟩
    conv => whnf
    refine IfR.i (fun hc => ?_) (fun hc => ?_)
    · have hi1 : i < xs.length := by simp at hc; omega
      obtain ⟨b, off, hb, _, hcell⟩ := (S.keep k2).at1 i hi1
      rw [List.drop_eq_getElem_cons hi1] at hI
      simp only [idxF] at hI
      conv => whnf
      refine IdxS.i i rfl (by omega) hb ?_
      conv => whnf
      refine LoadR.i hcell ?_
      conv => whnf
      refine CallR.i (hcall xs[i] h2) fun v h3 k3 hv => ?_
      subst hv
      conv => whnf
      refine IfR.i (fun hd => ?_) (fun hd => ?_)
      · conv => whnf
        rw [if_pos (by simpa using hd)] at hI
        exact ⟨k2.trans k3, by rw [hI]⟩
      · rw [if_neg (by simpa using hd)] at hI
        conv => whnf
        refine ⟨n - (i + 1), by omega, ?_⟩
        conv => whnf
        exact ⟨i + 1, rfl, by rw [wrapN (n := i + 1) (by simp) (by omega)], rfl, by omega, k2.trans k3, hI⟩
    · have hi1 : i = xs.length := by simp at hc; omega
      conv => whnf
      refine ⟨k2, ?_⟩
      rw [hI, hi1, List.drop_length]; rfl

theorem indexFunc_odd (p : Int → Bool) (hcall : ∀ (x : Int) (h : Heap), CallH Tryz.prog 77 [.int .i64 x] h (fun v h' => Keeps [] h h' ∧ v = .bool (p x))) {h : Heap} {a : Option Addr} {n c : Nat} {xs : List Int} (S : Sl h a n c xs) (hn : n ≤ 1000000000) :
    CallH Tryz.prog 106 [.slice a n c, .func (.func 77) #[] #[]] h (fun v h' => Keeps [] h h' ∧ v = .int .i64 (idxF p xs 0)) := by
  have hl := S.hlen
  refine call_of hmix Tryz.func106 rfl ok106 (by simp [Tryz.f106]) ?_
  conv => whnf
  refine LoopR.on [0, 1, 7, 8] [] (fun i : Nat => [(0, .v (.slice a n c)), (1, .v (.func (.func 77) #[] #[])), (7, .v (.int .i64 (n : Int))), (8, .v (.int .i64 (i : Int)))]) (fun _ => [])
    (fun i h' => i ≤ n ∧ Keeps [] h h' ∧ idxF p xs 0 = idxF p (xs.drop i) i) (fun i => n - i) 0 ?_ ?_
  · conv => whnf
    exact ⟨0, rfl, rfl, rfl, Nat.zero_le _, Keeps.refl _ _, rfl⟩
  · rintro i h2 ⟨hi, k2, hI⟩
    conv => whnf
    refine IfR.i (fun hc => ?_) (fun hc => ?_)
    · have hi1 : i < xs.length := by simp at hc; omega
      obtain ⟨b, off, hb, _, hcell⟩ := (S.keep k2).at1 i hi1
      rw [List.drop_eq_getElem_cons hi1] at hI
      simp only [idxF] at hI
      conv => whnf
      refine IdxS.i i rfl (by omega) hb ?_
      conv => whnf
      refine LoadR.i hcell ?_
      conv => whnf
      refine CallR.i (hcall xs[i] h2) fun v h3 k3 hv => ?_
      subst hv
      conv => whnf
      refine IfR.i (fun hd => ?_) (fun hd => ?_)
      · conv => whnf
        rw [if_pos (by simpa using hd)] at hI
        exact ⟨k2.trans k3, by rw [hI]⟩
      · rw [if_neg (by simpa using hd)] at hI
        conv => whnf
        refine ⟨n - (i + 1), by omega, ?_⟩
        conv => whnf
        exact ⟨i + 1, rfl, by rw [wrapN (n := i + 1) (by simp) (by omega)], rfl, by omega, k2.trans k3, hI⟩
    · have hi1 : i = xs.length := by simp at hc; omega
      conv => whnf
      refine ⟨k2, ?_⟩
      rw [hI, hi1, List.drop_length]; rfl

theorem indexFunc_spec (f : Nat) (p : Int → Bool) (hf : (f = 78 ∧ p = usedB) ∨ (f = 77 ∧ p = oddB)) {h : Heap} {a : Option Addr} {n c : Nat} {xs : List Int} (S : Sl h a n c xs) (hn : n ≤ 1000000000) :
    CallH Tryz.prog 106 [.slice a n c, .func (.func f) #[] #[]] h (fun v h' => Keeps [] h h' ∧ v = .int .i64 (idxF p xs 0)) := by
  rcases hf with ⟨rfl, rfl⟩ | ⟨rfl, rfl⟩
  · exact indexFunc_used usedB used_spec S hn
  · exact indexFunc_odd oddB odd_spec S hn

theorem containsFunc_spec (f : Nat) (p : Int → Bool) (hf : (f = 78 ∧ p = usedB) ∨ (f = 77 ∧ p = oddB)) {h : Heap} {a : Option Addr} {n c : Nat} {xs : List Int} (S : Sl h a n c xs) (hn : n ≤ 1000000000) :
    CallH Tryz.prog 76 [.slice a n c, .func (.func f) #[] #[]] h (fun v h' => Keeps [] h h' ∧ v = .bool (xs.any p)) := by
  refine call_of hmix Tryz.func76 rfl ok76 (by simp [Tryz.f76]) ?_
  conv => whnf
  refine CallR.i (indexFunc_spec f p hf S hn) fun v h1 k1 hv => ?_
  subst hv
  conv => whnf
  refine ⟨k1, ?_⟩
  rw [← idxF_any p xs 0]
end Go.Proofs.YteambknhlbiajaaGreatDoor
/-
  Layer 10: a file's map; a block's bytes.
-/
set_option linter.all false
set_option maxRecDepth 100000
namespace Go.Proofs.YteambknhlbiajaaGreatDoor
open Go Go.Eng

/-- a card -/
structure Crd where
  kind : Int
  links : Int
  size : Int
  ver : UInt64
  d0 : Int
  d1 : Int
  d2 : Int
  d3 : Int
  d4 : Int
  more : Int
  deriving DecidableEq

def iv (x : Int) : Value := .int .i64 x
def Crd.cells (c : Crd) : List Value := [.int .i64 c.kind, .int .i64 c.links, .int .i64 c.size, wv c.ver, .int .i64 c.d0, .int .i64 c.d1, .int .i64 c.d2, .int .i64 c.d3, .int .i64 c.d4, .int .i64 c.more]
def Crd.direct (c : Crd) : List Int := [c.d0, c.d1, c.d2, c.d3, c.d4]
def Crd.zero : Crd := ⟨0, 0, 0, 0, 0, 0, 0, 0, 0, 0⟩
def Crd.ok (c : Crd) : Prop := inI64 c.kind ∧ inI64 c.links ∧ inI64 c.size ∧ (∀ x ∈ c.direct, inI64 x) ∧ inI64 c.more

/-- whole numbers in a block of one's own, and spare room behind -/
def IntsAt (h : Heap) (b : Nat) (m : List Int) (sp : List Value) : Prop := h[b]? = some (.cells ⟨m.map (fun x => Value.int .i64 x) ++ sp⟩ 3 (0, 0))

theorem IntsAt.sl {h : Heap} {b : Nat} {m : List Int} {sp : List Value} (o : IntsAt h b m sp) (hm : ∀ x ∈ m, inI64 x) {n cap : Nat} (hn : n = m.length) (hc : n ≤ cap) (hb : m.length ≤ 281474976710656) : Sl h (some ⟨b, 0, none⟩) n cap m := by
  subst hn
  exact Sl.of1 (α := Int) o (fun i hi => by rw [List.getElem?_append_left (by simpa using hi)]; simp [hi, One.val]) hm hc hb

theorem splice_set1 : ∀ (k : Nat) (L : List Value) (v : Value), k < L.length → spliceL k [v] L = L.set k v
  | 0, [], v, h => by simp at h
  | 0, a :: L, v, h => by cases L <;> rfl
  | k + 1, [], v, h => by simp at h
  | k + 1, a :: L, v, h => by simp only [spliceL, List.set_cons_succ]; rw [splice_set1 k L v (by simpa using h)]

theorem ints_set {m : List Int} {sp : List Value} {i : Nat} {x : Int} (hi : i < m.length) : spliceL (0 + i * 1) [Value.int .i64 x] (m.map (fun x => Value.int .i64 x) ++ sp) = (m.set i x).map (fun x => Value.int .i64 x) ++ sp := by
  rw [show 0 + i * 1 = i by omega, splice_set1 _ _ _ (by simp; omega), List.set_append, if_pos (by simpa using hi), List.map_set]

theorem IntsAt.nth {h : Heap} {b : Nat} {m : List Int} {sp : List Value} (o : IntsAt h b m sp) {i : Nat} (hi : i < m.length) : Heap.cell? h b (0 + i * 1) = some (.int .i64 m[i]) := by
  unfold IntsAt at o
  simp only [Heap.cell?, o]
  rw [show 0 + i * 1 = i by omega]
  simp [List.getElem?_append, hi]

def moreL (now : Int → UInt64) (k : Int) : List UInt64 := rdL now (1288 + k * 16) 16
def convW (w : UInt64) : Int := (w.toNat : Int) - 1
/-- a card's map over words -/
def mapOf (now : Int → UInt64) (c : Crd) : Option (List Int) :=
  if c.more = -1 then some (c.direct ++ List.replicate 16 (-1))
  else if 0 ≤ c.more ∧ c.more < 96 ∧ (moreL now c.more).all (fun w => decide (w.toNat ≤ 96)) = true ∧ ((moreL now c.more).map convW).any usedB = true then some (c.direct ++ (moreL now c.more).map convW)
  else none

theorem mapOf_length {now : Int → UInt64} {c : Crd} {m : List Int} (h : mapOf now c = some m) : m.length = 21 := by
  unfold mapOf at h
  split at h
  · simp at h; subst h; simp [Crd.direct]
  · split at h
    · simp at h; subst h; simp [Crd.direct, moreL, rdL]
    · cases h

theorem Rp.int_n : Rp.n Int = 1 := rfl

theorem map_full {h : Heap} {V : VL} {M : MemS} {X : VS} (A : At h V M X) (c : Crd) (hc : c.ok) : CallH Tryz.prog 58 [.pointer (some ⟨V.v, 0, none⟩), .agg ⟨c.cells⟩] h (fun v h' => Keeps [] h h' ∧
    match mapOf X.now c with
    | some m => ∃ b cap sp, v = .tuple #[.slice (some ⟨b, 0, none⟩) 21 cap, .int .i64 0] ∧ IntsAt h' b m sp ∧ h.size ≤ b ∧ 21 ≤ cap ∧ cap = 21 + sp.length
    | none => v = .tuple #[.slice none 0 0, .int .i64 15]) := by
  refine call_of hmix Tryz.func58 rfl ok58 (by simp [Tryz.f58]) ?_
  conv => whnf
  refine AllocR.i fun b1 h1 e1 s1 o1 k1 => ?_
  conv => whnf
  refine IfR.f rfl ?_
  conv => whnf
  refine PureR.i (v := .slice (some ⟨b1, 4, none⟩) 5 5) (fun w => rfl) ?_
  conv => whnf
  refine AllocR.i fun b2 h2 e2 s2 o2 k2 => ?_
  conv => whnf
  refine CallR.i (repeatI_spec o2) fun v h3 k3 hv => ?_
  obtain ⟨b3, rfl, o3, n3⟩ := hv
  conv => whnf
  refine AllocR.i fun b4 h4 e4 s4 o4 k4 => ?_
  have z3 := k3.size
  have b3lt : b3 < h3.size := obj_lt o3
  have S1 : Sl h4 (some ⟨b1, 4, none⟩) 5 5 c.direct := ⟨rfl, Nat.le_refl _, by simp [Crd.direct], fun i hi => ⟨b1, 4, rfl, [.int .i64 c.direct[i]], ⟨rfl, hc.2.2.2.1 _ (List.getElem_mem hi)⟩, fun j hj => by
    have hj0 : j = 0 := by simpa using hj
    subst hj0
    have o14 := (k2.trans (k3.trans k4)).obj o1 (by simp)
    simp only [Heap.cell?, o14]
    have hi' : i < 5 := hi
    have : i = 0 ∨ i = 1 ∨ i = 2 ∨ i = 3 ∨ i = 4 := by omega
    rcases this with rfl | rfl | rfl | rfl | rfl <;> rfl⟩⟩
  have S2 : Sl h4 (some ⟨b3, 0, none⟩) 16 16 (List.replicate 16 (-1 : Int)) := Sl.of1' (α := Int) (by rw [k4.obj o3 (by simp)]; rfl) (by intro x hx; rw [List.mem_replicate] at hx; rw [hx.2]; exact ⟨by decide, by decide⟩) rfl (by decide)
  have S : Sl h4 (some ⟨b4, 0, none⟩) 2 2 [c.direct, List.replicate 16 (-1 : Int)] := ⟨rfl, Nat.le_refl _, by simp, fun i hi => ⟨b4, 0, rfl, [if i = 0 then .slice (some ⟨b1, 4, none⟩) 5 5 else .slice (some ⟨b3, 0, none⟩) 16 16], by
    have hi' : i < 2 := hi
    have : i = 0 ∨ i = 1 := by omega
    rcases this with rfl | rfl
    · exact ⟨_, _, _, rfl, S1⟩
    · exact ⟨_, _, _, rfl, S2⟩, fun j hj => by
    have hj0 : j = 0 := by simpa using hj
    subst hj0
    have hi' : i < 2 := hi
    have : i = 0 ∨ i = 1 := by omega
    simp only [Heap.cell?, o4]
    rcases this with rfl | rfl <;> rfl⟩⟩
  conv => whnf
  refine CallR.i (concat_spec S ?_ (by simp [Crd.direct]) (by decide)) fun v h5 k5 hv => ?_
  · intro xs hxs x hx
    simp only [List.mem_cons, List.not_mem_nil, or_false] at hxs
    rcases hxs with rfl | rfl
    · exact hc.2.2.2.1 x hx
    · rw [List.mem_replicate] at hx; rw [hx.2]; exact ⟨by decide, by decide⟩
  obtain ⟨a5, c5, rfl, O5, n5⟩ := hv
  have hfl : [c.direct, List.replicate 16 (-1 : Int)].flatten = c.direct ++ List.replicate 16 (-1) := by simp
  have hlen : (c.direct ++ List.replicate 16 (-1 : Int)).length = 21 := by simp [Crd.direct]
  rw [hfl, hlen] at O5
  rw [hfl, hlen]
  have k05 : Keeps [] h h5 := k1.trans (k2.trans (k3.trans (k4.trans k5)))
  rcases O5 with ⟨_, h0, _⟩ | ⟨b5, L, rfl, o5, t5, l5, _, c5l⟩
  · omega
  have z15 := (k2.trans (k3.trans k4)).size
  have hb5 : h.size ≤ b5 := by have := n5 b5 (by simp [blkA]); omega
  obtain ⟨sp, hsp⟩ : ∃ sp, L = (c.direct ++ List.replicate 16 (-1 : Int)).map (fun x => Value.int .i64 x) ++ sp := ⟨L.drop 21, by
    have : ((c.direct ++ List.replicate 16 (-1 : Int)).map (fun x => Value.int .i64 x)).length = 21 := by simp [Crd.direct]
    rw [this] at t5
    rw [← t5, List.take_append_drop]⟩
  have I5 : IntsAt h5 b5 (c.direct ++ List.replicate 16 (-1)) sp := by rw [hsp] at o5; exact o5
  have hcap : c5 = 21 + sp.length := by
    have h1 : L.length = 21 + sp.length := by rw [hsp]; simp [Crd.direct]; omega
    omega
  clear t5 l5 S S1 S2
  have o15 := (k2.trans (k3.trans (k4.trans k5))).obj o1 (by simp)
  conv => whnf
  refine LoadR.o o15 rfl ?_
  conv => whnf
  refine IfR.i (fun hd => ?_) (fun hd => ?_)
  · have hm : c.more = -1 := by simpa using hd
    conv => whnf
    refine ⟨k05, ?_⟩
    unfold mapOf
    rw [if_pos hm]
    exact ⟨b5, c5, sp, rfl, I5, hb5, c5l, hcap⟩
  · have hm : ¬ c.more = -1 := by simpa using hd
    conv => whnf
    refine LoadR.o o15 rfl ?_
    conv => whnf
    refine CallR.i (block_spec (A.on k05) c.more) fun v h6 k6 hv => ?_
    rcases hv with ⟨q1, q2, b6, rfl, q3, q4, o6⟩ | ⟨q1, rfl⟩
    · conv => whnf
      refine IfR.f rfl ?_
      have hml : (moreL X.now c.more).length = 16 := by simp [moreL, rdL]
      have hne : b6 ≠ b5 := by have := obj_lt o5; omega
      conv => whnf
      refine LoopR.on [6, 32, 33, 34] [] (fun i : Nat => [(6, .v (.slice (some ⟨b5, 0, none⟩) 21 c5)), (32, .v (.slice (some ⟨b6, 0, none⟩) 16 16)), (33, .v (.int .i64 16)), (34, .v (.int .i64 (i : Int)))]) (fun _ => [])
        (fun i h' => i ≤ 16 ∧ Keeps [] h h' ∧ h6.size ≤ h'.size ∧ IntsAt h' b5 (c.direct ++ (((moreL X.now c.more).map convW).take i ++ List.replicate (16 - i) (-1))) sp ∧ h'[b6]? = some (.cells ⟨(moreL X.now c.more).map wv⟩ 22 (0, 0)) ∧ ∀ k (hk : k < (moreL X.now c.more).length), k < i → (moreL X.now c.more)[k].toNat ≤ 96) (fun i => 16 - i) 0 ?_ ?_
      · conv => whnf
        exact ⟨0, rfl, rfl, rfl, Nat.zero_le _, k05.trans k6, Nat.le_refl _, k6.obj I5 (by simp), o6, fun k _ hk => by omega⟩
      · rintro i h7 ⟨hi, k7, z7, I7, o7, all7⟩
        conv => whnf
        refine IfR.i (fun he => ?_) (fun he => ?_)
        · have hi1 : i < 16 := by simp at he; omega
          have hi2 : i < (moreL X.now c.more).length := by omega
          conv => whnf
          refine IdxS.i i rfl hi1 rfl ?_
          conv => whnf
          refine LoadR.o (v := wv (moreL X.now c.more)[i]) o7 ?_ ?_
          · rw [nth_eq]
            show ((moreL X.now c.more).map wv)[0 + i * 1]? = _
            rw [show 0 + i * 1 = i by omega]; simp [hi2]
          conv => whnf
          refine IfR.i (fun hf => ?_) (fun hf => ?_)
          · conv => whnf
            have hw : 96 < (moreL X.now c.more)[i].toNat := by simp at hf; omega
            refine ⟨k7, ?_⟩
            have : mapOf X.now c = none := by
              unfold mapOf
              rw [if_neg hm, if_neg]
              rintro ⟨_, _, hall, _⟩
              have := List.all_eq_true.1 hall _ (List.getElem_mem hi2)
              simp at this; omega
            rw [this]
          · have hw : (moreL X.now c.more)[i].toNat ≤ 96 := by simp at hf; omega
            have ew : IntKind.i64.wrap (IntKind.i64.wrap ((moreL X.now c.more)[i].toNat : Int) - 1) = convW (moreL X.now c.more)[i] := by
              rw [wrapI (x := ((moreL X.now c.more)[i].toNat : Int)) (by omega) (by omega), wrapI (by omega) (by omega)]; rfl
            conv => whnf
            refine IdxS.i (5 + i) ?_ (by omega) rfl ?_
            · rw [wrapN (n := 5 + i) (by simp) (by omega)]
            conv => whnf
            refine StoreR.i I7 ?_ (by simp [blocksOf]) fun h8 s8 o8 k8 => ?_
            · show 0 + (5 + i) * 1 + 1 ≤ _
              simp [Crd.direct, hml]; omega
            conv => whnf
            refine ⟨16 - (i + 1), by omega, ?_⟩
            conv => whnf
            refine ⟨i + 1, rfl, by rw [wrapN (n := i + 1) (by simp) (by omega)], rfl, by omega, k7.new1 k8 hb5, by omega, ?_, k8.obj o7 (by simpa using hne), fun k hk hki => ?_⟩
            · rw [ew] at o8
              have hlen2 : 5 + i < (c.direct ++ (((moreL X.now c.more).map convW).take i ++ List.replicate (16 - i) (-1))).length := by simp [Crd.direct, hml]; omega
              have e8 := ints_set (sp := sp) (x := convW (moreL X.now c.more)[i]) hlen2
              have e9 : (c.direct ++ (((moreL X.now c.more).map convW).take i ++ List.replicate (16 - i) (-1))).set (5 + i) (convW (moreL X.now c.more)[i]) = c.direct ++ (((moreL X.now c.more).map convW).take (i + 1) ++ List.replicate (16 - (i + 1)) (-1)) := by
                have hd5 : c.direct.length = 5 := rfl
                have ht : (((moreL X.now c.more).map convW).take i).length = i := by simp [hml]; omega
                rw [List.set_append, if_neg (by omega), hd5, show 5 + i - 5 = i by omega, List.set_append, if_neg (by omega), ht, Nat.sub_self, show 16 - i = (16 - (i + 1)) + 1 by omega, List.replicate_succ, List.set_cons_zero,
                  List.take_succ_eq_append_getElem (by simp [hml]; omega)]
                simp
              rw [e9] at e8
              unfold IntsAt
              rw [← e8]; exact o8
            · rcases Nat.lt_or_ge k i with h | h
              · exact all7 k hk h
              · have : k = i := by omega
                subst this; exact hw
        · have hi1 : i = 16 := by simp at he; omega
          subst hi1
          have hall : (moreL X.now c.more).all (fun w => decide (w.toNat ≤ 96)) = true := by
            rw [List.all_eq_true]
            intro w hw
            obtain ⟨k, hk, rfl⟩ := List.mem_iff_getElem.1 hw
            have := all7 k hk (by omega)
            simpa using this
          have et : ((moreL X.now c.more).map convW).take 16 ++ List.replicate (16 - 16) (-1) = (moreL X.now c.more).map convW := by
            rw [List.take_of_length_le (by simp [hml])]; simp
          rw [et] at I7
          have okm : ∀ x ∈ c.direct ++ (moreL X.now c.more).map convW, inI64 x := by
            intro x hx
            rcases List.mem_append.1 hx with hx | hx
            · exact hc.2.2.2.1 x hx
            · obtain ⟨w, hw, rfl⟩ := List.mem_map.1 hx
              have := List.all_eq_true.1 hall w hw
              simp at this
              unfold convW inI64; omega
          have SM := I7.sl okm (n := 21) (cap := c5) (by simp [Crd.direct, hml]) c5l (by simp [Crd.direct, hml])
          have SP := SM.part (l := 5) (r := 21) (by decide) (by decide)
          conv => whnf
          refine SliceR.i 5 21 rfl rfl (by decide) c5l ?_
          conv => whnf
          have hpart : (List.take 21 (c.direct ++ (moreL X.now c.more).map convW)).drop 5 = (moreL X.now c.more).map convW := by
            rw [List.take_of_length_le (by simp [Crd.direct, hml])]
            rw [List.drop_append]; simp [Crd.direct]
          rw [hpart] at SP
          refine CallR.i (containsFunc_spec 78 usedB (.inl ⟨rfl, rfl⟩) SP (by decide)) fun v h8 k8 hv => ?_
          subst hv
          conv => whnf
          refine IfR.i (fun hf => ?_) (fun hf => ?_)
          · conv => whnf
            refine ⟨k7.trans k8, ?_⟩
            have hn : ((moreL X.now c.more).map convW).any usedB = false := by simpa using hf
            have : mapOf X.now c = none := by
              unfold mapOf
              rw [if_neg hm, if_neg]
              rintro ⟨_, _, _, h⟩
              rw [hn] at h; cases h
            rw [this]
          · conv => whnf
            refine ⟨k7.trans k8, ?_⟩
            have hn : ((moreL X.now c.more).map convW).any usedB = true := by simpa using hf
            have : mapOf X.now c = some (c.direct ++ (moreL X.now c.more).map convW) := by
              unfold mapOf
              rw [if_neg hm, if_pos ⟨q1, q2, hall, hn⟩]
            rw [this]
            exact ⟨b5, c5, sp, rfl, k8.obj I7 (by simp), hb5, c5l, hcap⟩
    · conv => whnf
      refine IfR.t rfl ?_
      conv => whnf
      refine ⟨k05.trans k6, ?_⟩
      have : mapOf X.now c = none := by
        unfold mapOf
        rw [if_neg hm, if_neg]
        rintro ⟨h1, h2, _⟩
        exact q1 ⟨h1, h2⟩
      rw [this]

theorem map_spec {h : Heap} {V : VL} {M : MemS} {X : VS} (A : At h V M X) (c : Crd) (hc : c.ok) : CallH Tryz.prog 58 [.pointer (some ⟨V.v, 0, none⟩), .agg ⟨c.cells⟩] h (fun v h' => Keeps [] h h' ∧
    match mapOf X.now c with
    | some m => ∃ b cap sp, v = .tuple #[.slice (some ⟨b, 0, none⟩) 21 cap, .int .i64 0] ∧ IntsAt h' b m sp ∧ h.size ≤ b ∧ 21 ≤ cap
    | none => v = .tuple #[.slice none 0 0, .int .i64 15]) := CallH.mono (map_full A c hc) fun v h' ⟨k, H⟩ => ⟨k, by
  cases hm : mapOf X.now c with
  | none => rw [hm] at H; exact H
  | some m =>
    rw [hm] at H
    obtain ⟨b, cap, sp, h1, h2, h3, h4, _⟩ := H
    exact ⟨b, cap, sp, h1, h2, h3, h4⟩⟩

/-- a block's bytes; noughts of a hole -/
def bytesB (now : Int → UInt64) (n : Int) : List UInt8 := if n = -1 then zeros 128 else untextL (rdL now (1288 + n * 16) 16) 128
theorem bytesB_len (now : Int → UInt64) (n : Int) : (bytesB now n).length = 128 := by
  unfold bytesB; split
  · simp [zeros]
  · simp [untextL]

theorem may_spec {v0 : Nat} (node : Int) (h : Heap) : CallH Tryz.prog 75 [.pointer (some ⟨v0, 0, none⟩), .int .i64 node] h (fun v h' => Keeps [] h h' ∧ v = .int .i64 (if 0 ≤ node ∧ node < 24 then 0 else 1)) := by
  refine call_of hmix Tryz.func75 rfl ok75 (by simp [Tryz.f75]) ?_
  conv => whnf
  refine CallR.i (cardAt_spec node h) fun v h1 k1 hv => ?_
  subst hv
  conv => whnf
  first | refine IfR.f rfl ?_ | (refine MeetR.pass ?_; (conv => whnf); refine IfR.f rfl ?_)
  conv => whnf
  exact ⟨k1, rfl⟩
end Go.Proofs.YteambknhlbiajaaGreatDoor
/-
  Layer 10: a card with a map.
-/
set_option linter.all false
set_option maxRecDepth 100000
namespace Go.Proofs.YteambknhlbiajaaGreatDoor
open Go Go.Eng

def setD (c : Crd) (m : List Int) : Crd := { c with d0 := m[0]?.getD 0, d1 := m[1]?.getD 0, d2 := m[2]?.getD 0, d3 := m[3]?.getD 0, d4 := m[4]?.getD 0 }

/-- a card with a map -/
def keepP (B : Int → UInt64) (X : VS) (node : Int) (c : Crd) (m : List Int) : Crd × Int × VS :=
  if (0 ≤ node ∧ node < 24) ∧ m.length = 21 ∧ m.any oddB = false then
    (if (m.drop 5).any usedB = false then
      (if c.more = -1 then ({ setD c m with more := -1 }, 0, X)
      else if (dropP X c.more).1 = 0 then ({ setD c m with more := -1 }, 0, (dropP X c.more).2) else (Crd.zero, (dropP X c.more).1, (dropP X c.more).2))
    else
      let t := if c.more = -1 then takeP B X node else (c.more, 0, X)
      if t.2.1 = 0 then
        ({ setD c m with more := t.1 }, if 0 ≤ t.1 ∧ t.1 < 96 then 0 else 1, if 0 ≤ t.1 ∧ t.1 < 96 then { t.2.2 with now := putBlk t.2.2.now t.1 ((m.drop 5).map fun n => w64 (n + 1)) } else t.2.2)
      else (Crd.zero, t.2.1, t.2.2))
  else (Crd.zero, 1, X)

theorem zero_cells : Crd.zero.cells = [.int .i64 0, .int .i64 0, .int .i64 0, .int .u64 0, .int .i64 0, .int .i64 0, .int .i64 0, .int .i64 0, .int .i64 0, .int .i64 0] := rfl

theorem take5 {m : List Int} (h : m.length = 21) : ∃ a b c d e r, m = a :: b :: c :: d :: e :: r ∧ r.length = 16 := by
  match m, h with
  | a :: b :: c :: d :: e :: r, h => exact ⟨a, b, c, d, e, r, rfl, by simpa using h⟩

theorem usedB_t {n : Int} : usedB n = true ↔ ¬ n = -1 := by unfold usedB; exact decide_eq_true_iff
theorem usedB_f {n : Int} : usedB n = false ↔ n = -1 := by
  rw [← Bool.not_eq_true, usedB_t]
  first | done | exact Classical.not_not

theorem bnot_t {b : Bool} (h : (!b) = true) : b = false := by cases b <;> simp_all
theorem bnot_f {b : Bool} (h : (!b) = false) : b = true := by cases b <;> simp_all
theorem reps_w (h : Heap) : ∀ l : List UInt64, Reps h (l.map wv) l
  | [] => rfl
  | x :: l => ⟨[wv x], l.map wv, rfl, rfl, reps_w h l⟩

theorem keep_spec {h : Heap} {V : VL} {M : MemS} {X : VS} (A : At h V M X) (node : Int) (c : Crd) {sa : Option Addr} {n cap : Nat} {m : List Int} (S : Sl h sa n cap m) (hs : n = 21 → V.ob ∉ blkA sa) :
    CallH Tryz.prog 41 [.pointer (some ⟨V.v, 0, none⟩), .int .i64 node, .agg ⟨c.cells⟩, .slice sa n cap] h (fun v h' => Keeps [V.ob] h h' ∧
      v = .tuple #[.agg ⟨(keepP M.read X node c m).1.cells⟩, .int .i64 (keepP M.read X node c m).2.1] ∧ At h' V M (keepP M.read X node c m).2.2) := by
  have hl := S.hlen
  have hob := A.blt V.ob (by simp [VL.blocks])
  refine call_of hmix Tryz.func41 rfl ok41 (by simp [Tryz.f41]) ?_
  conv => whnf
  refine AllocR.i fun b1 h1 e1 s1 o1 k1 => ?_
  conv => whnf
  refine AllocR.i fun b2 h2 e2 s2 o2 k2 => ?_
  conv => whnf
  refine CallR.i (may_spec node h2) fun v h3 k3 hv => ?_
  subst hv
  have k03 := k1.trans (k2.trans k3)
  have z3 := k3.size
  -- no use
  have bad : ¬ ((0 ≤ node ∧ node < 24) ∧ m.length = 21 ∧ m.any oddB = false) → ∀ h4 h5 : Heap, Keeps [] h3 h4 → Keeps [b2] h4 h5 → Keeps [V.ob] h h5 ∧ Value.tuple #[.agg ⟨[.int .i64 0, .int .i64 0, .int .i64 0, .int .u64 0, .int .i64 0, .int .i64 0, .int .i64 0, .int .i64 0, .int .i64 0, .int .i64 0]⟩, .int .i64 1] = .tuple #[.agg ⟨(keepP M.read X node c m).1.cells⟩, .int .i64 (keepP M.read X node c m).2.1] ∧ At h5 V M (keepP M.read X node c m).2.2 := by
    intro hno h4 h5 k4 k5
    have k05 : Keeps [] h h5 := (k03.trans k4).new1 k5 (by omega)
    unfold keepP
    rw [if_neg hno]
    exact ⟨k05.mono (by simp), rfl, A.on k05⟩
  conv => whnf
  first | refine IfR.i (fun hc => ?_) (fun hc => ?_) | (refine MeetR.pass ?_; (conv => whnf); refine IfR.i (fun hc => ?_) (fun hc => ?_))
  · have hb : 0 ≤ node ∧ node < 24 := Classical.byContradiction fun hb => by rw [if_neg hb] at hc; simp [bif_and, bif_or] at hc
    rw [if_pos hb] at hc
    rw [if_pos hb]
    have h21 : n = 21 := by simp [bif_and, bif_or] at hc; omega
    subst h21
    conv => whnf
    refine CallR.i (containsFunc_spec 77 oddB (.inr ⟨rfl, rfl⟩) (S.keep k03) (by decide)) fun v h4 k4 hv => ?_
    subst hv
    have k04 := k03.trans k4
    have z4 := k4.size
    conv => whnf
    refine IfR.i (fun hd => ?_) (fun hd => ?_)
    · have ho : m.any oddB = true := by simpa [bif_and, bif_or] using hd
      conv => whnf
      refine IfR.t rfl ?_
      conv => whnf
      refine BoxR.i fun h5 s5 k5 => ?_
      conv => whnf
      exact bad (fun x => by rw [ho] at x; exact absurd x.2.2 (by decide)) h4 h5 k4 k5
    · have ho : m.any oddB = false := by simpa [bif_and, bif_or] using hd
      have hyes : (0 ≤ node ∧ node < 24) ∧ m.length = 21 ∧ m.any oddB = false := ⟨hb, hl.symm, ho⟩
      have rng : ∀ x ∈ m, -1 ≤ x ∧ x < 96 := by
        intro x hx
        have := List.any_eq_false.1 ho x hx
        simp [oddB] at this; omega
      obtain ⟨xb, xo, rfl⟩ := S.nonnil (by decide)
      have o14 := (k2.trans (k3.trans k4)).obj o1 (by simp)
      have Sm := S.keep k04
      conv => whnf
      refine IfR.f rfl ?_
      conv => whnf
      refine PureR.i (v := .slice (some ⟨b1, 4, none⟩) 5 5) (fun w => rfl) ?_
      conv => whnf
      refine SemR.copy (sz := 1) (new := (m.take 5).map fun x => .int .i64 x) rfl rfl rfl o14 (by simp [hl.symm]) (fun j hj => ?_) (allOne_ints _) ?_ ?_ fun h5 s5 o5 k5 => ?_
      · have hj5 : j < 5 := by simp [hl.symm] at hj; exact hj
        rw [Sm.cells1 j (by simp [hl.symm]; omega)]
        have hjm : j < m.length := by omega
        simp [One.val, List.getElem?_take, hj5]
      · show 4 + ((m.take 5).map fun x => Value.int .i64 x).length ≤ 10
        simp [hl.symm]
      · intro hx
        have hx2 : b1 ∈ [b2] := hx
        simp at hx2; omega
      have hb1 : b1 < h5.size := obj_lt o5
      have k05 : Keeps [] h h5 := k04.new1 k5 (by omega)
      -- the card with the map
      have o5' : h5[b1]? = some (.cells ⟨(setD c m).cells⟩ 25 (0, 0)) := by
        rw [o5]
        obtain ⟨a, b, c', d, e, r, rfl, _⟩ := take5 hl.symm
        rfl
      clear o5
      have Sp := (S.keep k05).part (l := 5) (r := 21) (by decide) (Nat.le_refl _)
      rw [List.take_of_length_le (by omega)] at Sp
      have hcap := S.hcap
      conv => whnf
      refine SliceR.i 5 21 rfl rfl (by decide) hcap ?_
      conv => whnf
      refine CallR.i (containsFunc_spec 78 usedB (.inl ⟨rfl, rfl⟩) Sp (by decide)) fun v h6 k6 hv => ?_
      subst hv
      have k06 := k05.trans k6
      have o6 := k6.obj o5' (by simp)
      conv => whnf
      first | refine IfR.i (fun hu => ?_) (fun hu => ?_) | (refine MeetR.pass ?_; (conv => whnf); refine IfR.i (fun hu => ?_) (fun hu => ?_))
      · have hu' : (m.drop 5).any usedB = false := by simpa using hu
        have hP : keepP M.read X node c m = (if c.more = -1 then ({ setD c m with more := -1 }, 0, X)
            else if (dropP X c.more).1 = 0 then ({ setD c m with more := -1 }, 0, (dropP X c.more).2) else (Crd.zero, (dropP X c.more).1, (dropP X c.more).2)) := by
          unfold keepP; rw [if_pos hyes, if_pos hu']
        rw [hP]
        have hob1 : V.ob ≠ b1 := by omega
        conv => whnf
        first | refine LoadR.o o6 rfl ?_ | (refine MeetR.pass ?_; (conv => whnf); refine LoadR.o o6 rfl ?_)
        conv => whnf
        refine CallR.i (used_spec _ h6) fun v h7 k7 hv => ?_
        subst hv
        have k07 := k06.trans k7
        have o7 := k7.obj o6 (by simp)
        have z7 := (k6.trans k7).size
        -- the end, where nothing is behind
        have fin : ∀ (X' : VS) (h8 : Heap), Keeps [V.ob] h h8 → At h8 V M X' → h7.size ≤ h8.size → h8[b1]? = some (.cells ⟨(setD c m).cells⟩ 25 (0, 0)) → ∀ h9, h9.size = h8.size → Keeps [b1] h8 h9 → ∀ h10, h10.size = h9.size → Keeps [b2] h9 h10 → Keeps [V.ob] h h10 ∧ At h10 V M X' := by
          intro X' h8 k8 A8 z8 o8 h9 s9 k9 h10 s10 k10
          have nv : ∀ b ∈ V.blocks, b ≠ b1 ∧ b ≠ b2 := fun b hb => by have := A.blt b hb; omega
          exact ⟨(k8.m1 k9 (by omega)).m1 k10 (by omega), (A8.keep k9 (fun b hb => by simpa using (nv b hb).1)).keep k10 (fun b hb => by simpa using (nv b hb).2)⟩
        conv => whnf
        first | refine IfR.i (fun hq => ?_) (fun hq => ?_) | (refine MeetR.pass ?_; (conv => whnf); refine IfR.i (fun hq => ?_) (fun hq => ?_))
        · have hm : ¬ c.more = -1 := usedB_t.1 hq
          rw [if_neg hm]
          conv => whnf
          refine LoadR.o o7 rfl ?_
          conv => whnf
          refine CallR.m (drop_spec (A.on k07) _) (by intro b hb hx; have hb2 : b ∈ [b2] := hb; simp at hb2 hx; omega) fun v h8 k8 hv => ?_
          obtain ⟨rfl, A8⟩ := hv
          have e8 : (setD c m).more = c.more := rfl
          rw [e8] at A8
          have k08 : Keeps [V.ob] h h8 := (k07.mono (by simp)).trans k8
          have o8 := k8.obj o7 (by simpa using hob1.symm)
          conv => whnf
          first | refine IfR.i (fun hr => ?_) (fun hr => ?_) | (refine MeetR.pass ?_; (conv => whnf); refine IfR.i (fun hr => ?_) (fun hr => ?_))
          all_goals rw [e8] at hr
          · have hd0 : ¬ (dropP X c.more).1 = 0 := by simpa using hr
            rw [if_neg hd0]
            conv => whnf
            refine BoxR.i fun h9 s9 k9 => ?_
            conv => whnf
            have nv : ∀ b ∈ V.blocks, b ≠ b1 ∧ b ≠ b2 := fun b hb => by have := A.blt b hb; omega
            exact ⟨k08.m1 k9 (by omega), rfl, A8.keep k9 (fun b hb => by simpa using (nv b hb).2)⟩
          · have hd0 : (dropP X c.more).1 = 0 := by simpa using hr
            rw [if_pos hd0]
            conv => whnf
            refine StoreR.i o8 (Nat.le_of_ble_eq_true rfl) (by intro hx; have hx2 : b1 ∈ [b2] := hx; simp at hx2; omega) fun h9 s9 o9 k9 => ?_
            conv => whnf
            refine LoadN.o o9 rfl ?_
            conv => whnf
            refine BoxR.i fun h10 s10 k10 => ?_
            conv => whnf
            obtain ⟨q1, q2⟩ := fin _ h8 k08 A8 k8.size o8 h9 s9 k9 h10 s10 k10
            exact ⟨q1, rfl, q2⟩
        · have hm : c.more = -1 := usedB_f.1 hq
          rw [if_pos hm]
          conv => whnf
          first | refine IfR.f rfl ?_ | (refine MeetR.pass ?_; (conv => whnf); refine IfR.f rfl ?_)
          conv => whnf
          refine StoreR.i o7 (Nat.le_of_ble_eq_true rfl) (by intro hx; have hx2 : b1 ∈ [b2] := hx; simp at hx2; omega) fun h9 s9 o9 k9 => ?_
          conv => whnf
          refine LoadN.o o9 rfl ?_
          conv => whnf
          refine BoxR.i fun h10 s10 k10 => ?_
          conv => whnf
          obtain ⟨q1, q2⟩ := fin _ h7 (k07.mono (by simp)) (A.on k07) (Nat.le_refl _) o7 h9 s9 k9 h10 s10 k10
          exact ⟨q1, rfl, q2⟩
      · have hu' : ¬ (m.drop 5).any usedB = false := by rw [show (m.drop 5).any usedB = true by simpa using hu]; decide
        have hP : ∀ (k : Int) (X1 : VS), (if c.more = -1 then takeP M.read X node else (c.more, 0, X)) = (k, 0, X1) → keepP M.read X node c m = ({ setD c m with more := k }, (if 0 ≤ k ∧ k < 96 then 0 else 1), if 0 ≤ k ∧ k < 96 then { X1 with now := putBlk X1.now k ((m.drop 5).map fun n => w64 (n + 1)) } else X1) := by
          intro k X1 he
          unfold keepP
          rw [if_pos hyes, if_neg hu']
          simp only [he, if_true]
        have hob1 : V.ob ≠ b1 := by omega
        have hob2 : V.ob ≠ b2 := by omega
        have nb2 : ∀ b ∈ blocksOf [(8, b2, Crd.zero.cells)], b ∉ [V.ob] := by intro b hb hx; have hb2 : b ∈ [b2] := hb; simp at hb2 hx; omega
        have nv : ∀ b ∈ V.blocks, b ≠ b1 ∧ b ≠ b2 := fun b hb => by have := A.blt b hb; omega
        conv => whnf
        first | refine LoadR.o o6 rfl ?_ | (refine MeetR.pass ?_; (conv => whnf); refine LoadR.o o6 rfl ?_)
        conv => whnf
        refine CallR.i (used_spec _ h6) fun v h7 k7 hv => ?_
        subst hv
        have k07 := k06.trans k7
        have o7 := k7.obj o6 (by simp)
        have z7 := (k6.trans k7).size
        conv => whnf
        first | refine IfR.i ?ca ?cb | (refine MeetR.pass ?_; (conv => whnf); refine IfR.i ?ca ?cb)
        case' ca =>
          intro hq
          have hm : c.more = -1 := usedB_f.1 (bnot_t hq)
          conv => whnf
          refine CallR.m (take_spec (A.on k07) node) nb2 fun v hy ky hv => ?_
          obtain ⟨rfl, Ay⟩ := hv
          have oy := ky.obj o7 (by simpa using hob1.symm)
          conv => whnf
          refine StoreR.i oy (Nat.le_of_ble_eq_true rfl) (by intro hx; have hx2 : b1 ∈ [b2] := hx; simp at hx2; omega) fun hx sx ox kx => ?_
          have Ax := Ay.keep kx (fun b hb => by simpa using (nv b hb).1)
          have zy := ky.size
          have k0x : Keeps [V.ob] h hx := ((k07.mono (by simp)).trans ky).m1 kx (by omega)
          conv => whnf
          refine IfR.i (fun hr => ?_) (fun hr => ?_)
          · have ht : ¬ (takeP M.read X node).2.1 = 0 := by simpa using hr
            conv => whnf
            refine BoxR.i fun h9 s9 k9 => ?_
            conv => whnf
            have : keepP M.read X node c m = (Crd.zero, (takeP M.read X node).2.1, (takeP M.read X node).2.2) := by
              unfold keepP
              rw [if_pos hyes, if_neg hu', if_pos hm]
              simp only [if_neg ht]
            rw [this]
            exact ⟨k0x.m1 k9 (by omega), rfl, Ax.keep k9 (fun b hb => by simpa using (nv b hb).2)⟩
          have ht : (takeP M.read X node).2.1 = 0 := by simpa using hr
          have hPx := hP (takeP M.read X node).1 (takeP M.read X node).2.2 (by rw [if_pos hm, ← ht])
          have zz : b2 < hx.size ∧ h.size ≤ hx.size := ⟨by omega, by omega⟩
          have ox' : hx[b1]? = some (.cells ⟨({ setD c m with more := (takeP M.read X node).1 } : Crd).cells⟩ 25 (0, 0)) := ox
          clear oy ox hr hq ht kx sx ky Ay zy
          rw [hPx]
          clear hPx
          generalize (takeP M.read X node).1 = k, (takeP M.read X node).2.2 = X1 at ox' Ax ⊢
        case' cb =>
          intro hq
          have hm : ¬ c.more = -1 := usedB_t.1 (bnot_f hq)
          have hPx := hP c.more X (by rw [if_neg hm])
          have Ax := A.on k07
          have k0x : Keeps [V.ob] h h7 := k07.mono (by simp)
          have zz : b2 < h7.size ∧ h.size ≤ h7.size := ⟨by omega, by omega⟩
          have ox' : h7[b1]? = some (.cells ⟨({ setD c m with more := c.more } : Crd).cells⟩ 25 (0, 0)) := o7
          rw [hPx]
          clear hPx hq
          obtain ⟨X1, hX1⟩ : ∃ X1, X1 = X := ⟨_, rfl⟩
          rw [← hX1] at Ax ⊢
          obtain ⟨hx, hhx⟩ : ∃ hx, hx = h7 := ⟨_, rfl⟩
          rw [← hhx] at Ax k0x ox' zz ⊢
          obtain ⟨k, hk⟩ : ∃ k, k = c.more := ⟨_, rfl⟩
          rw [← hk] at ox' ⊢
        all_goals
          have Sx := S.keepM k0x (fun b hb hx => by simp at hx; exact (hs rfl) (hx ▸ hb))
          have Sq := Sx.part (l := 5) (r := 21) (by decide) (Nat.le_refl _)
          rw [List.take_of_length_le (by omega)] at Sq
          have hml : (m.drop 5).length = 16 := by simp; omega
          conv => whnf
          refine SliceR.i 5 21 rfl rfl (by decide) hcap ?_
          conv => whnf
          refine LoopR.on [0, 6, 8, 11, 69, 70, 71] [8] (fun q : Nat × Option Addr × Nat => [(0, .v (.pointer (some ⟨V.v, 0, none⟩))), (6, .v (.pointer (some ⟨b1, 0, none⟩))), (8, .lp 8 0), (11, .v (.slice q.2.1 q.1 q.2.2)), (69, .v (.slice (slA (some ⟨xb, xo, none⟩) cap 5 1) 16 (cap - 5))), (70, .v (.int .i64 16)), (71, .v (.int .i64 (q.1 : Int)))])
            (fun _ => [(8, b2, Crd.zero.cells)]) (fun q h' => q.1 ≤ 16 ∧ Keeps [] hx h' ∧ Own h' 22 1 q.2.1 q.1 q.2.2 ((((m.drop 5).take q.1).map fun n => w64 (n + 1)).map wv) ∧ ∀ b ∈ blkA q.2.1, hx.size ≤ b) (fun q => 16 - q.1) (0, none, 0) ?_ ?_
          · conv => whnf
            exact ⟨(0, none, 0), rfl, rfl, rfl, by decide, Keeps.refl _ _, .inl ⟨rfl, rfl, rfl, rfl⟩, by simp [blkA]⟩
          · rintro ⟨i, a, ca⟩ h8 ⟨hi, k8, O8, n8⟩
            simp only at hi O8 n8
            conv => whnf
            refine IfR.i (fun hc => ?_) (fun hc => ?_)
            · have hi1 : i < (m.drop 5).length := by simp at hc; omega
              obtain ⟨yb, yo, hy, hyo, hcell⟩ := (Sq.keep k8).at1 i hi1
              have hr := rng (m.drop 5)[i] (List.mem_of_mem_drop (List.getElem_mem hi1))
              conv => whnf
              refine IdxS.i i rfl (by omega) hy ?_
              conv => whnf
              refine LoadR.i hcell ?_
              conv => whnf
              refine AllocR.i fun b9 h9 e9 s9 o9 k9 => ?_
              conv => whnf
              have ev : Value.int .u64 (IntKind.u64.wrap (IntKind.i64.wrap ((m.drop 5)[i] + 1))) = wv (w64 ((m.drop 5)[i] + 1)) := by
                rw [wrapI (x := (m.drop 5)[i] + 1) (by omega) (by omega), wv_w64]
              rw [ev] at o9 ⊢
              have z8 := k8.size
              refine append_own (e := 22) (sz := 1) (by_ := 8) (new := [wv (w64 ((m.drop 5)[i] + 1))]) rfl rfl rfl rfl rfl rfl rfl (O8.keep k9 (by simp)) rfl (fun j hj => ?_) rfl (by omega) (by decide) (fun b hb hx2 => ?_) ?_
              · have hj0 : j = 0 := by simpa using hj
                subst hj0
                simp only [Heap.cell?, o9]; rfl
              · have hb2 : b ∈ [b2] := hx2
                have := n8 b hb
                simp at hb2; omega
              intro a10 c10 h10 O10 k10 n10
              conv => whnf
              refine ⟨16 - (i + 1), by omega, ?_⟩
              conv => whnf
              refine ⟨(i + 1, a10, c10), rfl, by rw [wrapN (x := (i : Int) + 1) (n := i + 1) (by simp) (by omega)], rfl, by simp only; omega, (k8.trans k9).nil_of k10 n8, ?_, fun b hb => ?_⟩
              · simp only
                rw [List.take_succ_eq_append_getElem hi1, List.map_append, List.map_append]
                exact O10
              · rcases n10 b hb with h | h
                · exact n8 b h
                · omega
            · have hi1 : i = 16 := by simp at hc; omega
              subst hi1
              rw [List.take_of_length_le (by omega)] at O8
              have SL := O8.sl (reps_w h8 _) rfl (by decide) (by simp; omega)
              have z8 := k8.size
              have o8 := k8.obj ox' (by simp)
              have hsl : V.ob ∉ blkA a := fun hb => by have := n8 _ hb; omega
              have fin : ∀ h9 h10 : Heap, Keeps [V.ob] h8 h9 → At h9 V M (if 0 ≤ k ∧ k < 96 ∧ 16 ≤ 16 then { X1 with now := putBlk X1.now k ((m.drop 5).map fun n => w64 (n + 1)) } else X1) → Keeps [b2] h9 h10 →
                  Keeps [V.ob] h h10 ∧ Value.tuple #[.agg ⟨({ setD c m with more := k } : Crd).cells⟩, .int .i64 (if 0 ≤ k ∧ k < 96 ∧ 16 ≤ 16 then 0 else 1)] = .tuple #[.agg ⟨({ setD c m with more := k } : Crd).cells⟩, .int .i64 (if 0 ≤ k ∧ k < 96 then 0 else 1)] ∧ At h10 V M (if 0 ≤ k ∧ k < 96 then { X1 with now := putBlk X1.now k ((m.drop 5).map fun n => w64 (n + 1)) } else X1) := by
                intro h9 h10 k9 A9 k10
                have hk : (0 ≤ k ∧ k < 96 ∧ 16 ≤ 16) ↔ (0 ≤ k ∧ k < 96) := ⟨fun h => ⟨h.1, h.2.1⟩, fun h => ⟨h.1, h.2, Nat.le_refl _⟩⟩
                simp only [hk] at A9 ⊢
                exact ⟨((k0x.trans (k8.mono (by simp))).trans k9).m1 k10 (by omega), trivial, A9.keep k10 (fun b hb => by simpa using (nv b hb).2)⟩
              conv => whnf
              refine LoadR.o o8 rfl ?_
              conv => whnf
              refine BothR.i ?_ ?_
              · conv => whnf
                refine LoadN.o o8 rfl ?_
                conv => whnf
                refine CallR.m (setBlock_spec (Ax.on k8) k SL hsl) nb2 fun v h9 k9 hv => ?_
                obtain ⟨rfl, A9⟩ := hv
                conv => whnf
                refine BoxR.i fun h10 s10 k10 => ?_
                conv => whnf
                exact fin h9 h10 k9 A9 k10
              · conv => whnf
                refine CallR.m (setBlock_spec (Ax.on k8) k SL hsl) nb2 fun v h9 k9 hv => ?_
                obtain ⟨rfl, A9⟩ := hv
                conv => whnf
                refine LoadN.o (k9.obj o8 (by simpa using hob1.symm)) rfl ?_
                conv => whnf
                refine BoxR.i fun h10 s10 k10 => ?_
                conv => whnf
                exact fin h9 h10 k9 A9 k10
  · have hno : ¬ ((0 ≤ node ∧ node < 24) ∧ m.length = 21 ∧ m.any oddB = false) := by
      rintro ⟨h1, h2, _⟩
      rw [if_pos h1] at hc
      simp [bif_and, bif_or] at hc
      omega
    conv => whnf
    refine IfR.i (fun hd => ?_) (fun hd => ?_)
    · conv => whnf
      refine IfR.t rfl ?_
      conv => whnf
      refine BoxR.i fun h4 s4 k4 => ?_
      conv => whnf
      exact bad hno h3 h4 (Keeps.refl _ _) k4
    · have hb : ¬ (0 ≤ node ∧ node < 24) := fun hb => by
        rw [if_pos hb] at hc hd
        simp [bif_and, bif_or] at hc hd
        omega
      rw [if_neg hb]
      conv => whnf
      refine IfR.t rfl ?_
      conv => whnf
      refine BoxR.i fun h4 s4 k4 => ?_
      conv => whnf
      exact bad hno h3 h4 (Keeps.refl _ _) k4
end Go.Proofs.YteambknhlbiajaaGreatDoor
/-
  Layer 10: a file's bytes are read.
-/
set_option linter.all false
set_option maxRecDepth 100000
namespace Go.Proofs.YteambknhlbiajaaGreatDoor
open Go Go.Eng

/-- a file's bytes, and those behind its end -/
def fileB (now : Int → UInt64) (m : List Int) : List UInt8 := m.flatMap (bytesB now)

theorem flat_len {now : Int → UInt64} : ∀ m : List Int, (fileB now m).length = 128 * m.length
  | [] => rfl
  | x :: m => by
    have := flat_len (now := now) m
    simp only [fileB, List.flatMap_cons, List.length_append, bytesB_len, List.length_cons] at this ⊢
    omega
theorem flat_take {now : Int → UInt64} (m : List Int) (i : Nat) : (fileB now m).take (128 * i) = fileB now (m.take i) := by
  induction m generalizing i with
  | nil => simp [fileB]
  | cons x m ih =>
    cases i with
    | zero => simp [fileB]
    | succ i =>
      have := ih i
      simp only [fileB, List.flatMap_cons, List.take_succ_cons] at this ⊢
      rw [List.take_append, bytesB_len, show 128 * (i + 1) - 128 = 128 * i by omega, this, List.take_of_length_le (by rw [bytesB_len]; omega)]
theorem flat_step {now : Int → UInt64} (m : List Int) (i : Nat) (hi : i < m.length) : (fileB now m).take (128 * (i + 1)) = (fileB now m).take (128 * i) ++ bytesB now m[i] := by
  rw [flat_take, flat_take, List.take_succ_eq_append_getElem hi]
  unfold fileB
  rw [List.flatMap_append, List.flatMap_singleton]

/-- what is read behind 'i' blocks -/
def readTo (now : Int → UInt64) (m : List Int) (at_ end_ i : Nat) : List UInt8 := ((fileB now m).take (min (128 * i) end_)).drop at_

theorem readTo_step {now : Int → UInt64} (m : List Int) (a e i : Nat) (hi : i < m.length) (h1 : 128 * i < e) (h2 : a < 128 * i + 128) (h3 : a ≤ e) :
    readTo now m a e (i + 1) = readTo now m a e i ++ ((bytesB now m[i]).take (min (e - 128 * i) 128)).drop (a - 128 * i) := by
  unfold readTo
  have hl := flat_len (now := now) m
  have e1 : (fileB now m).take (min (128 * (i + 1)) e) = (fileB now m).take (128 * i) ++ (bytesB now m[i]).take (min (e - 128 * i) 128) := by
    have : (fileB now m).take (min (128 * (i + 1)) e) = ((fileB now m).take (128 * (i + 1))).take (min (128 * (i + 1)) e) := by
      rw [List.take_take]; congr 1; omega
    rw [this, flat_step m i hi, List.take_append]
    have h4 : ((fileB now m).take (128 * i)).length = 128 * i := by rw [List.length_take, hl]; omega
    rw [h4, List.take_of_length_le (by rw [h4]; omega)]
    congr 2; omega
  rw [e1, show min (128 * i) e = 128 * i by omega, List.drop_append]
  congr 2
  rw [List.length_take, hl]; omega

theorem readTo_skip {now : Int → UInt64} (m : List Int) (a e i : Nat) (h2 : 128 * i + 128 ≤ a) : readTo now m a e (i + 1) = readTo now m a e i := by
  unfold readTo
  rw [List.drop_eq_nil_of_le (by rw [List.length_take]; omega), List.drop_eq_nil_of_le (by rw [List.length_take]; omega)]

def okMap (now : Int → UInt64) (c : Crd) : Prop := ∀ m, mapOf now c = some m → ∀ x ∈ m, x = -1 ∨ (0 ≤ x ∧ x < 96)

/-- what is read of a file -/
def readP (now : Int → UInt64) (c : Crd) (at_ n : Int) : List UInt8 × Int :=
  if at_ < 0 ∨ n < 0 ∨ 4096 < n then ([], 1)
  else match mapOf now c with
    | none => ([], 15)
    | some m => if c.size ≤ at_ then ([], 0) else (((fileB now m).take (min c.size (at_ + n)).toNat).drop at_.toNat, 0)

end Go.Proofs.YteambknhlbiajaaGreatDoor
/-
  Layer 10: a file's bytes are written.
-/
set_option linter.all false
set_option maxRecDepth 100000
set_option maxHeartbeats 4000000
namespace Go.Proofs.YteambknhlbiajaaGreatDoor
open Go Go.Eng

/-- a block's bytes, where others are written: 'a' is where they begin, 'e' where they end, 'f' where the block begins -/
def wblk (old data : List UInt8) (a e f : Nat) : List UInt8 := old.take (a - f) ++ (data.drop (f + (a - f) - a)).take (min (e - f) 128 - (a - f)) ++ old.drop (min (e - f) 128)

def wStep (B : Int → UInt64) (node : Int) (a : Nat) (data : List UInt8) (i : Nat) (X : VS) (m : List Int) : Int × VS × List Int :=
  let t : Int × VS × List Int := if m[i]?.getD 0 = -1 then ((takeP B X node).2.1, (takeP B X node).2.2, m.set i (takeP B X node).1) else (0, X, m)
  if t.1 = 0 then (0, { t.2.1 with now := putBlk t.2.1.now (t.2.2[i]?.getD 0) (textL (wblk (bytesB t.2.1.now (t.2.2[i]?.getD 0)) data a (a + data.length) (128 * i)) 16) }, t.2.2)
  else t

def writeL (B : Int → UInt64) (node : Int) (a : Nat) (data : List UInt8) : Nat → Nat → VS → List Int → Int × VS × List Int
  | 0, _, X, m => (0, X, m)
  | f + 1, i, X, m => if (wStep B node a data i X m).1 = 0 then writeL B node a data f (i + 1) (wStep B node a data i X m).2.1 (wStep B node a data i X m).2.2 else wStep B node a data i X m

/-- bytes are written -/
def writeP (B : Int → UInt64) (X : VS) (node : Int) (c : Crd) (at_ : Int) (data : List UInt8) : Crd × Int × VS :=
  if ¬ (0 ≤ node ∧ node < 24) ∨ at_ < 0 ∨ 400 < data.length then (Crd.zero, 1, X)
  else if data = [] then (match mapOf X.now c with | none => (Crd.zero, 15, X) | some _ => (c, 0, X))
  else if 2688 - (data.length : Int) < at_ then (Crd.zero, 10, X)
  else match mapOf X.now c with
    | none => (Crd.zero, 15, X)
    | some m =>
      let r := writeL B node at_.toNat data ((at_.toNat + data.length + 127) / 128 - at_.toNat / 128) (at_.toNat / 128) X m
      if r.1 = 0 then keepP B r.2.1 node { c with size := max c.size (at_ + data.length) } r.2.2 else (Crd.zero, r.1, r.2.1)

theorem takeP_rng {B : Int → UInt64} {X : VS} {node : Int} (h : (takeP B X node).2.1 = 0) : 0 ≤ (takeP B X node).1 ∧ (takeP B X node).1 < 96 := by
  unfold takeP at h ⊢
  split at h
  · rename_i hn
    rw [if_pos hn]
    split at h
    · rename_i k hk
      have := firstF_is hk
      simp only
      have h2 := this.2
      omega
    · simp at h
  · simp at h

theorem ba_size (l : List UInt8) : (ByteArray.mk l.toArray).size = l.length := by show l.toArray.size = _; simp
theorem ba_extract (l : List UInt8) (i j : Nat) : (ByteArray.extract ⟨l.toArray⟩ i j) = ⟨((l.take j).drop i).toArray⟩ := by
  apply ByteArray.ext
  rw [ByteArray.data_extract]
  simp [List.drop_take]
theorem ba_app (l r : List UInt8) : (ByteArray.mk l.toArray) ++ ⟨r.toArray⟩ = ⟨(l ++ r).toArray⟩ := by
  apply ByteArray.ext
  rw [ByteArray.data_append]
  simp

theorem maxI (x y : Int) : (if y > x then y else x) = max x y := by omega

end Go.Proofs.YteambknhlbiajaaGreatDoor
/-
  Layer 10: a file is cut.
-/
set_option linter.all false
set_option maxRecDepth 100000
set_option maxHeartbeats 4000000
namespace Go.Proofs.YteambknhlbiajaaGreatDoor
open Go Go.Eng

def cutStep (z : Nat) (size : Int) (i : Nat) (X : VS) (m : List Int) : Int × VS × List Int :=
  if m[i]?.getD 0 = -1 ∨ size ≤ (z : Int) ∨ 128 * i + 128 ≤ z then (0, X, m)
  else if z ≤ 128 * i then ((dropP X (m[i]?.getD 0)).1, (dropP X (m[i]?.getD 0)).2, m.set i (-1))
  else (0, { X with now := putBlk X.now (m[i]?.getD 0) (textL ((bytesB X.now (m[i]?.getD 0)).take (z - 128 * i)) 16) }, m)

def cutL (z : Nat) (size : Int) : Nat → Nat → VS → List Int → Int × VS × List Int
  | 0, _, X, m => (0, X, m)
  | f + 1, i, X, m => if (cutStep z size i X m).1 = 0 then cutL z size f (i + 1) (cutStep z size i X m).2.1 (cutStep z size i X m).2.2 else cutStep z size i X m

/-- a file is cut -/
def cutP (B : Int → UInt64) (X : VS) (node : Int) (c : Crd) (size : Int) : Crd × Int × VS :=
  if ¬ (0 ≤ node ∧ node < 24) ∨ size < 0 then (Crd.zero, 1, X)
  else if 2688 < size then (Crd.zero, 10, X)
  else match mapOf X.now c with
    | none => (Crd.zero, 15, X)
    | some m =>
      let r := cutL size.toNat c.size 21 0 X m
      if r.1 = 0 then keepP B r.2.1 node { c with size := size } r.2.2 else (Crd.zero, r.1, r.2.1)

end Go.Proofs.YteambknhlbiajaaGreatDoor
/-
  The engine, for its user: structs and arrays that are compared.
-/
set_option linter.all false
namespace Go.Eng
open Go

/-- the fields of structs, one by one -/
def eqFs (P : Program) (eq : TypeId → Value → Value → Option Bool) (xs ys : List Value) : List Field → Option Bool
  | [] => some true
  | f :: fs => (match decide (f.name = "_") with
    | true => eqFs P eq xs ys fs
    | false => (match partV P f.type xs f.offset, partV P f.type ys f.offset with
      | some a, some b => (match eq f.type a b, eqFs P eq xs ys fs with
        | some r, some s => some (r && s)
        | _, _ => none)
      | _, _ => none))
def eqAs (P : Program) (eq : TypeId → Value → Value → Option Bool) (e : TypeId) (c : Nat) (xs ys : List Value) : List Nat → Option Bool
  | [] => some true
  | i :: is => (match partV P e xs (i * c), partV P e ys (i * c) with
    | some a, some b => (match eq e a b, eqAs P eq e c xs ys is with
      | some r, some s => some (r && s)
      | _, _ => none)
    | _, _ => none)

/-- are they the same? -/
def eqT (P : Program) : Nat → TypeId → Value → Value → Option Bool
  | 0, _, _, _ => none
  | d + 1, t, a, b => (match P.underlying t, a, b with
    | some (.int _), .int k x, .int k' y => (match k == k' with | true => some (x == y) | false => none)
    | some .bool, .bool x, .bool y => some (x == y)
    | some .string, .string x, .string y => some (x.toList == y.toList)
    | some (.struct fs), .agg ⟨xs⟩, .agg ⟨ys⟩ => (match P.stoodInHeld t with | false => eqFs P (eqT P d) xs ys fs.toList | true => none)
    | some (.array n e), .agg ⟨xs⟩, .agg ⟨ys⟩ => (match P.info? e with | some _ => eqAs P (eqT P d) e (P.cellsOf e) xs ys (List.range n) | none => none)
    | _, _, _ => none)

theorem eqFs_run {P : Program} {d : Nat} {eq : TypeId → Value → Value → Option Bool} (heq : ∀ t a b r (w : World), eq t a b = some r → (Op.equalIn d t a b).run P w = .ok r w) (xs ys : List Value) (w : World) :
    ∀ (fs : List Field) (r : Bool), eqFs P eq xs ys fs = some r → (Op.eqFields d ⟨xs⟩ ⟨ys⟩ fs).run P w = .ok r w
  | [], r, h => by simp [eqFs] at h; subst h; simp [Op.eqFields]
  | f :: fs, r, h => by
    simp only [eqFs] at h
    split at h
    · rename_i hn
      have hn' : f.name = "_" := by simpa using hn
      simp only [Op.eqFields, hn', ne_eq, not_true_eq_false, if_false]
      exact eqFs_run heq xs ys w fs r h
    · rename_i hn
      have hn' : ¬ f.name = "_" := by simpa using hn
      split at h
      · rename_i a b ha hb
        split at h
        · rename_i r1 s1 hr hs
          simp at h; subst h
          have h1 := partV_run ha w
          have h2 := partV_run hb w
          have h3 := heq _ _ _ _ w hr
          have h4 := eqFs_run heq xs ys w fs s1 hs
          simp only [Op.eqFields, hn', ne_eq, not_false_eq_true, if_true, Sem.run_bind, h1, h2, h3, Result.andThen_ok]
          cases r1
          · simp
          · simpa using h4
        · cases h
      · cases h

theorem eqAs_run {P : Program} {d : Nat} {eq : TypeId → Value → Value → Option Bool} (heq : ∀ t a b r (w : World), eq t a b = some r → (Op.equalIn d t a b).run P w = .ok r w) (e : TypeId) (c : Nat) (xs ys : List Value) (w : World) :
    ∀ (is : List Nat) (r : Bool), eqAs P eq e c xs ys is = some r → (Op.eqItems d e c ⟨xs⟩ ⟨ys⟩ is).run P w = .ok r w
  | [], r, h => by simp [eqAs] at h; subst h; simp [Op.eqItems]
  | i :: is, r, h => by
    simp only [eqAs] at h
    split at h
    · rename_i a b ha hb
      split at h
      · rename_i r1 s1 hr hs
        simp at h; subst h
        have h1 := partV_run ha w
        have h2 := partV_run hb w
        have h3 := heq _ _ _ _ w hr
        have h4 := eqAs_run heq e c xs ys w is s1 hs
        simp only [Op.eqItems, Sem.run_bind, h1, h2, h3, Result.andThen_ok]
        cases r1
        · simp
        · simpa using h4
      · cases h
    · cases h

theorem eqT_run {P : Program} : ∀ (d : Nat) (t : TypeId) (a b : Value) (r : Bool) (w : World), eqT P d t a b = some r → (Op.equalIn d t a b).run P w = .ok r w
  | 0, t, a, b, r, w, h => by cases h
  | d + 1, t, a, b, r, w, h => by
    have ih := fun t a b r w h => eqT_run (P := P) d t a b r w h
    unfold eqT at h
    split at h
    · rename_i k0 k1 x k2 y hu
      split at h
      · rename_i hk
        have : k1 = k2 := by simpa using hk
        subst this
        simp at h; subst h
        exact run_equalIn_int w d t k1 _ _ _ hu
      · cases h
    · rename_i hu
      simp at h; subst h
      exact run_equalIn_bool w d t _ _ hu
    · rename_i hu
      simp at h; subst h
      exact run_equalIn_string w d t _ _ hu
    · rename_i fs xs ys hu
      split at h
      · rename_i hs
        have hf : P.fieldsOf t = fs := by unfold Program.fieldsOf; rw [hu]
        rw [run_equalIn_agg w d t ⟨xs⟩ ⟨ys⟩ (by rw [hf]; exact hu) hs, hf]
        exact eqFs_run ih xs ys w _ r h
      · cases h
    · rename_i n e xs ys hu
      split at h
      · rename_i i hi
        rw [run_equalIn_array w d ⟨xs⟩ ⟨ys⟩ hu hi]
        exact eqAs_run ih e (P.cellsOf e) xs ys w _ r h
      · cases h
    · cases h

theorem PureR.eqAgg {P : Program} {c : Option Bool} {t : TypeId} {x y : Operand} {xs ys : List Value} {r : Bool} {K : Value → Prop} (hm : P.eqGuardType P.depth t = false) (he : eqT P 10000 t (.agg ⟨xs⟩) (.agg ⟨ys⟩) = some r) (hK : K (.bool r)) :
    PureR c P (do eqGuard .eql t x y (.agg ⟨xs⟩) (.agg ⟨ys⟩); binOp .eql t (.agg ⟨xs⟩) (.agg ⟨ys⟩) : Sem Value) K := by
  refine PureR.i (fun w => ?_) hK
  rw [Sem.run_bind, run_eqGuard_agg _ _ _ _ _ _ _ hm]
  simp only [Result.andThen_ok]
  rw [run_eql_struct, eqT_run _ _ _ _ _ w he]
  rfl
end Go.Eng
