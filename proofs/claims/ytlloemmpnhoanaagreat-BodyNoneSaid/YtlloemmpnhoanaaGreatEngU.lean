/-
  The engine, for its user: texts as bytes, buffers that are written on behind what a text shares.
-/
import Derived.Test.YtlloemmpnhoanaaGreatEngQ
import Derived.Laws.IdiomStrings
import Derived.Lib.UnsafeStr
import Derived.Lib.Builder
import Derived.Laws.Externs
import Derived.Lib.MakeNoZero
set_option linter.all false
namespace Go.Eng
open Go

theorem bytesV_len (s : ByteArray) : (bytesV s).length = s.size := by simp [bytesV]
def bytesL (l : List UInt8) : List Value := l.map fun b => .int .u8 (b.toNat : Int)
theorem bytesV_eq (s : ByteArray) : bytesV s = bytesL s.data.toList := rfl
theorem bytesL_len (l : List UInt8) : (bytesL l).length = l.length := by simp [bytesL]
theorem bytesL_app (a b : List UInt8) : bytesL (a ++ b) = bytesL a ++ bytesL b := by simp [bytesL]

/-- the bytes of a text -/
theorem SemR.bytesOf {P : Program} {src dst e : TypeId} {s : ByteArray} (hs : P.underlying src = some .string) (hd : P.underlying dst = some (.slice e)) (he : P.underlying e = some (.int .u8)) {bs : List Nat} {h : Heap} {K : Value → Heap → Prop}
    (H : ∀ b cap h' r fz, b = h.size → h'.size = h.size + 1 → s.size ≤ cap → h'[b]? = some (.cells ⟨bytesV s ++ r⟩ e fz) → Keeps [] h h' → K (.slice (some ⟨b, 0, none⟩) s.size cap) h') :
    SemR P (convert src dst (.string s)) bs h K := by
  unfold SemR
  intro hlt w hw
  subst hw
  have hr := run_bytes_of_string (P := P) w src dst e s hs hd he
  refine ⟨_, _, hr, ⟨rfl, rfl, rfl⟩, fun b hb => ?_, ?_⟩
  · show (w.heap.push _)[b]? = _
    rw [push_get, if_neg (by have := hlt b hb; omega)]
  · have hc : s.size ≤ grownCap w s.size 0 e := by
      simp only [grownCap, Question.cut]; omega
    refine H w.heap.size _ (w.heap.push _) (List.replicate (grownCap w s.size 0 e - s.size) (.int .u8 0)) ((bytesRow s (grownCap w s.size 0 e)).size, (bytesRow s (grownCap w s.size 0 e)).size + 1) rfl (by simp) hc ?_ (keeps_push _ _)
    rw [push_get, if_pos rfl]
    congr 2
    · apply Array.ext'
      simp [bytesRow, bytesV]

/-- a text out of bytes -/
theorem SemR.textOf {P : Program} {src dst e : TypeId} {b off n cap : Nat} {l : List UInt8} (hs : P.underlying src = some (.slice e)) (he : P.underlying e = some (.int .u8)) (hd : P.underlying dst = some .string) {h : Heap} (hn : n = l.length)
    (hc : ∀ j (hj : j < l.length), Heap.cell? h b (off + j) = some (.int .u8 (l[j].toNat : Int))) {bs : List Nat} {K : Value → Heap → Prop} (H : K (.string ⟨l.toArray⟩) h) :
    SemR P (convert src dst (.slice (some ⟨b, off, none⟩) n cap)) bs h K := by
  unfold SemR
  intro hlt w hw
  subst hw
  subst hn
  exact ⟨_, w, run_convert_bytes_back w src dst e ⟨b, off, none⟩ cap l hs he hd (fun j hj => by rw [addr_add, cell?_eq]; exact hc j hj), SameOut.refl w, fun _ _ => rfl, H⟩
theorem SemR.textNil {P : Program} {src dst e : TypeId} {n cap : Nat} (hs : P.underlying src = some (.slice e)) (he : P.underlying e = some (.int .u8)) (hd : P.underlying dst = some .string) {h : Heap} {bs : List Nat} {K : Value → Heap → Prop} (H : K (.string ⟨#[]⟩) h) :
    SemR P (convert src dst (.slice none n cap)) bs h K := by
  unfold SemR
  intro hlt w hw
  subst hw
  refine ⟨_, w, ?_, SameOut.refl w, fun _ _ => rfl, H⟩
  rw [run_convert_bytes_string w src dst e none n cap hs he hd]
  rfl

/-! ### Buffers -/

theorem store_cellsF {P : Program} {b : Nat} {T : TypeId} {fz : Nat × Nat} : ∀ (vs : List Value) (i off : Nat) (c : List Value) (w : World), (∀ v ∈ vs, v.oneCell' = true) → off + i + vs.length ≤ c.length → fz.2 ≤ off + i →
    w.heap[b]? = some (.cells ⟨c⟩ T fz) → ∃ w', (storeCells ⟨b, off, none⟩ vs i).run P w = .ok () w' ∧ SameOut w w' ∧ w'.heap.size = w.heap.size ∧
      w'.heap[b]? = some (.cells ⟨spliceL (off + i) vs c⟩ T fz) ∧ ∀ b', b' ≠ b → w'.heap[b']? = w.heap[b']?
  | [], i, off, c, w, _, _, _, hb => ⟨w, by simp [storeCells], SameOut.refl w, rfl, by rw [splice_nil]; exact hb, fun _ _ => rfl⟩
  | v :: vs, i, off, c, w, hv, hl, hz, hb => by
    simp only [List.length_cons] at hl
    have hcell : w.cell? ⟨b, off + i, none⟩ = some (c[off + i]'(by omega)) := by
      rw [cell?_eq]; simp [Heap.cell?, hb, show off + i < c.length by omega]
    have hfr : w.frozen? ⟨b, off + i, none⟩ = false := by
      obtain ⟨lo, hi⟩ := fz
      simp [World.frozen?, hb]; intro _; simpa using hz
    have hrun := run_store P w ⟨b, off + i, none⟩ v .plain (hv v (by simp))
    rw [hcell] at hrun
    simp only [hfr, Bool.false_eq_true, if_false] at hrun
    have hb2 : (w.setCell ⟨b, off + i, none⟩ v).heap[b]? = some (.cells ⟨c.set (off + i) v⟩ T fz) := by
      rw [setCell_heap, Array.getElem?_modify]
      simp [hb, setObj1, Array.setIfInBounds, show off + i < c.length by omega]
    obtain ⟨w', h1, h2, h3, h4, h5⟩ := store_cellsF vs (i + 1) off (c.set (off + i) v) (w.setCell ⟨b, off + i, none⟩ v) (fun u hu => hv u (by simp [hu])) (by simp; omega) (by omega) hb2
    refine ⟨w', ?_, ⟨h2.1, h2.2⟩, ?_, ?_, fun b' hne => ?_⟩
    · simp only [storeCells, Sem.run_bind, addr_add]
      rw [hrun]
      simp only [Result.andThen_ok]
      exact h1
    · rw [h3, setCell_heap]; simp
    · rw [h4, show off + (i + 1) = off + i + 1 by omega, splice_cons v vs (off + i) c (by omega)]
    · rw [h5 b' hne, setCell_heap, Array.getElem?_modify, if_neg (Ne.symm hne)]

/-- a slice of bytes from its block's first cell on, that nobody else writes -/
def Buf (h : Heap) (e : TypeId) (a : Option Addr) (n c : Nat) (s : List UInt8) : Prop :=
  (a = none ∧ n = 0 ∧ c = 0 ∧ s = []) ∨
  ∃ g cs fz, a = some ⟨g, 0, none⟩ ∧ h[g]? = some (.cells ⟨cs⟩ e fz) ∧ cs.take n = bytesL s ∧ cs.length = c ∧ n = s.length ∧ n ≤ c ∧ fz.2 ≤ n ∧ 0 < c

theorem Buf.keep {M : List Nat} {h h' : Heap} {e : TypeId} {a : Option Addr} {n c : Nat} {s : List UInt8} (o : Buf h e a n c s) (k : Keeps M h h') (hm : ∀ b ∈ blkA a, b ∉ M) : Buf h' e a n c s := by
  rcases o with o | ⟨g, cs, fz, h1, h2, h3⟩
  · exact .inl o
  · exact .inr ⟨g, cs, fz, h1, k.obj h2 (hm g (by simp [h1, blkA])), h3⟩
theorem Buf.lt {h : Heap} {e : TypeId} {a : Option Addr} {n c : Nat} {s : List UInt8} (o : Buf h e a n c s) : ∀ b ∈ blkA a, b < h.size := by
  intro b hb
  rcases o with ⟨rfl, _⟩ | ⟨g, cs, fz, rfl, h2, _⟩
  · cases hb
  · simp [blkA] at hb; subst hb; exact obj_lt h2
theorem Buf.len {h : Heap} {e : TypeId} {a : Option Addr} {n c : Nat} {s : List UInt8} (o : Buf h e a n c s) : n = s.length ∧ n ≤ c := by
  rcases o with ⟨_, rfl, rfl, rfl⟩ | ⟨g, cs, fz, _, _, _, _, h5, h6, _, _⟩
  · exact ⟨rfl, Nat.le_refl _⟩
  · exact ⟨h5, h6⟩

theorem allOne_bytes : ∀ l : List UInt8, allOne (bytesL l) = true
  | [] => rfl
  | x :: l => by simpa [allOne, oneV, bytesL] using allOne_bytes l

theorem firstCells_str {P : Program} (w : World) (size : Nat) (s : ByteArray) : (Builtin.firstCells size s.size (.string s)).run P w = .ok ⟨bytesV s⟩ w := by
  simp [Builtin.firstCells, bytesV]
  apply Array.ext'
  simp

theorem SemR.appendStr {P : Program} {sT xT ty e : TypeId} {i : TypeInfo} {z : Value} (hu : P.underlying sT = some (.slice e)) (hx : P.underlying xT = some .string) (hi : P.info? e = some i) (hsz : i.size = 1) (hby : i.bytes = 1) (hz : i.zero = some z) (hzc : cellsOf z = [z])
    {h : Heap} {a : Option Addr} {n c : Nat} {l : List UInt8} {s : ByteArray} (o : Buf h e a n c l) (hbig : n + s.size ≤ 70368744177664) {bs : List Nat} (hbs : ∀ b ∈ blkA a, b ∉ bs) {K : Value → Heap → Prop}
    (H : ∀ a' c' h', Buf h' e a' (n + s.size) c' (l ++ s.data.toList) → Keeps (blkA a) h h' → (∀ b ∈ blkA a', b ∈ blkA a ∨ h.size ≤ b) → c ≤ c' → (n + s.size ≤ c → c' = c ∧ a' = a) → K (.slice a' (n + s.size) c') h') :
    SemR P (Builtin.append_ #[sT, xT] ty ⟨[.slice a n c, .string s]⟩) bs h K := by
  unfold SemR
  intro hlt w hw
  subst hw
  have hsize : (sizeOf e).run P w = .ok 1 w := by simp [sizeOf, typeInfo_run P e w hi, hsz]
  have hnew := firstCells_str (P := P) w 1 s
  have hlen := o.len
  by_cases hfit : n + s.size ≤ c
  · rcases o with ⟨rfl, rfl, rfl, rfl⟩ | ⟨g, cs, fz, rfl, h2, h3, h4, h5, h6, h7, h8⟩
    · have hn0 : s.size = 0 := by omega
      have hb0 : bytesV s = [] := List.eq_nil_of_length_eq_zero (by rw [bytesV_len]; exact hn0)
      have hd0 : s.data.toList = [] := List.eq_nil_of_length_eq_zero (by rw [Array.length_toList]; exact hn0)
      have hnew0 := hnew
      rw [hn0, hb0] at hnew0
      refine ⟨.slice none (0 + s.size) 0, w, ?_, SameOut.refl w, fun b _ => rfl, H none 0 w.heap (.inl ⟨rfl, by omega, rfl, by simp [hd0]⟩) (Keeps.refl _ _) (by simp [blkA]) (Nat.le_refl _) (fun _ => ⟨rfl, rfl⟩)⟩
      simp [Builtin.append_, underlying_run P sT w hu, underlying_run P xT w hx, hsize, Builtin.lenOf, hn0, hnew0]
    · have hroom : n + (bytesV s).length ≤ cs.length := by rw [bytesV_len, h4]; exact hfit
      obtain ⟨w', r1, r2, r3, r4, r5⟩ := store_cellsF (P := P) (bytesV s) 0 n cs w (allOne_one' (by rw [bytesV_eq]; exact allOne_bytes _)) (by simpa using hroom) (by simpa using h7) h2
      refine ⟨_, w', ?_, r2, fun b' hb' => r5 b' (fun e => hbs g (by simp [blkA]) (e ▸ hb')), H (some ⟨g, 0, none⟩) c w'.heap (.inr ⟨g, _, fz, rfl, r4, ?_, ?_, ?_, hfit, by omega, h8⟩) ⟨by omega, fun b' _ hb' => r5 b' (by simpa [blkA] using hb')⟩ (fun b' hb' => .inl hb') (Nat.le_refl _) (fun _ => ⟨rfl, rfl⟩)⟩
      · simp [Builtin.append_, underlying_run P sT w hu, hsize, underlying_run P xT w hx, Builtin.lenOf, hfit, hnew, addr_add]
        rw [r1]
        rfl
      · have := splice_take n (bytesV s) cs (by omega)
        simp only [Nat.add_zero]
        rw [bytesV_len] at this
        rw [this, h3, bytesL_app, bytesV_eq]
      · simp only [Nat.add_zero, spliceL_length]; exact h4
      · simp [h5]
  · have hcap : c < n + s.size := by omega
    have hold : ∀ w' : World, w'.heap = w.heap → (Builtin.firstCells 1 n (.slice a n c)).run P w' = .ok ⟨bytesL l⟩ w' := by
      intro w' hw'
      rcases o with ⟨rfl, rfl, rfl, rfl⟩ | ⟨g, cs, fz, rfl, h2, h3, h4, h5, h6, h7, h8⟩
      · simp [Builtin.firstCells, bytesL]
      · simp only [Builtin.firstCells]
        refine loadCells_run (by rw [bytesL_len]; omega) (fun k hk => ?_)
        rw [Nat.mul_one] at hk
        simp only [Heap.cell?, hw', h2, Nat.zero_add]
        rw [← h3]
        simp [hk, show k < cs.length by omega]
    have hncap := nextcap_le (n + s.size) c hcap
    obtain ⟨nc, hnc, hle, hforced⟩ := cut_cap (n + s.size) c e (w.tape w.drawn (.appendCap (n + s.size) c e)) (by omega)
    obtain ⟨zl, hzl, hzlen⟩ := zeroCells_eq z.cells (nc - (n + s.size))
    have hz' : z.cells.size = 1 := by rw [cellsOf_eq, hzc]; rfl
    let w2 : World := { w.drew with heap := w.heap.push (.cells ⟨bytesL l ++ bytesV s ++ zl⟩ e) }
    refine ⟨.slice (some ⟨w.heap.size, 0, none⟩) (n + s.size) nc, w2, ?_, ⟨rfl, rfl, rfl⟩, fun b hb => ?_, H _ nc w2.heap (.inr ⟨w.heap.size, bytesL l ++ bytesV s ++ zl, (0, 0), rfl, ?_, ?_, ?_, ?_, hle, Nat.zero_le _, by omega⟩) ?_ ?_ (by omega) (fun h => absurd h hfit)⟩
    · have hti : (typeInfo e).run P w = .ok i w := typeInfo_run P e w hi
      have hti2 : (typeInfo e).run P w.drew = .ok i w.drew := typeInfo_run P e w.drew hi
      have hold2 := hold w.drew rfl
      have hnew2 := firstCells_str (P := P) w.drew 1 s
      have hzv2 : (zeroValue e).run P w.drew = .ok z w.drew := by simp [zeroValue, typeInfo_run P e w.drew hi, hz]
      have hb2 : ¬ (281474976710656 < Builtin.nextslicecap (n + s.size) c) := by omega
      have hbz : ¬ (i.bytes = 0) := by omega
      simp [Builtin.append_, underlying_run P sT w hu, hsize, underlying_run P xT w hx, Builtin.lenOf, hfit, hti, hbz, hb2, hby, hforced, hnc, hti2, hold2, hnew2, hzv2, hzl, newRow, w2]
      rfl
    · show (w.heap.push _)[b]? = _
      rw [push_get, if_neg (by have := hlt b hb; omega)]
    · show (w.heap.push _)[w.heap.size]? = _
      rw [push_get, if_pos rfl]
    · rw [bytesL_app, ← bytesV_eq]
      have : (bytesL l ++ bytesV s).length = n + s.size := by simp [bytesL_len, bytesV_len, hlen.1]
      rw [← this, List.take_left]
    · simp [bytesL_len, bytesV_len, hzlen, hz']; omega
    · simp [hlen.1]
    · exact ⟨by simp [w2], fun b hb _ => by show (w.heap.push _)[b]? = _; rw [push_get, if_neg (by omega)]⟩
    · intro b hb; right; simp [blkA] at hb; omega

/-! ### Functions without a body -/

theorem SemR.ext {P : Program} {f : FuncId} {fn : Func} {e : Array Value → Sem Value} (hf : P.funcs[f]? = some fn) (hname : (fn.name == "runtime.NumGoroutine") = false) (hb : fn.body.isNone = true) (hn : Extern.findNext fn = none) (he : Extern.find fn = some e)
    {args : Array Value} {bs : List Nat} {h : Heap} {K : Value → Heap → Prop} (H : SemR P (e args) bs h K) : SemR P (extCall f args) bs h K := by
  unfold SemR at H ⊢
  intro hlt w hw
  obtain ⟨v, w', h1, h2⟩ := H hlt w hw
  refine ⟨v, w', ?_, h2⟩
  unfold extCall
  simp only [Sem.run_bind, run_callFunc_extern hf hname hb hn he, h1, Result.andThen_ok]
  simp

theorem SemR.pure {P : Program} {α : Type} {s : Sem α} {bs : List Nat} {h : Heap} {K : α → Heap → Prop} {v : α} (hs : ∀ w : World, w.heap = h → s.run P w = .ok v w) (H : K v h) : SemR P s bs h K := by
  unfold SemR
  intro hlt w hw
  exact ⟨v, w, hs w hw, SameOut.refl w, fun b _ => by rw [hw], by rw [hw]; exact H⟩

/-- a buffer of whatever bytes -/
theorem SemR.noZero {P : Program} {ps : Array TypeId} {t e : TypeId} (ht : P.underlying t = some (.slice e)) {n : Nat} (hn : n ≤ 281474976710656) (hp : 0 < n) {bs : List Nat} {h : Heap} {K : Value → Heap → Prop}
    (H : ∀ b c cs h', b = h.size → h'.size = h.size + 1 → h'[b]? = some (.cells ⟨cs⟩ e (0, 0)) → cs.length = c → n ≤ c → Keeps [] h h' → K (.slice (some ⟨b, 0, none⟩) n c) h') :
    SemR P (Extern.BytealgMakeNoZero.makeNoZero ps #[t] #[.int .i64 (n : Int)]) bs h K := by
  unfold SemR
  intro hlt w hw
  subst hw
  obtain ⟨cs, h1, h2, _⟩ := Lib.run_makeNoZero (P := P) w ps t e ht n hn
  refine ⟨_, _, h1, ⟨rfl, rfl, rfl⟩, fun b hb => ?_, H w.heap.size cs.size cs.toList (w.heap.push (.cells cs e)) rfl (by simp) (by rw [push_get, if_pos rfl]) (by simp) h2 (keeps_push _ _)⟩
  show (w.heap.push _)[b]? = _
  rw [push_get, if_neg (by have := hlt b hb; omega)]

theorem BothR.i {a b : Prop} (h1 : a) (h2 : b) : BothR a b := by unfold BothR; exact ⟨h1, h2⟩

theorem freeze_heap (w : World) (g : Nat) {n : Nat} (hn : n ≠ 0) {cs : Array Value} {e : TypeId} {fz : Nat × Nat} (hg : w.heap[g]? = some (.cells cs e fz)) :
    (w.freeze ⟨g, 0, none⟩ n).heap.size = w.heap.size ∧ (∃ fz', (w.freeze ⟨g, 0, none⟩ n).heap[g]? = some (.cells cs e fz') ∧ fz'.2 ≤ max fz.2 n) ∧ ∀ b, b ≠ g → (w.freeze ⟨g, 0, none⟩ n).heap[b]? = w.heap[b]? := by
  unfold World.freeze
  rw [if_neg hn]
  obtain ⟨lo, hi⟩ := fz
  refine ⟨by simp, ⟨if lo == hi then (0, 0 + n) else (min lo 0, max hi (0 + n)), ?_, ?_⟩, fun b hb => ?_⟩
  · simp only [Array.getElem?_modify, if_true, hg, Option.map_some]
  · split
    · simp; omega
    · simp
  · simp only [Array.getElem?_modify]
    rw [if_neg (fun e => hb e.symm)]

theorem SemR.unsafeStr {P : Program} {pt it ty e : TypeId} (hp : P.underlying pt = some (.pointer e)) (hc : P.cellsOf e = 1) {h : Heap} {g n c : Nat} {l : List UInt8} (o : Buf h e (some ⟨g, 0, none⟩) n c l) (h63 : l.length ≤ 70368744177664) {bs : List Nat} (hg : g ∉ bs) {K : Value → Heap → Prop}
    (H : ∀ h', Buf h' e (some ⟨g, 0, none⟩) n c l → h'.size = h.size → Keeps [g] h h' → K (.string ⟨l.toArray⟩) h') :
    SemR P (Builtin.unsafeString_ #[pt, it] ty ⟨[.pointer (some ⟨g, 0, none⟩), .int .i64 (n : Int)]⟩) bs h K := by
  rcases o with ⟨h1, _⟩ | ⟨g', cs, fz, h1, h2, h3, h4, h5, h6, h7, h8⟩
  · cases h1
  simp only [Option.some.injEq, Addr.mk.injEq, and_true] at h1
  subst h1
  subst h5
  by_cases h0 : l = []
  · subst h0
    refine SemR.pure (fun w _ => Lib.run_unsafeString_none w pt it ty (some ⟨g, 0, none⟩)) ?_
    exact H h (.inr ⟨g, cs, fz, rfl, h2, h3, h4, rfl, h6, h7, h8⟩) rfl (Keeps.refl _ _)
  · unfold SemR
    intro hlt w hw
    subst hw
    have hl0 : l.length ≠ 0 := by simpa using h0
    have hsh : w.shape? g = some (e, cs.length) := by unfold World.shape?; rw [h2]; simp
    have hr := Lib.run_unsafeString_row (P := P) w pt it ty e hp hc g cs.length hsh l h0 (by omega) (by omega) (fun j x hj => by
      rw [addr_add, Nat.zero_add, cell?_eq]
      simp only [Heap.cell?, h2]
      have hj' : j < l.length := (List.getElem?_eq_some_iff.1 hj).1
      have h9 : (cs.take l.length)[j]? = (bytesL l)[j]? := by rw [h3]
      rw [List.getElem?_take, if_pos hj'] at h9
      simp only [List.getElem?_toArray]
      rw [h9]
      simp [bytesL, hj])
    obtain ⟨q1, ⟨fz', q2, q3⟩, q4⟩ := freeze_heap w g hl0 h2
    refine ⟨_, _, hr, ?_, fun b hb => q4 b (fun x => hg (x ▸ hb)), H _ (.inr ⟨g, cs, fz', rfl, q2, h3, h4, rfl, h6, by omega, h8⟩) q1 ⟨by omega, fun b _ hb => q4 b (by simpa using hb)⟩⟩
    unfold World.freeze
    rw [if_neg hl0]
    exact ⟨rfl, rfl, rfl⟩

theorem slA_zero (a : Option Addr) (c s : Nat) : slA a c 0 s = a := by
  unfold slA; split
  · rfl
  · cases a <;> simp [Addr.add]

/-- 'append(nil, make(n)...)' -/
theorem SemR.appendMake {P : Program} {sT nT ty e : TypeId} {i : TypeInfo} {z : Value} {k : IntKind} (hu : P.underlying sT = some (.slice e)) (hx : P.underlying nT = some (.int k)) (hi : P.info? e = some i) (hsz : i.size = 1) {by_ : Nat} (hby : i.bytes = by_) (hz : i.zero = some z) (hzc : cellsOf z = [z])
    {n : Nat} (hp : 0 < n) (hbig : (2 * n + 192) * by_ ≤ 281474976710656) (hb0 : 0 < by_) {h : Heap} {bs : List Nat} {K : Value → Heap → Prop}
    (H : ∀ b c h', b = h.size → h'.size = h.size + 1 → h'[b]? = some (.cells ⟨List.replicate c z⟩ e (0, 0)) → n ≤ c → Keeps [] h h' → K (.slice (some ⟨b, 0, none⟩) n c) h') :
    SemR P (Builtin.append_ #[sT, nT] ty ⟨[.slice none 0 0, .int .i64 (n : Int)]⟩) bs h K := by
  unfold SemR
  intro hlt w hw
  subst hw
  have hn1 : n ≤ 281474976710656 := by
    have : 2 * n + 192 ≤ (2 * n + 192) * by_ := Nat.le_mul_of_pos_right _ hb0
    omega
  have hn2 : n * by_ ≤ 281474976710656 := by
    have := Nat.mul_le_mul_right by_ (show n ≤ 2 * n + 192 by omega)
    omega
  have hncap := nextcap_le n 0 hp
  have hn3 : Builtin.nextslicecap n 0 * by_ ≤ 281474976710656 := by
    have := Nat.mul_le_mul_right by_ hncap
    omega
  obtain ⟨nc, hnc, hle, hforced⟩ := cut_cap n 0 e (w.tape w.drawn (.appendCap n 0 e)) (by omega)
  have hz' : z.cells = #[z] := by rw [cellsOf_eq, hzc]
  have zc : ∀ m, Builtin.zeroCells z.cells m = ⟨List.replicate m z⟩ := by
    intro m
    rw [hz']
    apply Array.ext'
    simp only [Builtin.zeroCells]
    apply List.ext_getElem
    · simp
    · intro k k1 k2
      simp [Nat.mod_one]
  have hti : (typeInfo e).run P w = .ok i w := typeInfo_run P e w hi
  have hti2 : (typeInfo e).run P w.drew = .ok i w.drew := typeInfo_run P e w.drew hi
  have hsize : (sizeOf e).run P w = .ok 1 w := by simp [sizeOf, typeInfo_run P e w hi, hsz]
  have hzv2 : (zeroValue e).run P w.drew = .ok z w.drew := by simp [zeroValue, typeInfo_run P e w.drew hi, hz]
  have hwrap : IntKind.i64.wrap (n : Int) = (n : Int) := wrapN rfl (by omega)
  have c1 : ¬ (281474976710656 < (n : Int) * (by_ : Int)) := by
    have : (n : Int) * (by_ : Int) = ((n * by_ : Nat) : Int) := by simp
    rw [this]; omega
  have c2 : ¬ (281474976710656 < Builtin.nextslicecap n 0 * by_) := by omega
  have c3 : ¬ (9223372036854775807 < (n : Int)) := by omega
  have c4 : ¬ ((n : Int) < 0) := by omega
  have c5 : ¬ (n = 0) := by omega
  refine ⟨.slice (some ⟨w.heap.size, 0, none⟩) n nc, { w.drew with heap := w.heap.push (.cells ⟨List.replicate nc z⟩ e) }, ?_, ⟨rfl, rfl, rfl⟩, fun b hb => ?_, H w.heap.size nc (w.heap.push (.cells ⟨List.replicate nc z⟩ e)) rfl (by simp) (by rw [push_get, if_pos rfl]) hle (keeps_push _ _)⟩
  · have hb0' : ¬ (by_ = 0) := by omega
    simp [Builtin.append_, underlying_run P sT w hu, underlying_run P nT w hx, hsize, asInt, asIntOf, hwrap, c4, hti, hby, c1, c2, c3, c5, hb0', hforced, hnc, hti2, hzv2, zc, Builtin.firstCells, newRow]
    rw [show n + (nc - n) = nc by omega]
    rfl
  · show (w.heap.push _)[b]? = _
    rw [push_get, if_neg (by have := hlt b hb; omega)]

/-- nothing is appended -/
theorem SemR.append0 {P : Program} {sT xT ty e e' : TypeId} {i : TypeInfo} (hu : P.underlying sT = some (.slice e)) (hx : P.underlying xT = some (.slice e')) (hi : P.info? e = some i) {h : Heap} {a x : Option Addr} {n c xc : Nat} (hc : n ≤ c) {bs : List Nat} {K : Value → Heap → Prop} (H : K (.slice a n c) h) :
    SemR P (Builtin.append_ #[sT, xT] ty ⟨[.slice a n c, .slice x 0 xc]⟩) bs h K := by
  refine SemR.pure (fun w hw => ?_) H
  have hsize : (sizeOf e).run P w = .ok i.size w := by simp [sizeOf, typeInfo_run P e w hi]
  cases a <;> cases x <;> simp [Builtin.append_, underlying_run P sT w hu, underlying_run P xT w hx, hsize, Builtin.lenOf, hc, Builtin.firstCells, loadCells, loadCellsFrom, storeCells]
end Go.Eng
