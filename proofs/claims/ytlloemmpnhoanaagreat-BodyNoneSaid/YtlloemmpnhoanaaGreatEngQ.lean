/-
  The engine, for its user, further: loads out of a block that is known whole.
-/
import Derived.Test.YtlloemmpnhoanaaGreatEngP
import Derived.Test.YtlloemmpnhoanaaGreatEngN
import Derived.Laws.MakeOwn
import Derived.Laws.Strings
set_option linter.all false
namespace Go.Eng
open Go

theorem LoadR.o {c : Option Bool} {h : Heap} {b off : Nat} {K : Value → Prop} {L : List Value} {T : TypeId} {fz : Nat × Nat} {v : Value} (o : h[b]? = some (.cells ⟨L⟩ T fz)) (hv : nth L off = some v) (hK : K v) : LoadR c h b off K :=
  LoadR.i (by simp only [Heap.cell?, o]; rw [nth_eq] at hv; simpa using hv) hK
theorem LoadN.o {c : Option Bool} {h : Heap} {b off n : Nat} {K : List Value → Prop} {L vs : List Value} {T : TypeId} {fz : Nat × Nat} (o : h[b]? = some (.cells ⟨L⟩ T fz)) (hv : takeL n (dropL off L) = some vs) (hK : K vs) : LoadN c h b off n K := by
  obtain ⟨h1, h2⟩ := takeL_eq _ _ _ hv
  rw [dropL_eq] at h1
  exact LoadN.i h2 (fun j hj => by simp only [Heap.cell?, o]; rw [h1]; simp [hj]) hK

theorem Keeps.nil_of {M : List Nat} {a b c : Heap} (h : Keeps [] a b) (h' : Keeps M b c) (hm : ∀ x ∈ M, a.size ≤ x) : Keeps [] a c :=
  h.trans_new h' fun x hx => .inr (hm x hx)
/-- a block that is new is written -/
theorem Keeps.new1 {a b c : Heap} {x : Nat} (h : Keeps [] a b) (h' : Keeps [x] b c) (hx : a.size ≤ x) : Keeps [] a c :=
  h.nil_of h' (by intro y hy; simp at hy; subst hy; exact hx)
theorem Keeps.m1 {M : List Nat} {a b c : Heap} {x : Nat} (h : Keeps M a b) (h' : Keeps [x] b c) (hx : a.size ≤ x) : Keeps M a c :=
  h.trans_new h' (by intro y hy; simp at hy; subst hy; exact .inr hx)

/-! ### Words -/

def wv (w : UInt64) : Value := .int .u64 (w.toNat : Int)

instance : Rp UInt64 where
  n := 1
  rep _ vs x := vs = [wv x]
  len h := by rw [h]; rfl
  keep _ h := h
instance : Flat UInt64 := ⟨fun h => h⟩

theorem wv_inj {a b : UInt64} : wv a = wv b ↔ a = b := by
  constructor
  · intro h
    have h2 : (a.toNat : Int) = (b.toNat : Int) := by simpa [wv] using h
    exact UInt64.toNat_inj.1 (by omega)
  · rintro rfl; rfl

/-- a slice of elements that lead nowhere, beside what is changed -/
theorem Sl.keepM {α : Type} [Rp α] [Flat α] {M : List Nat} {h h' : Heap} {a : Option Addr} {len cap : Nat} {xs : List α} (s : Sl h a len cap xs) (k : Keeps M h h') (hm : ∀ b ∈ blkA a, b ∉ M) : Sl h' a len cap xs :=
  ⟨s.hlen, s.hcap, s.hbig, fun i hi => by
    obtain ⟨b, off, ha, cs, hr, hc⟩ := s.at_ i hi
    exact ⟨b, off, ha, cs, Flat.flat hr, hc.keepM k (hm b (by simp [ha, blkA]))⟩⟩

/-- elements of one cell -/
class One (α : Type) [Rp α] where
  val : α → Value
  ok : α → Prop
  rep_iff : ∀ {h vs x}, rep h vs x ↔ vs = [val x] ∧ ok x
  one : Rp.n α = 1

instance : One UInt64 := ⟨wv, fun _ => True, by intro h vs x; exact ⟨fun h => ⟨h, trivial⟩, fun h => h.1⟩, rfl⟩
instance : One Int := ⟨fun x => .int .i64 x, inI64, by intro h vs x; exact Iff.rfl, rfl⟩
instance : One Bool := ⟨fun x => .bool x, fun _ => True, by intro h vs x; exact ⟨fun h => ⟨h, trivial⟩, fun h => h.1⟩, rfl⟩
instance : One ByteArray := ⟨fun x => .string x, okStr, by intro h vs x; exact Iff.rfl, rfl⟩

theorem Sl.at1 {α : Type} [Rp α] [One α] {h : Heap} {a : Option Addr} {len cap : Nat} {xs : List α} (s : Sl h a len cap xs) (i : Nat) (hi : i < xs.length) : ∃ b off, a = some ⟨b, off, none⟩ ∧ One.ok xs[i] ∧ Heap.cell? h b (off + i * 1) = some (One.val xs[i]) := by
  obtain ⟨b, off, ha, cs, hr, hc⟩ := s.at_ i hi
  obtain ⟨rfl, hok⟩ := One.rep_iff.1 hr
  refine ⟨b, off, ha, hok, ?_⟩
  have := hc 0 (by simp)
  rw [One.one] at this
  simpa using this

theorem Sl.of1 {α : Type} [Rp α] [One α] {h : Heap} {b : Nat} {T : TypeId} {fz : Nat × Nat} {xs : List α} {cap : Nat} {L : List Value} (o : h[b]? = some (.cells ⟨L⟩ T fz)) (hL : ∀ i (hi : i < xs.length), L[i]? = some (One.val xs[i])) (hok : ∀ x ∈ xs, One.ok x) (hc : xs.length ≤ cap) (hb : xs.length ≤ 281474976710656) : Sl h (some ⟨b, 0, none⟩) xs.length cap xs :=
  ⟨rfl, hc, hb, fun i hi => ⟨b, 0, rfl, [One.val xs[i]], One.rep_iff.2 ⟨rfl, hok _ (List.getElem_mem hi)⟩, fun j hj => by
    have : j = 0 := by simpa using hj
    subst this
    simp only [Heap.cell?, o, One.one, Nat.mul_one, Nat.zero_add, Nat.add_zero]
    simpa using hL i hi⟩⟩

theorem Sl.of1' {α : Type} [Rp α] [One α] {h : Heap} {b : Nat} {T : TypeId} {fz : Nat × Nat} {xs : List α} {n : Nat} (o : h[b]? = some (.cells ⟨xs.map One.val⟩ T fz)) (hok : ∀ x ∈ xs, One.ok x) (hn : n = xs.length) (hb : xs.length ≤ 281474976710656) : Sl h (some ⟨b, 0, none⟩) n n xs := by
  subst hn
  exact Sl.of1 o (fun i hi => by simp [hi]) hok (Nat.le_refl _) hb

/-- all cells of a slice of one-cell elements -/
theorem Sl.cells1 {α : Type} [Rp α] [One α] {h : Heap} {b off : Nat} {len cap : Nat} {xs : List α} (s : Sl h (some ⟨b, off, none⟩) len cap xs) : ∀ j, j < (xs.map One.val).length → Heap.cell? h b (off + j) = (xs.map (One.val (α := α)))[j]? := by
  intro j hj
  have hj' : j < xs.length := by simpa using hj
  obtain ⟨b', off', ha, _, hc⟩ := s.at1 j hj'
  simp only [Option.some.injEq, Addr.mk.injEq, and_true] at ha
  obtain ⟨rfl, rfl⟩ := ha
  rw [Nat.mul_one] at hc
  rw [hc]; simp [hj']

/-! ### make, copy -/

theorem repL_one (n : Nat) (z : Value) : repL n [z] = List.replicate n z := by
  induction n with
  | zero => rfl
  | succ n ih => simp [repL, ih, List.replicate_succ]

theorem SemR.make {P : Program} {t e : TypeId} {i : TypeInfo} {z : Value} (ht : P.underlying t = some (.slice e)) (hi : P.info? e = some i) (hz : i.zero = some z) (h1 : i.size = 1) (hz1 : cellsOf z = [z])
    {n : Nat} (hb : i.bytes * n ≤ 281474976710656) (hn : n ≤ 281474976710656) {bs : List Nat} {h : Heap} {K : Value → Heap → Prop}
    (H : ∀ b h', b = h.size → h'.size = h.size + 1 → h'[b]? = some (.cells ⟨List.replicate n z⟩ e (0, 0)) → Keeps [] h h' → K (.slice (some ⟨b, 0, none⟩) n n) h') :
    SemR P (Instr.makeSlice t (.int .i64 (n : Int)) (.int .i64 (n : Int))) bs h K := by
  unfold SemR
  intro hlt w hw
  subst hw
  have hm := run_make w t e i z ht hi hz .i64 .i64 (n : Int) (n : Int) (by omega) (by omega) (by
    have : (i.bytes : Int) * (n : Int) = ((i.bytes * n : Nat) : Int) := by simp
    rw [this]; omega) (by omega)
  refine ⟨_, _, hm, ⟨rfl, rfl, rfl⟩, fun b hb => ?_, ?_⟩
  · show (w.heap.push _)[b]? = _
    rw [push_get, if_neg (by have := hlt b hb; omega)]
  · have hcells : madeCells z.cells (n * i.size) = ⟨List.replicate n z⟩ := by
      rw [h1, Nat.mul_one, cellsOf_eq, hz1]
      apply Array.ext'
      simp only [madeCells]
      apply List.ext_getElem
      · simp
      · intro k k1 k2
        simp [Nat.mod_one]
    have := H w.heap.size (w.heap.push (.cells ⟨List.replicate n z⟩ e)) rfl (by simp) (by rw [push_get, if_pos rfl]) (keeps_push _ _)
    show K (.slice (some ⟨w.heap.size, 0, none⟩) (n : Int).toNat (n : Int).toNat) (w.heap.push (.cells (madeCells z.cells ((n : Int).toNat * i.size)) e))
    rw [Int.toNat_natCast, hcells]; exact this

theorem SemR.copy {P : Program} {dT sT ty e : TypeId} {i : TypeInfo} {sz : Nat} (hu : P.underlying dT = some (.slice e)) (hi : P.info? e = some i) (hsz : i.size = sz)
    {h : Heap} {b off dl dc xb xo n xc : Nat} {c new : List Value} {T : TypeId} (o : h[b]? = some (.cells ⟨c⟩ T (0, 0))) (hn : new.length = min n dl * sz) (hnew : ∀ j, j < new.length → Heap.cell? h xb (xo + j) = new[j]?)
    (hone : allOne new = true) (hroom : off + new.length ≤ c.length) {bs : List Nat} (hb : b ∉ bs) {K : Value → Heap → Prop}
    (H : ∀ h', h'.size = h.size → h'[b]? = some (.cells ⟨spliceL off new c⟩ T (0, 0)) → Keeps [b] h h' → K (.int .i64 ((min n dl : Nat) : Int)) h') :
    SemR P (Builtin.copy_ #[dT, sT] ty ⟨[.slice (some ⟨b, off, none⟩) dl dc, .slice (some ⟨xb, xo, none⟩) n xc]⟩) bs h K := by
  unfold SemR
  intro hlt w hw
  subst hw
  have hsize : (sizeOf e).run P w = .ok sz w := by simp [sizeOf, typeInfo_run P e w hi, hsz]
  have hnewL : (loadCells ⟨xb, xo, none⟩ (min n dl * sz)).run P w = .ok ⟨new⟩ w := loadCells_run hn (fun k hk => hnew k (by omega))
  obtain ⟨w', r1, r2, r3, r4, r5⟩ := store_cells (P := P) new 0 off c w (allOne_one' hone) (by omega) o
  refine ⟨_, w', ?_, r2, fun b' hb' => r5 b' (fun e => hb (e ▸ hb')), H w'.heap r3 (by simpa using r4) ⟨by omega, fun b' _ hb' => r5 b' (by simpa using hb')⟩⟩
  have hm : Nat.min n dl = min n dl := rfl
  simp [Builtin.copy_, underlying_run P dT w hu, hsize, Builtin.lenOf, Builtin.firstCells, hm, hnewL, r1, goInt]

/-- nothing is copied -/
theorem SemR.copy0 {P : Program} {dT sT ty e : TypeId} {i : TypeInfo} (hu : P.underlying dT = some (.slice e)) (hi : P.info? e = some i)
    {h : Heap} {a x : Option Addr} {dl dc n xc : Nat} (hz : min n dl = 0) {bs : List Nat} {K : Value → Heap → Prop} (H : K (.int .i64 0) h) :
    SemR P (Builtin.copy_ #[dT, sT] ty ⟨[.slice a dl dc, .slice x n xc]⟩) bs h K := by
  unfold SemR
  intro hlt w hw
  subst hw
  refine ⟨_, w, ?_, SameOut.refl w, fun _ _ => rfl, H⟩
  have hm : Nat.min n dl = 0 := hz
  have hsize : (sizeOf e).run P w = .ok i.size w := by simp [sizeOf, typeInfo_run P e w hi]
  cases a <;> cases x <;> simp [Builtin.copy_, underlying_run P dT w hu, hsize, Builtin.lenOf, Builtin.firstCells, hm, goInt, loadCells, loadCellsFrom, storeCells]

/-- a text's bytes are copied -/
def bytesV (s : ByteArray) : List Value := s.data.toList.map fun b => .int .u8 (b.toNat : Int)
end Go.Eng
