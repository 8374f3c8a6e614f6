/-
  Joined texts: BodyE, EngU, BodyF, BodyG, BodyH, BodyI, BodyJ.
-/
import Derived.Test.YtkjkdnphikendaaGreatDoorJLawCLinksd
import Derived.Test.YtkjkdnphikendaaGreatDoorJLawCLinksc
import Derived.Laws.IdiomStrings
import Derived.Lib.UnsafeStr
import Derived.Lib.Builder
import Derived.Laws.Externs
import Derived.Lib.MakeNoZero
/-
  Layers 8, 9: a new view; blocks that are taken and given back.
-/
set_option linter.all false
set_option maxRecDepth 100000
namespace Go.Proofs.YtkjkdnphikendaaGreatDoor
open Go Go.Eng

theorem new_spec {h : Heap} {L : ML} {M : MemS} (A : MemAt h L M) : CallH Tryz.prog 24 [.pointer (some ⟨L.m, 0, none⟩)] h (fun v h' => Keeps [] h h' ∧
    if M.sure.length = 2824 then ∃ V : VL, v = .pointer (some ⟨V.v, 0, none⟩) ∧ V.mem = L ∧ V.ab = none ∧ V.anb = none ∧ (∀ x ∈ [V.v, V.ob, V.sb, V.mb], h.size ≤ x) ∧ At h' V M ⟨M.read, [], [], [], []⟩ else v = .pointer none) := by
  refine call_of hmix Tryz.func24 rfl ok24 (by simp [Tryz.f24]) ?_
  conv => whnf
  refine CallR.i (msize_spec A) fun v h1 k1 hv => ?_
  subst hv
  conv => whnf
  refine CallR.i (size_spec h1) fun v h2 k2 hv => ?_
  subst hv
  conv => whnf
  refine IfR.i (fun hc => ?_) (fun hc => ?_)
  · conv => whnf
    have hn : ¬ M.sure.length = 2824 := by intro e; rw [e] at hc; simp at hc
    rw [if_neg hn]
    exact ⟨k1.trans k2, rfl⟩
  · have hn : M.sure.length = 2824 := by simp at hc; omega
    conv => whnf
    refine AllocR.i fun b3 h3 e3 s3 o3 k3 => ?_
    conv => whnf
    refine AllocR.i fun b4 h4 e4 s4 o4 k4 => ?_
    conv => whnf
    refine AllocR.i fun b5 h5 e5 s5 o5 k5 => ?_
    conv => whnf
    refine AllocR.i fun b6 h6 e6 s6 o6 k6 => ?_
    conv => whnf
    rw [if_pos hn]
    have k06 := k1.trans (k2.trans (k3.trans (k4.trans (k5.trans k6))))
    have z1 := k1.size
    have z2 := k2.size
    have old := A.blt
    refine ⟨k06, ⟨b6, L, b3, b4, b5, none, none⟩, rfl, rfl, rfl, rfl, ?_, A.on k06, o6, ⟨[], (MapL.new o3).keep (k4.trans (k5.trans k6)) (by simp), fun a => rfl, fun a ha => absurd rfl ha⟩, (MapL.new o4).keep (k5.trans k6) (by simp), (MapL.new o5).keep k6 (by simp), rfl, rfl, ?_, ?_, by simp, by simp⟩
    · intro x hx
      simp only [List.mem_cons, List.not_mem_nil, or_false] at hx
      omega
    · show b3 ≠ b4 ∧ b3 ≠ b5 ∧ b4 ≠ b5
      omega
    · intro b hb hx
      have := old b hx
      simp only [List.mem_cons, List.not_mem_nil, or_false] at hb
      omega

theorem sowner_spec {h : Heap} {v : Nat} (k : Int) : CallH Tryz.prog 199 [.pointer (some ⟨v, 0, none⟩), .int .i64 k] h (fun v h' => Keeps [] h h' ∧ v = .tuple #[.int .i64 (if 0 ≤ k ∧ k < 96 then 200 + k * 1 else 0), .int .i64 (if 0 ≤ k ∧ k < 96 then 0 else 1)]) := by
  refine call_of hmix Tryz.func199 rfl ok199 (by simp [Tryz.f199]) ?_
  conv => whnf
  refine CallR.i (ownerAt_spec k h) fun v h1 k1 hv => ?_
  subst hv
  conv => whnf
  refine MeetR.pass ?_
  conv => whnf
  refine IfR.f rfl ?_
  conv => whnf
  exact ⟨k1, rfl⟩

theorem open_owner {k : Int} (h : 0 ≤ k ∧ k < 96) : openW (200 + k) = true := by simp [openW]; omega

/-- a block is given back -/
def dropP (X : VS) (k : Int) : Int × VS :=
  if 0 ≤ k ∧ k < 96 then (if X.now (200 + k) = 0 then (15, X) else (0, { X with now := upd X.now (200 + k) 0 })) else (1, X)

theorem drop_spec {h : Heap} {V : VL} {M : MemS} {X : VS} (A : At h V M X) (k : Int) : CallH Tryz.prog 145 [.pointer (some ⟨V.v, 0, none⟩), .int .i64 k] h (fun v h' => Keeps [V.ob] h h' ∧ v = .int .i64 (dropP X k).1 ∧ At h' V M (dropP X k).2) := by
  refine call_of hmix Tryz.func145 rfl ok145 (by simp [Tryz.f145]) ?_
  conv => whnf
  refine CallR.i (sowner_spec k) fun v h1 k1 hv => ?_
  subst hv
  have A1 := A.on k1
  conv => whnf
  refine IfR.i (fun hc => ?_) (fun hc => ?_)
  · have hk : ¬ (0 ≤ k ∧ k < 96) := fun hk => by rw [if_pos hk] at hc; simp at hc
    conv => whnf
    unfold dropP
    rw [if_neg hk, if_neg hk]
    exact ⟨k1.mono (by simp), rfl, A1⟩
  · have hk : 0 ≤ k ∧ k < 96 := Classical.byContradiction fun hk => by rw [if_neg hk] at hc; simp at hc
    rw [if_pos hk, Int.mul_one]
    conv => whnf
    refine CallR.i (vread_spec A1 (200 + k)) fun v h2 k2 hv => ?_
    subst hv
    have A2 := A1.on k2
    conv => whnf
    refine IfR.i (fun hd => ?_) (fun hd => ?_)
    · have hn : X.now (200 + k) = 0 := by simpa [wv_zero] using hd
      conv => whnf
      unfold dropP
      rw [if_pos hk, if_pos hn]
      exact ⟨(k1.trans k2).mono (by simp), rfl, A2⟩
    · have hn : ¬ X.now (200 + k) = 0 := by simpa [wv_zero] using hd
      conv => whnf
      refine CallR.m (vwrite_spec A2 (200 + k) 0) (by simp [blocksOf]) fun v h3 k3 hv => ?_
      obtain ⟨rfl, A3⟩ := hv
      rw [if_pos (open_owner hk)] at A3
      conv => whnf
      unfold dropP
      rw [if_pos hk, if_neg hn, if_pos (open_owner hk)]
      exact ⟨((k1.trans k2).mono (by simp)).trans k3, rfl, A3⟩

/-- the file that has a block -/
def ownerP (X : VS) (k : Int) : Int × Int :=
  if 0 ≤ k ∧ k < 96 then (if 24 < (X.now (200 + k)).toNat then (0, 15) else (((X.now (200 + k)).toNat : Int) - 1, 0)) else (0, 1)

/-- how many blocks are free, of the first 'n' -/
def freeN (B : Int → UInt64) (X : VS) (n : Nat) : Nat := ((List.range n).filter fun (i : Nat) => freshB B X (i : Int)).length

/-- the first block that is free, from 'i' on -/
def firstF (B : Int → UInt64) (X : VS) : Nat → Nat → Option Nat
  | 0, _ => none
  | f + 1, i => if freshB B X (i : Int) then some i else firstF B X f (i + 1)

theorem firstF_is {B : Int → UInt64} {X : VS} : ∀ {f i k : Nat}, firstF B X f i = some k → freshB B X (k : Int) = true ∧ i ≤ k ∧ k < i + f
  | 0, i, k, h => by cases h
  | f + 1, i, k, h => by
    simp only [firstF] at h
    split at h
    · simp at h; subst h; exact ⟨by assumption, Nat.le_refl _, by omega⟩
    · have := firstF_is h; exact ⟨this.1, by omega, by omega⟩

def w64 (n : Int) : UInt64 := UInt64.ofNat (n % 18446744073709551616).toNat
theorem w64_toNat (n : Int) : ((w64 n).toNat : Int) = n % 18446744073709551616 := by
  unfold w64
  rw [UInt64.toNat_ofNat']
  omega
theorem wv_w64 (n : Int) : wv (w64 n) = .int .u64 (IntKind.u64.wrap n) := by
  unfold wv
  rw [w64_toNat]
  rfl

/-- a block is taken for a file -/
def takeP (B : Int → UInt64) (X : VS) (node : Int) : Int × Int × VS :=
  if 0 ≤ node ∧ node < 24 then
    (match firstF B X 96 0 with
    | some k => ((k : Int), 0, { X with now := putBlk (upd X.now (200 + (k : Int)) (w64 (node + 1))) (k : Int) [] })
    | none => (0, 9, X))
  else (0, 1, X)

theorem take_spec {h : Heap} {V : VL} {M : MemS} {X : VS} (A : At h V M X) (node : Int) : CallH Tryz.prog 77 [.pointer (some ⟨V.v, 0, none⟩), .int .i64 node] h (fun v h' => Keeps [V.ob] h h' ∧ v = .tuple #[.int .i64 (takeP M.read X node).1, .int .i64 (takeP M.read X node).2.1] ∧ At h' V M (takeP M.read X node).2.2) := by
  refine call_of hmix Tryz.func77 rfl ok77 (by simp [Tryz.f77]) ?_
  conv => whnf
  refine CallR.i (cardAt_spec node h) fun v h1 k1 hv => ?_
  subst hv
  have A1 := A.on k1
  conv => whnf
  refine IfR.i (fun hc => ?_) (fun hc => ?_)
  · have hk : ¬ (0 ≤ node ∧ node < 24) := fun hk => by rw [if_pos hk] at hc; simp [bif_or] at hc
    conv => whnf
    unfold takeP
    rw [if_neg hk]
    exact ⟨k1.mono (by simp), rfl, A1⟩
  · have hk : 0 ≤ node ∧ node < 24 := Classical.byContradiction fun hk => by rw [if_neg hk] at hc; simp [bif_or] at hc
    have hT : takeP M.read X node = (match firstF M.read X 96 0 with
      | some k => ((k : Int), 0, { X with now := putBlk (upd X.now (200 + (k : Int)) (w64 (node + 1))) (k : Int) [] })
      | none => (0, 9, X)) := by unfold takeP; rw [if_pos hk]
    rw [hT]
    clear hT
    conv => whnf
    refine LoopR.on [0, 1, 23] [] (fun i : Nat => [(0, .v (.pointer (some ⟨V.v, 0, none⟩))), (1, .v (.int .i64 node)), (23, .v (.int .i64 (i : Int)))]) (fun _ => []) (fun i h' => i ≤ 96 ∧ Keeps [] h h' ∧ firstF M.read X 96 0 = firstF M.read X (96 - i) i) (fun i => 96 - i) 0 ?_ ?_
    · conv => whnf
      exact ⟨0, rfl, rfl, rfl, by decide, k1, rfl⟩
    · rintro i h2 ⟨hi, k2, hF⟩
      have A2 := A.on k2
      conv => whnf
      refine IfR.i (fun hc => ?_) (fun hc => ?_)
      · have hi1 : i < 96 := by simp at hc; omega
        have hF2 : firstF M.read X (96 - i) i = if freshB M.read X (i : Int) then some i else firstF M.read X (96 - (i + 1)) (i + 1) := by
          rw [show 96 - i = (96 - (i + 1)) + 1 by omega]; rfl
        rw [hF2] at hF
        clear hF2
        conv => whnf
        refine CallR.i (fresh_spec A2 (i : Int)) fun v h3 k3 hv => ?_
        subst hv
        have A3 := A2.on k3
        conv => whnf
        refine IfR.i (fun hd => ?_) (fun hd => ?_)
        · have hd' : freshB M.read X (i : Int) = false := by simpa using hd
          rw [hd'] at hF
          conv => whnf
          refine ⟨96 - (i + 1), by omega, ?_⟩
          conv => whnf
          exact ⟨i + 1, rfl, by rw [wrapN (n := i + 1) (by simp) (by omega)], rfl, by omega, k2.trans k3, by rw [hF, if_neg (by simp)]⟩
        · have hd' : freshB M.read X (i : Int) = true := by simpa using hd
          rw [hd', if_pos rfl] at hF
          rw [hF]
          conv => whnf
          refine CallR.i (ownerAt_spec (i : Int) h3) fun v h4 k4 hv => ?_
          subst hv
          have hib : (0 : Int) ≤ (i : Int) ∧ (i : Int) < 96 := ⟨by omega, by omega⟩
          rw [if_pos hib, Int.mul_one]
          have A4 := A3.on k4
          conv => whnf
          rw [wrapI (x := node + 1) (by omega) (by omega), ← wv_w64]
          refine CallR.m (vwrite_spec A4 (200 + (i : Int)) (w64 (node + 1))) (by simp [blocksOf]) fun v h5 k5 hv => ?_
          obtain ⟨rfl, A5⟩ := hv
          rw [if_pos (open_owner hib)] at A5
          rw [if_pos (open_owner hib)]
          conv => whnf
          refine IfR.f rfl ?_
          conv => whnf
          refine CallR.m (setBlock_spec A5 (i : Int) (Sl.nil (α := UInt64) (a := none) (cap := 0)) (by simp [blkA])) (by simp [blocksOf]) fun v h6 k6 hv => ?_
          obtain ⟨rfl, A6⟩ := hv
          have h3' : (0 : Int) ≤ (i : Int) ∧ (i : Int) < 96 ∧ 0 ≤ 16 := ⟨hib.1, hib.2, by omega⟩
          rw [if_pos h3'] at A6
          rw [if_pos h3']
          conv => whnf
          exact ⟨((k2.trans (k3.trans k4)).mono (by simp)).trans (k5.trans k6), rfl, A6⟩
      · have hi1 : i = 96 := by simp at hc; omega
        subst hi1
        conv => whnf
        rw [hF]
        exact ⟨k2.mono (by simp), rfl, A2⟩
end Go.Proofs.YtkjkdnphikendaaGreatDoor
/-
  The engine, for its user: texts as bytes, buffers that are written on behind what a text shares.
-/
set_option linter.all false
namespace Go.Eng
open Go

theorem bytesV_len (s : ByteArray) : (bytesV s).length = s.size := by simp [bytesV]
def bytesL (l : List UInt8) : List Value := l.map fun b => .int .u8 (b.toNat : Int)
theorem bytesV_eq (s : ByteArray) : bytesV s = bytesL s.data.toList := rfl
theorem bytesL_len (l : List UInt8) : (bytesL l).length = l.length := by simp [bytesL]
theorem bytesL_app (a b : List UInt8) : bytesL (a ++ b) = bytesL a ++ bytesL b := by simp [bytesL]

/-- the bytes of a text -/
theorem SemR.bytesOf {P : Program} {src dst e : TypeId} {s : ByteArray} (hs : P.underlying src = some .string) (hd : P.underlying dst = some (.slice e)) (he : P.underlying e = some (.int .u8)) {bs : List Nat} {h : Heap} {K : Value → Heap → Prop}
    (H : ∀ b cap h' r fz, b = h.size → h'.size = h.size + 1 → s.size ≤ cap → h'[b]? = some (.cells ⟨bytesV s ++ r⟩ e fz) → Keeps [] h h' → K (.slice (some ⟨b, 0, none⟩) s.size cap) h') :
    SemR P (convert src dst (.string s)) bs h K := by
  unfold SemR
  intro hlt w hw
  subst hw
  have hr := run_bytes_of_string (P := P) w src dst e s hs hd he
  refine ⟨_, _, hr, ⟨rfl, rfl, rfl⟩, fun b hb => ?_, ?_⟩
  · show (w.heap.push _)[b]? = _
    rw [push_get, if_neg (by have := hlt b hb; omega)]
  · have hc : s.size ≤ grownCap w s.size 0 e := by
      simp only [grownCap, Question.cut]; omega
    refine H w.heap.size _ (w.heap.push _) (List.replicate (grownCap w s.size 0 e - s.size) (.int .u8 0)) ((bytesRow s (grownCap w s.size 0 e)).size, (bytesRow s (grownCap w s.size 0 e)).size + 1) rfl (by simp) hc ?_ (keeps_push _ _)
    rw [push_get, if_pos rfl]
    congr 2
    · apply Array.ext'
      simp [bytesRow, bytesV]

/-- a text out of bytes -/
theorem SemR.textOf {P : Program} {src dst e : TypeId} {b off n cap : Nat} {l : List UInt8} (hs : P.underlying src = some (.slice e)) (he : P.underlying e = some (.int .u8)) (hd : P.underlying dst = some .string) {h : Heap} (hn : n = l.length)
    (hc : ∀ j (hj : j < l.length), Heap.cell? h b (off + j) = some (.int .u8 (l[j].toNat : Int))) {bs : List Nat} {K : Value → Heap → Prop} (H : K (.string ⟨l.toArray⟩) h) :
    SemR P (convert src dst (.slice (some ⟨b, off, none⟩) n cap)) bs h K := by
  unfold SemR
  intro hlt w hw
  subst hw
  subst hn
  exact ⟨_, w, run_convert_bytes_back w src dst e ⟨b, off, none⟩ cap l hs he hd (fun j hj => by rw [addr_add, cell?_eq]; exact hc j hj), SameOut.refl w, fun _ _ => rfl, H⟩
/-! ### Buffers -/

theorem store_cellsF {P : Program} {b : Nat} {T : TypeId} {fz : Nat × Nat} : ∀ (vs : List Value) (i off : Nat) (c : List Value) (w : World), (∀ v ∈ vs, v.oneCell' = true) → off + i + vs.length ≤ c.length → fz.2 ≤ off + i →
    w.heap[b]? = some (.cells ⟨c⟩ T fz) → ∃ w', (storeCells ⟨b, off, none⟩ vs i).run P w = .ok () w' ∧ SameOut w w' ∧ w'.heap.size = w.heap.size ∧
      w'.heap[b]? = some (.cells ⟨spliceL (off + i) vs c⟩ T fz) ∧ ∀ b', b' ≠ b → w'.heap[b']? = w.heap[b']?
  | [], i, off, c, w, _, _, _, hb => ⟨w, by simp [storeCells], SameOut.refl w, rfl, by rw [splice_nil]; exact hb, fun _ _ => rfl⟩
  | v :: vs, i, off, c, w, hv, hl, hz, hb => by
    simp only [List.length_cons] at hl
    have hcell : w.cell? ⟨b, off + i, none⟩ = some (c[off + i]'(by omega)) := by
      rw [cell?_eq]; simp [Heap.cell?, hb, show off + i < c.length by omega]
    have hfr : w.frozen? ⟨b, off + i, none⟩ = false := by
      obtain ⟨lo, hi⟩ := fz
      simp [World.frozen?, hb]; intro _; simpa using hz
    have hrun := run_store P w ⟨b, off + i, none⟩ v .plain (hv v (by simp))
    rw [hcell] at hrun
    simp only [hfr, Bool.false_eq_true, if_false] at hrun
    have hb2 : (w.setCell ⟨b, off + i, none⟩ v).heap[b]? = some (.cells ⟨c.set (off + i) v⟩ T fz) := by
      rw [setCell_heap, Array.getElem?_modify]
      simp [hb, setObj1, Array.setIfInBounds, show off + i < c.length by omega]
    obtain ⟨w', h1, h2, h3, h4, h5⟩ := store_cellsF vs (i + 1) off (c.set (off + i) v) (w.setCell ⟨b, off + i, none⟩ v) (fun u hu => hv u (by simp [hu])) (by simp; omega) (by omega) hb2
    refine ⟨w', ?_, ⟨h2.1, h2.2⟩, ?_, ?_, fun b' hne => ?_⟩
    · simp only [storeCells, Sem.run_bind, addr_add]
      rw [hrun]
      simp only [Result.andThen_ok]
      exact h1
    · rw [h3, setCell_heap]; simp
    · rw [h4, show off + (i + 1) = off + i + 1 by omega, splice_cons v vs (off + i) c (by omega)]
    · rw [h5 b' hne, setCell_heap, Array.getElem?_modify, if_neg (Ne.symm hne)]

/-- a slice of bytes from its block's first cell on, that nobody else writes -/
def Buf (h : Heap) (e : TypeId) (a : Option Addr) (n c : Nat) (s : List UInt8) : Prop :=
  (a = none ∧ n = 0 ∧ c = 0 ∧ s = []) ∨
  ∃ g cs fz, a = some ⟨g, 0, none⟩ ∧ h[g]? = some (.cells ⟨cs⟩ e fz) ∧ cs.take n = bytesL s ∧ cs.length = c ∧ n = s.length ∧ n ≤ c ∧ fz.2 ≤ n ∧ 0 < c

theorem Buf.keep {M : List Nat} {h h' : Heap} {e : TypeId} {a : Option Addr} {n c : Nat} {s : List UInt8} (o : Buf h e a n c s) (k : Keeps M h h') (hm : ∀ b ∈ blkA a, b ∉ M) : Buf h' e a n c s := by
  rcases o with o | ⟨g, cs, fz, h1, h2, h3⟩
  · exact .inl o
  · exact .inr ⟨g, cs, fz, h1, k.obj h2 (hm g (by simp [h1, blkA])), h3⟩
theorem Buf.lt {h : Heap} {e : TypeId} {a : Option Addr} {n c : Nat} {s : List UInt8} (o : Buf h e a n c s) : ∀ b ∈ blkA a, b < h.size := by
  intro b hb
  rcases o with ⟨rfl, _⟩ | ⟨g, cs, fz, rfl, h2, _⟩
  · cases hb
  · simp [blkA] at hb; subst hb; exact obj_lt h2
theorem Buf.len {h : Heap} {e : TypeId} {a : Option Addr} {n c : Nat} {s : List UInt8} (o : Buf h e a n c s) : n = s.length ∧ n ≤ c := by
  rcases o with ⟨_, rfl, rfl, rfl⟩ | ⟨g, cs, fz, _, _, _, _, h5, h6, _, _⟩
  · exact ⟨rfl, Nat.le_refl _⟩
  · exact ⟨h5, h6⟩

theorem allOne_bytes : ∀ l : List UInt8, allOne (bytesL l) = true
  | [] => rfl
  | x :: l => by simpa [allOne, oneV, bytesL] using allOne_bytes l

theorem firstCells_str {P : Program} (w : World) (size : Nat) (s : ByteArray) : (Builtin.firstCells size s.size (.string s)).run P w = .ok ⟨bytesV s⟩ w := by
  simp [Builtin.firstCells, bytesV]
  apply Array.ext'
  simp

theorem SemR.appendStr {P : Program} {sT xT ty e : TypeId} {i : TypeInfo} {z : Value} (hu : P.underlying sT = some (.slice e)) (hx : P.underlying xT = some .string) (hi : P.info? e = some i) (hsz : i.size = 1) (hby : i.bytes = 1) (hz : i.zero = some z) (hzc : cellsOf z = [z])
    {h : Heap} {a : Option Addr} {n c : Nat} {l : List UInt8} {s : ByteArray} (o : Buf h e a n c l) (hbig : n + s.size ≤ 70368744177664) {bs : List Nat} (hbs : ∀ b ∈ blkA a, b ∉ bs) {K : Value → Heap → Prop}
    (H : ∀ a' c' h', Buf h' e a' (n + s.size) c' (l ++ s.data.toList) → Keeps (blkA a) h h' → (∀ b ∈ blkA a', b ∈ blkA a ∨ h.size ≤ b) → c ≤ c' → (n + s.size ≤ c → c' = c ∧ a' = a) → K (.slice a' (n + s.size) c') h') :
    SemR P (Builtin.append_ #[sT, xT] ty ⟨[.slice a n c, .string s]⟩) bs h K := by
  unfold SemR
  intro hlt w hw
  subst hw
  have hsize : (sizeOf e).run P w = .ok 1 w := by simp [sizeOf, typeInfo_run P e w hi, hsz]
  have hnew := firstCells_str (P := P) w 1 s
  have hlen := o.len
  by_cases hfit : n + s.size ≤ c
  · rcases o with ⟨rfl, rfl, rfl, rfl⟩ | ⟨g, cs, fz, rfl, h2, h3, h4, h5, h6, h7, h8⟩
    · have hn0 : s.size = 0 := by omega
      have hb0 : bytesV s = [] := List.eq_nil_of_length_eq_zero (by rw [bytesV_len]; exact hn0)
      have hd0 : s.data.toList = [] := List.eq_nil_of_length_eq_zero (by rw [Array.length_toList]; exact hn0)
      have hnew0 := hnew
      rw [hn0, hb0] at hnew0
      refine ⟨.slice none (0 + s.size) 0, w, ?_, SameOut.refl w, fun b _ => rfl, H none 0 w.heap (.inl ⟨rfl, by omega, rfl, by simp [hd0]⟩) (Keeps.refl _ _) (by simp [blkA]) (Nat.le_refl _) (fun _ => ⟨rfl, rfl⟩)⟩
      simp [Builtin.append_, underlying_run P sT w hu, underlying_run P xT w hx, hsize, Builtin.lenOf, hn0, hnew0]
    · have hroom : n + (bytesV s).length ≤ cs.length := by rw [bytesV_len, h4]; exact hfit
      obtain ⟨w', r1, r2, r3, r4, r5⟩ := store_cellsF (P := P) (bytesV s) 0 n cs w (allOne_one' (by rw [bytesV_eq]; exact allOne_bytes _)) (by simpa using hroom) (by simpa using h7) h2
      refine ⟨_, w', ?_, r2, fun b' hb' => r5 b' (fun e => hbs g (by simp [blkA]) (e ▸ hb')), H (some ⟨g, 0, none⟩) c w'.heap (.inr ⟨g, _, fz, rfl, r4, ?_, ?_, ?_, hfit, by omega, h8⟩) ⟨by omega, fun b' _ hb' => r5 b' (by simpa [blkA] using hb')⟩ (fun b' hb' => .inl hb') (Nat.le_refl _) (fun _ => ⟨rfl, rfl⟩)⟩
      · simp [Builtin.append_, underlying_run P sT w hu, hsize, underlying_run P xT w hx, Builtin.lenOf, hfit, hnew, addr_add]
        rw [r1]
        rfl
      · have := splice_take n (bytesV s) cs (by omega)
        simp only [Nat.add_zero]
        rw [bytesV_len] at this
        rw [this, h3, bytesL_app, bytesV_eq]
      · simp only [Nat.add_zero, spliceL_length]; exact h4
      · simp [h5]
  · have hcap : c < n + s.size := by omega
    have hold : ∀ w' : World, w'.heap = w.heap → (Builtin.firstCells 1 n (.slice a n c)).run P w' = .ok ⟨bytesL l⟩ w' := by
      intro w' hw'
      rcases o with ⟨rfl, rfl, rfl, rfl⟩ | ⟨g, cs, fz, rfl, h2, h3, h4, h5, h6, h7, h8⟩
      · simp [Builtin.firstCells, bytesL]
      · simp only [Builtin.firstCells]
        refine loadCells_run (by rw [bytesL_len]; omega) (fun k hk => ?_)
        rw [Nat.mul_one] at hk
        simp only [Heap.cell?, hw', h2, Nat.zero_add]
        rw [← h3]
        simp [hk, show k < cs.length by omega]
    have hncap := nextcap_le (n + s.size) c hcap
    obtain ⟨nc, hnc, hle, hforced⟩ := cut_cap (n + s.size) c e (w.tape w.drawn (.appendCap (n + s.size) c e)) (by omega)
    obtain ⟨zl, hzl, hzlen⟩ := zeroCells_eq z.cells (nc - (n + s.size))
    have hz' : z.cells.size = 1 := by rw [cellsOf_eq, hzc]; rfl
    let w2 : World := { w.drew with heap := w.heap.push (.cells ⟨bytesL l ++ bytesV s ++ zl⟩ e) }
    refine ⟨.slice (some ⟨w.heap.size, 0, none⟩) (n + s.size) nc, w2, ?_, ⟨rfl, rfl, rfl⟩, fun b hb => ?_, H _ nc w2.heap (.inr ⟨w.heap.size, bytesL l ++ bytesV s ++ zl, (0, 0), rfl, ?_, ?_, ?_, ?_, hle, Nat.zero_le _, by omega⟩) ?_ ?_ (by omega) (fun h => absurd h hfit)⟩
    · have hti : (typeInfo e).run P w = .ok i w := typeInfo_run P e w hi
      have hti2 : (typeInfo e).run P w.drew = .ok i w.drew := typeInfo_run P e w.drew hi
      have hold2 := hold w.drew rfl
      have hnew2 := firstCells_str (P := P) w.drew 1 s
      have hzv2 : (zeroValue e).run P w.drew = .ok z w.drew := by simp [zeroValue, typeInfo_run P e w.drew hi, hz]
      have hb2 : ¬ (281474976710656 < Builtin.nextslicecap (n + s.size) c) := by omega
      have hbz : ¬ (i.bytes = 0) := by omega
      simp [Builtin.append_, underlying_run P sT w hu, hsize, underlying_run P xT w hx, Builtin.lenOf, hfit, hti, hbz, hb2, hby, hforced, hnc, hti2, hold2, hnew2, hzv2, hzl, newRow, w2]
      rfl
    · show (w.heap.push _)[b]? = _
      rw [push_get, if_neg (by have := hlt b hb; omega)]
    · show (w.heap.push _)[w.heap.size]? = _
      rw [push_get, if_pos rfl]
    · rw [bytesL_app, ← bytesV_eq]
      have : (bytesL l ++ bytesV s).length = n + s.size := by simp [bytesL_len, bytesV_len, hlen.1]
      rw [← this, List.take_left]
    · simp [bytesL_len, bytesV_len, hzlen, hz']; omega
    · simp [hlen.1]
    · exact ⟨by simp [w2], fun b hb _ => by show (w.heap.push _)[b]? = _; rw [push_get, if_neg (by omega)]⟩
    · intro b hb; right; simp [blkA] at hb; omega

/-! ### Functions without a body -/

theorem SemR.ext {P : Program} {f : FuncId} {fn : Func} {e : Array Value → Sem Value} (hf : P.funcs[f]? = some fn) (hname : (fn.name == "runtime.NumGoroutine") = false) (hb : fn.body.isNone = true) (hn : Extern.findNext fn = none) (he : Extern.find fn = some e)
    {args : Array Value} {bs : List Nat} {h : Heap} {K : Value → Heap → Prop} (H : SemR P (e args) bs h K) : SemR P (extCall f args) bs h K := by
  unfold SemR at H ⊢
  intro hlt w hw
  obtain ⟨v, w', h1, h2⟩ := H hlt w hw
  refine ⟨v, w', ?_, h2⟩
  unfold extCall
  simp only [Sem.run_bind, run_callFunc_extern hf hname hb hn he, h1, Result.andThen_ok]
  simp

theorem SemR.pure {P : Program} {α : Type} {s : Sem α} {bs : List Nat} {h : Heap} {K : α → Heap → Prop} {v : α} (hs : ∀ w : World, w.heap = h → s.run P w = .ok v w) (H : K v h) : SemR P s bs h K := by
  unfold SemR
  intro hlt w hw
  exact ⟨v, w, hs w hw, SameOut.refl w, fun b _ => by rw [hw], by rw [hw]; exact H⟩

/-- a buffer of whatever bytes -/
theorem SemR.noZero {P : Program} {ps : Array TypeId} {t e : TypeId} (ht : P.underlying t = some (.slice e)) {n : Nat} (hn : n ≤ 281474976710656) (hp : 0 < n) {bs : List Nat} {h : Heap} {K : Value → Heap → Prop}
    (H : ∀ b c cs h', b = h.size → h'.size = h.size + 1 → h'[b]? = some (.cells ⟨cs⟩ e (0, 0)) → cs.length = c → n ≤ c → Keeps [] h h' → K (.slice (some ⟨b, 0, none⟩) n c) h') :
    SemR P (Extern.BytealgMakeNoZero.makeNoZero ps #[t] #[.int .i64 (n : Int)]) bs h K := by
  unfold SemR
  intro hlt w hw
  subst hw
  obtain ⟨cs, h1, h2, _⟩ := Lib.run_makeNoZero (P := P) w ps t e ht n hn
  refine ⟨_, _, h1, ⟨rfl, rfl, rfl⟩, fun b hb => ?_, H w.heap.size cs.size cs.toList (w.heap.push (.cells cs e)) rfl (by simp) (by rw [push_get, if_pos rfl]) (by simp) h2 (keeps_push _ _)⟩
  show (w.heap.push _)[b]? = _
  rw [push_get, if_neg (by have := hlt b hb; omega)]

theorem BothR.i {a b : Prop} (h1 : a) (h2 : b) : BothR a b := by unfold BothR; exact ⟨h1, h2⟩

theorem freeze_heap (w : World) (g : Nat) {n : Nat} (hn : n ≠ 0) {cs : Array Value} {e : TypeId} {fz : Nat × Nat} (hg : w.heap[g]? = some (.cells cs e fz)) :
    (w.freeze ⟨g, 0, none⟩ n).heap.size = w.heap.size ∧ (∃ fz', (w.freeze ⟨g, 0, none⟩ n).heap[g]? = some (.cells cs e fz') ∧ fz'.2 ≤ max fz.2 n) ∧ ∀ b, b ≠ g → (w.freeze ⟨g, 0, none⟩ n).heap[b]? = w.heap[b]? := by
  unfold World.freeze
  rw [if_neg hn]
  obtain ⟨lo, hi⟩ := fz
  refine ⟨by simp, ⟨if lo == hi then (0, 0 + n) else (min lo 0, max hi (0 + n)), ?_, ?_⟩, fun b hb => ?_⟩
  · simp only [Array.getElem?_modify, if_true, hg, Option.map_some]
  · split
    · simp; omega
    · simp
  · simp only [Array.getElem?_modify]
    rw [if_neg (fun e => hb e.symm)]

theorem SemR.unsafeStr {P : Program} {pt it ty e : TypeId} (hp : P.underlying pt = some (.pointer e)) (hc : P.cellsOf e = 1) {h : Heap} {g n c : Nat} {l : List UInt8} (o : Buf h e (some ⟨g, 0, none⟩) n c l) (h63 : l.length ≤ 70368744177664) {bs : List Nat} (hg : g ∉ bs) {K : Value → Heap → Prop}
    (H : ∀ h', Buf h' e (some ⟨g, 0, none⟩) n c l → h'.size = h.size → Keeps [g] h h' → K (.string ⟨l.toArray⟩) h') :
    SemR P (Builtin.unsafeString_ #[pt, it] ty ⟨[.pointer (some ⟨g, 0, none⟩), .int .i64 (n : Int)]⟩) bs h K := by
  rcases o with ⟨h1, _⟩ | ⟨g', cs, fz, h1, h2, h3, h4, h5, h6, h7, h8⟩
  · cases h1
  simp only [Option.some.injEq, Addr.mk.injEq, and_true] at h1
  subst h1
  subst h5
  by_cases h0 : l = []
  · subst h0
    refine SemR.pure (fun w _ => Lib.run_unsafeString_none w pt it ty (some ⟨g, 0, none⟩)) ?_
    exact H h (.inr ⟨g, cs, fz, rfl, h2, h3, h4, rfl, h6, h7, h8⟩) rfl (Keeps.refl _ _)
  · unfold SemR
    intro hlt w hw
    subst hw
    have hl0 : l.length ≠ 0 := by simpa using h0
    have hsh : w.shape? g = some (e, cs.length) := by unfold World.shape?; rw [h2]; simp
    have hr := Lib.run_unsafeString_row (P := P) w pt it ty e hp hc g cs.length hsh l h0 (by omega) (by omega) (fun j x hj => by
      rw [addr_add, Nat.zero_add, cell?_eq]
      simp only [Heap.cell?, h2]
      have hj' : j < l.length := (List.getElem?_eq_some_iff.1 hj).1
      have h9 : (cs.take l.length)[j]? = (bytesL l)[j]? := by rw [h3]
      rw [List.getElem?_take, if_pos hj'] at h9
      simp only [List.getElem?_toArray]
      rw [h9]
      simp [bytesL, hj])
    obtain ⟨q1, ⟨fz', q2, q3⟩, q4⟩ := freeze_heap w g hl0 h2
    refine ⟨_, _, hr, ?_, fun b hb => q4 b (fun x => hg (x ▸ hb)), H _ (.inr ⟨g, cs, fz', rfl, q2, h3, h4, rfl, h6, by omega, h8⟩) q1 ⟨by omega, fun b _ hb => q4 b (by simpa using hb)⟩⟩
    unfold World.freeze
    rw [if_neg hl0]
    exact ⟨rfl, rfl, rfl⟩

theorem slA_zero (a : Option Addr) (c s : Nat) : slA a c 0 s = a := by
  unfold slA; split
  · rfl
  · cases a <;> simp [Addr.add]

/-- 'append(nil, make(n)...)' -/
theorem SemR.appendMake {P : Program} {sT nT ty e : TypeId} {i : TypeInfo} {z : Value} {k : IntKind} (hu : P.underlying sT = some (.slice e)) (hx : P.underlying nT = some (.int k)) (hi : P.info? e = some i) (hsz : i.size = 1) {by_ : Nat} (hby : i.bytes = by_) (hz : i.zero = some z) (hzc : cellsOf z = [z])
    {n : Nat} (hp : 0 < n) (hbig : (2 * n + 192) * by_ ≤ 281474976710656) (hb0 : 0 < by_) {h : Heap} {bs : List Nat} {K : Value → Heap → Prop}
    (H : ∀ b c h', b = h.size → h'.size = h.size + 1 → h'[b]? = some (.cells ⟨List.replicate c z⟩ e (0, 0)) → n ≤ c → Keeps [] h h' → K (.slice (some ⟨b, 0, none⟩) n c) h') :
    SemR P (Builtin.append_ #[sT, nT] ty ⟨[.slice none 0 0, .int .i64 (n : Int)]⟩) bs h K := by
  unfold SemR
  intro hlt w hw
  subst hw
  have hn1 : n ≤ 281474976710656 := by
    have : 2 * n + 192 ≤ (2 * n + 192) * by_ := Nat.le_mul_of_pos_right _ hb0
    omega
  have hn2 : n * by_ ≤ 281474976710656 := by
    have := Nat.mul_le_mul_right by_ (show n ≤ 2 * n + 192 by omega)
    omega
  have hncap := nextcap_le n 0 hp
  have hn3 : Builtin.nextslicecap n 0 * by_ ≤ 281474976710656 := by
    have := Nat.mul_le_mul_right by_ hncap
    omega
  obtain ⟨nc, hnc, hle, hforced⟩ := cut_cap n 0 e (w.tape w.drawn (.appendCap n 0 e)) (by omega)
  have hz' : z.cells = #[z] := by rw [cellsOf_eq, hzc]
  have zc : ∀ m, Builtin.zeroCells z.cells m = ⟨List.replicate m z⟩ := by
    intro m
    rw [hz']
    apply Array.ext'
    simp only [Builtin.zeroCells]
    apply List.ext_getElem
    · simp
    · intro k k1 k2
      simp [Nat.mod_one]
  have hti : (typeInfo e).run P w = .ok i w := typeInfo_run P e w hi
  have hti2 : (typeInfo e).run P w.drew = .ok i w.drew := typeInfo_run P e w.drew hi
  have hsize : (sizeOf e).run P w = .ok 1 w := by simp [sizeOf, typeInfo_run P e w hi, hsz]
  have hzv2 : (zeroValue e).run P w.drew = .ok z w.drew := by simp [zeroValue, typeInfo_run P e w.drew hi, hz]
  have hwrap : IntKind.i64.wrap (n : Int) = (n : Int) := wrapN rfl (by omega)
  have c1 : ¬ (281474976710656 < (n : Int) * (by_ : Int)) := by
    have : (n : Int) * (by_ : Int) = ((n * by_ : Nat) : Int) := by simp
    rw [this]; omega
  have c2 : ¬ (281474976710656 < Builtin.nextslicecap n 0 * by_) := by omega
  have c3 : ¬ (9223372036854775807 < (n : Int)) := by omega
  have c4 : ¬ ((n : Int) < 0) := by omega
  have c5 : ¬ (n = 0) := by omega
  refine ⟨.slice (some ⟨w.heap.size, 0, none⟩) n nc, { w.drew with heap := w.heap.push (.cells ⟨List.replicate nc z⟩ e) }, ?_, ⟨rfl, rfl, rfl⟩, fun b hb => ?_, H w.heap.size nc (w.heap.push (.cells ⟨List.replicate nc z⟩ e)) rfl (by simp) (by rw [push_get, if_pos rfl]) hle (keeps_push _ _)⟩
  · have hb0' : ¬ (by_ = 0) := by omega
    simp [Builtin.append_, underlying_run P sT w hu, underlying_run P nT w hx, hsize, asInt, asIntOf, hwrap, c4, hti, hby, c1, c2, c3, c5, hb0', hforced, hnc, hti2, hzv2, zc, Builtin.firstCells, newRow]
    rw [show n + (nc - n) = nc by omega]
    rfl
  · show (w.heap.push _)[b]? = _
    rw [push_get, if_neg (by have := hlt b hb; omega)]

/-- nothing is appended -/
theorem SemR.append0 {P : Program} {sT xT ty e e' : TypeId} {i : TypeInfo} (hu : P.underlying sT = some (.slice e)) (hx : P.underlying xT = some (.slice e')) (hi : P.info? e = some i) {h : Heap} {a x : Option Addr} {n c xc : Nat} (hc : n ≤ c) {bs : List Nat} {K : Value → Heap → Prop} (H : K (.slice a n c) h) :
    SemR P (Builtin.append_ #[sT, xT] ty ⟨[.slice a n c, .slice x 0 xc]⟩) bs h K := by
  refine SemR.pure (fun w hw => ?_) H
  have hsize : (sizeOf e).run P w = .ok i.size w := by simp [sizeOf, typeInfo_run P e w hi]
  cases a <;> cases x <;> simp [Builtin.append_, underlying_run P sT w hu, underlying_run P xT w hx, hsize, Builtin.lenOf, hc, Builtin.firstCells, loadCells, loadCellsFrom, storeCells]
end Go.Eng
/-
  Layer 1: texts as words.
-/
set_option linter.all false
set_option maxRecDepth 100000
namespace Go.Proofs.YtkjkdnphikendaaGreatDoor
open Go Go.Eng

/-- a word's byte -/
def byteW (w : UInt64) (i : Nat) : UInt8 := UInt8.ofNat (w.toNat / 2 ^ (8 * (i % 8)))
/-- the first bytes of words -/
def untextL (ws : List UInt64) (n : Nat) : List UInt8 := (List.range n).map fun i => byteW (ws[i / 8]?.getD 0) i

theorem wrap_u8 (n : Int) : IntKind.u8.wrap n = n % 256 := by simp [IntKind.wrap, IntKind.bits, IntKind.signed]
theorem wrap_u64' (n : Int) : IntKind.u64.wrap n = n % 18446744073709551616 := by simp [IntKind.wrap, IntKind.bits, IntKind.signed]

theorem shift_amt (i : Nat) (hi : i ≤ 1000000) : IntKind.i64.wrap (8 * ((i : Int).tmod 8)) = ((8 * (i % 8) : Nat) : Int) := by
  have : (i : Int).tmod 8 = ((i % 8 : Nat) : Int) := by rw [Int.tmod_eq_emod_of_nonneg (by omega)]; omega
  rw [this, wrapN (n := 8 * (i % 8)) (by omega) (by omega)]
theorem quo_amt (i : Nat) (hi : i ≤ 1000000) : IntKind.i64.wrap ((i : Int).tdiv 8) = ((i / 8 : Nat) : Int) := by
  have : (i : Int).tdiv 8 = ((i / 8 : Nat) : Int) := by rw [Int.tdiv_eq_ediv_of_nonneg (by omega)]; omega
  rw [this, wrapN (n := i / 8) (by omega) (by omega)]

theorem byte_val (w : UInt64) (i : Nat) : Value.int .u8 (IntKind.u8.wrap ((w.toNat : Int).fdiv (2 ^ (min ((8 * (i % 8) : Nat) : Int).toNat 64)))) = .int .u8 ((byteW w i).toNat : Int) := by
  congr 1
  rw [wrap_u8]
  have h1 : min ((8 * (i % 8) : Nat) : Int).toNat 64 = 8 * (i % 8) := by omega
  rw [h1, Int.fdiv_eq_ediv_of_nonneg _ (by exact Int.le_of_lt (Int.pow_pos (by decide)))]
  unfold byteW
  rw [UInt8.toNat_ofNat']
  have : (2 : Int) ^ (8 * (i % 8)) = ((2 ^ (8 * (i % 8)) : Nat) : Int) := by simp
  rw [this]
  norm_cast

theorem untext_spec {h : Heap} {a : Option Addr} {m c : Nat} {ws : List UInt64} (S : Sl h a m c ws) (n : Nat) (hn : n ≤ 8 * m) (hm : m ≤ 1000) : CallH Tryz.prog 143 [.slice a m c, .int .i64 (n : Int)] h (fun v h' => Keeps [] h h' ∧ v = .tuple #[.string ⟨(untextL ws n).toArray⟩, .int .i64 0]) := by
  refine call_of hmix Tryz.func143 rfl ok143 (by simp [Tryz.f143]) ?_
  conv => whnf
  have hl := S.hlen
  have e8 : IntKind.i64.wrap (8 * (m : Int)) = ((8 * m : Nat) : Int) := wrapN (by omega) (by omega)
  refine IfR.f (by simp [bif_or, e8]; omega) ?_
  conv => whnf
  refine SemR.make (n := n) rfl rfl rfl rfl rfl (by show 1 * n ≤ _; omega) (by omega) fun b1 h1 e1 s1 o1 k1 => ?_
  conv => whnf
  refine LoopR.on [0, 6, 20, 21] [] (fun i : Nat => [(0, .v (.slice a m c)), (6, .v (.slice (some ⟨b1, 0, none⟩) n n)), (20, .v (.int .i64 (n : Int))), (21, .v (.int .i64 (i : Int)))]) (fun _ => [])
    (fun i h' => i ≤ n ∧ Keeps [] h h' ∧ h1.size ≤ h'.size ∧ h'[b1]? = some (.cells ⟨bytesL (untextL ws i) ++ List.replicate (n - i) (.int .u8 0)⟩ 5 (0, 0))) (fun i => n - i) 0 ?_ ?_
  · conv => whnf
    exact ⟨0, rfl, rfl, rfl, Nat.zero_le _, k1, Nat.le_refl _, o1⟩
  · rintro i h2 ⟨hi, k2, z2, o2⟩
    conv => whnf
    refine IfR.i (fun hc => ?_) (fun hc => ?_)
    · have hi1 : i < n := by simp at hc; omega
      conv => whnf
      refine Need.i (by decide) ?_
      have hi8 : i / 8 < ws.length := by omega
      obtain ⟨b, off, hb, _, hcell⟩ := (S.keep k2).at1 (i / 8) hi8
      conv => whnf
      refine IdxS.i (i / 8) (quo_amt i (by omega)) (by omega) hb ?_
      conv => whnf
      refine LoadR.i hcell ?_
      conv => whnf
      refine Need.i (by decide) ?_
      conv => whnf
      refine Need.i (by rw [shift_amt i (by omega)]; omega) ?_
      conv => whnf
      refine IdxS.i i rfl hi1 rfl ?_
      have er : List.replicate (n - i) (Value.int .u8 0) = .int .u8 0 :: List.replicate (n - (i + 1)) (.int .u8 0) := by
        rw [show n - i = (n - (i + 1)) + 1 by omega, List.replicate_succ]
      rw [er] at o2
      have hlen : (bytesL (untextL ws i)).length = i := by simp [bytesL_len, untextL]
      conv => whnf
      refine StoreR.i o2 ?_ (by simp [blocksOf]) fun h4 s4 o4 k4 => ?_
      · simp only [List.length_append, List.length_cons, hlen, List.length_replicate]
        show 0 + i * 1 + 1 ≤ _
        omega
      conv => whnf
      refine ⟨n - (i + 1), by omega, ?_⟩
      conv => whnf
      refine ⟨i + 1, rfl, by rw [wrapN (n := i + 1) (by simp) (by omega)], rfl, by omega, k2.new1 k4 (by omega), by omega, ?_⟩
      rw [shift_amt i (by omega)] at o4
      have e4 : spliceL (0 + i * 1) [Value.int .u8 ((byteW ws[i / 8] i).toNat : Int)] (bytesL (untextL ws i) ++ .int .u8 0 :: List.replicate (n - (i + 1)) (.int .u8 0)) = bytesL (untextL ws (i + 1)) ++ List.replicate (n - (i + 1)) (.int .u8 0) := by
        have := splice_at (A := bytesL (untextL ws i)) (x := .int .u8 0) (v := Value.int .u8 ((byteW ws[i / 8] i).toNat : Int)) (B := List.replicate (n - (i + 1)) (.int .u8 0))
        rw [hlen] at this
        rw [show 0 + i * 1 = i by omega, this]
        simp [untextL, List.range_succ, bytesL, hi8]
      rw [← e4, ← byte_val]; exact o4
    · have hi1 : i = n := by simp at hc; omega
      subst hi1
      conv => whnf
      refine SemR.textOf (l := untextL ws i) rfl rfl rfl (by simp [untextL]) (fun j hj => ?_) ?_
      · simp only [Heap.cell?, o2]
        simp [bytesL, hj, List.getElem?_append]
      conv => whnf
      exact ⟨k2, rfl⟩

/-- bytes as a number, the first one least -/
def packN : List UInt8 → Nat
  | [] => 0
  | b :: r => b.toNat + 256 * packN r
theorem packN_lt : ∀ l : List UInt8, packN l < 256 ^ l.length
  | [] => by simp [packN]
  | b :: r => by
    have := packN_lt r
    have hb := b.toNat_lt
    simp only [packN, List.length_cons, Nat.pow_succ]
    omega
theorem packN_snoc : ∀ (l : List UInt8) (c : UInt8), packN (l ++ [c]) = packN l + 256 ^ l.length * c.toNat
  | [], c => by simp [packN]
  | b :: r, c => by
    have := packN_snoc r c
    simp only [List.cons_append, packN, this, List.length_cons, Nat.pow_succ]
    rw [Nat.mul_add, Nat.mul_comm (256 ^ r.length) 256, Nat.mul_assoc]; omega

/-- a text's word -/
def wordT (l : List UInt8) (j : Nat) : UInt64 := UInt64.ofNat (packN ((l.drop (8 * j)).take 8))
def textL (l : List UInt8) (n : Nat) : List UInt64 := (List.range n).map fun j => wordT l j

theorem pack8_lt (l : List UInt8) (j : Nat) : packN ((l.drop (8 * j)).take 8) < 18446744073709551616 := by
  have h1 := packN_lt ((l.drop (8 * j)).take 8)
  have h2 : ((l.drop (8 * j)).take 8).length ≤ 8 := by simp; omega
  have h3 : 256 ^ ((l.drop (8 * j)).take 8).length ≤ 256 ^ 8 := Nat.pow_le_pow_right (by decide) h2
  have h4 : 256 ^ 8 = 18446744073709551616 := by decide
  omega
theorem wordT_toNat (l : List UInt8) (j : Nat) : (wordT l j).toNat = packN ((l.drop (8 * j)).take 8) := by
  unfold wordT
  rw [UInt64.toNat_ofNat']
  exact Nat.mod_eq_of_lt (pack8_lt l j)

theorem drop_take_other (l : List UInt8) (i j : Nat) (hi : i < l.length) (hj : j ≠ i / 8) : ((l.take (i + 1)).drop (8 * j)).take 8 = ((l.take i).drop (8 * j)).take 8 := by
  apply List.ext_getElem?
  intro k
  simp only [List.getElem?_take, List.getElem?_drop]
  by_cases h1 : k < 8
  · rw [if_pos h1, if_pos h1]
    by_cases h2 : 8 * j + k < i
    · rw [if_pos (by omega), if_pos h2]
    · by_cases h3 : 8 * j + k < i + 1
      · have : 8 * j + k = i := by omega
        omega
      · rw [if_neg h3, if_neg h2]
  · rw [if_neg h1, if_neg h1]
theorem drop_take_here (l : List UInt8) (i : Nat) (hi : i < l.length) : ((l.take (i + 1)).drop (8 * (i / 8))).take 8 = ((l.take i).drop (8 * (i / 8))).take 8 ++ [l[i]] := by
  rw [List.take_succ_eq_append_getElem hi, List.drop_append, List.take_append]
  have h1 : (l.take i).length = i := by simp; omega
  have h2 : 8 * (i / 8) - (l.take i).length = 0 := by rw [h1]; omega
  rw [h2, List.drop_zero]
  congr 1
  have h3 : (List.drop (8 * (i / 8)) (l.take i)).length = i % 8 := by rw [List.length_drop, h1]; omega
  rw [h3]
  have : 8 - i % 8 = (7 - i % 8) + 1 := by omega
  rw [this]; simp

theorem or_val (l : List UInt8) (i : Nat) (hi : i < l.length) :
    Value.int .u64 (IntKind.u64.wrap ((BitVec.ofInt IntKind.u64.bits ((wordT (l.take i) (i / 8)).toNat : Int) ||| BitVec.ofInt IntKind.u64.bits (IntKind.u64.wrap (IntKind.u64.wrap (l[i].toNat : Int) * 2 ^ (min ((8 * (i % 8) : Nat) : Int).toNat 64)))).toNat : Int)) = wv (wordT (l.take (i + 1)) (i / 8)) := by
  have h1 : min ((8 * (i % 8) : Nat) : Int).toNat 64 = 8 * (i % 8) := by omega
  rw [h1]
  unfold wv
  congr 1
  rw [wordT_toNat, wordT_toNat, drop_take_here l i hi, packN_snoc]
  generalize hA : ((l.take i).drop (8 * (i / 8))).take 8 = A
  have hlen : A.length = i % 8 := by subst hA; simp; omega
  have hA1 := packN_lt A
  rw [hlen] at hA1 ⊢
  have hp : (256 : Nat) ^ (i % 8) = 2 ^ (8 * (i % 8)) := by rw [Nat.pow_mul]
  have hc := l[i].toNat_lt
  have hk : i % 8 < 8 := by omega
  have hb : l[i].toNat * 2 ^ (8 * (i % 8)) < 18446744073709551616 := by
    have h5 : 2 ^ (8 * (i % 8)) ≤ 2 ^ 56 := Nat.pow_le_pow_right (by decide) (by omega)
    have h6 : l[i].toNat * 2 ^ (8 * (i % 8)) ≤ 255 * 2 ^ 56 := Nat.mul_le_mul (by omega) h5
    have h7 : 255 * 2 ^ 56 < 18446744073709551616 := by decide
    omega
  have hA2 : packN A < 18446744073709551616 := by
    have h5 : 2 ^ (8 * (i % 8)) ≤ 2 ^ 56 := Nat.pow_le_pow_right (by decide) (by omega)
    have h7 : 2 ^ 56 < 18446744073709551616 := by decide
    omega
  have w1 : IntKind.u64.wrap (l[i].toNat : Int) = (l[i].toNat : Int) := by rw [wrap_u64']; omega
  have w2 : IntKind.u64.wrap ((l[i].toNat : Int) * 2 ^ (8 * (i % 8))) = ((l[i].toNat * 2 ^ (8 * (i % 8)) : Nat) : Int) := by
    rw [wrap_u64']
    have : (l[i].toNat : Int) * 2 ^ (8 * (i % 8)) = ((l[i].toNat * 2 ^ (8 * (i % 8)) : Nat) : Int) := by simp
    rw [this]
    omega
  rw [w1, w2]
  have hbits : IntKind.u64.bits = 64 := rfl
  rw [hbits, BitVec.toNat_or]
  have t1 : (BitVec.ofInt 64 ((packN A : Nat) : Int)).toNat = packN A := by
    rw [BitVec.toNat_ofInt]; omega
  have t2 : (BitVec.ofInt 64 ((l[i].toNat * 2 ^ (8 * (i % 8)) : Nat) : Int)).toNat = l[i].toNat * 2 ^ (8 * (i % 8)) := by
    rw [BitVec.toNat_ofInt]; omega
  rw [t1, t2]
  have hor : packN A ||| l[i].toNat * 2 ^ (8 * (i % 8)) = packN A + 256 ^ (i % 8) * l[i].toNat := by
    rw [hp, Nat.or_comm, Nat.mul_comm, ← Nat.two_pow_add_eq_or_of_lt (by rw [← hp]; exact hA1)]
    omega
  rw [hor, wrap_u64']
  have hs : packN A + 256 ^ (i % 8) * l[i].toNat < 18446744073709551616 := by
    have := packN_lt (A ++ [l[i]])
    rw [packN_snoc, hlen, List.length_append, hlen] at this
    have h8 : 256 ^ (i % 8 + [l[i]].length) ≤ 256 ^ 8 := Nat.pow_le_pow_right (by decide) (by simp; omega)
    have h9 : 256 ^ 8 = 18446744073709551616 := by decide
    omega
  omega

theorem text_spec (s : ByteArray) (n : Nat) (h : Heap) (hn : n ≤ 64) (hs : s.size ≤ 8 * n) : CallH Tryz.prog 128 [.string s, .int .i64 (n : Int)] h (fun v h' => Keeps [] h h' ∧ ∃ b, v = .tuple #[.slice (some ⟨b, 0, none⟩) n n, .int .i64 0] ∧ h.size ≤ b ∧ b < h'.size ∧ h'[b]? = some (.cells ⟨(textL s.data.toList n).map wv⟩ 56 (0, 0))) := by
  refine call_of hmix Tryz.func128 rfl ok128 (by simp [Tryz.f128]) ?_
  conv => whnf
  have e8 : IntKind.i64.wrap (8 * (n : Int)) = ((8 * n : Nat) : Int) := wrapN (by omega) (by omega)
  have hsl : s.data.toList.length = s.size := by rw [Array.length_toList]; rfl
  refine IfR.f (by simp [bif_or]; omega) ?_
  conv => whnf
  refine IfR.f (by simp [e8]; omega) ?_
  conv => whnf
  refine SemR.make (n := n) rfl rfl rfl rfl rfl (by show 8 * n ≤ _; omega) (by omega) fun b1 h1 e1 s1 o1 k1 => ?_
  conv => whnf
  refine SemR.bytesOf rfl rfl rfl fun b2 c2 h2 r2 fz2 e2 s2 hc2 o2 k2 => ?_
  conv => whnf
  refine LoopR.on [6, 25, 26, 27] [] (fun i : Nat => [(6, .v (.slice (some ⟨b1, 0, none⟩) n n)), (25, .v (.slice (some ⟨b2, 0, none⟩) s.size c2)), (26, .v (.int .i64 (s.size : Int))), (27, .v (.int .i64 (i : Int)))]) (fun _ => [])
    (fun i h' => i ≤ s.size ∧ Keeps [] h h' ∧ h2.size ≤ h'.size ∧ h'[b1]? = some (.cells ⟨(textL (s.data.toList.take i) n).map wv⟩ 56 (0, 0)) ∧ h'[b2]? = some (.cells ⟨bytesV s ++ r2⟩ 5 fz2)) (fun i => s.size - i) 0 ?_ ?_
  · conv => whnf
    refine ⟨0, rfl, rfl, rfl, Nat.zero_le _, k1.trans k2, Nat.le_refl _, ?_, o2⟩
    rw [k2.obj o1 (by simp)]
    congr 3
    simp [textL, wordT, packN, List.map_const']
    exact .inr rfl
  · rintro i h3 ⟨hi, k3, z3, o3, o4⟩
    conv => whnf
    refine IfR.i (fun hc => ?_) (fun hc => ?_)
    · have hi1 : i < s.size := by simp at hc; omega
      have hi2 : i < s.data.toList.length := by omega
      conv => whnf
      refine IdxS.i i rfl hi1 rfl ?_
      conv => whnf
      refine LoadR.o (v := .int .u8 (s.data.toList[i].toNat : Int)) o4 ?_ ?_
      · rw [nth_eq]
        show (bytesV s ++ r2)[0 + i * 1]? = _
        rw [show 0 + i * 1 = i by omega, List.getElem?_append_left (by rw [bytesV_len]; exact hi1)]
        simp [bytesV]
        exact ⟨_, Array.getElem?_eq_getElem (by simpa using hi2), rfl⟩
      conv => whnf
      refine Need.i (by decide) ?_
      have hi8 : i / 8 < n := by omega
      conv => whnf
      refine IdxS.i (i / 8) (quo_amt i (by omega)) hi8 rfl ?_
      conv => whnf
      refine LoadR.o (v := wv (wordT (s.data.toList.take i) (i / 8))) o3 ?_ ?_
      · rw [nth_eq]
        show ((textL (s.data.toList.take i) n).map wv)[0 + i / 8 * 1]? = _
        rw [show 0 + i / 8 * 1 = i / 8 by omega]
        simp [textL, hi8]
      conv => whnf
      refine Need.i (by decide) ?_
      conv => whnf
      refine Need.i (by rw [shift_amt i (by omega)]; omega) ?_
      conv => whnf
      refine IdxS.i (i / 8) (quo_amt i (by omega)) hi8 rfl ?_
      conv => whnf
      refine StoreR.i o3 ?_ (by simp [blocksOf]) fun h5 s5 o5 k5 => ?_
      · show 0 + i / 8 * 1 + 1 ≤ _
        simp [textL]; omega
      conv => whnf
      refine ⟨s.size - (i + 1), by omega, ?_⟩
      conv => whnf
      refine ⟨i + 1, rfl, by rw [wrapN (n := i + 1) (by simp) (by omega)], rfl, by omega, k3.new1 k5 (by omega), by omega, ?_, k5.obj o4 (by simp; omega)⟩
      rw [shift_amt i (by omega)] at o5
      have hv := or_val s.data.toList i hi2
      have e5 : spliceL (0 + i / 8 * 1) [wv (wordT (s.data.toList.take (i + 1)) (i / 8))] ((textL (s.data.toList.take i) n).map wv) = (textL (s.data.toList.take (i + 1)) n).map wv := by
        rw [show 0 + i / 8 * 1 = i / 8 by omega]
        have hsp : ∀ (k : Nat) (L : List Value) (v : Value), k < L.length → spliceL k [v] L = L.set k v := by
          intro k
          induction k with
          | zero => intro L v hL; cases L with
            | nil => simp at hL
            | cons a L => cases L <;> rfl
          | succ k ih => intro L v hL; cases L with
            | nil => simp at hL
            | cons a L => simp only [spliceL, List.set_cons_succ]; rw [ih L v (by simpa using hL)]
        rw [hsp _ _ _ (by simp [textL]; exact hi8)]
        apply List.ext_getElem
        · simp [textL]
        · intro j j1 j2
          have hj : j < n := by simpa [textL] using j2
          rw [List.getElem_set]
          split
          · rename_i e; subst e
            simp [textL]
          · rename_i e
            simp only [textL, List.getElem_map, List.getElem_range]
            congr 1
            unfold wordT
            rw [drop_take_other _ i j hi2 (fun x => e x.symm)]
      rw [← e5, ← hv]; exact o5
    · have hi1 : i = s.size := by simp at hc; omega
      conv => whnf
      rw [hi1, ← hsl, List.take_length] at o3
      exact ⟨k3, b1, rfl, by omega, by omega, o3⟩
end Go.Proofs.YtkjkdnphikendaaGreatDoor
/-
  Builders of texts; functions of package slices.
-/
set_option linter.all false
set_option maxRecDepth 100000
namespace Go.Proofs.YtkjkdnphikendaaGreatDoor
open Go Go.Eng

/-- a builder, and what is written -/
structure Bld (h : Heap) (b : Nat) (p : Option Addr) (a : Option Addr) (n c : Nat) (s : List UInt8) : Prop where
  obj : h[b]? = some (.cells ⟨[.pointer p, .slice a n c]⟩ 133 (0, 0))
  buf : Buf h 5 a n c s
  ap : b ∉ blkA a
  hp : p = none ∨ p = some ⟨b, 0, none⟩

theorem Bld.on {h h' : Heap} {b : Nat} {p a : Option Addr} {n c : Nat} {s : List UInt8} (B : Bld h b p a n c s) (k : Keeps [] h h') : Bld h' b p a n c s := ⟨k.obj B.obj (by simp), B.buf.keep k (by simp), B.ap, B.hp⟩
theorem Bld.keep {M : List Nat} {h h' : Heap} {b : Nat} {p a : Option Addr} {n c : Nat} {s : List UInt8} (B : Bld h b p a n c s) (k : Keeps M h h') (h1 : b ∉ M) (h2 : ∀ x ∈ blkA a, x ∉ M) : Bld h' b p a n c s := ⟨k.obj B.obj h1, B.buf.keep k h2, B.ap, B.hp⟩

theorem copyCheck_spec {h : Heap} {b : Nat} {p a : Option Addr} {n c : Nat} {s : List UInt8} (B : Bld h b p a n c s) : CallH Tryz.prog 146 [.pointer (some ⟨b, 0, none⟩)] h (fun v h' => Keeps [b] h h' ∧ Bld h' b (some ⟨b, 0, none⟩) a n c s) := by
  have hap := B.ap
  rcases B with ⟨o, hb, hap, rfl | rfl⟩
  · refine call_of hmix Tryz.func146 rfl ok146 (by simp [Tryz.f146]) ?_
    conv => whnf
    refine LoadR.o o rfl ?_
    conv => whnf
    refine IfR.t rfl ?_
    conv => whnf
    refine SemR.pure (v := .pointer (some ⟨b, 0, none⟩)) (fun w hw => Lib.run_to_unsafe (P := Tryz.prog) w ⟨b, 0, none⟩ rfl rfl rfl (by decide) (by unfold World.shape?; rw [hw, o]) (by show 0 < 2; decide)) ?_
    conv => whnf
    refine SemR.ext rfl (by kernel_rfl) (by kernel_rfl) (by kernel_rfl) (e := Extern.AbiNoEscape.same) (by kernel_rfl) (SemR.pure (fun w _ => Lib.run_noEscape w _) ?_)
    conv => whnf
    refine SemR.pure (v := .pointer (some ⟨b, 0, none⟩)) (fun w hw => Lib.run_from_unsafe (P := Tryz.prog) w ⟨b, 0, none⟩ rfl rfl rfl (by unfold World.shape?; rw [hw, o]) (by kernel_rfl)) ?_
    conv => whnf
    refine StoreR.i o (Nat.le_of_ble_eq_true rfl) (by simp [blocksOf]) fun h2 s2 o2 k2 => ?_
    conv => whnf
    exact ⟨k2, o2, hb.keep k2 (fun x hx hm => by simp at hm; exact hap (hm ▸ hx)), hap, .inr rfl⟩
  · refine call_of hmix Tryz.func146 rfl ok146 (by simp [Tryz.f146]) ?_
    conv => whnf
    refine LoadR.o o rfl ?_
    conv => whnf
    refine IfR.f rfl ?_
    conv => whnf
    refine LoadR.o o rfl ?_
    conv => whnf
    refine PureR.i (v := .bool false) (fun w => ?_) ?_
    · simp only [Sem.run_bind]
      rw [eqGuard_run _ _ _ _ _ _ _ _ (by simp) (by simp)]
      simp only [Result.andThen_ok]
      exact Lib.run_neq_ptr_same (P := Tryz.prog) w ⟨b, 0, none⟩ rfl rfl
    conv => whnf
    refine IfR.f rfl ?_
    conv => whnf
    exact ⟨Keeps.refl _ _, o, hb, hap, .inr rfl⟩

theorem writeString_spec {h : Heap} {b : Nat} {p a : Option Addr} {n c : Nat} {s : List UInt8} (B : Bld h b p a n c s) (x : ByteArray) (hx : n + x.size ≤ 70368744177664) : CallH Tryz.prog 81 [.pointer (some ⟨b, 0, none⟩), .string x] h
    (fun v h' => Keeps (b :: blkA a) h h' ∧ v = .tuple #[.int .i64 x.size, .nilIface] ∧ ∃ a' c', Bld h' b (some ⟨b, 0, none⟩) a' (n + x.size) c' (s ++ x.data.toList) ∧ (∀ y ∈ blkA a', y ∈ blkA a ∨ h.size ≤ y) ∧ (n + x.size ≤ c → c' = c ∧ a' = a)) := by
  refine call_of hmix Tryz.func81 rfl ok81 (by simp [Tryz.f81]) ?_
  conv => whnf
  refine CallR.m (copyCheck_spec B) (by simp [blocksOf]) fun v h1 k1 B1 => ?_
  have hb1 : b < h1.size := obj_lt B1.obj
  conv => whnf
  refine LoadR.o B1.obj rfl ?_
  conv => whnf
  refine SemR.appendStr rfl rfl rfl rfl rfl rfl rfl B1.buf hx (by simp [blocksOf]) fun a2 c2 h2 F2 k2 n2 m2 q2 => ?_
  have o2 := k2.obj B1.obj B1.ap
  conv => whnf
  refine StoreR.i o2 (Nat.le_of_ble_eq_true rfl) (by simp [blocksOf]) fun h3 s3 o3 k3 => ?_
  conv => whnf
  have z1 := k1.size
  have ap2 : b ∉ blkA a2 := fun hx => by
    rcases n2 b hx with h | h
    · exact B1.ap h
    · omega
  refine ⟨(k1.mono (by simp)).trans ((k2.mono (fun x hx => List.mem_cons_of_mem _ hx)).trans (k3.mono (by simp))), rfl, a2, c2, ⟨o3, F2.keep k3 (fun x hx hm => by simp at hm; exact ap2 (hm ▸ hx)), ap2, .inr rfl⟩, fun y hy => (n2 y hy).imp id (fun h => by omega), q2⟩

theorem blen_spec {h : Heap} {b : Nat} {p a : Option Addr} {n c : Nat} {s : List UInt8} (B : Bld h b p a n c s) : CallH Tryz.prog 198 [.pointer (some ⟨b, 0, none⟩)] h (fun v h' => Keeps [] h h' ∧ v = .int .i64 (n : Int)) := by
  refine call_of hmix Tryz.func198 rfl ok198 (by simp [Tryz.f198]) ?_
  conv => whnf
  refine LoadR.o B.obj rfl ?_
  conv => whnf
  exact ⟨Keeps.refl _ _, rfl⟩

theorem bstring_spec {h : Heap} {b : Nat} {p a : Option Addr} {n c : Nat} {s : List UInt8} (B : Bld h b p a n c s) (hs : s.length ≤ 70368744177664) : CallH Tryz.prog 82 [.pointer (some ⟨b, 0, none⟩)] h (fun v h' => Keeps (blkA a) h h' ∧ v = .string ⟨s.toArray⟩ ∧ Bld h' b p a n c s) := by
  have hbuf := B.buf
  rcases hbuf with ⟨rfl, rfl, rfl, rfl⟩ | ⟨g, cs, fz, rfl, h2, h3, h4, h5, h6, h7, h8⟩
  · refine call_of hmix Tryz.func82 rfl ok82 (by simp [Tryz.f82]) ?_
    conv => whnf
    refine LoadR.o B.obj rfl ?_
    conv => whnf
    refine BothR.i ?_ ?_
    · conv => whnf
      refine SemR.pure (fun w _ => Lib.run_unsafeSliceData_nil (P := Tryz.prog) w _ _ _ _) ?_
      conv => whnf
      refine LoadR.o B.obj rfl ?_
      conv => whnf
      refine SemR.pure (fun w _ => Lib.run_unsafeString_none (P := Tryz.prog) w _ _ _ none) ?_
      conv => whnf
      exact ⟨Keeps.refl _ _, rfl, B⟩
    · conv => whnf
      refine LoadR.o B.obj rfl ?_
      conv => whnf
      refine BothR.i ?_ ?_
      all_goals
        conv => whnf
        refine SemR.pure (fun w _ => Lib.run_unsafeSliceData_nil (P := Tryz.prog) w _ _ _ _) ?_
        conv => whnf
        refine SemR.pure (fun w _ => Lib.run_unsafeString_none (P := Tryz.prog) w _ _ _ none) ?_
        conv => whnf
        exact ⟨Keeps.refl _ _, rfl, B⟩
  · have fin : ∀ h', Buf h' 5 (some ⟨g, 0, none⟩) n c s → Keeps [g] h h' → Keeps (blkA (some ⟨g, 0, none⟩)) h h' ∧ Value.string ⟨s.toArray⟩ = .string ⟨s.toArray⟩ ∧ Bld h' b p (some ⟨g, 0, none⟩) n c s := fun h' F k => by
      exact ⟨k, rfl, k.obj B.obj (by simpa [blkA] using B.ap), F, B.ap, B.hp⟩
    refine call_of hmix Tryz.func82 rfl ok82 (by simp [Tryz.f82]) ?_
    conv => whnf
    refine LoadR.o B.obj rfl ?_
    conv => whnf
    refine BothR.i ?_ ?_
    · conv => whnf
      refine SemR.pure (fun w _ => Lib.run_unsafeSliceData_row (P := Tryz.prog) w _ _ _ _ _ (by omega)) ?_
      conv => whnf
      refine LoadR.o B.obj rfl ?_
      conv => whnf
      refine SemR.unsafeStr rfl rfl B.buf hs (by simp [blocksOf]) fun h' F s' k => ?_
      conv => whnf
      exact fin h' F k
    · conv => whnf
      refine LoadR.o B.obj rfl ?_
      conv => whnf
      refine BothR.i ?_ ?_
      all_goals
        conv => whnf
        refine SemR.pure (fun w _ => Lib.run_unsafeSliceData_row (P := Tryz.prog) w _ _ _ _ _ (by omega)) ?_
        conv => whnf
        refine SemR.unsafeStr rfl rfl B.buf hs (by simp [blocksOf]) fun h' F s' k => ?_
        conv => whnf
        exact fin h' F k
end Go.Proofs.YtkjkdnphikendaaGreatDoor
/-
  Functions of packages strings, slices, bits that the layers call.
-/
set_option linter.all false
set_option maxRecDepth 100000
namespace Go.Proofs.YtkjkdnphikendaaGreatDoor
open Go Go.Eng

theorem mul64_spec (y : Int) (hy : y = 16 ∨ y = 128) (h : Heap) : CallH Tryz.prog 224 [.int .u64 1, .int .u64 y] h (fun v h' => Keeps [] h h' ∧ v = .tuple #[.int .u64 0, .int .u64 y]) := by
  refine call_of hmix Tryz.func224 rfl ok224 (by simp [Tryz.f224]) ?_
  conv => whnf
  repeat (first | (refine Need.i (by decide) ?_; conv => whnf))
  refine ⟨Keeps.refl _ _, ?_⟩
  rcases hy with rfl | rfl <;> rfl

theorem mul_spec (y : Int) (hy : y = 16 ∨ y = 128) (h : Heap) : CallH Tryz.prog 191 [.int .u64 1, .int .u64 y] h (fun v h' => Keeps [] h h' ∧ v = .tuple #[.int .u64 0, .int .u64 y]) := by
  refine call_of hmix Tryz.func191 rfl ok191 (by simp [Tryz.f191]) ?_
  conv => whnf
  refine IfR.f rfl ?_
  conv => whnf
  refine CallR.i (mul64_spec y hy h) fun v h1 k1 hv => ?_
  subst hv
  conv => whnf
  exact ⟨k1, rfl⟩

theorem grow_spec {h : Heap} {b : Nat} {p : Option Addr} (B : Bld h b p none 0 0 []) (n : Nat) (hp : 0 < n) (hn : n ≤ 1000000) : CallH Tryz.prog 226 [.pointer (some ⟨b, 0, none⟩), .int .i64 (n : Int)] h
    (fun v h' => Keeps [b] h h' ∧ ∃ g c, Bld h' b p (some ⟨g, 0, none⟩) 0 c [] ∧ n ≤ c ∧ h.size ≤ g) := by
  have hb : b < h.size := obj_lt B.obj
  have rest : ∀ h2 g c (cs : List Value), g = h.size → h2[g]? = some (.cells ⟨cs⟩ 5 (0, 0)) → cs.length = c → n ≤ c → Keeps [] h h2 → ∀ h3, h3.size = h2.size → h3[b]? = some (.cells ⟨[.pointer p, .slice (some ⟨g, 0, none⟩) 0 c]⟩ 133 (0, 0)) → Keeps [b] h2 h3 →
      Keeps [b] h h3 ∧ ∃ g c, Bld h3 b p (some ⟨g, 0, none⟩) 0 c [] ∧ n ≤ c ∧ h.size ≤ g := by
    intro h2 g c cs hg og hc hn k2 h3 s3 o3 k3
    refine ⟨(k2.mono (by simp)).trans k3, g, c, ⟨o3, .inr ⟨g, cs, (0, 0), rfl, k3.obj og (by simp; omega), rfl, hc, rfl, Nat.zero_le _, Nat.le_refl _, by omega⟩, by simp [blkA]; omega, B.hp⟩, hn, by omega⟩
  have ew : IntKind.i64.wrap (IntKind.i64.wrap (2 * ((0 : Nat) : Int)) + (n : Int)) = (n : Int) := by
    rw [wrapN (x := 2 * ((0 : Nat) : Int)) (n := 0) (by simp) (by omega), wrapN (n := n) (by simp) (by omega)]
  refine call_of hmix Tryz.func226 rfl ok226 (by simp [Tryz.f226]) ?_
  conv => whnf
  refine LoadR.o B.obj rfl ?_
  conv => whnf
  refine BothR.i ?_ ?_
  · conv => whnf
    rw [ew]
    refine SemR.ext rfl (by kernel_rfl) (by kernel_rfl) (by kernel_rfl) (e := Extern.BytealgMakeNoZero.makeNoZero #[3] #[131]) (by kernel_rfl) (SemR.noZero rfl (by omega) hp fun g c cs h2 eg s2 og hc hcn k2 => ?_)
    conv => whnf
    refine LoadR.o (k2.obj B.obj (by simp)) rfl ?_
    conv => whnf
    refine SliceR.i 0 0 rfl rfl (Nat.le_refl _) (Nat.zero_le _) ?_
    conv => whnf
    refine LoadR.o (k2.obj B.obj (by simp)) rfl ?_
    conv => whnf
    refine SemR.copy0 rfl rfl (by simp) ?_
    conv => whnf
    refine StoreR.i (k2.obj B.obj (by simp)) (Nat.le_of_ble_eq_true rfl) (by simp [blocksOf]) fun h3 s3 o3 k3 => ?_
    conv => whnf
    refine rest h2 g c cs eg og hc hcn k2 h3 s3 ?_ k3
    rw [o3, slA_zero]; rfl
  · conv => whnf
    refine LoadR.o B.obj rfl ?_
    conv => whnf
    refine BothR.i ?_ ?_
    all_goals
      conv => whnf
      rw [ew]
      refine SemR.ext rfl (by kernel_rfl) (by kernel_rfl) (by kernel_rfl) (e := Extern.BytealgMakeNoZero.makeNoZero #[3] #[131]) (by kernel_rfl) (SemR.noZero rfl (by omega) hp fun g c cs h2 eg s2 og hc hcn k2 => ?_)
      conv => whnf
      refine SliceR.i 0 0 rfl rfl (Nat.le_refl _) (Nat.zero_le _) ?_
      conv => whnf
      refine LoadR.o (k2.obj B.obj (by simp)) rfl ?_
      conv => whnf
      refine SemR.copy0 rfl rfl (by simp) ?_
      conv => whnf
      refine StoreR.i (k2.obj B.obj (by simp)) (Nat.le_of_ble_eq_true rfl) (by simp [blocksOf]) fun h3 s3 o3 k3 => ?_
      conv => whnf
      refine rest h2 g c cs eg og hc hcn k2 h3 s3 ?_ k3
      rw [o3, slA_zero]; rfl

theorem Grow_spec {h : Heap} {b : Nat} {p : Option Addr} (B : Bld h b p none 0 0 []) (n : Nat) (hp : 0 < n) (hn : n ≤ 1000000) : CallH Tryz.prog 197 [.pointer (some ⟨b, 0, none⟩), .int .i64 (n : Int)] h
    (fun v h' => Keeps [b] h h' ∧ ∃ g c, Bld h' b (some ⟨b, 0, none⟩) (some ⟨g, 0, none⟩) 0 c [] ∧ n ≤ c ∧ h.size ≤ g) := by
  refine call_of hmix Tryz.func197 rfl ok197 (by simp [Tryz.f197]) ?_
  conv => whnf
  refine CallR.m (copyCheck_spec B) (by simp [blocksOf]) fun v h1 k1 B1 => ?_
  conv => whnf
  refine MeetR.pass ?_
  conv => whnf
  refine IfR.f (by simp) ?_
  conv => whnf
  refine LoadR.o B1.obj rfl ?_
  conv => whnf
  refine LoadR.o B1.obj rfl ?_
  conv => whnf
  refine IfR.t ?_ ?_
  · rw [wrapN (n := 0) (by simp) (by omega)]; simp; omega
  conv => whnf
  refine CallR.m (grow_spec B1 n hp hn) (by simp [blocksOf]) fun v h2 k2 hv => ?_
  obtain ⟨g, c, q1, q2, q3⟩ := hv
  conv => whnf
  exact ⟨k1.trans k2, g, c, q1, q2, by have := k1.size; omega⟩

def zeros (n : Nat) : List UInt8 := List.replicate n 0

theorem repeat_spec (h : Heap) : CallH Tryz.prog 142 [.string ⟨#[0]⟩, .int .i64 128] h (fun v h' => Keeps [] h h' ∧ v = .string ⟨(zeros 128).toArray⟩) := by
  refine call_of hmix Tryz.func142 rfl ok142 (by simp [Tryz.f142]) ?_
  conv => whnf
  refine IfR.f rfl ?_
  conv => whnf
  refine IfR.f rfl ?_
  conv => whnf
  refine MeetR.pass ?_
  conv => whnf
  refine IfR.f rfl ?_
  conv => whnf
  refine CallR.i (mul_spec 128 (.inr rfl) h) fun v h1 k1 hv => ?_
  subst hv
  conv => whnf
  refine MeetR.pass ?_
  conv => whnf
  refine IfR.f rfl ?_
  conv => whnf
  refine IfR.f rfl ?_
  conv => whnf
  first | refine IdxR.i 0 rfl (by decide) ?_ | (refine MeetR.pass ?_; (conv => whnf); refine IdxR.i 0 rfl (by decide) ?_)
  conv => whnf
  first | refine IfR.f rfl ?_ | (refine MeetR.pass ?_; (conv => whnf); refine IfR.f rfl ?_)
  conv => whnf
  first | refine IfR.f rfl ?_ | (refine MeetR.pass ?_; (conv => whnf); refine IfR.f rfl ?_)
  conv => whnf
  first | refine IfR.f rfl ?_ | (refine MeetR.pass ?_; (conv => whnf); refine IfR.f rfl ?_)
  conv => whnf
  first | refine IfR.f rfl ?_ | (refine MeetR.pass ?_; (conv => whnf); refine IfR.f rfl ?_)
  conv => whnf
  first | refine IfR.f rfl ?_ | (refine MeetR.pass ?_; (conv => whnf); refine IfR.f rfl ?_)
  conv => whnf
  first | refine IfR.f rfl ?_ | (refine MeetR.pass ?_; (conv => whnf); refine IfR.f rfl ?_)
  conv => whnf
  first | refine AllocR.i fun b2 h2 e2 s2 o2 k2 => ?_ | (refine MeetR.pass ?_; (conv => whnf); refine AllocR.i fun b2 h2 e2 s2 o2 k2 => ?_)
  have B2 : Bld h2 b2 none none 0 0 [] := ⟨o2, .inl ⟨rfl, rfl, rfl, rfl⟩, by simp [blkA], .inl rfl⟩
  conv => whnf
  first | refine CallR.m (Grow_spec B2 128 (by decide) (by decide)) (by simp [blocksOf]) fun v h3 k3 hv => ?_ | (refine MeetR.pass ?_; (conv => whnf); refine CallR.m (Grow_spec B2 128 (by decide) (by decide)) (by simp [blocksOf]) fun v h3 k3 hv => ?_)
  obtain ⟨g, c, B3, hc, hg⟩ := hv
  conv => whnf
  first | refine CallR.m (writeString_spec B3 ⟨#[0]⟩ (by decide)) (by simp [blocksOf]) fun v h4 k4 hv => ?_ | (refine MeetR.pass ?_; (conv => whnf); refine CallR.m (writeString_spec B3 ⟨#[0]⟩ (by decide)) (by simp [blocksOf]) fun v h4 k4 hv => ?_)
  obtain ⟨rfl, a4, c4, B4, n4, q4⟩ := hv
  obtain ⟨rfl, rfl⟩ := q4 (by show 0 + 1 ≤ c; omega)
  have z1 := k1.size
  have z2 := k2.size
  have z3 := k3.size
  have z4 := k4.size
  have k04 : Keeps [] h h4 := ((k1.trans k2).nil_of k3 (by simp; omega)).nil_of k4 (by intro x hx; simp [blkA] at hx; omega)
  conv => whnf
  refine LoopR.on [7, 8, 9] [] (fun j : Nat => [(7, .v (.int .i64 128)), (8, .v (.int .i64 128)), (9, .v (.pointer (some ⟨b2, 0, none⟩)))]) (fun _ => [])
    (fun j h' => j ≤ 7 ∧ Keeps [] h h' ∧ Bld h' b2 (some ⟨b2, 0, none⟩) (some ⟨g, 0, none⟩) (2 ^ j) c4 (zeros (2 ^ j))) (fun j => 7 - j) 0 ?_ ?_
  · conv => whnf
    exact ⟨0, rfl, rfl, rfl, by decide, k04, B4⟩
  · rintro j h5 ⟨hj, k5, B5⟩
    have hp : 2 ^ j ≤ 128 := by
      have : 2 ^ j ≤ 2 ^ 7 := Nat.pow_le_pow_right (by decide) hj
      simpa using this
    generalize hq : 2 ^ j = q at *
    conv => whnf
    refine CallR.i (blen_spec B5) fun v h6 k6 hv => ?_
    subst hv
    have B6 := B5.on k6
    conv => whnf
    first | refine IfR.i (fun hc => ?_) (fun hc => ?_) | (refine MeetR.pass ?_; (conv => whnf); refine IfR.i (fun hc => ?_) (fun hc => ?_))
    · have hj1 : j < 7 := by
        rcases Nat.lt_or_ge j 7 with h | h
        · exact h
        · have : j = 7 := by omega
          subst this; subst hq; simp at hc
      have hp2 : 2 ^ (j + 1) ≤ 128 := by
        have : 2 ^ (j + 1) ≤ 2 ^ 7 := Nat.pow_le_pow_right (by decide) (by omega)
        simpa using this
      have hps : 2 ^ (j + 1) = q + q := by rw [Nat.pow_succ]; omega
      conv => whnf
      refine CallR.i (blen_spec B6) fun v h7 k7 hv => ?_
      subst hv
      have B7 := B6.on k7
      conv => whnf
      refine CallR.i (blen_spec B7) fun v h8 k8 hv => ?_
      subst hv
      have B8 := B7.on k8
      conv => whnf
      first | refine CallR.m (bstring_spec B8 (by simp [zeros]; omega)) (by simp [blocksOf]) fun v h9 k9 hv => ?_ | (refine MeetR.pass ?_; (conv => whnf); refine CallR.m (bstring_spec B8 (by simp [zeros]; omega)) (by simp [blocksOf]) fun v h9 k9 hv => ?_)
      obtain ⟨rfl, B9⟩ := hv
      have em : (if (128 : Int) < (if ((q : Nat) : Int) < IntKind.i64.wrap (128 - ((q : Nat) : Int)) then ((q : Nat) : Int) else IntKind.i64.wrap (128 - ((q : Nat) : Int))) then (128 : Int) else (if ((q : Nat) : Int) < IntKind.i64.wrap (128 - ((q : Nat) : Int)) then ((q : Nat) : Int) else IntKind.i64.wrap (128 - ((q : Nat) : Int)))) = ((q : Nat) : Int) := by
        rw [wrapI (x := 128 - ((q : Nat) : Int)) (by omega) (by omega)]
        split <;> split <;> omega
      conv => whnf
      refine SliceR.i 0 q rfl em (Nat.zero_le _) (by show q ≤ _; simp [zeros, ByteArray.size]) ?_
      conv => whnf
      refine CallR.m (writeString_spec B9 _ ?_) (by simp [blocksOf]) fun v h10 k10 hv => ?_
      · have : (ByteArray.extract ⟨(zeros q).toArray⟩ 0 q).size = q := by simp [ByteArray.size_extract, zeros, ByteArray.size]
        rw [this]; omega
      obtain ⟨rfl, a10, c10, B10, n10, q10⟩ := hv
      have hsz : (ByteArray.extract ⟨(zeros q).toArray⟩ 0 q).size = q := by simp [ByteArray.size_extract, zeros, ByteArray.size]
      have hdat : (ByteArray.extract ⟨(zeros q).toArray⟩ 0 q).data.toList = zeros q := by
        rw [ByteArray.data_extract]; simp [zeros]
      rw [hsz] at B10 q10
      obtain ⟨rfl, rfl⟩ := q10 (by omega)
      rw [hdat, ← hps] at B10
      have hz : zeros q ++ zeros q = zeros (2 ^ (j + 1)) := by rw [hps]; simp [zeros, List.replicate_append_replicate]
      rw [hz] at B10
      conv => whnf
      refine ⟨7 - (j + 1), by omega, ?_⟩
      conv => whnf
      refine ⟨j + 1, rfl, rfl, rfl, by omega, ?_, B10⟩
      have z := (k6.trans (k7.trans k8)).size
      exact ((k5.trans (k6.trans (k7.trans k8))).nil_of k9 (by intro x hx; simp [blkA] at hx; omega)).nil_of k10 (by intro x hx; simp [blkA] at hx; omega)
    · have hj1 : j = 7 := by
        rcases Nat.lt_or_ge j 7 with h | h
        · have : 2 ^ j < 2 ^ 7 := Nat.pow_lt_pow_right (by decide) h
          have h2 : (q : Int) < 128 := by
            have : 2 ^ j < 128 := by simpa using this
            omega
          simp at hc; omega
        · omega
      subst hj1
      have hq' : q = 128 := by rw [← hq]
      subst hq'
      conv => whnf
      refine CallR.m (bstring_spec B6 (by simp [zeros])) (by simp [blocksOf]) fun v h9 k9 hv => ?_
      obtain ⟨rfl, B9⟩ := hv
      conv => whnf
      exact ⟨(k5.trans k6).nil_of k9 (by intro x hx; simp [blkA] at hx; omega), rfl⟩
end Go.Proofs.YtkjkdnphikendaaGreatDoor
/-
  Functions of package slices that the layers call.
-/
set_option linter.all false
set_option maxRecDepth 100000
namespace Go.Proofs.YtkjkdnphikendaaGreatDoor
open Go Go.Eng

theorem allOne_ints : ∀ l : List Int, allOne (l.map fun x => Value.int .i64 x) = true
  | [] => rfl
  | x :: l => by simpa [allOne, oneV] using allOne_ints l

theorem growI_spec (n : Nat) (hn : n ≤ 1000000) (h : Heap) : CallH Tryz.prog 190 [.slice none 0 0, .int .i64 (n : Int)] h (fun v h' => Keeps [] h h' ∧ ∃ a c, v = .slice a 0 c ∧ Own h' 3 1 a 0 c [] ∧ ∀ b ∈ blkA a, h.size ≤ b) := by
  have e1 : IntKind.i64.wrap ((n : Int) - IntKind.i64.wrap (((0 : Nat) : Int) - ((0 : Nat) : Int))) = (n : Int) := by
    rw [wrapN (x := ((0 : Nat) : Int) - ((0 : Nat) : Int)) (n := 0) (by simp) (by omega), wrapN (n := n) (by simp) (by omega)]
  refine call_of hmix Tryz.func190 rfl ok190 (by simp [Tryz.f190]) ?_
  conv => whnf
  refine MeetR.pass ?_
  conv => whnf
  refine IfR.f (by simp) ?_
  conv => whnf
  refine MeetR.pass ?_
  conv => whnf
  rw [e1]
  refine IfR.i (fun hc => ?_) (fun hc => ?_)
  · have hp : 0 < n := by simp at hc; omega
    conv => whnf
    refine SliceR.i 0 0 rfl rfl (Nat.le_refl _) (Nat.zero_le _) ?_
    conv => whnf
    rw [slA_zero]
    refine SemR.appendMake (by_ := 8) rfl rfl rfl rfl rfl rfl rfl hp (by omega) (by decide) fun b c h1 e1 s1 o1 hc k1 => ?_
    conv => whnf
    refine SliceR.i 0 0 rfl rfl (Nat.le_refl _) (Nat.zero_le _) ?_
    conv => whnf
    refine ⟨k1, some ⟨b, 0, none⟩, c, ?_, .inr ⟨b, _, rfl, o1, rfl, by simp, rfl, Nat.zero_le _⟩, by simp [blkA]; omega⟩
    rw [slA_zero]; rfl
  · conv => whnf
    exact ⟨Keeps.refl _ _, none, 0, rfl, .inl ⟨rfl, rfl, rfl, rfl⟩, by simp [blkA]⟩

theorem reps_ints (h : Heap) (xs : List Int) (hx : ∀ x ∈ xs, inI64 x) : Reps h (xs.map fun x => Value.int .i64 x) xs := by
  induction xs with
  | nil => rfl
  | cons x l ih => exact ⟨[.int .i64 x], _, rfl, ⟨rfl, hx x (by simp)⟩, ih (fun y hy => hx y (by simp [hy]))⟩

/-- one behind the other -/
theorem concat_spec {h : Heap} {a : Option Addr} {n c : Nat} {xss : List (List Int)} (S : Sl h a n c xss) (hx : ∀ xs ∈ xss, ∀ x ∈ xs, inI64 x) (hb : xss.flatten.length ≤ 1000) (hn : n ≤ 1000) : CallH Tryz.prog 134 [.slice a n c] h
    (fun v h' => Keeps [] h h' ∧ ∃ a' c', v = .slice a' xss.flatten.length c' ∧ Own h' 3 1 a' xss.flatten.length c' (xss.flatten.map fun x => .int .i64 x) ∧ ∀ b ∈ blkA a', h.size ≤ b) := by
  have hl := S.hlen
  have flen : ∀ i (hi : i < xss.length), (xss.take (i + 1)).flatten = (xss.take i).flatten ++ xss[i] := by
    intro i hi
    rw [List.take_succ_eq_append_getElem hi, List.flatten_append]; simp
  have fle : ∀ i, (xss.take i).flatten.length ≤ xss.flatten.length := by
    intro i
    have : xss.flatten = (xss.take i).flatten ++ (xss.drop i).flatten := by rw [← List.flatten_append, List.take_append_drop]
    rw [this, List.length_append]; omega
  refine call_of hmix Tryz.func134 rfl ok134 (by simp [Tryz.f134]) ?_
  conv => whnf
  refine LoopR.on [0, 3, 9, 10, 11] [] (fun i : Nat => [(0, .v (.slice a n c)), (3, .v (.int .i64 ((xss.take i).flatten.length : Int))), (9, .v (.slice a n c)), (10, .v (.int .i64 (n : Int))), (11, .v (.int .i64 (i : Int)))]) (fun _ => [])
    (fun i h' => i ≤ n ∧ h' = h) (fun i => n - i) 0 ?_ ?_
  · conv => whnf
    exact ⟨0, rfl, rfl, rfl, Nat.zero_le _, rfl⟩
  · rintro i h2 ⟨hi, rfl⟩
    conv => whnf
    refine IfR.i (fun hc => ?_) (fun hc => ?_)
    · have hi1 : i < xss.length := by simp at hc; omega
      obtain ⟨b, off, hb', cs, ⟨xa, xn, xc, rfl, SX⟩, hcell⟩ := S.at_ i hi1
      conv => whnf
      first | refine IdxS.i i rfl (by omega) hb' ?_ | (refine MeetR.pass ?_; (conv => whnf); refine IdxS.i i rfl (by omega) hb' ?_)
      conv => whnf
      refine LoadR.i (hcell 0 (by simp)) ?_
      have f1 := flen i hi1
      have f2 := fle (i + 1)
      have f3 : (xss.take (i + 1)).flatten.length = (xss.take i).flatten.length + xn := by rw [f1, List.length_append, SX.hlen]
      conv => whnf
      rw [wrapN (n := (xss.take (i + 1)).flatten.length) (by rw [f3]; simp) (by omega)]
      refine IfR.f (by simp) ?_
      conv => whnf
      refine ⟨n - (i + 1), by omega, ?_⟩
      conv => whnf
      exact ⟨i + 1, rfl, by rw [wrapN (x := (i : Int) + 1) (n := i + 1) (by simp) (by omega)], rfl, by omega, rfl⟩
    · have hi1 : i = xss.length := by simp at hc; omega
      subst hi1
      conv => whnf
      rw [List.take_length]
      refine CallR.i (growI_spec xss.flatten.length (by omega) h2) fun v h3 k3 hv => ?_
      obtain ⟨a3, c3, rfl, O3, n3⟩ := hv
      conv => whnf
      refine LoopR.on [6, 25, 26, 27] [] (fun q : Nat × Option Addr × Nat => [(6, .v (.slice q.2.1 (xss.take q.1).flatten.length q.2.2)), (25, .v (.slice a n c)), (26, .v (.int .i64 (n : Int))), (27, .v (.int .i64 (q.1 : Int)))]) (fun _ => [])
        (fun q h' => q.1 ≤ n ∧ Keeps [] h2 h' ∧ Own h' 3 1 q.2.1 (xss.take q.1).flatten.length q.2.2 ((xss.take q.1).flatten.map fun x => .int .i64 x) ∧ ∀ b ∈ blkA q.2.1, h2.size ≤ b) (fun q => n - q.1) (0, a3, c3) ?_ ?_
      · conv => whnf
        exact ⟨(0, a3, c3), rfl, rfl, rfl, Nat.zero_le _, k3, O3, n3⟩
      · rintro ⟨i, ai, ci⟩ h4 ⟨hi, k4, O4, n4⟩
        simp only at hi O4 n4
        conv => whnf
        refine IfR.i (fun hc => ?_) (fun hc => ?_)
        · have hi1 : i < xss.length := by simp at hc; omega
          obtain ⟨b, off, hb', cs, ⟨xa, xn, xc, rfl, SX⟩, hcell⟩ := S.at_ i hi1
          have hc4 := hcell.keep k4
          conv => whnf
          refine IdxS.i i rfl (by omega) hb' ?_
          conv => whnf
          refine LoadR.i (hc4 0 (by simp)) ?_
          have f1 := flen i hi1
          have f2 := fle (i + 1)
          have f3 : (xss.take (i + 1)).flatten.length = (xss.take i).flatten.length + xn := by rw [f1, List.length_append, SX.hlen]
          have SX4 := SX.keep k4
          have lenX := SX.hlen
          conv => whnf
          rcases Nat.eq_zero_or_pos xn with h0 | h0
          · subst h0
            have hx0 : xss[i] = [] := List.eq_nil_of_length_eq_zero lenX.symm
            have hcap : (xss.take i).flatten.length ≤ ci := by
              rcases O4 with ⟨rfl, h1, rfl, h2⟩ | ⟨b, c, _, _, _, _, _, h6⟩
              · omega
              · exact h6
            refine SemR.append0 rfl rfl rfl hcap ?_
            conv => whnf
            refine ⟨n - (i + 1), by omega, ?_⟩
            conv => whnf
            refine ⟨(i + 1, ai, ci), rfl, ?_, rfl, by simp only; omega, k4, ?_, n4⟩
            · have e : (xss.take (i + 1)).flatten.length = (xss.take i).flatten.length := by rw [f3, Nat.add_zero]
              simp only [e, Nat.add_zero]
              rw [wrapN (x := (i : Int) + 1) (n := i + 1) (by simp) (by omega)]
            · simp only
              rw [f1, hx0, List.append_nil]; exact O4
          · obtain ⟨xb, xo, rfl⟩ := SX.nonnil h0
            refine append_own (e := 3) (sz := 1) (by_ := 8) (new := xss[i].map fun x => .int .i64 x) rfl rfl rfl rfl rfl rfl rfl O4 (by simp [lenX]) (SX4.cells1) (allOne_ints _) (by omega) (by decide) (by simp [blocksOf]) ?_
            intro a5 c5 h5 O5 k5 n5
            conv => whnf
            refine ⟨n - (i + 1), by omega, ?_⟩
            conv => whnf
            refine ⟨(i + 1, a5, c5), rfl, ?_, rfl, by simp only; omega, k4.nil_of k5 n4, ?_, fun b hb => ?_⟩
            · simp only [f3]
              rw [wrapN (x := (i : Int) + 1) (n := i + 1) (by simp) (by omega)]
            · simp only
              rw [f1, List.length_append, ← lenX, List.map_append]; exact O5
            · rcases n5 b hb with h | h
              · exact n4 b h
              · have := k4.size; omega
        · have hi1 : i = xss.length := by simp at hc; omega
          subst hi1
          conv => whnf
          rw [List.take_length] at O4
          refine ⟨k4, ai, ci, ?_, O4, n4⟩
          rw [List.take_length]

theorem allOne_rep (n : Nat) (v : Value) (hv : oneV v = true) : allOne (List.replicate n v) = true := by
  induction n with
  | zero => rfl
  | succ n ih => rw [List.replicate_succ]; simp only [allOne, hv]; exact ih
theorem splice_drop {A N L : List Value} : spliceL A.length N (A ++ L) = A ++ spliceL 0 N L := by
  induction A with
  | nil => rfl
  | cons a A ih => simp only [List.length_cons, List.cons_append, spliceL, ih]

theorem repeatI_spec {h : Heap} {b : Nat} (o : h[b]? = some (.cells ⟨[.int .i64 (-1)]⟩ 3 (0, 0))) : CallH Tryz.prog 135 [.slice (some ⟨b, 0, none⟩) 1 1, .int .i64 16] h
    (fun v h' => Keeps [] h h' ∧ ∃ b', v = .slice (some ⟨b', 0, none⟩) 16 16 ∧ h'[b']? = some (.cells ⟨List.replicate 16 (.int .i64 (-1))⟩ 3 (0, 0)) ∧ h.size ≤ b') := by
  refine call_of hmix Tryz.func135 rfl ok135 (by simp [Tryz.f135]) ?_
  conv => whnf
  refine MeetR.pass ?_
  conv => whnf
  refine IfR.f rfl ?_
  conv => whnf
  refine CallR.i (mul_spec 16 (.inl rfl) h) fun v h1 k1 hv => ?_
  subst hv
  conv => whnf
  first | refine IfR.f rfl ?_ | (refine MeetR.pass ?_; (conv => whnf); refine IfR.f rfl ?_)
  conv => whnf
  refine SemR.make (n := 16) rfl rfl rfl rfl rfl (by decide) (by decide) fun b2 h2 e2 s2 o2 k2 => ?_
  have ob := (k1.trans k2).obj o (by simp)
  have hbl : b < h.size := obj_lt o
  have z1 := k1.size
  conv => whnf
  refine SemR.copy (sz := 1) (new := [.int .i64 (-1)]) rfl rfl rfl o2 rfl (fun j hj => by simp only [Heap.cell?, ob]; simp) rfl (by decide) (by simp [blocksOf]) fun h3 s3 o3 k3 => ?_
  conv => whnf
  refine LoopR.on [7, 8] [] (fun j : Nat => [(7, .v (.slice (some ⟨b2, 0, none⟩) 16 16)), (8, .v (.int .i64 ((2 ^ j : Nat) : Int)))]) (fun _ => [])
    (fun j h' => j ≤ 4 ∧ Keeps [] h h' ∧ h'[b2]? = some (.cells ⟨List.replicate (2 ^ j) (.int .i64 (-1)) ++ List.replicate (16 - 2 ^ j) (.int .i64 0)⟩ 3 (0, 0))) (fun j => 4 - j) 0 ?_ ?_
  · conv => whnf
    exact ⟨0, rfl, rfl, rfl, by decide, (k1.trans k2).new1 k3 (by omega), o3⟩
  · rintro j h4 ⟨hj, k4, o4⟩
    have hp : 2 ^ j ≤ 16 := by
      have : 2 ^ j ≤ 2 ^ 4 := Nat.pow_le_pow_right (by decide) hj
      simpa using this
    generalize hq : 2 ^ j = q at *
    conv => whnf
    refine IfR.i (fun hc => ?_) (fun hc => ?_)
    · have hj1 : j < 4 := by
        rcases Nat.lt_or_ge j 4 with h | h
        · exact h
        · have : j = 4 := by omega
          subst this; subst hq; simp at hc
      have hp2 : 2 ^ (j + 1) ≤ 16 := by
        have : 2 ^ (j + 1) ≤ 2 ^ 4 := Nat.pow_le_pow_right (by decide) (by omega)
        simpa using this
      have hps : 2 ^ (j + 1) = q + q := by rw [Nat.pow_succ]; omega
      conv => whnf
      refine SliceR.i q 16 rfl rfl (by omega) (by omega) ?_
      conv => whnf
      refine SliceR.i 0 q rfl rfl (by omega) (by omega) ?_
      conv => whnf
      have hq0 : 0 < q := by rw [← hq]; exact Nat.pow_pos (by decide)
      have eA : ∀ s, slA (some ⟨b2, 0, none⟩) 16 q s = some ⟨b2, 0 + q * s, none⟩ := by
        intro s
        unfold slA
        rw [if_neg (by omega)]
        simp [addr_add]
      rw [slA_zero, eA]
      refine SemR.copy (sz := 1) (new := List.replicate q (.int .i64 (-1))) rfl rfl rfl o4 (by rw [List.length_replicate]; omega) (fun k hk => ?_) (allOne_rep q _ rfl) ?_ (by simp [blocksOf]) fun h5 s5 o5 k5 => ?_
      · have hk' : k < q := by simpa using hk
        simp only [Heap.cell?, o4]
        simp [hk', List.getElem?_append]
      · show 0 + q * 1 + _ ≤ _
        simp only [List.length_append, List.length_replicate]; omega
      conv => whnf
      refine ⟨4 - (j + 1), by omega, ?_⟩
      conv => whnf
      have em : min (q - 0) (16 - q) = q := by omega
      refine ⟨j + 1, rfl, ?_, rfl, by omega, k4.new1 k5 (by omega), ?_⟩
      · rw [em, hps, wrapN (n := q + q) (by simp) (by omega)]
      · have e5 : spliceL (0 + q * 1) (List.replicate q (Value.int .i64 (-1))) (List.replicate q (Value.int .i64 (-1)) ++ List.replicate (16 - q) (Value.int .i64 0)) = List.replicate (2 ^ (j + 1)) (Value.int .i64 (-1)) ++ List.replicate (16 - 2 ^ (j + 1)) (Value.int .i64 0) := by
          have e6 : List.replicate (16 - q) (Value.int .i64 0) = List.replicate (List.replicate q (Value.int .i64 (-1))).length (Value.int .i64 0) ++ List.replicate (16 - 2 ^ (j + 1)) (Value.int .i64 0) := by
            rw [List.length_replicate, List.replicate_append_replicate]
            congr 1; omega
          rw [e6, show 0 + q * 1 = (List.replicate q (Value.int .i64 (-1))).length by rw [List.length_replicate]; omega, splice_drop, splice_head, ← List.append_assoc, List.replicate_append_replicate, hps]
        rw [← e5]; exact o5
    · have hj1 : j = 4 := by
        rcases Nat.lt_or_ge j 4 with h | h
        · have : 2 ^ j < 2 ^ 4 := Nat.pow_lt_pow_right (by decide) h
          have h2 : (q : Int) < 16 := by
            have : 2 ^ j < 16 := by simpa using this
            omega
          simp at hc; omega
        · omega
      subst hj1
      have hq' : q = 16 := by rw [← hq]
      subst hq'
      conv => whnf
      exact ⟨k4, b2, rfl, o4, by omega⟩

def usedB (n : Int) : Bool := decide (n ≠ -1)
def oddB (n : Int) : Bool := decide (n < -1) || decide (96 ≤ n)

theorem used_spec (n : Int) (h : Heap) : CallH Tryz.prog 76 [.int .i64 n] h (fun v h' => Keeps [] h h' ∧ v = .bool (usedB n)) := by
  refine call_of hmix Tryz.func76 rfl ok76 (by simp [Tryz.f76]) ?_
  conv => whnf
  refine ⟨Keeps.refl _ _, ?_⟩
  congr 1
  rw [Bool.eq_iff_iff]; simp [usedB]
theorem odd_spec (n : Int) (h : Heap) : CallH Tryz.prog 144 [.int .i64 n] h (fun v h' => Keeps [] h h' ∧ v = .bool (oddB n)) := by
  refine call_of hmix Tryz.func144 rfl ok144 (by simp [Tryz.f144]) ?_
  conv => whnf
  refine ⟨Keeps.refl _ _, ?_⟩
  congr 1

/-- the first that is so -/
def idxF (p : Int → Bool) : List Int → Nat → Int
  | [], _ => -1
  | x :: l, i => if p x then (i : Int) else idxF p l (i + 1)
theorem idxF_any (p : Int → Bool) : ∀ (l : List Int) (i : Nat), decide (0 ≤ idxF p l i) = l.any p
  | [], i => rfl
  | x :: l, i => by
    simp only [idxF, List.any_cons]
    split
    · rename_i hp; rw [hp]; simp
    · rename_i hp
      rw [idxF_any p l (i + 1)]
      simp [hp]

theorem indexFunc_used (p : Int → Bool) (hcall : ∀ (x : Int) (h : Heap), CallH Tryz.prog 76 [.int .i64 x] h (fun v h' => Keeps [] h h' ∧ v = .bool (p x))) {h : Heap} {a : Option Addr} {n c : Nat} {xs : List Int} (S : Sl h a n c xs) (hn : n ≤ 1000000000) :
    CallH Tryz.prog 193 [.slice a n c, .func (.func 76) #[] #[]] h (fun v h' => Keeps [] h h' ∧ v = .int .i64 (idxF p xs 0)) := by
  have hl := S.hlen
  refine call_of hmix Tryz.func193 rfl ok193 (by simp [Tryz.f193]) ?_
  conv => whnf
  refine LoopR.on [0, 1, 7, 8] [] (fun i : Nat => [(0, .v (.slice a n c)), (1, .v (.func (.func 76) #[] #[])), (7, .v (.int .i64 (n : Int))), (8, .v (.int .i64 (i : Int)))]) (fun _ => [])
    (fun i h' => i ≤ n ∧ Keeps [] h h' ∧ idxF p xs 0 = idxF p (xs.drop i) i) (fun i => n - i) 0 ?_ ?_
  · conv => whnf
    exact ⟨0, rfl, rfl, rfl, Nat.zero_le _, Keeps.refl _ _, rfl⟩
  · rintro i h2 ⟨hi, k2, hI⟩
    conv => whnf
    refine IfR.i (fun hc => ?_) (fun hc => ?_)
    · have hi1 : i < xs.length := by simp at hc; omega
      obtain ⟨b, off, hb, _, hcell⟩ := (S.keep k2).at1 i hi1
      rw [List.drop_eq_getElem_cons hi1] at hI
      simp only [idxF] at hI
      conv => whnf
      refine IdxS.i i rfl (by omega) hb ?_
      conv => whnf
      refine LoadR.i hcell ?_
      conv => whnf
      refine CallR.i (hcall xs[i] h2) fun v h3 k3 hv => ?_
      subst hv
      conv => whnf
      refine IfR.i (fun hd => ?_) (fun hd => ?_)
      · conv => whnf
        rw [if_pos (by simpa using hd)] at hI
        exact ⟨k2.trans k3, by rw [hI]⟩
      · rw [if_neg (by simpa using hd)] at hI
        conv => whnf
        refine ⟨n - (i + 1), by omega, ?_⟩
        conv => whnf
        exact ⟨i + 1, rfl, by rw [wrapN (n := i + 1) (by simp) (by omega)], rfl, by omega, k2.trans k3, hI⟩
    · have hi1 : i = xs.length := by simp at hc; omega
      conv => whnf
      refine ⟨k2, ?_⟩
      rw [hI, hi1, List.drop_length]; rfl

theorem indexFunc_odd (p : Int → Bool) (hcall : ∀ (x : Int) (h : Heap), CallH Tryz.prog 144 [.int .i64 x] h (fun v h' => Keeps [] h h' ∧ v = .bool (p x))) {h : Heap} {a : Option Addr} {n c : Nat} {xs : List Int} (S : Sl h a n c xs) (hn : n ≤ 1000000000) :
    CallH Tryz.prog 193 [.slice a n c, .func (.func 144) #[] #[]] h (fun v h' => Keeps [] h h' ∧ v = .int .i64 (idxF p xs 0)) := by
  have hl := S.hlen
  refine call_of hmix Tryz.func193 rfl ok193 (by simp [Tryz.f193]) ?_
  conv => whnf
  refine LoopR.on [0, 1, 7, 8] [] (fun i : Nat => [(0, .v (.slice a n c)), (1, .v (.func (.func 144) #[] #[])), (7, .v (.int .i64 (n : Int))), (8, .v (.int .i64 (i : Int)))]) (fun _ => [])
    (fun i h' => i ≤ n ∧ Keeps [] h h' ∧ idxF p xs 0 = idxF p (xs.drop i) i) (fun i => n - i) 0 ?_ ?_
  · conv => whnf
    exact ⟨0, rfl, rfl, rfl, Nat.zero_le _, Keeps.refl _ _, rfl⟩
  · rintro i h2 ⟨hi, k2, hI⟩
    conv => whnf
    refine IfR.i (fun hc => ?_) (fun hc => ?_)
    · have hi1 : i < xs.length := by simp at hc; omega
      obtain ⟨b, off, hb, _, hcell⟩ := (S.keep k2).at1 i hi1
      rw [List.drop_eq_getElem_cons hi1] at hI
      simp only [idxF] at hI
      conv => whnf
      refine IdxS.i i rfl (by omega) hb ?_
      conv => whnf
      refine LoadR.i hcell ?_
      conv => whnf
      refine CallR.i (hcall xs[i] h2) fun v h3 k3 hv => ?_
      subst hv
      conv => whnf
      refine IfR.i (fun hd => ?_) (fun hd => ?_)
      · conv => whnf
        rw [if_pos (by simpa using hd)] at hI
        exact ⟨k2.trans k3, by rw [hI]⟩
      · rw [if_neg (by simpa using hd)] at hI
        conv => whnf
        refine ⟨n - (i + 1), by omega, ?_⟩
        conv => whnf
        exact ⟨i + 1, rfl, by rw [wrapN (n := i + 1) (by simp) (by omega)], rfl, by omega, k2.trans k3, hI⟩
    · have hi1 : i = xs.length := by simp at hc; omega
      conv => whnf
      refine ⟨k2, ?_⟩
      rw [hI, hi1, List.drop_length]; rfl

theorem indexFunc_spec (f : Nat) (p : Int → Bool) (hf : (f = 76 ∧ p = usedB) ∨ (f = 144 ∧ p = oddB)) {h : Heap} {a : Option Addr} {n c : Nat} {xs : List Int} (S : Sl h a n c xs) (hn : n ≤ 1000000000) :
    CallH Tryz.prog 193 [.slice a n c, .func (.func f) #[] #[]] h (fun v h' => Keeps [] h h' ∧ v = .int .i64 (idxF p xs 0)) := by
  rcases hf with ⟨rfl, rfl⟩ | ⟨rfl, rfl⟩
  · exact indexFunc_used usedB used_spec S hn
  · exact indexFunc_odd oddB odd_spec S hn

theorem containsFunc_spec (f : Nat) (p : Int → Bool) (hf : (f = 76 ∧ p = usedB) ∨ (f = 144 ∧ p = oddB)) {h : Heap} {a : Option Addr} {n c : Nat} {xs : List Int} (S : Sl h a n c xs) (hn : n ≤ 1000000000) :
    CallH Tryz.prog 137 [.slice a n c, .func (.func f) #[] #[]] h (fun v h' => Keeps [] h h' ∧ v = .bool (xs.any p)) := by
  refine call_of hmix Tryz.func137 rfl ok137 (by simp [Tryz.f137]) ?_
  conv => whnf
  refine CallR.i (indexFunc_spec f p hf S hn) fun v h1 k1 hv => ?_
  subst hv
  conv => whnf
  refine ⟨k1, ?_⟩
  rw [← idxF_any p xs 0]
end Go.Proofs.YtkjkdnphikendaaGreatDoor
/-
  Layer 10: a file's map; a block's bytes.
-/
set_option linter.all false
set_option maxRecDepth 100000
namespace Go.Proofs.YtkjkdnphikendaaGreatDoor
open Go Go.Eng

/-- a card -/
structure Crd where
  kind : Int
  links : Int
  size : Int
  ver : UInt64
  d0 : Int
  d1 : Int
  d2 : Int
  d3 : Int
  d4 : Int
  more : Int
  deriving DecidableEq

def iv (x : Int) : Value := .int .i64 x
def Crd.cells (c : Crd) : List Value := [.int .i64 c.kind, .int .i64 c.links, .int .i64 c.size, wv c.ver, .int .i64 c.d0, .int .i64 c.d1, .int .i64 c.d2, .int .i64 c.d3, .int .i64 c.d4, .int .i64 c.more]
def Crd.direct (c : Crd) : List Int := [c.d0, c.d1, c.d2, c.d3, c.d4]
def Crd.zero : Crd := ⟨0, 0, 0, 0, 0, 0, 0, 0, 0, 0⟩
def Crd.ok (c : Crd) : Prop := inI64 c.kind ∧ inI64 c.links ∧ inI64 c.size ∧ (∀ x ∈ c.direct, inI64 x) ∧ inI64 c.more

/-- whole numbers in a block of one's own, and spare room behind -/
def IntsAt (h : Heap) (b : Nat) (m : List Int) (sp : List Value) : Prop := h[b]? = some (.cells ⟨m.map (fun x => Value.int .i64 x) ++ sp⟩ 3 (0, 0))

theorem IntsAt.sl {h : Heap} {b : Nat} {m : List Int} {sp : List Value} (o : IntsAt h b m sp) (hm : ∀ x ∈ m, inI64 x) {n cap : Nat} (hn : n = m.length) (hc : n ≤ cap) (hb : m.length ≤ 281474976710656) : Sl h (some ⟨b, 0, none⟩) n cap m := by
  subst hn
  exact Sl.of1 (α := Int) o (fun i hi => by rw [List.getElem?_append_left (by simpa using hi)]; simp [hi, One.val]) hm hc hb

theorem splice_set1 : ∀ (k : Nat) (L : List Value) (v : Value), k < L.length → spliceL k [v] L = L.set k v
  | 0, [], v, h => by simp at h
  | 0, a :: L, v, h => by cases L <;> rfl
  | k + 1, [], v, h => by simp at h
  | k + 1, a :: L, v, h => by simp only [spliceL, List.set_cons_succ]; rw [splice_set1 k L v (by simpa using h)]

theorem ints_set {m : List Int} {sp : List Value} {i : Nat} {x : Int} (hi : i < m.length) : spliceL (0 + i * 1) [Value.int .i64 x] (m.map (fun x => Value.int .i64 x) ++ sp) = (m.set i x).map (fun x => Value.int .i64 x) ++ sp := by
  rw [show 0 + i * 1 = i by omega, splice_set1 _ _ _ (by simp; omega), List.set_append, if_pos (by simpa using hi), List.map_set]

theorem IntsAt.nth {h : Heap} {b : Nat} {m : List Int} {sp : List Value} (o : IntsAt h b m sp) {i : Nat} (hi : i < m.length) : Heap.cell? h b (0 + i * 1) = some (.int .i64 m[i]) := by
  unfold IntsAt at o
  simp only [Heap.cell?, o]
  rw [show 0 + i * 1 = i by omega]
  simp [List.getElem?_append, hi]

def moreL (now : Int → UInt64) (k : Int) : List UInt64 := rdL now (1288 + k * 16) 16
def convW (w : UInt64) : Int := (w.toNat : Int) - 1
/-- a card's map over words -/
def mapOf (now : Int → UInt64) (c : Crd) : Option (List Int) :=
  if c.more = -1 then some (c.direct ++ List.replicate 16 (-1))
  else if 0 ≤ c.more ∧ c.more < 96 ∧ (moreL now c.more).all (fun w => decide (w.toNat ≤ 96)) = true ∧ ((moreL now c.more).map convW).any usedB = true then some (c.direct ++ (moreL now c.more).map convW)
  else none

theorem mapOf_length {now : Int → UInt64} {c : Crd} {m : List Int} (h : mapOf now c = some m) : m.length = 21 := by
  unfold mapOf at h
  split at h
  · simp at h; subst h; simp [Crd.direct]
  · split at h
    · simp at h; subst h; simp [Crd.direct, moreL, rdL]
    · cases h

theorem map_full {h : Heap} {V : VL} {M : MemS} {X : VS} (A : At h V M X) (c : Crd) (hc : c.ok) : CallH Tryz.prog 74 [.pointer (some ⟨V.v, 0, none⟩), .agg ⟨c.cells⟩] h (fun v h' => Keeps [] h h' ∧
    match mapOf X.now c with
    | some m => ∃ b cap sp, v = .tuple #[.slice (some ⟨b, 0, none⟩) 21 cap, .int .i64 0] ∧ IntsAt h' b m sp ∧ h.size ≤ b ∧ 21 ≤ cap ∧ cap = 21 + sp.length
    | none => v = .tuple #[.slice none 0 0, .int .i64 15]) := by
  refine call_of hmix Tryz.func74 rfl ok74 (by simp [Tryz.f74]) ?_
  conv => whnf
  refine AllocR.i fun b1 h1 e1 s1 o1 k1 => ?_
  conv => whnf
  refine IfR.f rfl ?_
  conv => whnf
  refine PureR.i (v := .slice (some ⟨b1, 4, none⟩) 5 5) (fun w => rfl) ?_
  conv => whnf
  refine AllocR.i fun b2 h2 e2 s2 o2 k2 => ?_
  conv => whnf
  refine CallR.i (repeatI_spec o2) fun v h3 k3 hv => ?_
  obtain ⟨b3, rfl, o3, n3⟩ := hv
  conv => whnf
  refine AllocR.i fun b4 h4 e4 s4 o4 k4 => ?_
  have z3 := k3.size
  have b3lt : b3 < h3.size := obj_lt o3
  have S1 : Sl h4 (some ⟨b1, 4, none⟩) 5 5 c.direct := ⟨rfl, Nat.le_refl _, by simp [Crd.direct], fun i hi => ⟨b1, 4, rfl, [.int .i64 c.direct[i]], ⟨rfl, hc.2.2.2.1 _ (List.getElem_mem hi)⟩, fun j hj => by
    have hj0 : j = 0 := by simpa using hj
    subst hj0
    have o14 := (k2.trans (k3.trans k4)).obj o1 (by simp)
    simp only [Heap.cell?, o14]
    have hi' : i < 5 := hi
    have : i = 0 ∨ i = 1 ∨ i = 2 ∨ i = 3 ∨ i = 4 := by omega
    rcases this with rfl | rfl | rfl | rfl | rfl <;> rfl⟩⟩
  have S2 : Sl h4 (some ⟨b3, 0, none⟩) 16 16 (List.replicate 16 (-1 : Int)) := Sl.of1' (α := Int) (by rw [k4.obj o3 (by simp)]; rfl) (by intro x hx; rw [List.mem_replicate] at hx; rw [hx.2]; exact ⟨by decide, by decide⟩) rfl (by decide)
  have S : Sl h4 (some ⟨b4, 0, none⟩) 2 2 [c.direct, List.replicate 16 (-1 : Int)] := ⟨rfl, Nat.le_refl _, by simp, fun i hi => ⟨b4, 0, rfl, [if i = 0 then .slice (some ⟨b1, 4, none⟩) 5 5 else .slice (some ⟨b3, 0, none⟩) 16 16], by
    have hi' : i < 2 := hi
    have : i = 0 ∨ i = 1 := by omega
    rcases this with rfl | rfl
    · exact ⟨_, _, _, rfl, S1⟩
    · exact ⟨_, _, _, rfl, S2⟩, fun j hj => by
    have hj0 : j = 0 := by simpa using hj
    subst hj0
    have hi' : i < 2 := hi
    have : i = 0 ∨ i = 1 := by omega
    simp only [Heap.cell?, o4]
    rcases this with rfl | rfl <;> rfl⟩⟩
  conv => whnf
  refine CallR.i (concat_spec S ?_ (by simp [Crd.direct]) (by decide)) fun v h5 k5 hv => ?_
  · intro xs hxs x hx
    simp only [List.mem_cons, List.not_mem_nil, or_false] at hxs
    rcases hxs with rfl | rfl
    · exact hc.2.2.2.1 x hx
    · rw [List.mem_replicate] at hx; rw [hx.2]; exact ⟨by decide, by decide⟩
  obtain ⟨a5, c5, rfl, O5, n5⟩ := hv
  have hfl : [c.direct, List.replicate 16 (-1 : Int)].flatten = c.direct ++ List.replicate 16 (-1) := by simp
  have hlen : (c.direct ++ List.replicate 16 (-1 : Int)).length = 21 := by simp [Crd.direct]
  rw [hfl, hlen] at O5
  rw [hfl, hlen]
  have k05 : Keeps [] h h5 := k1.trans (k2.trans (k3.trans (k4.trans k5)))
  rcases O5 with ⟨_, h0, _⟩ | ⟨b5, L, rfl, o5, t5, l5, _, c5l⟩
  · omega
  have z15 := (k2.trans (k3.trans k4)).size
  have hb5 : h.size ≤ b5 := by have := n5 b5 (by simp [blkA]); omega
  obtain ⟨sp, hsp⟩ : ∃ sp, L = (c.direct ++ List.replicate 16 (-1 : Int)).map (fun x => Value.int .i64 x) ++ sp := ⟨L.drop 21, by
    have : ((c.direct ++ List.replicate 16 (-1 : Int)).map (fun x => Value.int .i64 x)).length = 21 := by simp [Crd.direct]
    rw [this] at t5
    rw [← t5, List.take_append_drop]⟩
  have I5 : IntsAt h5 b5 (c.direct ++ List.replicate 16 (-1)) sp := by rw [hsp] at o5; exact o5
  have hcap : c5 = 21 + sp.length := by
    have h1 : L.length = 21 + sp.length := by rw [hsp]; simp [Crd.direct]; omega
    omega
  clear t5 l5 S S1 S2
  have o15 := (k2.trans (k3.trans (k4.trans k5))).obj o1 (by simp)
  conv => whnf
  refine LoadR.o o15 rfl ?_
  conv => whnf
  refine IfR.i (fun hd => ?_) (fun hd => ?_)
  · have hm : c.more = -1 := by simpa using hd
    conv => whnf
    refine ⟨k05, ?_⟩
    unfold mapOf
    rw [if_pos hm]
    exact ⟨b5, c5, sp, rfl, I5, hb5, c5l, hcap⟩
  · have hm : ¬ c.more = -1 := by simpa using hd
    conv => whnf
    refine LoadR.o o15 rfl ?_
    conv => whnf
    refine CallR.i (block_spec (A.on k05) c.more) fun v h6 k6 hv => ?_
    rcases hv with ⟨q1, q2, b6, rfl, q3, q4, o6⟩ | ⟨q1, rfl⟩
    · conv => whnf
      refine IfR.f rfl ?_
      have hml : (moreL X.now c.more).length = 16 := by simp [moreL, rdL]
      have hne : b6 ≠ b5 := by have := obj_lt o5; omega
      conv => whnf
      refine LoopR.on [6, 32, 33, 34] [] (fun i : Nat => [(6, .v (.slice (some ⟨b5, 0, none⟩) 21 c5)), (32, .v (.slice (some ⟨b6, 0, none⟩) 16 16)), (33, .v (.int .i64 16)), (34, .v (.int .i64 (i : Int)))]) (fun _ => [])
        (fun i h' => i ≤ 16 ∧ Keeps [] h h' ∧ h6.size ≤ h'.size ∧ IntsAt h' b5 (c.direct ++ (((moreL X.now c.more).map convW).take i ++ List.replicate (16 - i) (-1))) sp ∧ h'[b6]? = some (.cells ⟨(moreL X.now c.more).map wv⟩ 56 (0, 0)) ∧ ∀ k (hk : k < (moreL X.now c.more).length), k < i → (moreL X.now c.more)[k].toNat ≤ 96) (fun i => 16 - i) 0 ?_ ?_
      · conv => whnf
        exact ⟨0, rfl, rfl, rfl, Nat.zero_le _, k05.trans k6, Nat.le_refl _, k6.obj I5 (by simp), o6, fun k _ hk => by omega⟩
      · rintro i h7 ⟨hi, k7, z7, I7, o7, all7⟩
        conv => whnf
        refine IfR.i (fun he => ?_) (fun he => ?_)
        · have hi1 : i < 16 := by simp at he; omega
          have hi2 : i < (moreL X.now c.more).length := by omega
          conv => whnf
          refine IdxS.i i rfl hi1 rfl ?_
          conv => whnf
          refine LoadR.o (v := wv (moreL X.now c.more)[i]) o7 ?_ ?_
          · rw [nth_eq]
            show ((moreL X.now c.more).map wv)[0 + i * 1]? = _
            rw [show 0 + i * 1 = i by omega]; simp [hi2]
          conv => whnf
          refine IfR.i (fun hf => ?_) (fun hf => ?_)
          · conv => whnf
            have hw : 96 < (moreL X.now c.more)[i].toNat := by simp at hf; omega
            refine ⟨k7, ?_⟩
            have : mapOf X.now c = none := by
              unfold mapOf
              rw [if_neg hm, if_neg]
              rintro ⟨_, _, hall, _⟩
              have := List.all_eq_true.1 hall _ (List.getElem_mem hi2)
              simp at this; omega
            rw [this]
          · have hw : (moreL X.now c.more)[i].toNat ≤ 96 := by simp at hf; omega
            have ew : IntKind.i64.wrap (IntKind.i64.wrap ((moreL X.now c.more)[i].toNat : Int) - 1) = convW (moreL X.now c.more)[i] := by
              rw [wrapI (x := ((moreL X.now c.more)[i].toNat : Int)) (by omega) (by omega), wrapI (by omega) (by omega)]; rfl
            conv => whnf
            refine IdxS.i (5 + i) ?_ (by omega) rfl ?_
            · rw [wrapN (n := 5 + i) (by simp) (by omega)]
            conv => whnf
            refine StoreR.i I7 ?_ (by simp [blocksOf]) fun h8 s8 o8 k8 => ?_
            · show 0 + (5 + i) * 1 + 1 ≤ _
              simp [Crd.direct, hml]; omega
            conv => whnf
            refine ⟨16 - (i + 1), by omega, ?_⟩
            conv => whnf
            refine ⟨i + 1, rfl, by rw [wrapN (n := i + 1) (by simp) (by omega)], rfl, by omega, k7.new1 k8 hb5, by omega, ?_, k8.obj o7 (by simpa using hne), fun k hk hki => ?_⟩
            · rw [ew] at o8
              have hlen2 : 5 + i < (c.direct ++ (((moreL X.now c.more).map convW).take i ++ List.replicate (16 - i) (-1))).length := by simp [Crd.direct, hml]; omega
              have e8 := ints_set (sp := sp) (x := convW (moreL X.now c.more)[i]) hlen2
              have e9 : (c.direct ++ (((moreL X.now c.more).map convW).take i ++ List.replicate (16 - i) (-1))).set (5 + i) (convW (moreL X.now c.more)[i]) = c.direct ++ (((moreL X.now c.more).map convW).take (i + 1) ++ List.replicate (16 - (i + 1)) (-1)) := by
                have hd5 : c.direct.length = 5 := rfl
                have ht : (((moreL X.now c.more).map convW).take i).length = i := by simp [hml]; omega
                rw [List.set_append, if_neg (by omega), hd5, show 5 + i - 5 = i by omega, List.set_append, if_neg (by omega), ht, Nat.sub_self, show 16 - i = (16 - (i + 1)) + 1 by omega, List.replicate_succ, List.set_cons_zero,
                  List.take_succ_eq_append_getElem (by simp [hml]; omega)]
                simp
              rw [e9] at e8
              unfold IntsAt
              rw [← e8]; exact o8
            · rcases Nat.lt_or_ge k i with h | h
              · exact all7 k hk h
              · have : k = i := by omega
                subst this; exact hw
        · have hi1 : i = 16 := by simp at he; omega
          subst hi1
          have hall : (moreL X.now c.more).all (fun w => decide (w.toNat ≤ 96)) = true := by
            rw [List.all_eq_true]
            intro w hw
            obtain ⟨k, hk, rfl⟩ := List.mem_iff_getElem.1 hw
            have := all7 k hk (by omega)
            simpa using this
          have et : ((moreL X.now c.more).map convW).take 16 ++ List.replicate (16 - 16) (-1) = (moreL X.now c.more).map convW := by
            rw [List.take_of_length_le (by simp [hml])]; simp
          rw [et] at I7
          have okm : ∀ x ∈ c.direct ++ (moreL X.now c.more).map convW, inI64 x := by
            intro x hx
            rcases List.mem_append.1 hx with hx | hx
            · exact hc.2.2.2.1 x hx
            · obtain ⟨w, hw, rfl⟩ := List.mem_map.1 hx
              have := List.all_eq_true.1 hall w hw
              simp at this
              unfold convW inI64; omega
          have SM := I7.sl okm (n := 21) (cap := c5) (by simp [Crd.direct, hml]) c5l (by simp [Crd.direct, hml])
          have SP := SM.part (l := 5) (r := 21) (by decide) (by decide)
          conv => whnf
          refine SliceR.i 5 21 rfl rfl (by decide) c5l ?_
          conv => whnf
          have hpart : (List.take 21 (c.direct ++ (moreL X.now c.more).map convW)).drop 5 = (moreL X.now c.more).map convW := by
            rw [List.take_of_length_le (by simp [Crd.direct, hml])]
            rw [List.drop_append]; simp [Crd.direct]
          rw [hpart] at SP
          refine CallR.i (containsFunc_spec 76 usedB (.inl ⟨rfl, rfl⟩) SP (by decide)) fun v h8 k8 hv => ?_
          subst hv
          conv => whnf
          refine IfR.i (fun hf => ?_) (fun hf => ?_)
          · conv => whnf
            refine ⟨k7.trans k8, ?_⟩
            have hn : ((moreL X.now c.more).map convW).any usedB = false := by simpa using hf
            have : mapOf X.now c = none := by
              unfold mapOf
              rw [if_neg hm, if_neg]
              rintro ⟨_, _, _, h⟩
              rw [hn] at h; cases h
            rw [this]
          · conv => whnf
            refine ⟨k7.trans k8, ?_⟩
            have hn : ((moreL X.now c.more).map convW).any usedB = true := by simpa using hf
            have : mapOf X.now c = some (c.direct ++ (moreL X.now c.more).map convW) := by
              unfold mapOf
              rw [if_neg hm, if_pos ⟨q1, q2, hall, hn⟩]
            rw [this]
            exact ⟨b5, c5, sp, rfl, k8.obj I7 (by simp), hb5, c5l, hcap⟩
    · conv => whnf
      refine IfR.t rfl ?_
      conv => whnf
      refine ⟨k05.trans k6, ?_⟩
      have : mapOf X.now c = none := by
        unfold mapOf
        rw [if_neg hm, if_neg]
        rintro ⟨h1, h2, _⟩
        exact q1 ⟨h1, h2⟩
      rw [this]

theorem map_spec {h : Heap} {V : VL} {M : MemS} {X : VS} (A : At h V M X) (c : Crd) (hc : c.ok) : CallH Tryz.prog 74 [.pointer (some ⟨V.v, 0, none⟩), .agg ⟨c.cells⟩] h (fun v h' => Keeps [] h h' ∧
    match mapOf X.now c with
    | some m => ∃ b cap sp, v = .tuple #[.slice (some ⟨b, 0, none⟩) 21 cap, .int .i64 0] ∧ IntsAt h' b m sp ∧ h.size ≤ b ∧ 21 ≤ cap
    | none => v = .tuple #[.slice none 0 0, .int .i64 15]) := CallH.mono (map_full A c hc) fun v h' ⟨k, H⟩ => ⟨k, by
  cases hm : mapOf X.now c with
  | none => rw [hm] at H; exact H
  | some m =>
    rw [hm] at H
    obtain ⟨b, cap, sp, h1, h2, h3, h4, _⟩ := H
    exact ⟨b, cap, sp, h1, h2, h3, h4⟩⟩

/-- a block's bytes; noughts of a hole -/
def bytesB (now : Int → UInt64) (n : Int) : List UInt8 := if n = -1 then zeros 128 else untextL (rdL now (1288 + n * 16) 16) 128
theorem bytesB_len (now : Int → UInt64) (n : Int) : (bytesB now n).length = 128 := by
  unfold bytesB; split
  · simp [zeros]
  · simp [untextL]

theorem textB_spec {h : Heap} {V : VL} {M : MemS} {X : VS} (A : At h V M X) (n : Int) : CallH Tryz.prog 78 [.pointer (some ⟨V.v, 0, none⟩), .int .i64 n] h (fun v h' => Keeps [] h h' ∧
    v = .tuple (if n = -1 ∨ (0 ≤ n ∧ n < 96) then #[.string ⟨(bytesB X.now n).toArray⟩, .int .i64 0] else #[.string ⟨#[]⟩, .int .i64 15])) := by
  refine call_of hmix Tryz.func78 rfl ok78 (by simp [Tryz.f78]) ?_
  conv => whnf
  refine CallR.i (used_spec n h) fun v h1 k1 hv => ?_
  subst hv
  conv => whnf
  refine IfR.i (fun hd => ?_) (fun hd => ?_)
  · have hn : n = -1 := by simpa [usedB] using hd
    conv => whnf
    refine CallR.i (repeat_spec h1) fun v h2 k2 hv => ?_
    subst hv
    conv => whnf
    refine ⟨k1.trans k2, ?_⟩
    rw [if_pos (.inl hn)]
    unfold bytesB
    rw [if_pos hn]
  · have hn : ¬ n = -1 := by simpa [usedB] using hd
    conv => whnf
    refine CallR.i (block_spec (A.on k1) n) fun v h2 k2 hv => ?_
    rcases hv with ⟨q1, q2, b6, rfl, q3, q4, o6⟩ | ⟨q1, rfl⟩
    · conv => whnf
      refine IfR.f rfl ?_
      have S := Sl.of1' (α := UInt64) (xs := rdL X.now (1288 + n * 16) 16) (n := 16) o6 (by simp [One.ok]) (by simp [rdL]) (by simp [rdL])
      conv => whnf
      refine CallR.i (untext_spec S 128 (by decide) (by decide)) fun v h3 k3 hv => ?_
      subst hv
      conv => whnf
      refine ⟨k1.trans (k2.trans k3), ?_⟩
      rw [if_pos (.inr ⟨q1, q2⟩)]
      unfold bytesB
      rw [if_neg hn]
    · conv => whnf
      refine IfR.t rfl ?_
      conv => whnf
      refine ⟨k1.trans k2, ?_⟩
      rw [if_neg (by rintro (h | h); exact hn h; exact q1 h)]

theorem putB_spec {h : Heap} {V : VL} {M : MemS} {X : VS} (A : At h V M X) (n : Int) (s : ByteArray) (hs : s.size ≤ 128) : CallH Tryz.prog 79 [.pointer (some ⟨V.v, 0, none⟩), .int .i64 n, .string s] h (fun v h' => Keeps [V.ob] h h' ∧
    v = .int .i64 (if 0 ≤ n ∧ n < 96 then 0 else 1) ∧ At h' V M (if 0 ≤ n ∧ n < 96 then { X with now := putBlk X.now n (textL s.data.toList 16) } else X)) := by
  refine call_of hmix Tryz.func79 rfl ok79 (by simp [Tryz.f79]) ?_
  conv => whnf
  refine CallR.i (text_spec s 16 h (by decide) (by omega)) fun v h1 k1 hv => ?_
  obtain ⟨b, rfl, q1, q2, o1⟩ := hv
  have A1 := A.on k1
  have hob := A.blt V.ob (by simp [VL.blocks])
  conv => whnf
  refine IfR.f rfl ?_
  have S := Sl.of1' (α := UInt64) (xs := textL s.data.toList 16) (n := 16) o1 (by simp [One.ok]) (by simp [textL]) (by simp [textL])
  conv => whnf
  refine CallR.m (setBlock_spec A1 n S (by simp [blkA]; omega)) (by simp [blocksOf]) fun v h2 k2 hv => ?_
  obtain ⟨rfl, A2⟩ := hv
  conv => whnf
  refine ⟨(k1.mono (by simp)).trans k2, ?_⟩
  by_cases hn : 0 ≤ n ∧ n < 96
  · have hn3 : 0 ≤ n ∧ n < 96 ∧ 16 ≤ 16 := ⟨hn.1, hn.2, Nat.le_refl _⟩
    rw [if_pos hn3] at A2
    rw [if_pos hn3, if_pos hn, if_pos hn]
    exact ⟨rfl, A2⟩
  · have hn3 : ¬ (0 ≤ n ∧ n < 96 ∧ 16 ≤ 16) := fun h => hn ⟨h.1, h.2.1⟩
    rw [if_neg hn3] at A2
    rw [if_neg hn3, if_neg hn, if_neg hn]
    exact ⟨rfl, A2⟩

theorem may_spec {v0 : Nat} (node : Int) (h : Heap) : CallH Tryz.prog 73 [.pointer (some ⟨v0, 0, none⟩), .int .i64 node] h (fun v h' => Keeps [] h h' ∧ v = .int .i64 (if 0 ≤ node ∧ node < 24 then 0 else 1)) := by
  refine call_of hmix Tryz.func73 rfl ok73 (by simp [Tryz.f73]) ?_
  conv => whnf
  refine CallR.i (cardAt_spec node h) fun v h1 k1 hv => ?_
  subst hv
  conv => whnf
  first | refine IfR.f rfl ?_ | (refine MeetR.pass ?_; (conv => whnf); refine IfR.f rfl ?_)
  conv => whnf
  exact ⟨k1, rfl⟩
theorem over_spec (n : Nat) (hn : n ≤ 1000000) (h : Heap) : CallH Tryz.prog 75 [.int .i64 (n : Int)] h (fun v h' => Keeps [] h h' ∧ v = .int .i64 (((n + 127) / 128 : Nat) : Int)) := by
  refine call_of hmix Tryz.func75 rfl ok75 (by simp [Tryz.f75]) ?_
  conv => whnf
  refine Need.i (by decide) ?_
  conv => whnf
  refine ⟨Keeps.refl _ _, ?_⟩
  rw [wrapN (x := (n : Int) + 128) (n := n + 128) (by simp) (by omega), wrapN (x := ((n + 128 : Nat) : Int) - 1) (n := n + 127) (by omega) (by omega)]
  have : ((n + 127 : Nat) : Int).tdiv 128 = (((n + 127) / 128 : Nat) : Int) := by rw [Int.tdiv_eq_ediv_of_nonneg (by omega)]; omega
  rw [this, wrapN (n := (n + 127) / 128) rfl (by omega)]
end Go.Proofs.YtkjkdnphikendaaGreatDoor
