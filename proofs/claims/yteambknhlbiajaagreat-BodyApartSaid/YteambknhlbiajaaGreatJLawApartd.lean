/-
  Joined texts: BodyA, BodyB, BodyC, BodyD, BodyE, EngU, BodyF.
-/
import Derived.Test.YteambknhlbiajaaGreatJLawApartc
import Derived.Laws.IdiomStrings
import Derived.Lib.UnsafeStr
import Derived.Lib.Builder
import Derived.Laws.Externs
import Derived.Lib.MakeNoZero
/-
  Layers 5: where the words lie.
-/
set_option linter.all false
set_option maxRecDepth 100000
namespace Go.Proofs.YteambknhlbiajaaGreat
open Go Go.Eng

/-- the parts' cells, the first 'i' of them laid -/
def partsC (i : Nat) : List Value := [.int .i64 1, .int .i64 0, .int .i64 1, .int .i64 8, .int .i64 2, .int .i64 (if 1 < i then 8 else 0), .int .i64 24, .int .i64 8, .int .i64 3, .int .i64 (if 2 < i then 200 else 0), .int .i64 96, .int .i64 1,
  .int .i64 4, .int .i64 (if 3 < i then 296 else 0), .int .i64 4, .int .i64 248, .int .i64 5, .int .i64 (if 4 < i then 1288 else 0), .int .i64 96, .int .i64 16]

theorem end_spec (k a b c : Int) (h : Heap) : CallH Tryz.prog 58 [.agg ⟨[.int .i64 k, .int .i64 a, .int .i64 b, .int .i64 c]⟩] h (fun v h' => Keeps [] h h' ∧ v = .int .i64 (IntKind.i64.wrap (a + IntKind.i64.wrap (b * c)))) := by
  refine call_of hmix Tryz.func58 rfl ok58 (by simp [Tryz.f58]) ?_
  conv => whnf
  refine AllocR.i fun b1 h1 e1 s1 o1 k1 => ?_
  conv => whnf
  exact ⟨k1, rfl⟩

theorem parts_spec (h : Heap) : CallH Tryz.prog 77 [] h (fun v h' => Keeps [] h h' ∧ ∃ b, v = .slice (some ⟨b, 0, none⟩) 5 5 ∧ h'[b]? = some (.cells ⟨partsC 5⟩ 105 (0, 0))) := by
  refine call_of hmix Tryz.func77 rfl ok77 (by simp [Tryz.f77]) ?_
  conv => whnf
  refine AllocR.i fun b1 h1 e1 s1 o1 k1 => ?_
  conv => whnf
  refine LoopR.on [1, 2] [] (fun i : Nat => [(1, .v (.slice (some ⟨b1, 0, none⟩) 5 5)), (2, .v (.int .i64 (i : Int)))]) (fun _ => []) (fun i h' => 1 ≤ i ∧ i ≤ 5 ∧ Keeps [] h h' ∧ h'[b1]? = some (.cells ⟨partsC i⟩ 105 (0, 0))) (fun i => 5 - i) 1 ?_ ?_
  · conv => whnf
    exact ⟨1, rfl, rfl, rfl, by decide, by decide, k1, o1⟩
  · rintro i h2 ⟨i1, i5, k2, o2⟩
    have hi : i = 1 ∨ i = 2 ∨ i = 3 ∨ i = 4 ∨ i = 5 := by omega
    rcases hi with rfl | rfl | rfl | rfl | rfl
    case inr.inr.inr.inr =>
      conv => whnf
      refine IfR.f (by decide) ?_
      conv => whnf
      exact ⟨k2, b1, rfl, o2⟩
    case inl =>
      conv => whnf
      refine IfR.t (by decide) ?_
      conv => whnf
      refine IdxS.i 0 (by decide) (by decide) rfl ?_
      conv => whnf
      refine LoadN.o o2 rfl ?_
      conv => whnf
      refine CallR.i (end_spec _ _ _ _ h2) fun v h3 k3 hv => ?_
      subst hv
      conv => whnf
      refine IdxS.i 1 (by decide) (by decide) rfl ?_
      conv => whnf
      refine StoreR.i (k3.obj o2 (by simp)) (by decide) (by simp [blocksOf]) fun h4 s4 o4 k4 => ?_
      conv => whnf
      refine ⟨3, by decide, ?_⟩
      conv => whnf
      exact ⟨2, rfl, rfl, rfl, by decide, by decide, (k2.trans k3).new1 k4 (by omega), o4⟩
    case inr.inl =>
      conv => whnf
      refine IfR.t (by decide) ?_
      conv => whnf
      refine IdxS.i 1 (by decide) (by decide) rfl ?_
      conv => whnf
      refine LoadN.o o2 rfl ?_
      conv => whnf
      refine CallR.i (end_spec _ _ _ _ h2) fun v h3 k3 hv => ?_
      subst hv
      conv => whnf
      refine IdxS.i 2 (by decide) (by decide) rfl ?_
      conv => whnf
      refine StoreR.i (k3.obj o2 (by simp)) (by decide) (by simp [blocksOf]) fun h4 s4 o4 k4 => ?_
      conv => whnf
      refine ⟨2, by decide, ?_⟩
      conv => whnf
      exact ⟨3, rfl, rfl, rfl, by decide, by decide, (k2.trans k3).new1 k4 (by omega), o4⟩
    case inr.inr.inl =>
      conv => whnf
      refine IfR.t (by decide) ?_
      conv => whnf
      refine IdxS.i 2 (by decide) (by decide) rfl ?_
      conv => whnf
      refine LoadN.o o2 rfl ?_
      conv => whnf
      refine CallR.i (end_spec _ _ _ _ h2) fun v h3 k3 hv => ?_
      subst hv
      conv => whnf
      refine IdxS.i 3 (by decide) (by decide) rfl ?_
      conv => whnf
      refine StoreR.i (k3.obj o2 (by simp)) (by decide) (by simp [blocksOf]) fun h4 s4 o4 k4 => ?_
      conv => whnf
      refine ⟨1, by decide, ?_⟩
      conv => whnf
      exact ⟨4, rfl, rfl, rfl, by decide, by decide, (k2.trans k3).new1 k4 (by omega), o4⟩
    case inr.inr.inr.inl =>
      conv => whnf
      refine IfR.t (by decide) ?_
      conv => whnf
      refine IdxS.i 3 (by decide) (by decide) rfl ?_
      conv => whnf
      refine LoadN.o o2 rfl ?_
      conv => whnf
      refine CallR.i (end_spec _ _ _ _ h2) fun v h3 k3 hv => ?_
      subst hv
      conv => whnf
      refine IdxS.i 4 (by decide) (by decide) rfl ?_
      conv => whnf
      refine StoreR.i (k3.obj o2 (by simp)) (by decide) (by simp [blocksOf]) fun h4 s4 o4 k4 => ?_
      conv => whnf
      refine ⟨0, by decide, ?_⟩
      conv => whnf
      exact ⟨5, rfl, rfl, rfl, by decide, by decide, (k2.trans k3).new1 k4 (by omega), o4⟩

/-- where a kind's things begin, how many there are, how wide each is -/
def fromK : Nat → Int | 1 => 0 | 2 => 8 | 3 => 200 | 4 => 296 | _ => 1288
def countK : Nat → Int | 1 => 1 | 2 => 24 | 3 => 96 | 4 => 4 | _ => 96
def wideK : Nat → Int | 1 => 8 | 2 => 8 | 3 => 1 | 4 => 248 | _ => 16

theorem of_spec (k : Nat) (hk : k = 1 ∨ k = 2 ∨ k = 3 ∨ k = 4 ∨ k = 5) (h : Heap) : CallH Tryz.prog 57 [.int .i64 (k : Int)] h (fun v h' => Keeps [] h h' ∧ v = .agg ⟨[.int .i64 (k : Int), .int .i64 (fromK k), .int .i64 (countK k), .int .i64 (wideK k)]⟩) := by
  refine call_of hmix Tryz.func57 rfl ok57 (by simp [Tryz.f57]) ?_
  conv => whnf
  refine AllocR.i fun b1 h1 e1 s1 o1 k1 => ?_
  conv => whnf
  refine CallR.i (parts_spec h1) fun v h2 k2 hv => ?_
  obtain ⟨b, rfl, o2⟩ := hv
  conv => whnf
  refine IdxS.i (k - 1) ?_ (by omega) rfl ?_
  · rcases hk with rfl | rfl | rfl | rfl | rfl <;> decide
  conv => whnf
  refine LoadN.o (vs := [.int .i64 (k : Int), .int .i64 (fromK k), .int .i64 (countK k), .int .i64 (wideK k)]) o2 (by rcases hk with rfl | rfl | rfl | rfl | rfl <;> rfl) ?_
  conv => whnf
  refine BoxR.i fun h3 s3 k3 => ?_
  conv => whnf
  exact ⟨(k1.trans k2).new1 k3 (by omega), rfl⟩

theorem size_spec (h : Heap) : CallH Tryz.prog 29 [] h (fun v h' => Keeps [] h h' ∧ v = .int .i64 2824) := by
  refine call_of hmix Tryz.func29 rfl ok29 (by simp [Tryz.f29]) ?_
  conv => whnf
  refine CallR.i (of_spec 5 (by decide) h) fun v h1 k1 hv => ?_
  subst hv
  conv => whnf
  refine CallR.i (end_spec _ _ _ _ h1) fun v h2 k2 hv => ?_
  subst hv
  conv => whnf
  exact ⟨k1.trans k2, rfl⟩

theorem first_spec (k : Nat) (hk : k = 1 ∨ k = 2 ∨ k = 3 ∨ k = 4 ∨ k = 5) (i : Int) (h : Heap) : CallH Tryz.prog 76 [.int .i64 (k : Int), .int .i64 i] h (fun v h' => Keeps [] h h' ∧ v = .tuple #[.int .i64 (if 0 ≤ i ∧ i < countK k then fromK k + i * wideK k else 0), .int .i64 (if 0 ≤ i ∧ i < countK k then 0 else 1)]) := by
  refine call_of hmix Tryz.func76 rfl ok76 (by simp [Tryz.f76]) ?_
  conv => whnf
  refine CallR.i (of_spec k hk h) fun v h1 k1 hv => ?_
  subst hv
  conv => whnf
  refine AllocR.i fun b2 h2 e2 s2 o2 k2 => ?_
  conv => whnf
  refine BoxR.i fun h3 s3 k3 => ?_
  have kk : Keeps [] h h3 := (k1.trans k2).new1 k3 (by have := k1.size; omega)
  conv => whnf
  refine IfR.i (fun hc => ?_) (fun hc => ?_)
  · conv => whnf
    have hn : ¬ (0 ≤ i ∧ i < countK k) := by simp [bif_or] at hc; omega
    exact ⟨kk, by rw [if_neg hn, if_neg hn]⟩
  · conv => whnf
    have hn : 0 ≤ i ∧ i < countK k := by simp [bif_or] at hc; omega
    refine ⟨kk, ?_⟩
    rw [if_pos hn, if_pos hn]
    have hb : 0 ≤ i ∧ i < 96 := by rcases hk with rfl | rfl | rfl | rfl | rfl <;> simp [countK] at hn <;> omega
    have e : IntKind.i64.wrap (fromK k + IntKind.i64.wrap (i * wideK k)) = fromK k + i * wideK k := by
      rcases hk with rfl | rfl | rfl | rfl | rfl <;> simp only [fromK, wideK] <;> rw [wrapI (x := i * _) (by omega) (by omega), wrapI (by omega) (by omega)]
    rw [e]

theorem cardAt_spec (i : Int) (h : Heap) : CallH Tryz.prog 59 [.int .i64 i] h (fun v h' => Keeps [] h h' ∧ v = .tuple #[.int .i64 (if 0 ≤ i ∧ i < 24 then 8 + i * 8 else 0), .int .i64 (if 0 ≤ i ∧ i < 24 then 0 else 1)]) := by
  refine call_of hmix Tryz.func59 rfl ok59 (by simp [Tryz.f59]) ?_
  conv => whnf
  refine CallR.i (first_spec 2 (by decide) i h) fun v h1 k1 hv => ?_
  subst hv
  conv => whnf
  exact ⟨k1, rfl⟩
theorem ownerAt_spec (i : Int) (h : Heap) : CallH Tryz.prog 54 [.int .i64 i] h (fun v h' => Keeps [] h h' ∧ v = .tuple #[.int .i64 (if 0 ≤ i ∧ i < 96 then 200 + i * 1 else 0), .int .i64 (if 0 ≤ i ∧ i < 96 then 0 else 1)]) := by
  refine call_of hmix Tryz.func54 rfl ok54 (by simp [Tryz.f54]) ?_
  conv => whnf
  refine CallR.i (first_spec 3 (by decide) i h) fun v h1 k1 hv => ?_
  subst hv
  conv => whnf
  exact ⟨k1, rfl⟩
theorem blockAt_spec (i : Int) (h : Heap) : CallH Tryz.prog 73 [.int .i64 i] h (fun v h' => Keeps [] h h' ∧ v = .tuple #[.int .i64 (if 0 ≤ i ∧ i < 96 then 1288 + i * 16 else 0), .int .i64 (if 0 ≤ i ∧ i < 96 then 0 else 1)]) := by
  refine call_of hmix Tryz.func73 rfl ok73 (by simp [Tryz.f73]) ?_
  conv => whnf
  refine CallR.i (first_spec 5 (by decide) i h) fun v h1 k1 hv => ?_
  subst hv
  conv => whnf
  exact ⟨k1, rfl⟩
end Go.Proofs.YteambknhlbiajaaGreat
/-
  Layers 2, 5, 8: the memory's words, which words may be changed, a view.
-/
set_option linter.all false
set_option maxRecDepth 100000
namespace Go.Proofs.YteambknhlbiajaaGreat
open Go Go.Eng

/-! ### Lists of words by number -/

def lk : List (Int × UInt64) → Int → Option UInt64
  | [], _ => none
  | (k, v) :: r, n => if n = k then some v else lk r n
def putW : List (Int × UInt64) → Int → UInt64 → List (Int × UInt64)
  | [], n, v => [(n, v)]
  | (k, u) :: r, n, v => if n = k then (k, v) :: r else (k, u) :: putW r n v
def mapW (m : List (Int × UInt64)) : List (Int × Value) := m.map fun p => (p.1, wv p.2)

theorem lookI_mapW : ∀ (m : List (Int × UInt64)) (n : Int), lookI (mapW m) n = (lk m n).map wv
  | [], n => rfl
  | (k, v) :: r, n => by
    have := lookI_mapW r n
    simp only [mapW, List.map_cons, lookI, lk] at this ⊢
    split
    · rfl
    · exact this
theorem putI_mapW : ∀ (m : List (Int × UInt64)) (n : Int) (w : UInt64), putI (mapW m) n (wv w) = mapW (putW m n w)
  | [], n, w => rfl
  | (k, v) :: r, n, w => by
    have := putI_mapW r n w
    simp only [mapW, List.map_cons, putI, putW] at this ⊢
    split
    · rfl
    · rw [this]; rfl
theorem lk_put : ∀ (m : List (Int × UInt64)) (n : Int) (w : UInt64) (k : Int), lk (putW m n w) k = if k = n then some w else lk m k
  | [], n, w, k => by simp [putW, lk]
  | (k', u) :: r, n, w, k => by
    by_cases h : n = k'
    · subst h; simp only [putW, if_true, lk]; split <;> simp_all
    · simp only [putW, if_neg h, lk]
      rw [lk_put r n w k]
      by_cases h2 : k = k'
      · subst h2; rw [if_pos rfl, if_pos rfl, if_neg (fun e => h e.symm)]
      · rw [if_neg h2, if_neg h2]

/-- a set of numbers, as a map has it -/
def setV (s : List Int) : List (Int × Value) := s.map fun k => (k, .bool true)
theorem setV_look : ∀ (s : List Int) (k : Int), lookI (setV s) k = if k ∈ s then some (.bool true) else none
  | [], k => rfl
  | x :: s, k => by
    have := setV_look s k
    simp only [setV, List.map_cons, lookI, List.mem_cons] at this ⊢
    by_cases h : k = x
    · simp [h]
    · simp [h, this]
theorem setV_get (s : List Int) (k : Int) : (lookI (setV s) k).getD (.bool false) = .bool (decide (k ∈ s)) := by
  rw [setV_look]; split <;> simp_all
/-- a number is added to a set -/
def addS (s : List Int) (k : Int) : List Int := if k ∈ s then s else s ++ [k]
theorem addS_mem {s : List Int} {k x : Int} : x ∈ addS s k ↔ x ∈ s ∨ x = k := by
  unfold addS; split
  · constructor
    · exact .inl
    · rintro (h | rfl) <;> assumption
  · simp
theorem putI_set : ∀ (s : List Int) (k : Int), putI (setV s) k (.bool true) = setV (addS s k)
  | [], k => rfl
  | x :: s, k => by
    have ih := putI_set s k
    simp only [setV, List.map_cons, putI] at ih ⊢
    by_cases h : k = x
    · subst h; simp [addS]
    · rw [if_neg h, ih]
      unfold addS
      by_cases h2 : k ∈ s
      · simp [h2]
      · simp [h, h2]

/-! ### A memory -/

structure MemS where
  sure : List UInt64
  loose : List (Int × UInt64)
  way : List (Int × UInt64)
  calls : Int
  until_ : Int

/-- where a memory lies -/
structure ML where
  m : Nat
  sa : Option Addr
  len : Nat
  cap : Nat
  lb : Nat
  wb : Nat

def ML.blocks (L : ML) : List Nat := L.m :: L.lb :: L.wb :: blkA L.sa

structure MemAt (h : Heap) (L : ML) (M : MemS) : Prop where
  obj : h[L.m]? = some (.cells ⟨[.slice L.sa L.len L.cap, .map (some L.lb), .map (some L.wb), .int .i64 M.calls, .int .i64 M.until_]⟩ 72 (0, 0))
  sure : Sl h L.sa L.len L.cap M.sure
  loose : MapL h L.lb (mapW M.loose)
  way : MapL h L.wb (mapW M.way)
  ap1 : L.lb ≠ L.wb
  ap2 : ∀ b ∈ blkA L.sa, b ≠ L.m ∧ b ≠ L.lb ∧ b ≠ L.wb
  lt : ∀ b ∈ blkA L.sa, b < h.size

theorem obj_map_ne {h : Heap} {b r : Nat} {c : Array Value} {T : TypeId} {fz : Nat × Nat} {m : List (Int × Value)} (o : h[b]? = some (.cells c T fz)) (M : MapL h r m) : b ≠ r := by
  rintro rfl
  obtain ⟨es, cl, h1, _⟩ := M
  rw [o] at h1; cases h1

theorem MemAt.ap3 {h : Heap} {L : ML} {M : MemS} (A : MemAt h L M) : L.m ≠ L.lb ∧ L.m ≠ L.wb := ⟨obj_map_ne A.obj A.loose, obj_map_ne A.obj A.way⟩

theorem MemAt.keep {F : List Nat} {h h' : Heap} {L : ML} {M : MemS} (A : MemAt h L M) (k : Keeps F h h') (hF : ∀ b ∈ L.blocks, b ∉ F) : MemAt h' L M :=
  ⟨k.obj A.obj (hF _ (by simp [ML.blocks])), A.sure.keepM k (fun b hb => hF b (by simp [ML.blocks, hb])), A.loose.keep k (hF _ (by simp [ML.blocks])), A.way.keep k (hF _ (by simp [ML.blocks])), A.ap1, A.ap2, fun b hb => Nat.lt_of_lt_of_le (A.lt b hb) k.size⟩
theorem MemAt.blt {h : Heap} {L : ML} {M : MemS} (A : MemAt h L M) : ∀ b ∈ L.blocks, b < h.size := by
  intro b hb
  simp only [ML.blocks, List.mem_cons] at hb
  rcases hb with rfl | rfl | rfl | hb
  · exact obj_lt A.obj
  · exact A.loose.lt
  · exact A.way.lt
  · exact A.lt b hb
theorem MemAt.on {h h' : Heap} {L : ML} {M : MemS} (A : MemAt h L M) (k : Keeps [] h h') : MemAt h' L M := A.keep k (by simp)

def MemS.there (M : MemS) (i : Int) : Bool := decide (0 ≤ i) && decide (i < M.sure.length)
def MemS.read (M : MemS) (i : Int) : UInt64 := if M.there i then (lk M.loose i).getD (M.sure[i.toNat]?.getD 0) else 0

theorem there_spec {h : Heap} {L : ML} {M : MemS} (A : MemAt h L M) (i : Int) : CallH Tryz.prog 70 [.pointer (some ⟨L.m, 0, none⟩), .int .i64 i] h (fun v h' => Keeps [] h h' ∧ v = .bool (M.there i)) := by
  refine call_of hmix Tryz.func70 rfl ok70 (by simp [Tryz.f70]) ?_
  conv => whnf
  refine LoadR.u (.slice L.sa L.len L.cap) (fun _ => by unfold Heap.cell?; rw [A.obj]; rfl) ?_
  conv => whnf
  refine ⟨Keeps.refl _ _, ?_⟩
  have := A.sure.hlen
  simp [bif_and, MemS.there, this]

theorem mread_spec {h : Heap} {L : ML} {M : MemS} (A : MemAt h L M) (i : Int) : CallH Tryz.prog 55 [.pointer (some ⟨L.m, 0, none⟩), .int .i64 i] h (fun v h' => Keeps [] h h' ∧ v = wv (M.read i)) := by
  refine call_of hmix Tryz.func55 rfl ok55 (by simp [Tryz.f55]) ?_
  conv => whnf
  refine CallR.i (there_spec A i) fun v h1 k1 hv => ?_
  subst hv
  have A1 := A.on k1
  conv => whnf
  refine IfR.i (fun hc => ?_) (fun hc => ?_)
  · conv => whnf
    refine ⟨k1, ?_⟩
    have : M.there i = false := by simpa using hc
    unfold MemS.read; rw [this]
    first | done | rfl
  · have ht : M.there i = true := by simpa using hc
    conv => whnf
    refine LoadR.o A1.obj rfl ?_
    conv => whnf
    cases hl : lk M.loose i with
    | some w =>
      refine LookR.is A1.loose (by rw [lookI_mapW, hl]) ?_
      conv => whnf
      refine IfR.t rfl ?_
      conv => whnf
      refine ⟨k1, ?_⟩
      unfold MemS.read; rw [ht, hl]
      first | done | rfl
    | none =>
      refine LookR.is A1.loose (by rw [lookI_mapW, hl]) ?_
      conv => whnf
      refine IfR.f rfl ?_
      conv => whnf
      refine LoadR.o A1.obj rfl ?_
      conv => whnf
      have hn := A1.sure.hlen
      have hb : 0 ≤ i ∧ i < M.sure.length := by simpa [MemS.there] using ht
      obtain ⟨b, off, ha, _, hcell⟩ := A1.sure.at1 i.toNat (by omega)
      refine IdxS.i i.toNat (by omega) (by omega) ha ?_
      conv => whnf
      refine LoadR.i hcell ?_
      conv => whnf
      refine ⟨k1, ?_⟩
      unfold MemS.read; rw [ht, hl]
      have : i.toNat < M.sure.length := by omega
      simp [this]; rfl

/-- a call is counted -/
def MemS.call (M : MemS) (there : Bool) : Int × MemS :=
  let c := IntKind.i64.wrap (M.calls + 1)
  if M.until_ = 0 then (14, { M with calls := c })
  else
    let M2 := if 0 < M.until_ then { M with calls := c, until_ := IntKind.i64.wrap (M.until_ - 1) } else { M with calls := c }
    if there then (0, M2) else (1, M2)

theorem call_spec {h : Heap} {L : ML} {M : MemS} (A : MemAt h L M) (t : Bool) : CallH Tryz.prog 69 [.pointer (some ⟨L.m, 0, none⟩), .bool t] h (fun v h' => Keeps [L.m] h h' ∧ v = .int .i64 (M.call t).1 ∧ MemAt h' L (M.call t).2) := by
  refine call_of hmix Tryz.func69 rfl ok69 (by simp [Tryz.f69]) ?_
  conv => whnf
  refine IfR.f rfl ?_
  conv => whnf
  refine LoadR.o A.obj rfl ?_
  conv => whnf
  refine StoreR.i A.obj (Nat.le_of_ble_eq_true rfl) (by simp [blocksOf]) fun h1 s1 o1 k1 => ?_
  have nb : ∀ b ∈ L.lb :: L.wb :: blkA L.sa, b ∉ [L.m] := by
    intro b hb
    simp only [List.mem_cons] at hb
    simp only [List.mem_singleton]
    rcases hb with rfl | rfl | hb
    · exact fun e => A.ap3.1 e.symm
    · exact fun e => A.ap3.2 e.symm
    · exact (A.ap2 b hb).1
  have mk : ∀ {h' : Heap} (c u : Int), h'[L.m]? = some (.cells ⟨[.slice L.sa L.len L.cap, .map (some L.lb), .map (some L.wb), .int .i64 c, .int .i64 u]⟩ 72 (0, 0)) → Keeps [L.m] h h' → MemAt h' L { M with calls := c, until_ := u } :=
    fun c u o k => ⟨o, A.sure.keepM k (fun b hb => nb b (by simp [hb])), A.loose.keep k (nb _ (by simp)), A.way.keep k (nb _ (by simp)), A.ap1, A.ap2, fun b hb => Nat.lt_of_lt_of_le (A.lt b hb) k.size⟩
  have o1' : h1[L.m]? = some (.cells ⟨[.slice L.sa L.len L.cap, .map (some L.lb), .map (some L.wb), .int .i64 (IntKind.i64.wrap (M.calls + 1)), .int .i64 M.until_]⟩ 72 (0, 0)) := o1
  conv => whnf
  refine MeetR.pass ?_
  conv => whnf
  refine LoadR.o o1' rfl ?_
  conv => whnf
  refine IfR.i (fun hc => ?_) (fun hc => ?_)
  · conv => whnf
    have h0 : M.until_ = 0 := by simpa using hc
    refine ⟨k1, ?_⟩
    unfold MemS.call
    rw [if_pos h0]
    exact ⟨rfl, mk _ _ o1' k1⟩
  · have h0 : ¬ M.until_ = 0 := by simpa using hc
    conv => whnf
    refine LoadR.o o1' rfl ?_
    conv => whnf
    refine IfR.i (fun hd => ?_) (fun hd => ?_)
    · have h1 : 0 < M.until_ := by simpa using hd
      conv => whnf
      refine LoadR.o o1' rfl ?_
      conv => whnf
      refine StoreR.i o1' (Nat.le_of_ble_eq_true rfl) (by simp [blocksOf]) fun h2 s2 o2 k2 => ?_
      have o2' : h2[L.m]? = some (.cells ⟨[.slice L.sa L.len L.cap, .map (some L.lb), .map (some L.wb), .int .i64 (IntKind.i64.wrap (M.calls + 1)), .int .i64 (IntKind.i64.wrap (M.until_ - 1))]⟩ 72 (0, 0)) := o2
      conv => whnf
      refine IfR.i (fun he => ?_) (fun he => ?_)
      all_goals
        conv => whnf
        refine ⟨k1.trans k2, ?_⟩
        unfold MemS.call
        rw [if_neg h0, if_pos h1]
        cases t <;> first | (exact absurd he (by decide)) | exact ⟨rfl, mk _ _ o2' (k1.trans k2)⟩
    · have h1 : ¬ 0 < M.until_ := by simpa using hd
      conv => whnf
      refine IfR.i (fun he => ?_) (fun he => ?_)
      all_goals
        conv => whnf
        refine ⟨k1, ?_⟩
        unfold MemS.call
        rw [if_neg h0, if_neg h1]
        cases t <;> first | (exact absurd he (by decide)) | exact ⟨rfl, mk _ _ o1' k1⟩

def MemS.store (M : MemS) (i : Int) (w : UInt64) : Int × MemS :=
  if (M.call (M.there i)).1 = 0 then (0, { (M.call (M.there i)).2 with loose := putW (M.call (M.there i)).2.loose i w }) else M.call (M.there i)

theorem store_spec {h : Heap} {L : ML} {M : MemS} (A : MemAt h L M) (i : Int) (w : UInt64) : CallH Tryz.prog 44 [.pointer (some ⟨L.m, 0, none⟩), .int .i64 i, wv w] h (fun v h' => Keeps [L.m, L.lb] h h' ∧ v = .int .i64 (M.store i w).1 ∧ MemAt h' L (M.store i w).2) := by
  refine call_of hmix Tryz.func44 rfl ok44 (by simp [Tryz.f44]) ?_
  conv => whnf
  refine CallR.i (there_spec A i) fun v h1 k1 hv => ?_
  subst hv
  have A1 := A.on k1
  conv => whnf
  refine CallR.m (call_spec A1 (M.there i)) (by simp [blocksOf]) fun v h2 k2 hv => ?_
  obtain ⟨rfl, A2⟩ := hv
  conv => whnf
  refine MeetR.pass ?_
  conv => whnf
  refine IfR.i (fun hc => ?_) (fun hc => ?_)
  · have h0 : (M.call (M.there i)).1 = 0 := by simpa using hc
    conv => whnf
    refine LoadR.o A2.obj rfl ?_
    conv => whnf
    refine SemR.put rfl rfl A2.loose (by simp [blocksOf]) fun h3 s3 M3 k3 => ?_
    conv => whnf
    have k03 : Keeps [L.m, L.lb] h h3 := (k1.mono (by simp)).trans ((k2.mono (by simp)).trans (k3.mono (by simp)))
    refine ⟨k03, ?_⟩
    unfold MemS.store
    rw [if_pos h0]
    refine ⟨by simp [h0], ?_⟩
    have w3 : MapL h3 L.lb (mapW (putW (M.call (M.there i)).2.loose i w)) := by rw [← putI_mapW]; exact M3
    exact ⟨k3.obj A2.obj (by simpa using A2.ap3.1), A2.sure.keepM k3 (fun b hb => by simpa using (A2.ap2 b hb).2.1), w3, A2.way.keep k3 (by simpa using A2.ap1.symm), A2.ap1, A2.ap2, fun b hb => Nat.lt_of_lt_of_le (A2.lt b hb) k3.size⟩
  · have h0 : ¬ (M.call (M.there i)).1 = 0 := by simpa using hc
    conv => whnf
    refine ⟨(k1.mono (by simp)).trans (k2.mono (by simp)), ?_⟩
    unfold MemS.store
    rw [if_neg h0]
    exact ⟨rfl, A2⟩

theorem msize_spec {h : Heap} {L : ML} {M : MemS} (A : MemAt h L M) : CallH Tryz.prog 28 [.pointer (some ⟨L.m, 0, none⟩)] h (fun v h' => Keeps [] h h' ∧ v = .int .i64 M.sure.length) := by
  refine call_of hmix Tryz.func28 rfl ok28 (by simp [Tryz.f28]) ?_
  conv => whnf
  refine IfR.f rfl ?_
  conv => whnf
  refine LoadR.o A.obj rfl ?_
  conv => whnf
  exact ⟨Keeps.refl _ _, by rw [A.sure.hlen]⟩

theorem clone_spec {h : Heap} {b off n c : Nat} {ws : List UInt64} (S : Sl h (some ⟨b, off, none⟩) n c ws) (hn : n ≤ 1099511627776) : CallH Tryz.prog 30 [.slice (some ⟨b, off, none⟩) n c] h (fun v h' => Keeps [] h h' ∧ ∃ a' c', v = .slice a' n c' ∧ Sl h' a' n c' ws ∧ ∀ x ∈ blkA a', h.size ≤ x ∧ x < h'.size) := by
  refine call_of hmix Tryz.func30 rfl ok30 (by simp [Tryz.f30]) ?_
  conv => whnf
  refine IfR.f rfl ?_
  conv => whnf
  refine AllocR.i fun b1 h1 e1 s1 o1 k1 => ?_
  conv => whnf
  have hl := S.hlen
  have O : Own h1 35 1 (some ⟨b1, 0, none⟩) 0 0 [] := .inr ⟨b1, [], rfl, o1, rfl, rfl, rfl, Nat.le_refl _⟩
  refine append_own (e := 35) (sz := 1) (by_ := 8) (new := ws.map wv) rfl rfl rfl rfl rfl rfl rfl O (by simp [hl]) ((S.keep k1).cells1) ?_ (by omega) (by decide) (by simp [blocksOf]) ?_
  · have : ∀ l : List UInt64, allOne (l.map wv) = true := by
      intro l; induction l with
      | nil => rfl
      | cons x l ih => simpa [allOne, oneV, wv] using ih
    exact this ws
  intro a2 c2 h2 O2 k2 n2
  conv => whnf
  rw [Nat.zero_add] at O2
  have nb : ∀ x ∈ blkA a2, h.size ≤ x ∧ x < h2.size := fun x hx => by
    refine ⟨?_, O2.lt x hx⟩
    rcases n2 x hx with h | h
    · simp [blkA] at h; omega
    · omega
  refine ⟨k1.nil_of k2 (by intro x hx; simp [blkA] at hx; omega), a2, c2, by rw [Nat.zero_add], ?_, nb⟩
  have R : Reps h2 ([] ++ ws.map wv) ws := by
    rw [List.nil_append]
    have : ∀ l : List UInt64, Reps h2 (l.map wv) l := by
      intro l; induction l with
      | nil => rfl
      | cons x l ih => exact ⟨[wv x], l.map wv, rfl, rfl, ih⟩
    exact this ws
  exact O2.sl R rfl (by decide) (by omega)

theorem load_spec {h : Heap} {b off n c : Nat} {ws : List UInt64} (S : Sl h (some ⟨b, off, none⟩) n c ws) (hn : n ≤ 4096) : CallH Tryz.prog 12 [.slice (some ⟨b, off, none⟩) n c] h (fun v h' => Keeps [] h h' ∧ ∃ L : ML, v = .pointer (some ⟨L.m, 0, none⟩) ∧ MemAt h' L ⟨ws, [], [], 0, -1⟩ ∧ ∀ x ∈ L.blocks, h.size ≤ x) := by
  refine call_of hmix Tryz.func12 rfl ok12 (by simp [Tryz.f12]) ?_
  conv => whnf
  have hm : (if (4096 : Int) < (n : Int) then (4096 : Int) else (n : Int)) = (n : Int) := if_neg (by omega)
  have hl := S.hlen
  refine SliceR.i 0 n rfl hm (Nat.zero_le _) S.hcap ?_
  conv => whnf
  have S1 := S.part (l := 0) (r := n) (Nat.zero_le _) (Nat.le_refl _)
  have e1 : ∀ s, slA (some ⟨b, off, none⟩) c 0 s = some ⟨b, off, none⟩ := fun s => by
    unfold slA; split
    · rfl
    · simp [Addr.add]
  rw [e1, Nat.sub_zero, Nat.sub_zero, List.drop_zero, hl, List.take_length, ← hl] at S1
  rw [e1, Nat.sub_zero, Nat.sub_zero]
  refine CallR.i (clone_spec S1 (by omega)) fun v h1 k1 hv => ?_
  obtain ⟨a', c', rfl, S2, nb⟩ := hv
  conv => whnf
  refine AllocR.i fun b2 h2 e2 s2 o2 k2 => ?_
  conv => whnf
  refine AllocR.i fun b3 h3 e3 s3 o3 k3 => ?_
  conv => whnf
  refine AllocR.i fun b4 h4 e4 s4 o4 k4 => ?_
  conv => whnf
  have z1 := k1.size
  refine ⟨k1.trans (k2.trans (k3.trans k4)), ⟨b4, a', n, c', b2, b3⟩, rfl, ⟨o4, S2.keep (k2.trans (k3.trans k4)), (MapL.new o2).keep (k3.trans k4) (by simp), (MapL.new o3).keep k4 (by simp), by show b2 ≠ b3; omega, fun x hx => ?_, fun x hx => by have := nb x hx; omega⟩, ?_⟩
  · have := nb x hx
    show x ≠ b4 ∧ x ≠ b2 ∧ x ≠ b3
    omega
  · intro x hx
    simp only [ML.blocks, List.mem_cons] at hx
    rcases hx with hx | hx | hx | hx
    · have hx : x = b4 := hx; omega
    · have hx : x = b2 := hx; omega
    · have hx : x = b3 := hx; omega
    · exact (nb x hx).1
end Go.Proofs.YteambknhlbiajaaGreat
/-
  Layers 5, 8: which words may be changed; a view.
-/
set_option linter.all false
set_option maxRecDepth 100000
namespace Go.Proofs.YteambknhlbiajaaGreat
open Go Go.Eng

/-- what a word is part of -/
def whatK (a : Int) : Int := if 0 ≤ a ∧ a < 8 then 1 else if 8 ≤ a ∧ a < 200 then 2 else if 200 ≤ a ∧ a < 296 then 3 else if 296 ≤ a ∧ a < 1288 then 4 else if 1288 ≤ a ∧ a < 2824 then 5 else 0
def openW (a : Int) : Bool := (decide (8 ≤ a) && decide (a < 296)) || (decide (1288 ≤ a) && decide (a < 2824))

theorem what_spec (a : Int) (h : Heap) : CallH Tryz.prog 88 [.int .i64 a] h (fun v h' => Keeps [] h h' ∧ ∃ i, v = .tuple #[.int .i64 (whatK a), .int .i64 i]) := by
  refine call_of hmix Tryz.func88 rfl ok88 (by simp [Tryz.f88]) ?_
  conv => whnf
  refine CallR.i (parts_spec h) fun v h1 k1 hv => ?_
  obtain ⟨b, rfl, o1⟩ := hv
  conv => whnf
  refine LoopR.on [0, 6, 7, 8] [] (fun i : Nat => [(0, .v (.int .i64 a)), (6, .v (.slice (some ⟨b, 0, none⟩) 5 5)), (7, .v (.int .i64 5)), (8, .v (.int .i64 (i : Int)))]) (fun _ => []) (fun i h' => i ≤ 5 ∧ Keeps [] h1 h' ∧ ∀ k : Nat, 1 ≤ k → k ≤ i → ¬ (fromK k ≤ a ∧ a < fromK k + countK k * wideK k)) (fun i => 5 - i) 0 ?_ ?_
  · conv => whnf
    exact ⟨0, rfl, rfl, rfl, by decide, Keeps.refl _ _, fun k h1 h2 => by omega⟩
  · rintro i h2 ⟨i5, k2, no⟩
    have o2 := k2.obj o1 (by simp)
    conv => whnf
    refine IfR.i (fun hc => ?_) (fun hc => ?_)
    · have hi : i < 5 := by simp at hc; omega
      conv => whnf
      refine IdxS.i i rfl hi rfl ?_
      conv => whnf
      refine LoadN.o (vs := [.int .i64 ((i + 1 : Nat) : Int), .int .i64 (fromK (i + 1)), .int .i64 (countK (i + 1)), .int .i64 (wideK (i + 1))]) o2 ?_ ?_
      · have : i = 0 ∨ i = 1 ∨ i = 2 ∨ i = 3 ∨ i = 4 := by omega
        rcases this with rfl | rfl | rfl | rfl | rfl <;> rfl
      conv => whnf
      refine AllocR.i fun b3 h3 e3 s3 o3 k3 => ?_
      conv => whnf
      refine BoxR.i fun h4 s4 k4 => ?_
      have k24 : Keeps [] h2 h4 := k3.new1 k4 (by omega)
      have bnd : 0 ≤ fromK (i + 1) ∧ fromK (i + 1) ≤ 1288 ∧ 0 ≤ countK (i + 1) * wideK (i + 1) ∧ countK (i + 1) * wideK (i + 1) ≤ 1536 ∧ 1 ≤ wideK (i + 1) := by
        have : i = 0 ∨ i = 1 ∨ i = 2 ∨ i = 3 ∨ i = 4 := by omega
        rcases this with rfl | rfl | rfl | rfl | rfl <;> decide
      have ew : IntKind.i64.wrap (fromK (i + 1) + IntKind.i64.wrap (countK (i + 1) * wideK (i + 1))) = fromK (i + 1) + countK (i + 1) * wideK (i + 1) := by
        rw [wrapI (x := countK (i + 1) * wideK (i + 1)) (by omega) (by omega), wrapI (by omega) (by omega)]
      have found : fromK (i + 1) ≤ a → a < fromK (i + 1) + countK (i + 1) * wideK (i + 1) → ((i + 1 : Nat) : Int) = whatK a := by
        intro h1 h2
        have : i = 0 ∨ i = 1 ∨ i = 2 ∨ i = 3 ∨ i = 4 := by omega
        unfold whatK
        rcases this with rfl | rfl | rfl | rfl | rfl <;> simp [fromK, countK, wideK] at h1 h2 ⊢ <;> (repeat' split) <;> omega
      have next : ¬ (fromK (i + 1) ≤ a ∧ a < fromK (i + 1) + countK (i + 1) * wideK (i + 1)) → ∀ k : Nat, 1 ≤ k → k ≤ i + 1 → ¬ (fromK k ≤ a ∧ a < fromK k + countK k * wideK k) := by
        intro hn k h1 h2
        rcases Nat.lt_or_ge k (i + 1) with h | h
        · exact no k h1 (by omega)
        · have : k = i + 1 := by omega
          subst this; exact hn
      refine IfR.i (fun hg => ?_) (fun hg => ?_)
      · have hg1 : fromK (i + 1) ≤ a := by simpa using hg
        conv => whnf
        refine CallR.i (end_spec _ _ _ _ h4) fun v h5 k5 hv => ?_
        subst hv
        rw [ew]
        conv => whnf
        refine IfR.i (fun hd => ?_) (fun hd => ?_)
        · have hd1 : a < fromK (i + 1) + countK (i + 1) * wideK (i + 1) := by simp [bif_and] at hd; exact hd.2
          conv => whnf
          refine Need.i (by omega) ?_
          conv => whnf
          exact ⟨k1.trans (k2.trans (k24.trans k5)), _, by rw [found hg1 hd1]⟩
        · have hd1 : ¬ a < fromK (i + 1) + countK (i + 1) * wideK (i + 1) := by
            intro hx; simp [bif_and] at hd; exact absurd hx (by have := hd hg1; omega)
          conv => whnf
          refine ⟨5 - (i + 1), by omega, ?_⟩
          conv => whnf
          exact ⟨i + 1, rfl, by rw [wrapN (n := i + 1) (by simp) (by omega)], rfl, by omega, k2.trans (k24.trans k5), next fun h => hd1 h.2⟩
      · have hg1 : ¬ fromK (i + 1) ≤ a := by simpa using hg
        conv => whnf
        refine IfR.i (fun hd => ?_) (fun hd => ?_)
        · exfalso; simp [bif_and] at hd; exact hg1 hd.1
        · conv => whnf
          refine ⟨5 - (i + 1), by omega, ?_⟩
          conv => whnf
          exact ⟨i + 1, rfl, by rw [wrapN (n := i + 1) (by simp) (by omega)], rfl, by omega, k2.trans k24, next fun h => hg1 h.1⟩
    · conv => whnf
      have hi : i = 5 := by simp at hc; omega
      subst hi
      refine ⟨k1.trans k2, 0, ?_⟩
      have h1 := no 1 (by omega) (by omega)
      have h2 := no 2 (by omega) (by omega)
      have h3 := no 3 (by omega) (by omega)
      have h4 := no 4 (by omega) (by omega)
      have h5 := no 5 (by omega) (by omega)
      simp [fromK, countK, wideK] at h1 h2 h3 h4 h5
      have : whatK a = 0 := by unfold whatK; (repeat' split) <;> omega
      rw [this]

theorem open_spec (a : Int) (h : Heap) : CallH Tryz.prog 78 [.int .i64 a] h (fun v h' => Keeps [] h h' ∧ v = .bool (openW a)) := by
  refine call_of hmix Tryz.func78 rfl ok78 (by simp [Tryz.f78]) ?_
  conv => whnf
  refine CallR.i (what_spec a h) fun v h1 k1 hv => ?_
  obtain ⟨i, rfl⟩ := hv
  conv => whnf
  refine ⟨k1, ?_⟩
  congr 1
  rw [bif_or, bif_or, Bool.eq_iff_iff]
  simp only [Bool.or_eq_true, beq_iff_eq, openW, Bool.and_eq_true, decide_eq_true_eq]
  unfold whatK
  (repeat' split) <;> omega

/-! ### A view -/

/-- words by number -/
def upd (f : Int → UInt64) (a : Int) (w : UInt64) : Int → UInt64 := fun x => if x = a then w else f x
def updL (f : Int → UInt64) (a : Int) (l : List UInt64) : Int → UInt64 := fun x => if a ≤ x ∧ x < a + l.length then l[(x - a).toNat]?.getD 0 else f x
def rdL (f : Int → UInt64) (a : Int) (n : Nat) : List UInt64 := (List.range n).map fun (i : Nat) => f (a + (i : Int))

theorem updL_nil (f : Int → UInt64) (a : Int) : updL f a [] = f := by
  funext x; unfold updL; rw [if_neg (by simp only [List.length_nil]; omega)]
theorem updL_step (f : Int → UInt64) (a : Int) (l : List UInt64) (i : Nat) (hi : i < l.length) : upd (updL f a (l.take i)) (a + (i : Int)) l[i] = updL f a (l.take (i + 1)) := by
  funext x
  unfold upd updL
  have h1 : (l.take i).length = i := by simp; omega
  have h2 : (l.take (i + 1)).length = i + 1 := by simp; omega
  rw [h1, h2]
  by_cases h : x = a + (i : Int)
  · subst h
    rw [if_pos rfl, if_pos (by omega)]
    have : (a + (i : Int) - a).toNat = i := by omega
    rw [this]; simp [hi]
  · rw [if_neg h]
    by_cases h3 : a ≤ x ∧ x < a + (i : Int)
    · rw [if_pos h3, if_pos (by omega)]
      have : (x - a).toNat < i := by omega
      simp [List.getElem?_take, this, show (x - a).toNat < i + 1 by omega]
    · rw [if_neg h3, if_neg (by omega)]

structure VS where
  now : Int → UInt64
  seen : List Int
  mine : List Int
  away : List Int
  awayN : List Int

/-- where a view lies -/
structure VL where
  v : Nat
  mem : ML
  ob : Nat
  sb : Nat
  mb : Nat
  ab : Option Nat
  anb : Option Nat

def VL.blocks (V : VL) : List Nat := V.v :: V.ob :: V.sb :: V.mb :: (V.mem.blocks ++ (V.ab.toList ++ V.anb.toList))
/-- its maps, that its calls write -/
def VL.fp (V : VL) : List Nat := [V.ob, V.sb, V.mb]

def SetAt (h : Heap) (r : Option Nat) (s : List Int) : Prop := match r with | none => s = [] | some r => MapL h r (setV s)
theorem SetAt.keep {F : List Nat} {h h' : Heap} {r : Option Nat} {s : List Int} (A : SetAt h r s) (k : Keeps F h h') (hF : ∀ b ∈ r.toList, b ∉ F) : SetAt h' r s := by
  cases r with
  | none => exact A
  | some r => exact MapL.keep A k (hF r (by simp))

structure At (h : Heap) (V : VL) (M : MemS) (X : VS) : Prop where
  mem : MemAt h V.mem M
  obj : h[V.v]? = some (.cells ⟨[.pointer (some ⟨V.mem.m, 0, none⟩), .map (some V.ob), .map (some V.sb), .map (some V.mb), .map V.ab, .map V.anb]⟩ 69 (0, 0))
  own : ∃ own : List (Int × UInt64), MapL h V.ob (mapW own) ∧ (∀ a, X.now a = (lk own a).getD (M.read a)) ∧ ∀ a, lk own a ≠ none → openW a = true
  seen : MapL h V.sb (setV X.seen)
  mine : MapL h V.mb (setV X.mine)
  away : SetAt h V.ab X.away
  awayN : SetAt h V.anb X.awayN
  ap1 : V.ob ≠ V.sb ∧ V.ob ≠ V.mb ∧ V.sb ≠ V.mb
  ap2 : ∀ b ∈ [V.v, V.ob, V.sb, V.mb], b ∉ V.mem.blocks
  ap3 : ∀ r ∈ V.ab.toList ++ V.anb.toList, r ≠ V.ob ∧ r ≠ V.sb ∧ r ≠ V.mb ∧ r ≠ V.v

theorem At.keep {F : List Nat} {h h' : Heap} {V : VL} {M : MemS} {X : VS} (A : At h V M X) (k : Keeps F h h') (hF : ∀ b ∈ V.blocks, b ∉ F) : At h' V M X where
  mem := A.mem.keep k (fun b hb => hF b (by simp [VL.blocks, hb]))
  obj := k.obj A.obj (hF _ (by simp [VL.blocks]))
  own := let ⟨own, h1, h2⟩ := A.own; ⟨own, h1.keep k (hF _ (by simp [VL.blocks])), h2⟩
  seen := A.seen.keep k (hF _ (by simp [VL.blocks]))
  mine := A.mine.keep k (hF _ (by simp [VL.blocks]))
  away := A.away.keep k (fun b hb => hF b (by simp only [VL.blocks, List.mem_cons, List.mem_append]; simp [hb]))
  awayN := A.awayN.keep k (fun b hb => hF b (by simp only [VL.blocks, List.mem_cons, List.mem_append]; simp [hb]))
  ap1 := A.ap1
  ap2 := A.ap2
  ap3 := A.ap3
theorem At.on {h h' : Heap} {V : VL} {M : MemS} {X : VS} (A : At h V M X) (k : Keeps [] h h') : At h' V M X := A.keep k (by simp)

theorem At.blt {h : Heap} {V : VL} {M : MemS} {X : VS} (A : At h V M X) : ∀ b ∈ V.blocks, b < h.size := by
  have sl : ∀ (r : Option Nat) (s : List Int), SetAt h r s → ∀ b ∈ r.toList, b < h.size := by
    intro r s hs b hb
    cases r with
    | none => simp at hb
    | some r => simp at hb; subst hb; exact MapL.lt hs
  intro b hb
  simp only [VL.blocks, List.mem_cons, List.mem_append] at hb
  rcases hb with rfl | rfl | rfl | rfl | hb | hb | hb
  · exact obj_lt A.obj
  · obtain ⟨own, h1, _⟩ := A.own; exact h1.lt
  · exact A.seen.lt
  · exact A.mine.lt
  · exact A.mem.blt b hb
  · exact sl _ _ A.away b hb
  · exact sl _ _ A.awayN b hb
theorem At.vne {h : Heap} {V : VL} {M : MemS} {X : VS} (A : At h V M X) : V.v ≠ V.ob ∧ V.v ≠ V.sb ∧ V.v ≠ V.mb := by
  obtain ⟨own, h1, _⟩ := A.own
  exact ⟨obj_map_ne A.obj h1, obj_map_ne A.obj A.seen, obj_map_ne A.obj A.mine⟩

/-- words of the view's own are written -/
theorem At.put {h h' : Heap} {V : VL} {M : MemS} {X : VS} (A : At h V M X) {own : List (Int × UInt64)} (h2 : ∀ a, X.now a = (lk own a).getD (M.read a)) (h3 : ∀ a, lk own a ≠ none → openW a = true)
    {a : Int} {w : UInt64} (ho : openW a = true) (k : Keeps [V.ob] h h') (Mp : MapL h' V.ob (putI (mapW own) a (wv w))) : At h' V M { X with now := upd X.now a w } where
  mem := A.mem.keep k (fun b hb hx => by simp at hx; subst hx; exact A.ap2 _ (by simp) hb)
  obj := k.obj A.obj (by simpa using A.vne.1)
  own := ⟨putW own a w, by rw [← putI_mapW]; exact Mp, fun x => by
    rw [lk_put]
    show upd X.now a w x = _
    unfold upd
    split
    · rfl
    · exact h2 x, fun x hx => by
    rw [lk_put] at hx
    split at hx
    · rename_i e; subst e; exact ho
    · exact h3 x hx⟩
  seen := A.seen.keep k (by simpa using A.ap1.1.symm)
  mine := A.mine.keep k (by simpa using A.ap1.2.1.symm)
  away := A.away.keep k (fun b hb => by simpa using (A.ap3 b (by simp [hb])).1)
  awayN := A.awayN.keep k (fun b hb => by simpa using (A.ap3 b (by simp [hb])).1)
  ap1 := A.ap1
  ap2 := A.ap2
  ap3 := A.ap3

theorem vread_spec {h : Heap} {V : VL} {M : MemS} {X : VS} (A : At h V M X) (a : Int) : CallH Tryz.prog 52 [.pointer (some ⟨V.v, 0, none⟩), .int .i64 a] h (fun v h' => Keeps [] h h' ∧ v = wv (X.now a)) := by
  refine call_of hmix Tryz.func52 rfl ok52 (by simp [Tryz.f52]) ?_
  conv => whnf
  refine IfR.f rfl ?_
  conv => whnf
  refine LoadR.o A.obj rfl ?_
  conv => whnf
  obtain ⟨own, h1, h2, h3⟩ := A.own
  cases hl : lk own a with
  | some w =>
    refine LookR.is h1 (by rw [lookI_mapW, hl]) ?_
    conv => whnf
    refine IfR.t rfl ?_
    conv => whnf
    exact ⟨Keeps.refl _ _, by rw [h2, hl]; rfl⟩
  | none =>
    refine LookR.is h1 (by rw [lookI_mapW, hl]) ?_
    conv => whnf
    refine IfR.f rfl ?_
    conv => whnf
    refine LoadR.o A.obj rfl ?_
    conv => whnf
    refine CallR.i (mread_spec A.mem a) fun v h4 k4 hv => ?_
    subst hv
    conv => whnf
    exact ⟨k4, by rw [h2, hl]; rfl⟩

theorem vwrite_spec {h : Heap} {V : VL} {M : MemS} {X : VS} (A : At h V M X) (a : Int) (w : UInt64) : CallH Tryz.prog 60 [.pointer (some ⟨V.v, 0, none⟩), .int .i64 a, wv w] h (fun v h' => Keeps [V.ob] h h' ∧ v = .int .i64 (if openW a then 0 else 1) ∧ At h' V M (if openW a then { X with now := upd X.now a w } else X)) := by
  refine call_of hmix Tryz.func60 rfl ok60 (by simp [Tryz.f60]) ?_
  conv => whnf
  refine IfR.t rfl ?_
  conv => whnf
  refine CallR.i (open_spec a h) fun v h1 k1 hv => ?_
  subst hv
  have A1 := A.on k1
  conv => whnf
  refine IfR.i (fun hc => ?_) (fun hc => ?_)
  · conv => whnf
    have ho : openW a = false := by simpa [bif_or] using hc
    rw [ho]
    exact ⟨k1.mono (by simp), rfl, A1⟩
  · have ho : openW a = true := by simpa [bif_or] using hc
    conv => whnf
    refine LoadR.o A1.obj rfl ?_
    conv => whnf
    obtain ⟨own, h1, h2, h3⟩ := A1.own
    refine SemR.put rfl rfl h1 (by simp [blocksOf]) fun h2 s2 M2 k2 => ?_
    conv => whnf
    rw [ho]
    exact ⟨(k1.mono (by simp)).trans k2, rfl, A1.put (by assumption) h3 ho k2 M2⟩

theorem splice_at {A B : List Value} {x v : Value} : spliceL A.length [v] (A ++ x :: B) = A ++ v :: B := by
  induction A with
  | nil => cases B <;> rfl
  | cons a A ih => simp only [List.length_cons, List.cons_append, spliceL, ih]

theorem read_spec {h : Heap} {V : VL} {M : MemS} {X : VS} (A : At h V M X) (a : Int) (n : Nat) (ha : 0 ≤ a ∧ a ≤ 1000000) (hn : n ≤ 1000000) : CallH Tryz.prog 74 [.pointer (some ⟨V.v, 0, none⟩), .int .i64 a, .int .i64 (n : Int)] h (fun v h' => Keeps [] h h' ∧ ∃ b, v = .slice (some ⟨b, 0, none⟩) n n ∧ h.size ≤ b ∧ b < h'.size ∧ h'[b]? = some (.cells ⟨(rdL X.now a n).map wv⟩ 35 (0, 0))) := by
  refine call_of hmix Tryz.func74 rfl ok74 (by simp [Tryz.f74]) ?_
  conv => whnf
  refine SemR.make rfl rfl rfl rfl rfl (by show 8 * n ≤ _; omega) (by omega) fun b1 h1 e1 s1 o1 k1 => ?_
  conv => whnf
  refine LoopR.on [0, 1, 7, 12, 13] [] (fun i : Nat => [(0, .v (.pointer (some ⟨V.v, 0, none⟩))), (1, .v (.int .i64 a)), (7, .v (.slice (some ⟨b1, 0, none⟩) n n)), (12, .v (.int .i64 (n : Int))), (13, .v (.int .i64 (i : Int)))]) (fun _ => [])
    (fun i h' => i ≤ n ∧ Keeps [] h h' ∧ h1.size ≤ h'.size ∧ h'[b1]? = some (.cells ⟨(rdL X.now a i).map wv ++ List.replicate (n - i) (.int .u64 0)⟩ 35 (0, 0))) (fun i => n - i) 0 ?_ ?_
  · conv => whnf
    exact ⟨0, rfl, rfl, rfl, Nat.zero_le _, k1, Nat.le_refl _, o1⟩
  · rintro i h2 ⟨hi, k2, z2, o2⟩
    conv => whnf
    refine IfR.i (fun hc => ?_) (fun hc => ?_)
    · have hi1 : i < n := by simp at hc; omega
      conv => whnf
      rw [wrapI (x := a + (i : Int)) (by omega) (by omega)]
      refine CallR.i (vread_spec (A.on k2) (a + (i : Int))) fun v h3 k3 hv => ?_
      subst hv
      conv => whnf
      refine IdxS.i i rfl hi1 rfl ?_
      have er : List.replicate (n - i) (Value.int .u64 0) = .int .u64 0 :: List.replicate (n - (i + 1)) (.int .u64 0) := by
        rw [show n - i = (n - (i + 1)) + 1 by omega, List.replicate_succ]
      rw [er] at o2
      have hlen : ((rdL X.now a i).map wv).length = i := by simp [rdL]
      conv => whnf
      refine StoreR.i (k3.obj o2 (by simp)) ?_ (by simp [blocksOf]) fun h4 s4 o4 k4 => ?_
      · simp only [List.length_append, List.length_cons, hlen, List.length_replicate]
        show 0 + i * 1 + 1 ≤ _
        omega
      conv => whnf
      refine ⟨n - (i + 1), by omega, ?_⟩
      conv => whnf
      refine ⟨i + 1, rfl, by rw [wrapN (n := i + 1) (by simp) (by omega)], rfl, by omega, (k2.trans k3).new1 k4 (by omega), by have := k3.size; omega, ?_⟩
      have e4 : spliceL (0 + i * 1) [wv (X.now (a + (i : Int)))] ((rdL X.now a i).map wv ++ .int .u64 0 :: List.replicate (n - (i + 1)) (.int .u64 0)) = (rdL X.now a (i + 1)).map wv ++ List.replicate (n - (i + 1)) (.int .u64 0) := by
        have := splice_at (A := (rdL X.now a i).map wv) (x := .int .u64 0) (v := wv (X.now (a + (i : Int)))) (B := List.replicate (n - (i + 1)) (.int .u64 0))
        rw [hlen] at this
        rw [show 0 + i * 1 = i by omega, this]
        simp [rdL, List.range_succ]
      rw [← e4]; exact o4
    · conv => whnf
      have hi1 : i = n := by simp at hc; omega
      subst hi1
      refine ⟨k2, b1, rfl, by omega, by have := k1.size; omega, ?_⟩
      simpa using o2

theorem writes_spec {h : Heap} {V : VL} {M : MemS} {X : VS} (A : At h V M X) (a : Int) {sa : Option Addr} {n c : Nat} {ws : List UInt64} (S : Sl h sa n c ws) (ha : 0 ≤ a ∧ a ≤ 1000000) (hn : n ≤ 1000000) (ho : ∀ i : Nat, i < n → openW (a + (i : Int)) = true) (hs : V.ob ∉ blkA sa) :
    CallH Tryz.prog 79 [.pointer (some ⟨V.v, 0, none⟩), .int .i64 a, .slice sa n c] h (fun v h' => Keeps [V.ob] h h' ∧ At h' V M { X with now := updL X.now a ws }) := by
  refine call_of hmix Tryz.func79 rfl ok79 (by simp [Tryz.f79]) ?_
  conv => whnf
  have hl := S.hlen
  refine LoopR.on [0, 1, 8, 9, 10] [] (fun i : Nat => [(0, .v (.pointer (some ⟨V.v, 0, none⟩))), (1, .v (.int .i64 a)), (8, .v (.slice sa n c)), (9, .v (.int .i64 (n : Int))), (10, .v (.int .i64 (i : Int)))]) (fun _ => [])
    (fun i h' => i ≤ n ∧ Keeps [V.ob] h h' ∧ At h' V M { X with now := updL X.now a (ws.take i) }) (fun i => n - i) 0 ?_ ?_
  · conv => whnf
    exact ⟨0, rfl, rfl, rfl, Nat.zero_le _, Keeps.refl _ _, by rw [List.take_zero, updL_nil]; exact A⟩
  · rintro i h2 ⟨hi, k2, A2⟩
    conv => whnf
    refine IfR.i (fun hc => ?_) (fun hc => ?_)
    · have hi1 : i < ws.length := by simp at hc; omega
      have S2 := S.keepM k2 (fun b hb hx => by simp at hx; subst hx; exact hs hb)
      obtain ⟨b, off, hb, _, hcell⟩ := S2.at1 i hi1
      conv => whnf
      refine IdxS.i i rfl (by omega) hb ?_
      conv => whnf
      refine LoadR.i hcell ?_
      conv => whnf
      refine LoadR.o A2.obj rfl ?_
      conv => whnf
      rw [wrapI (x := a + (i : Int)) (by omega) (by omega)]
      obtain ⟨own, q1, q2, q3⟩ := A2.own
      refine SemR.put rfl rfl q1 (by simp [blocksOf]) fun h3 s3 M3 k3 => ?_
      conv => whnf
      refine ⟨n - (i + 1), by omega, ?_⟩
      conv => whnf
      refine ⟨i + 1, rfl, by rw [wrapN (n := i + 1) (by simp) (by omega)], rfl, by omega, k2.trans k3, ?_⟩
      have := A2.put q2 q3 (ho i (by omega)) k3 M3
      simp only at this
      rw [updL_step X.now a ws i hi1] at this
      exact this
    · conv => whnf
      have hi1 : i = ws.length := by simp at hc; omega
      rw [hi1, List.take_length] at A2
      exact ⟨k2, A2⟩
end Go.Proofs.YteambknhlbiajaaGreat
/-
  Layers 8, 9: blocks of a view, and who has them.
-/
set_option linter.all false
set_option maxRecDepth 100000
namespace Go.Proofs.YteambknhlbiajaaGreat
open Go Go.Eng

theorem block_spec {h : Heap} {V : VL} {M : MemS} {X : VS} (A : At h V M X) (k : Int) : CallH Tryz.prog 49 [.pointer (some ⟨V.v, 0, none⟩), .int .i64 k] h (fun v h' => Keeps [] h h' ∧
    ((0 ≤ k ∧ k < 96 ∧ ∃ b, v = .tuple #[.slice (some ⟨b, 0, none⟩) 16 16, .int .i64 0] ∧ h.size ≤ b ∧ b < h'.size ∧ h'[b]? = some (.cells ⟨(rdL X.now (1288 + k * 16) 16).map wv⟩ 35 (0, 0))) ∨ (¬ (0 ≤ k ∧ k < 96) ∧ v = .tuple #[.slice none 0 0, .int .i64 1]))) := by
  refine call_of hmix Tryz.func49 rfl ok49 (by simp [Tryz.f49]) ?_
  conv => whnf
  refine CallR.i (blockAt_spec k h) fun v h1 k1 hv => ?_
  subst hv
  conv => whnf
  refine IfR.i (fun hc => ?_) (fun hc => ?_)
  · conv => whnf
    refine ⟨k1, .inr ⟨fun hk => ?_, rfl⟩⟩
    rw [if_pos hk] at hc
    simp [bif_or] at hc
  · have hk : 0 ≤ k ∧ k < 96 := Classical.byContradiction fun hk => by
      rw [if_neg hk] at hc
      simp [bif_or] at hc
    rw [if_pos hk]
    conv => whnf
    refine CallR.i (read_spec (A.on k1) (1288 + k * 16) 16 (by omega) (by omega)) fun v h2 k2 hv => ?_
    obtain ⟨b, rfl, q1, q2, q3⟩ := hv
    conv => whnf
    exact ⟨k1.trans k2, .inl ⟨hk.1, hk.2, b, rfl, by have := k1.size; omega, q2, q3⟩⟩

/-- a block's words, and noughts behind -/
def fullB (ws : List UInt64) : List UInt64 := ws ++ List.replicate (16 - ws.length) 0
def putBlk (f : Int → UInt64) (k : Int) (ws : List UInt64) : Int → UInt64 := updL f (1288 + k * 16) (fullB ws)

theorem allOne_wv : ∀ l : List UInt64, allOne (l.map wv) = true
  | [] => rfl
  | x :: l => by simpa [allOne, oneV, wv] using allOne_wv l

theorem _root_.Go.Eng.Sl.nonnil {α : Type} [Rp α] {h : Heap} {a : Option Addr} {len cap : Nat} {xs : List α} (s : Sl h a len cap xs) (hp : 0 < len) : ∃ b off, a = some ⟨b, off, none⟩ := by
  obtain ⟨b, off, ha, _⟩ := s.at_ 0 (by rw [← s.hlen]; exact hp)
  exact ⟨b, off, ha⟩

theorem splice_head {A B : List Value} {x : Value} : spliceL 0 A (List.replicate A.length x ++ B) = A ++ B := by
  induction A with
  | nil => cases B <;> simp [spliceL]
  | cons a A ih => simp only [List.length_cons, List.replicate_succ, List.cons_append, spliceL]; rw [ih]

theorem setBlock_spec {h : Heap} {V : VL} {M : MemS} {X : VS} (A : At h V M X) (k : Int) {sa : Option Addr} {n c : Nat} {ws : List UInt64} (S : Sl h sa n c ws) (hs : V.ob ∉ blkA sa) :
    CallH Tryz.prog 61 [.pointer (some ⟨V.v, 0, none⟩), .int .i64 k, .slice sa n c] h (fun v h' => Keeps [V.ob] h h' ∧ v = .int .i64 (if 0 ≤ k ∧ k < 96 ∧ n ≤ 16 then 0 else 1) ∧ At h' V M (if 0 ≤ k ∧ k < 96 ∧ n ≤ 16 then { X with now := putBlk X.now k ws } else X)) := by
  refine call_of hmix Tryz.func61 rfl ok61 (by simp [Tryz.f61]) ?_
  conv => whnf
  refine CallR.i (blockAt_spec k h) fun v h1 k1 hv => ?_
  subst hv
  have A1 := A.on k1
  conv => whnf
  refine IfR.i (fun hc => ?_) (fun hc => ?_)
  · conv => whnf
    have hn : ¬ (0 ≤ k ∧ k < 96 ∧ n ≤ 16) := fun hk => by
      rw [if_pos ⟨hk.1, hk.2.1⟩] at hc
      simp [bif_or] at hc; omega
    rw [if_neg hn, if_neg hn]
    exact ⟨k1.mono (by simp), rfl, A1⟩
  · have hk : 0 ≤ k ∧ k < 96 ∧ n ≤ 16 := by
      by_cases hk : 0 ≤ k ∧ k < 96
      · rw [if_pos hk] at hc
        simp [bif_or] at hc; omega
      · rw [if_neg hk] at hc
        simp [bif_or] at hc
    rw [if_pos hk, if_pos hk, if_pos ⟨hk.1, hk.2.1⟩]
    have hl := S.hlen
    conv => whnf
    refine SemR.make (n := 16) rfl rfl rfl rfl rfl (by decide) (by decide) fun b2 h2 e2 s2 o2 k2 => ?_
    have S2 := S.keep (k1.trans k2)
    have o2' : h2[b2]? = some (.cells ⟨List.replicate n (.int .u64 0) ++ List.replicate (16 - n) (.int .u64 0)⟩ 35 (0, 0)) := by
      rw [o2, List.replicate_append_replicate, show n + (16 - n) = 16 by omega]
    -- what is copied
    have fin : ∀ h3, h2.size ≤ h3.size → Keeps [b2] h2 h3 → h3[b2]? = some (.cells ⟨(fullB ws).map wv⟩ 35 (0, 0)) → At h3 V M X ∧ Sl h3 (some ⟨b2, 0, none⟩) 16 16 (fullB ws) ∧ V.ob ∉ blkA (some ⟨b2, 0, none⟩) := by
      intro h3 s3 k3 o3
      have hV : V.ob < h.size := by obtain ⟨own, q, _⟩ := A.own; exact q.lt
      have z1 := k1.size
      refine ⟨A.on ((k1.trans k2).new1 k3 (by omega)), Sl.of1' o3 (by simp [One.ok]) (by simp [fullB]; omega) (by simp [fullB]; omega), ?_⟩
      simp [blkA]; omega
    have rest : ∀ h3, h2.size ≤ h3.size → Keeps [b2] h2 h3 → h3[b2]? = some (.cells ⟨(fullB ws).map wv⟩ 35 (0, 0)) → CallH Tryz.prog 79 [.pointer (some ⟨V.v, 0, none⟩), .int .i64 (1288 + k * 16), .slice (some ⟨b2, 0, none⟩) 16 16] h3 (fun v h' => Keeps [V.ob] h3 h' ∧ At h' V M { X with now := putBlk X.now k ws }) := by
      intro h3 s3 k3 o3
      obtain ⟨A3, S3, n3⟩ := fin h3 s3 k3 o3
      refine writes_spec A3 (1288 + k * 16) S3 (by omega) (by decide) (fun i hi => ?_) n3
      simp [openW]; omega
    conv => whnf
    rcases Nat.eq_zero_or_pos n with h0 | h0
    · subst h0
      have hw : ws = [] := List.eq_nil_of_length_eq_zero hl.symm
      subst hw
      refine SemR.copy0 rfl rfl (by simp) ?_
      conv => whnf
      refine CallR.m (rest h2 (Nat.le_refl _) (Keeps.refl _ _) (by rw [o2]; rfl)) (by simp [blocksOf]) fun v h4 k4 hv => ?_
      conv => whnf
      exact ⟨((k1.trans k2).mono (by simp)).trans k4, rfl, hv⟩
    · obtain ⟨xb, xo, rfl⟩ := S.nonnil h0
      refine SemR.copy (sz := 1) (new := ws.map wv) rfl rfl rfl o2' (by rw [List.length_map, ← hl]; omega) (S2.cells1) (allOne_wv ws) (by simp only [List.length_map, List.length_append, List.length_replicate]; omega) (by simp [blocksOf]) fun h3 s3 o3 k3 => ?_
      have o3' : h3[b2]? = some (.cells ⟨(fullB ws).map wv⟩ 35 (0, 0)) := by
        rw [o3]
        have : n = (ws.map wv).length := by simp [hl]
        rw [this, splice_head]
        simp [fullB, wv]
      conv => whnf
      refine CallR.m (rest h3 (by omega) k3 o3') (by simp [blocksOf]) fun v h4 k4 hv => ?_
      conv => whnf
      exact ⟨(((k1.trans k2).new1 k3 (by have := k1.size; omega)).mono (by simp)).trans k4, rfl, hv⟩

theorem avoids_spec {h : Heap} {V : VL} {M : MemS} {X : VS} (A : At h V M X) (k : Int) : CallH Tryz.prog 56 [.pointer (some ⟨V.v, 0, none⟩), .int .i64 k] h (fun v h' => Keeps [] h h' ∧ v = .bool (decide (k ∈ X.away))) := by
  have ha := A.away
  have ho := A.obj
  cases hab : V.ab with
  | none =>
    rw [hab] at ha ho
    refine call_of hmix Tryz.func56 rfl ok56 (by simp [Tryz.f56]) ?_
    conv => whnf
    refine LoadR.u (.map none) (fun _ => by unfold Heap.cell?; rw [ho]; rfl) ?_
    conv => whnf
    have : X.away = [] := ha
    exact ⟨Keeps.refl _ _, by rw [this]; rfl⟩
  | some r =>
    rw [hab] at ha ho
    refine call_of hmix Tryz.func56 rfl ok56 (by simp [Tryz.f56]) ?_
    conv => whnf
    refine LoadR.u (.map (some r)) (fun _ => by unfold Heap.cell?; rw [ho]; rfl) ?_
    conv => whnf
    refine LookR.z (.bool false) ha rfl (setV_get _ _) ?_
    conv => whnf
    exact ⟨Keeps.refl _ _, rfl⟩

/-- is a block free for a view over words? -/
def freshB (B : Int → UInt64) (X : VS) (k : Int) : Bool := (decide (0 ≤ k) && decide (k < 96)) && (decide (B (200 + k) = 0) && (decide (X.now (200 + k) = 0) && !decide (k ∈ X.away)))

theorem wv_zero (w : UInt64) : (((w.toNat : Int) == 0) : Bool) = decide (w = 0) := by
  rw [Bool.eq_iff_iff]; simp
  constructor
  · intro h; exact UInt64.toNat_inj.1 (by simpa using h)
  · rintro rfl; rfl

theorem fresh_spec {h : Heap} {V : VL} {M : MemS} {X : VS} (A : At h V M X) (k : Int) : CallH Tryz.prog 27 [.pointer (some ⟨V.v, 0, none⟩), .int .i64 k] h (fun v h' => Keeps [] h h' ∧ v = .bool (freshB M.read X k)) := by
  refine call_of hmix Tryz.func27 rfl ok27 (by simp [Tryz.f27]) ?_
  conv => whnf
  refine CallR.i (ownerAt_spec k h) fun v h1 k1 hv => ?_
  subst hv
  have A1 := A.on k1
  conv => whnf
  refine LoadR.u (.pointer (some ⟨V.mem.m, 0, none⟩)) (fun _ => by unfold Heap.cell?; rw [A1.obj]; rfl) ?_
  conv => whnf
  refine IfR.i (fun hc => ?_) (fun hc => ?_)
  case refine_1 =>
    have hk : 0 ≤ k ∧ k < 96 := Classical.byContradiction fun hk => by
      rw [if_neg hk] at hc; simp [bif_and] at hc
    rw [if_pos hk, if_pos hk, Int.mul_one]
    conv => whnf
    refine CallR.i (mread_spec A1.mem (200 + k)) fun v h2 k2 hv => ?_
    subst hv
    have A2 := A1.on k2
    conv => whnf
    refine IfR.i (fun hd => ?_) (fun hd => ?_)
    · have hm : M.read (200 + k) = 0 := by simpa [bif_and, wv_zero] using hd
      conv => whnf
      refine CallR.i (vread_spec A2 (200 + k)) fun v h3 k3 hv => ?_
      subst hv
      have A3 := A2.on k3
      conv => whnf
      refine IfR.i (fun he => ?_) (fun he => ?_)
      · have hn : X.now (200 + k) = 0 := by
          simp [bif_and, hm, wv_zero] at he; exact he
        conv => whnf
        refine CallR.i (avoids_spec A3 k) fun v h4 k4 hv => ?_
        subst hv
        conv => whnf
        refine ⟨k1.trans (k2.trans (k3.trans k4)), ?_⟩
        simp [freshB, hk, hm, hn, bif_and]
      · have hn : ¬ X.now (200 + k) = 0 := by
          intro hn; simp [bif_and, hm, hn] at he
        conv => whnf
        refine ⟨k1.trans (k2.trans k3), ?_⟩
        simp [freshB, hn, bif_and, wv_zero]
    · have hm : ¬ M.read (200 + k) = 0 := by
        intro hm; simp [bif_and, hm] at hd
      conv => whnf
      refine IfR.i (fun he => ?_) (fun he => ?_)
      · exfalso; simp [bif_and, wv_zero, hm] at he
      · conv => whnf
        refine ⟨k1.trans k2, ?_⟩
        simp [freshB, hm, bif_and, wv_zero]
  case refine_2 =>
    have hk : ¬ (0 ≤ k ∧ k < 96) := fun hk => by
      rw [if_pos hk] at hc; simp [bif_and] at hc
    rw [if_neg hk, if_neg hk]
    conv => whnf
    refine IfR.i (fun hd => ?_) (fun hd => ?_)
    · exfalso; simp [bif_and] at hd
    · conv => whnf
      refine IfR.i (fun hd => ?_) (fun hd => ?_)
      · exfalso; simp [bif_and] at hd
      · conv => whnf
        refine ⟨k1, ?_⟩
        have : freshB M.read X k = false := by
          unfold freshB
          have : (decide (0 ≤ k) && decide (k < 96)) = false := by
            rw [Bool.eq_false_iff]; intro h; simp at h; exact hk h
          rw [this]; rfl
        rw [this]; rfl
end Go.Proofs.YteambknhlbiajaaGreat
/-
  Layers 8, 9: a new view; blocks that are taken and given back.
-/
set_option linter.all false
set_option maxRecDepth 100000
namespace Go.Proofs.YteambknhlbiajaaGreat
open Go Go.Eng

theorem new_spec {h : Heap} {L : ML} {M : MemS} (A : MemAt h L M) : CallH Tryz.prog 11 [.pointer (some ⟨L.m, 0, none⟩)] h (fun v h' => Keeps [] h h' ∧
    if M.sure.length = 2824 then ∃ V : VL, v = .pointer (some ⟨V.v, 0, none⟩) ∧ V.mem = L ∧ V.ab = none ∧ V.anb = none ∧ (∀ x ∈ [V.v, V.ob, V.sb, V.mb], h.size ≤ x) ∧ At h' V M ⟨M.read, [], [], [], []⟩ else v = .pointer none) := by
  refine call_of hmix Tryz.func11 rfl ok11 (by simp [Tryz.f11]) ?_
  conv => whnf
  refine CallR.i (msize_spec A) fun v h1 k1 hv => ?_
  subst hv
  conv => whnf
  refine CallR.i (size_spec h1) fun v h2 k2 hv => ?_
  subst hv
  conv => whnf
  refine IfR.i (fun hc => ?_) (fun hc => ?_)
  · conv => whnf
    have hn : ¬ M.sure.length = 2824 := by intro e; rw [e] at hc; simp at hc
    rw [if_neg hn]
    exact ⟨k1.trans k2, rfl⟩
  · have hn : M.sure.length = 2824 := by simp at hc; omega
    conv => whnf
    refine AllocR.i fun b3 h3 e3 s3 o3 k3 => ?_
    conv => whnf
    refine AllocR.i fun b4 h4 e4 s4 o4 k4 => ?_
    conv => whnf
    refine AllocR.i fun b5 h5 e5 s5 o5 k5 => ?_
    conv => whnf
    refine AllocR.i fun b6 h6 e6 s6 o6 k6 => ?_
    conv => whnf
    rw [if_pos hn]
    have k06 := k1.trans (k2.trans (k3.trans (k4.trans (k5.trans k6))))
    have z1 := k1.size
    have z2 := k2.size
    have old := A.blt
    refine ⟨k06, ⟨b6, L, b3, b4, b5, none, none⟩, rfl, rfl, rfl, rfl, ?_, A.on k06, o6, ⟨[], (MapL.new o3).keep (k4.trans (k5.trans k6)) (by simp), fun a => rfl, fun a ha => absurd rfl ha⟩, (MapL.new o4).keep (k5.trans k6) (by simp), (MapL.new o5).keep k6 (by simp), rfl, rfl, ?_, ?_, by simp⟩
    · intro x hx
      simp only [List.mem_cons, List.not_mem_nil, or_false] at hx
      omega
    · show b3 ≠ b4 ∧ b3 ≠ b5 ∧ b4 ≠ b5
      omega
    · intro b hb hx
      have := old b hx
      simp only [List.mem_cons, List.not_mem_nil, or_false] at hb
      omega

theorem reset_spec {h : Heap} {V : VL} {M : MemS} {X : VS} (A : At h V M X) : CallH Tryz.prog 45 [.pointer (some ⟨V.v, 0, none⟩)] h (fun v h' => Keeps [V.v] h h' ∧
    ∃ ob sb mb, h.size ≤ ob ∧ h.size ≤ sb ∧ h.size ≤ mb ∧ At h' { V with ob := ob, sb := sb, mb := mb } M { X with now := M.read, seen := [], mine := [] }) := by
  refine call_of hmix Tryz.func45 rfl ok45 (by simp [Tryz.f45]) ?_
  conv => whnf
  refine IfR.t rfl ?_
  conv => whnf
  refine AllocR.i fun b3 h3 e3 s3 o3 k3 => ?_
  conv => whnf
  refine AllocR.i fun b4 h4 e4 s4 o4 k4 => ?_
  conv => whnf
  refine AllocR.i fun b5 h5 e5 s5 o5 k5 => ?_
  have k05 := k3.trans (k4.trans k5)
  have A5 := A.on k05
  conv => whnf
  refine StoreR.i A5.obj (Nat.le_of_ble_eq_true rfl) (by simp [blocksOf]) fun h6 s6 o6 k6 => ?_
  conv => whnf
  refine StoreR.i o6 (Nat.le_of_ble_eq_true rfl) (by simp [blocksOf]) fun h7 s7 o7 k7 => ?_
  conv => whnf
  refine StoreR.i o7 (Nat.le_of_ble_eq_true rfl) (by simp [blocksOf]) fun h8 s8 o8 k8 => ?_
  conv => whnf
  have kv : Keeps [V.v] h5 h8 := k6.trans (k7.trans k8)
  have o8' : h8[V.v]? = some (.cells ⟨[.pointer (some ⟨V.mem.m, 0, none⟩), .map (some b3), .map (some b4), .map (some b5), .map V.ab, .map V.anb]⟩ 69 (0, 0)) := o8
  have hv : V.v < h.size := obj_lt A.obj
  have lt : ∀ b ∈ V.mem.blocks ++ (V.ab.toList ++ V.anb.toList), b < h.size ∧ b ≠ V.v := by
    intro b hb
    refine ⟨A.blt b (by simp only [VL.blocks, List.mem_cons]; exact .inr (.inr (.inr (.inr hb)))), ?_⟩
    rcases List.mem_append.1 hb with hb | hb
    · intro e; exact A.ap2 V.v (by simp) (e ▸ hb)
    · exact (A.ap3 b hb).2.2.2
  refine ⟨(k05.mono (by simp)).trans kv, b3, b4, b5, by omega, by omega, by omega, ?_⟩
  exact {
    mem := A5.mem.keep kv (fun b hb => by simpa using (lt b (by simp [hb])).2)
    obj := o8'
    own := ⟨[], ((MapL.new o3).keep (k4.trans k5) (by simp)).keep kv (by simp; omega), fun a => rfl, fun a ha => absurd rfl ha⟩
    seen := ((MapL.new o4).keep k5 (by simp)).keep kv (by simp; omega)
    mine := (MapL.new o5).keep kv (by simp; omega)
    away := A5.away.keep kv (fun b hb => by simpa using (lt b (by simp [hb])).2)
    awayN := A5.awayN.keep kv (fun b hb => by simpa using (lt b (by simp [hb])).2)
    ap1 := by show b3 ≠ b4 ∧ b3 ≠ b5 ∧ b4 ≠ b5; omega
    ap2 := fun b hb hx => by
      have := lt b (List.mem_append_left _ hx)
      simp only [List.mem_cons, List.not_mem_nil, or_false] at hb
      omega
    ap3 := fun r hr => by
      have := lt r (List.mem_append_right _ hr)
      show r ≠ b3 ∧ r ≠ b4 ∧ r ≠ b5 ∧ r ≠ V.v
      omega }

theorem sowner_spec {h : Heap} {v : Nat} (k : Int) : CallH Tryz.prog 51 [.pointer (some ⟨v, 0, none⟩), .int .i64 k] h (fun v h' => Keeps [] h h' ∧ v = .tuple #[.int .i64 (if 0 ≤ k ∧ k < 96 then 200 + k * 1 else 0), .int .i64 (if 0 ≤ k ∧ k < 96 then 0 else 1)]) := by
  refine call_of hmix Tryz.func51 rfl ok51 (by simp [Tryz.f51]) ?_
  conv => whnf
  refine CallR.i (ownerAt_spec k h) fun v h1 k1 hv => ?_
  subst hv
  conv => whnf
  refine MeetR.pass ?_
  conv => whnf
  refine IfR.f rfl ?_
  conv => whnf
  exact ⟨k1, rfl⟩

theorem open_owner {k : Int} (h : 0 ≤ k ∧ k < 96) : openW (200 + k) = true := by simp [openW]; omega

/-- a block is given back -/
def dropP (X : VS) (k : Int) : Int × VS :=
  if 0 ≤ k ∧ k < 96 then (if X.now (200 + k) = 0 then (15, X) else (0, { X with now := upd X.now (200 + k) 0 })) else (1, X)

theorem drop_spec {h : Heap} {V : VL} {M : MemS} {X : VS} (A : At h V M X) (k : Int) : CallH Tryz.prog 46 [.pointer (some ⟨V.v, 0, none⟩), .int .i64 k] h (fun v h' => Keeps [V.ob] h h' ∧ v = .int .i64 (dropP X k).1 ∧ At h' V M (dropP X k).2) := by
  refine call_of hmix Tryz.func46 rfl ok46 (by simp [Tryz.f46]) ?_
  conv => whnf
  refine CallR.i (sowner_spec k) fun v h1 k1 hv => ?_
  subst hv
  have A1 := A.on k1
  conv => whnf
  refine IfR.i (fun hc => ?_) (fun hc => ?_)
  · have hk : ¬ (0 ≤ k ∧ k < 96) := fun hk => by rw [if_pos hk] at hc; simp at hc
    conv => whnf
    unfold dropP
    rw [if_neg hk, if_neg hk]
    exact ⟨k1.mono (by simp), rfl, A1⟩
  · have hk : 0 ≤ k ∧ k < 96 := Classical.byContradiction fun hk => by rw [if_neg hk] at hc; simp at hc
    rw [if_pos hk, Int.mul_one]
    conv => whnf
    refine CallR.i (vread_spec A1 (200 + k)) fun v h2 k2 hv => ?_
    subst hv
    have A2 := A1.on k2
    conv => whnf
    refine IfR.i (fun hd => ?_) (fun hd => ?_)
    · have hn : X.now (200 + k) = 0 := by simpa [wv_zero] using hd
      conv => whnf
      unfold dropP
      rw [if_pos hk, if_pos hn]
      exact ⟨(k1.trans k2).mono (by simp), rfl, A2⟩
    · have hn : ¬ X.now (200 + k) = 0 := by simpa [wv_zero] using hd
      conv => whnf
      refine CallR.m (vwrite_spec A2 (200 + k) 0) (by simp [blocksOf]) fun v h3 k3 hv => ?_
      obtain ⟨rfl, A3⟩ := hv
      rw [if_pos (open_owner hk)] at A3
      conv => whnf
      unfold dropP
      rw [if_pos hk, if_neg hn, if_pos (open_owner hk)]
      exact ⟨((k1.trans k2).mono (by simp)).trans k3, rfl, A3⟩

/-- the file that has a block -/
def ownerP (X : VS) (k : Int) : Int × Int :=
  if 0 ≤ k ∧ k < 96 then (if 24 < (X.now (200 + k)).toNat then (0, 15) else (((X.now (200 + k)).toNat : Int) - 1, 0)) else (0, 1)

theorem owner_spec {h : Heap} {V : VL} {M : MemS} {X : VS} (A : At h V M X) (k : Int) : CallH Tryz.prog 24 [.pointer (some ⟨V.v, 0, none⟩), .int .i64 k] h (fun v h' => Keeps [] h h' ∧ v = .tuple #[.int .i64 (ownerP X k).1, .int .i64 (ownerP X k).2]) := by
  refine call_of hmix Tryz.func24 rfl ok24 (by simp [Tryz.f24]) ?_
  conv => whnf
  refine CallR.i (sowner_spec k) fun v h1 k1 hv => ?_
  subst hv
  have A1 := A.on k1
  conv => whnf
  refine IfR.i (fun hc => ?_) (fun hc => ?_)
  · have hk : ¬ (0 ≤ k ∧ k < 96) := fun hk => by rw [if_pos hk] at hc; simp at hc
    conv => whnf
    unfold ownerP
    rw [if_neg hk, if_neg hk]
    exact ⟨k1, rfl⟩
  · have hk : 0 ≤ k ∧ k < 96 := Classical.byContradiction fun hk => by rw [if_neg hk] at hc; simp at hc
    rw [if_pos hk, if_pos hk, Int.mul_one]
    conv => whnf
    refine CallR.i (vread_spec A1 (200 + k)) fun v h2 k2 hv => ?_
    subst hv
    conv => whnf
    refine IfR.i (fun hd => ?_) (fun hd => ?_)
    · have hn : 24 < (X.now (200 + k)).toNat := by simp at hd; omega
      conv => whnf
      unfold ownerP
      rw [if_pos hk, if_pos hn]
      exact ⟨k1.trans k2, rfl⟩
    · have hn : ¬ 24 < (X.now (200 + k)).toNat := by simp at hd; omega
      conv => whnf
      unfold ownerP
      rw [if_pos hk, if_neg hn]
      refine ⟨k1.trans k2, ?_⟩
      have e1 : IntKind.i64.wrap ((X.now (200 + k)).toNat : Int) = ((X.now (200 + k)).toNat : Int) := wrapI (by omega) (by omega)
      rw [e1, wrapI (by omega) (by omega)]

/-- how many blocks are free, of the first 'n' -/
def freeN (B : Int → UInt64) (X : VS) (n : Nat) : Nat := ((List.range n).filter fun (i : Nat) => freshB B X (i : Int)).length

theorem freeN_succ (B : Int → UInt64) (X : VS) (n : Nat) : freeN B X (n + 1) = freeN B X n + (if freshB B X (n : Int) then 1 else 0) := by
  unfold freeN
  rw [List.range_succ, List.filter_append, List.length_append]
  congr 1
  simp only [List.filter_cons, List.filter_nil]
  split <;> rfl
theorem freeN_le (B : Int → UInt64) (X : VS) (n : Nat) : freeN B X n ≤ n := by
  unfold freeN
  exact Nat.le_trans (List.length_filter_le _ _) (by simp)

theorem free_spec {h : Heap} {V : VL} {M : MemS} {X : VS} (A : At h V M X) : CallH Tryz.prog 10 [.pointer (some ⟨V.v, 0, none⟩)] h (fun v h' => Keeps [] h h' ∧ v = .int .i64 (freeN M.read X 96 : Int)) := by
  refine call_of hmix Tryz.func10 rfl ok10 (by simp [Tryz.f10]) ?_
  conv => whnf
  refine LoopR.on [0, 3, 5] [] (fun i : Nat => [(0, .v (.pointer (some ⟨V.v, 0, none⟩))), (3, .v (.int .i64 (freeN M.read X i : Int))), (5, .v (.int .i64 (i : Int)))]) (fun _ => []) (fun i h' => i ≤ 96 ∧ Keeps [] h h') (fun i => 96 - i) 0 ?_ ?_
  · conv => whnf
    exact ⟨0, rfl, rfl, rfl, by decide, Keeps.refl _ _⟩
  · rintro i h2 ⟨hi, k2⟩
    conv => whnf
    refine IfR.i (fun hc => ?_) (fun hc => ?_)
    · have hi1 : i < 96 := by simp at hc; omega
      have hle := freeN_le M.read X i
      have hs := freeN_succ M.read X i
      conv => whnf
      refine MeetR.pass ?_
      conv => whnf
      refine CallR.i (fresh_spec (A.on k2) (i : Int)) fun v h3 k3 hv => ?_
      subst hv
      conv => whnf
      refine IfR.i (fun hd => ?_) (fun hd => ?_)
      all_goals
        conv => whnf
        refine ⟨96 - (i + 1), by omega, ?_⟩
        conv => whnf
        refine ⟨i + 1, rfl, ?_, rfl, by omega, k2.trans k3⟩
        rw [hd] at hs
        simp only [if_true, Bool.false_eq_true, if_false] at hs
        rw [hs, wrapN (x := (i : Int) + 1) (n := i + 1) (by simp) (by omega)]
        first | rfl | rw [wrapN (x := (freeN M.read X i : Int) + 1) (n := freeN M.read X i + 1) (by simp) (by omega)]
    · conv => whnf
      have hi1 : i = 96 := by simp at hc; omega
      subst hi1
      exact ⟨k2, rfl⟩

/-- the first block that is free, from 'i' on -/
def firstF (B : Int → UInt64) (X : VS) : Nat → Nat → Option Nat
  | 0, _ => none
  | f + 1, i => if freshB B X (i : Int) then some i else firstF B X f (i + 1)

theorem firstF_is {B : Int → UInt64} {X : VS} : ∀ {f i k : Nat}, firstF B X f i = some k → freshB B X (k : Int) = true ∧ i ≤ k ∧ k < i + f
  | 0, i, k, h => by cases h
  | f + 1, i, k, h => by
    simp only [firstF] at h
    split at h
    · simp at h; subst h; exact ⟨by assumption, Nat.le_refl _, by omega⟩
    · have := firstF_is h; exact ⟨this.1, by omega, by omega⟩

def w64 (n : Int) : UInt64 := UInt64.ofNat (n % 18446744073709551616).toNat
theorem w64_toNat (n : Int) : ((w64 n).toNat : Int) = n % 18446744073709551616 := by
  unfold w64
  rw [UInt64.toNat_ofNat']
  omega
theorem wv_w64 (n : Int) : wv (w64 n) = .int .u64 (IntKind.u64.wrap n) := by
  unfold wv
  rw [w64_toNat]
  rfl

/-- a block is taken for a file -/
def takeP (B : Int → UInt64) (X : VS) (node : Int) : Int × Int × VS :=
  if 0 ≤ node ∧ node < 24 then
    (match firstF B X 96 0 with
    | some k => ((k : Int), 0, { X with now := putBlk (upd X.now (200 + (k : Int)) (w64 (node + 1))) (k : Int) [] })
    | none => (0, 9, X))
  else (0, 1, X)

theorem take_spec {h : Heap} {V : VL} {M : MemS} {X : VS} (A : At h V M X) (node : Int) : CallH Tryz.prog 36 [.pointer (some ⟨V.v, 0, none⟩), .int .i64 node] h (fun v h' => Keeps [V.ob] h h' ∧ v = .tuple #[.int .i64 (takeP M.read X node).1, .int .i64 (takeP M.read X node).2.1] ∧ At h' V M (takeP M.read X node).2.2) := by
  refine call_of hmix Tryz.func36 rfl ok36 (by simp [Tryz.f36]) ?_
  conv => whnf
  refine CallR.i (cardAt_spec node h) fun v h1 k1 hv => ?_
  subst hv
  have A1 := A.on k1
  conv => whnf
  refine IfR.i (fun hc => ?_) (fun hc => ?_)
  · have hk : ¬ (0 ≤ node ∧ node < 24) := fun hk => by rw [if_pos hk] at hc; simp [bif_or] at hc
    conv => whnf
    unfold takeP
    rw [if_neg hk]
    exact ⟨k1.mono (by simp), rfl, A1⟩
  · have hk : 0 ≤ node ∧ node < 24 := Classical.byContradiction fun hk => by rw [if_neg hk] at hc; simp [bif_or] at hc
    have hT : takeP M.read X node = (match firstF M.read X 96 0 with
      | some k => ((k : Int), 0, { X with now := putBlk (upd X.now (200 + (k : Int)) (w64 (node + 1))) (k : Int) [] })
      | none => (0, 9, X)) := by unfold takeP; rw [if_pos hk]
    rw [hT]
    clear hT
    conv => whnf
    refine LoopR.on [0, 1, 23] [] (fun i : Nat => [(0, .v (.pointer (some ⟨V.v, 0, none⟩))), (1, .v (.int .i64 node)), (23, .v (.int .i64 (i : Int)))]) (fun _ => []) (fun i h' => i ≤ 96 ∧ Keeps [] h h' ∧ firstF M.read X 96 0 = firstF M.read X (96 - i) i) (fun i => 96 - i) 0 ?_ ?_
    · conv => whnf
      exact ⟨0, rfl, rfl, rfl, by decide, k1, rfl⟩
    · rintro i h2 ⟨hi, k2, hF⟩
      have A2 := A.on k2
      conv => whnf
      refine IfR.i (fun hc => ?_) (fun hc => ?_)
      · have hi1 : i < 96 := by simp at hc; omega
        have hF2 : firstF M.read X (96 - i) i = if freshB M.read X (i : Int) then some i else firstF M.read X (96 - (i + 1)) (i + 1) := by
          rw [show 96 - i = (96 - (i + 1)) + 1 by omega]; rfl
        rw [hF2] at hF
        clear hF2
        conv => whnf
        refine CallR.i (fresh_spec A2 (i : Int)) fun v h3 k3 hv => ?_
        subst hv
        have A3 := A2.on k3
        conv => whnf
        refine IfR.i (fun hd => ?_) (fun hd => ?_)
        · have hd' : freshB M.read X (i : Int) = false := by simpa using hd
          rw [hd'] at hF
          conv => whnf
          refine ⟨96 - (i + 1), by omega, ?_⟩
          conv => whnf
          exact ⟨i + 1, rfl, by rw [wrapN (n := i + 1) (by simp) (by omega)], rfl, by omega, k2.trans k3, by rw [hF, if_neg (by simp)]⟩
        · have hd' : freshB M.read X (i : Int) = true := by simpa using hd
          rw [hd', if_pos rfl] at hF
          rw [hF]
          conv => whnf
          refine CallR.i (ownerAt_spec (i : Int) h3) fun v h4 k4 hv => ?_
          subst hv
          have hib : (0 : Int) ≤ (i : Int) ∧ (i : Int) < 96 := ⟨by omega, by omega⟩
          rw [if_pos hib, Int.mul_one]
          have A4 := A3.on k4
          conv => whnf
          rw [wrapI (x := node + 1) (by omega) (by omega), ← wv_w64]
          refine CallR.m (vwrite_spec A4 (200 + (i : Int)) (w64 (node + 1))) (by simp [blocksOf]) fun v h5 k5 hv => ?_
          obtain ⟨rfl, A5⟩ := hv
          rw [if_pos (open_owner hib)] at A5
          rw [if_pos (open_owner hib)]
          conv => whnf
          refine IfR.f rfl ?_
          conv => whnf
          refine CallR.m (setBlock_spec A5 (i : Int) (Sl.nil (α := UInt64) (a := none) (cap := 0)) (by simp [blkA])) (by simp [blocksOf]) fun v h6 k6 hv => ?_
          obtain ⟨rfl, A6⟩ := hv
          have h3' : (0 : Int) ≤ (i : Int) ∧ (i : Int) < 96 ∧ 0 ≤ 16 := ⟨hib.1, hib.2, by omega⟩
          rw [if_pos h3'] at A6
          rw [if_pos h3']
          conv => whnf
          exact ⟨((k2.trans (k3.trans k4)).mono (by simp)).trans (k5.trans k6), rfl, A6⟩
      · have hi1 : i = 96 := by simp at hc; omega
        subst hi1
        conv => whnf
        rw [hF]
        exact ⟨k2.mono (by simp), rfl, A2⟩
end Go.Proofs.YteambknhlbiajaaGreat
/-
  The engine, for its user: texts as bytes, buffers that are written on behind what a text shares.
-/
set_option linter.all false
namespace Go.Eng
open Go

theorem bytesV_len (s : ByteArray) : (bytesV s).length = s.size := by simp [bytesV]
def bytesL (l : List UInt8) : List Value := l.map fun b => .int .u8 (b.toNat : Int)
theorem bytesV_eq (s : ByteArray) : bytesV s = bytesL s.data.toList := rfl
theorem bytesL_len (l : List UInt8) : (bytesL l).length = l.length := by simp [bytesL]
theorem bytesL_app (a b : List UInt8) : bytesL (a ++ b) = bytesL a ++ bytesL b := by simp [bytesL]

/-- the bytes of a text -/
theorem SemR.bytesOf {P : Program} {src dst e : TypeId} {s : ByteArray} (hs : P.underlying src = some .string) (hd : P.underlying dst = some (.slice e)) (he : P.underlying e = some (.int .u8)) {bs : List Nat} {h : Heap} {K : Value → Heap → Prop}
    (H : ∀ b cap h' r fz, b = h.size → h'.size = h.size + 1 → s.size ≤ cap → h'[b]? = some (.cells ⟨bytesV s ++ r⟩ e fz) → Keeps [] h h' → K (.slice (some ⟨b, 0, none⟩) s.size cap) h') :
    SemR P (convert src dst (.string s)) bs h K := by
  unfold SemR
  intro hlt w hw
  subst hw
  have hr := run_bytes_of_string (P := P) w src dst e s hs hd he
  refine ⟨_, _, hr, ⟨rfl, rfl, rfl⟩, fun b hb => ?_, ?_⟩
  · show (w.heap.push _)[b]? = _
    rw [push_get, if_neg (by have := hlt b hb; omega)]
  · have hc : s.size ≤ grownCap w s.size 0 e := by
      simp only [grownCap, Question.cut]; omega
    refine H w.heap.size _ (w.heap.push _) (List.replicate (grownCap w s.size 0 e - s.size) (.int .u8 0)) ((bytesRow s (grownCap w s.size 0 e)).size, (bytesRow s (grownCap w s.size 0 e)).size + 1) rfl (by simp) hc ?_ (keeps_push _ _)
    rw [push_get, if_pos rfl]
    congr 2
    · apply Array.ext'
      simp [bytesRow, bytesV]

/-- a text out of bytes -/
theorem SemR.textOf {P : Program} {src dst e : TypeId} {b off n cap : Nat} {l : List UInt8} (hs : P.underlying src = some (.slice e)) (he : P.underlying e = some (.int .u8)) (hd : P.underlying dst = some .string) {h : Heap} (hn : n = l.length)
    (hc : ∀ j (hj : j < l.length), Heap.cell? h b (off + j) = some (.int .u8 (l[j].toNat : Int))) {bs : List Nat} {K : Value → Heap → Prop} (H : K (.string ⟨l.toArray⟩) h) :
    SemR P (convert src dst (.slice (some ⟨b, off, none⟩) n cap)) bs h K := by
  unfold SemR
  intro hlt w hw
  subst hw
  subst hn
  exact ⟨_, w, run_convert_bytes_back w src dst e ⟨b, off, none⟩ cap l hs he hd (fun j hj => by rw [addr_add, cell?_eq]; exact hc j hj), SameOut.refl w, fun _ _ => rfl, H⟩
theorem SemR.textNil {P : Program} {src dst e : TypeId} {n cap : Nat} (hs : P.underlying src = some (.slice e)) (he : P.underlying e = some (.int .u8)) (hd : P.underlying dst = some .string) {h : Heap} {bs : List Nat} {K : Value → Heap → Prop} (H : K (.string ⟨#[]⟩) h) :
    SemR P (convert src dst (.slice none n cap)) bs h K := by
  unfold SemR
  intro hlt w hw
  subst hw
  refine ⟨_, w, ?_, SameOut.refl w, fun _ _ => rfl, H⟩
  rw [run_convert_bytes_string w src dst e none n cap hs he hd]
  rfl

/-! ### Buffers -/

theorem store_cellsF {P : Program} {b : Nat} {T : TypeId} {fz : Nat × Nat} : ∀ (vs : List Value) (i off : Nat) (c : List Value) (w : World), (∀ v ∈ vs, v.oneCell' = true) → off + i + vs.length ≤ c.length → fz.2 ≤ off + i →
    w.heap[b]? = some (.cells ⟨c⟩ T fz) → ∃ w', (storeCells ⟨b, off, none⟩ vs i).run P w = .ok () w' ∧ SameOut w w' ∧ w'.heap.size = w.heap.size ∧
      w'.heap[b]? = some (.cells ⟨spliceL (off + i) vs c⟩ T fz) ∧ ∀ b', b' ≠ b → w'.heap[b']? = w.heap[b']?
  | [], i, off, c, w, _, _, _, hb => ⟨w, by simp [storeCells], SameOut.refl w, rfl, by rw [splice_nil]; exact hb, fun _ _ => rfl⟩
  | v :: vs, i, off, c, w, hv, hl, hz, hb => by
    simp only [List.length_cons] at hl
    have hcell : w.cell? ⟨b, off + i, none⟩ = some (c[off + i]'(by omega)) := by
      rw [cell?_eq]; simp [Heap.cell?, hb, show off + i < c.length by omega]
    have hfr : w.frozen? ⟨b, off + i, none⟩ = false := by
      obtain ⟨lo, hi⟩ := fz
      simp [World.frozen?, hb]; intro _; simpa using hz
    have hrun := run_store P w ⟨b, off + i, none⟩ v .plain (hv v (by simp))
    rw [hcell] at hrun
    simp only [hfr, Bool.false_eq_true, if_false] at hrun
    have hb2 : (w.setCell ⟨b, off + i, none⟩ v).heap[b]? = some (.cells ⟨c.set (off + i) v⟩ T fz) := by
      rw [setCell_heap, Array.getElem?_modify]
      simp [hb, setObj1, Array.setIfInBounds, show off + i < c.length by omega]
    obtain ⟨w', h1, h2, h3, h4, h5⟩ := store_cellsF vs (i + 1) off (c.set (off + i) v) (w.setCell ⟨b, off + i, none⟩ v) (fun u hu => hv u (by simp [hu])) (by simp; omega) (by omega) hb2
    refine ⟨w', ?_, ⟨h2.1, h2.2⟩, ?_, ?_, fun b' hne => ?_⟩
    · simp only [storeCells, Sem.run_bind, addr_add]
      rw [hrun]
      simp only [Result.andThen_ok]
      exact h1
    · rw [h3, setCell_heap]; simp
    · rw [h4, show off + (i + 1) = off + i + 1 by omega, splice_cons v vs (off + i) c (by omega)]
    · rw [h5 b' hne, setCell_heap, Array.getElem?_modify, if_neg (Ne.symm hne)]

/-- a slice of bytes from its block's first cell on, that nobody else writes -/
def Buf (h : Heap) (e : TypeId) (a : Option Addr) (n c : Nat) (s : List UInt8) : Prop :=
  (a = none ∧ n = 0 ∧ c = 0 ∧ s = []) ∨
  ∃ g cs fz, a = some ⟨g, 0, none⟩ ∧ h[g]? = some (.cells ⟨cs⟩ e fz) ∧ cs.take n = bytesL s ∧ cs.length = c ∧ n = s.length ∧ n ≤ c ∧ fz.2 ≤ n ∧ 0 < c

theorem Buf.keep {M : List Nat} {h h' : Heap} {e : TypeId} {a : Option Addr} {n c : Nat} {s : List UInt8} (o : Buf h e a n c s) (k : Keeps M h h') (hm : ∀ b ∈ blkA a, b ∉ M) : Buf h' e a n c s := by
  rcases o with o | ⟨g, cs, fz, h1, h2, h3⟩
  · exact .inl o
  · exact .inr ⟨g, cs, fz, h1, k.obj h2 (hm g (by simp [h1, blkA])), h3⟩
theorem Buf.lt {h : Heap} {e : TypeId} {a : Option Addr} {n c : Nat} {s : List UInt8} (o : Buf h e a n c s) : ∀ b ∈ blkA a, b < h.size := by
  intro b hb
  rcases o with ⟨rfl, _⟩ | ⟨g, cs, fz, rfl, h2, _⟩
  · cases hb
  · simp [blkA] at hb; subst hb; exact obj_lt h2
theorem Buf.len {h : Heap} {e : TypeId} {a : Option Addr} {n c : Nat} {s : List UInt8} (o : Buf h e a n c s) : n = s.length ∧ n ≤ c := by
  rcases o with ⟨_, rfl, rfl, rfl⟩ | ⟨g, cs, fz, _, _, _, _, h5, h6, _, _⟩
  · exact ⟨rfl, Nat.le_refl _⟩
  · exact ⟨h5, h6⟩

theorem allOne_bytes : ∀ l : List UInt8, allOne (bytesL l) = true
  | [] => rfl
  | x :: l => by simpa [allOne, oneV, bytesL] using allOne_bytes l

theorem firstCells_str {P : Program} (w : World) (size : Nat) (s : ByteArray) : (Builtin.firstCells size s.size (.string s)).run P w = .ok ⟨bytesV s⟩ w := by
  simp [Builtin.firstCells, bytesV]
  apply Array.ext'
  simp

theorem SemR.appendStr {P : Program} {sT xT ty e : TypeId} {i : TypeInfo} {z : Value} (hu : P.underlying sT = some (.slice e)) (hx : P.underlying xT = some .string) (hi : P.info? e = some i) (hsz : i.size = 1) (hby : i.bytes = 1) (hz : i.zero = some z) (hzc : cellsOf z = [z])
    {h : Heap} {a : Option Addr} {n c : Nat} {l : List UInt8} {s : ByteArray} (o : Buf h e a n c l) (hbig : n + s.size ≤ 70368744177664) {bs : List Nat} (hbs : ∀ b ∈ blkA a, b ∉ bs) {K : Value → Heap → Prop}
    (H : ∀ a' c' h', Buf h' e a' (n + s.size) c' (l ++ s.data.toList) → Keeps (blkA a) h h' → (∀ b ∈ blkA a', b ∈ blkA a ∨ h.size ≤ b) → c ≤ c' → (n + s.size ≤ c → c' = c ∧ a' = a) → K (.slice a' (n + s.size) c') h') :
    SemR P (Builtin.append_ #[sT, xT] ty ⟨[.slice a n c, .string s]⟩) bs h K := by
  unfold SemR
  intro hlt w hw
  subst hw
  have hsize : (sizeOf e).run P w = .ok 1 w := by simp [sizeOf, typeInfo_run P e w hi, hsz]
  have hnew := firstCells_str (P := P) w 1 s
  have hlen := o.len
  by_cases hfit : n + s.size ≤ c
  · rcases o with ⟨rfl, rfl, rfl, rfl⟩ | ⟨g, cs, fz, rfl, h2, h3, h4, h5, h6, h7, h8⟩
    · have hn0 : s.size = 0 := by omega
      have hb0 : bytesV s = [] := List.eq_nil_of_length_eq_zero (by rw [bytesV_len]; exact hn0)
      have hd0 : s.data.toList = [] := List.eq_nil_of_length_eq_zero (by rw [Array.length_toList]; exact hn0)
      have hnew0 := hnew
      rw [hn0, hb0] at hnew0
      refine ⟨.slice none (0 + s.size) 0, w, ?_, SameOut.refl w, fun b _ => rfl, H none 0 w.heap (.inl ⟨rfl, by omega, rfl, by simp [hd0]⟩) (Keeps.refl _ _) (by simp [blkA]) (Nat.le_refl _) (fun _ => ⟨rfl, rfl⟩)⟩
      simp [Builtin.append_, underlying_run P sT w hu, underlying_run P xT w hx, hsize, Builtin.lenOf, hn0, hnew0]
    · have hroom : n + (bytesV s).length ≤ cs.length := by rw [bytesV_len, h4]; exact hfit
      obtain ⟨w', r1, r2, r3, r4, r5⟩ := store_cellsF (P := P) (bytesV s) 0 n cs w (allOne_one' (by rw [bytesV_eq]; exact allOne_bytes _)) (by simpa using hroom) (by simpa using h7) h2
      refine ⟨_, w', ?_, r2, fun b' hb' => r5 b' (fun e => hbs g (by simp [blkA]) (e ▸ hb')), H (some ⟨g, 0, none⟩) c w'.heap (.inr ⟨g, _, fz, rfl, r4, ?_, ?_, ?_, hfit, by omega, h8⟩) ⟨by omega, fun b' _ hb' => r5 b' (by simpa [blkA] using hb')⟩ (fun b' hb' => .inl hb') (Nat.le_refl _) (fun _ => ⟨rfl, rfl⟩)⟩
      · simp [Builtin.append_, underlying_run P sT w hu, hsize, underlying_run P xT w hx, Builtin.lenOf, hfit, hnew, addr_add]
        rw [r1]
        rfl
      · have := splice_take n (bytesV s) cs (by omega)
        simp only [Nat.add_zero]
        rw [bytesV_len] at this
        rw [this, h3, bytesL_app, bytesV_eq]
      · simp only [Nat.add_zero, spliceL_length]; exact h4
      · simp [h5]
  · have hcap : c < n + s.size := by omega
    have hold : ∀ w' : World, w'.heap = w.heap → (Builtin.firstCells 1 n (.slice a n c)).run P w' = .ok ⟨bytesL l⟩ w' := by
      intro w' hw'
      rcases o with ⟨rfl, rfl, rfl, rfl⟩ | ⟨g, cs, fz, rfl, h2, h3, h4, h5, h6, h7, h8⟩
      · simp [Builtin.firstCells, bytesL]
      · simp only [Builtin.firstCells]
        refine loadCells_run (by rw [bytesL_len]; omega) (fun k hk => ?_)
        rw [Nat.mul_one] at hk
        simp only [Heap.cell?, hw', h2, Nat.zero_add]
        rw [← h3]
        simp [hk, show k < cs.length by omega]
    have hncap := nextcap_le (n + s.size) c hcap
    obtain ⟨nc, hnc, hle, hforced⟩ := cut_cap (n + s.size) c e (w.tape w.drawn (.appendCap (n + s.size) c e)) (by omega)
    obtain ⟨zl, hzl, hzlen⟩ := zeroCells_eq z.cells (nc - (n + s.size))
    have hz' : z.cells.size = 1 := by rw [cellsOf_eq, hzc]; rfl
    let w2 : World := { w.drew with heap := w.heap.push (.cells ⟨bytesL l ++ bytesV s ++ zl⟩ e) }
    refine ⟨.slice (some ⟨w.heap.size, 0, none⟩) (n + s.size) nc, w2, ?_, ⟨rfl, rfl, rfl⟩, fun b hb => ?_, H _ nc w2.heap (.inr ⟨w.heap.size, bytesL l ++ bytesV s ++ zl, (0, 0), rfl, ?_, ?_, ?_, ?_, hle, Nat.zero_le _, by omega⟩) ?_ ?_ (by omega) (fun h => absurd h hfit)⟩
    · have hti : (typeInfo e).run P w = .ok i w := typeInfo_run P e w hi
      have hti2 : (typeInfo e).run P w.drew = .ok i w.drew := typeInfo_run P e w.drew hi
      have hold2 := hold w.drew rfl
      have hnew2 := firstCells_str (P := P) w.drew 1 s
      have hzv2 : (zeroValue e).run P w.drew = .ok z w.drew := by simp [zeroValue, typeInfo_run P e w.drew hi, hz]
      have hb2 : ¬ (281474976710656 < Builtin.nextslicecap (n + s.size) c) := by omega
      have hbz : ¬ (i.bytes = 0) := by omega
      simp [Builtin.append_, underlying_run P sT w hu, hsize, underlying_run P xT w hx, Builtin.lenOf, hfit, hti, hbz, hb2, hby, hforced, hnc, hti2, hold2, hnew2, hzv2, hzl, newRow, w2]
      rfl
    · show (w.heap.push _)[b]? = _
      rw [push_get, if_neg (by have := hlt b hb; omega)]
    · show (w.heap.push _)[w.heap.size]? = _
      rw [push_get, if_pos rfl]
    · rw [bytesL_app, ← bytesV_eq]
      have : (bytesL l ++ bytesV s).length = n + s.size := by simp [bytesL_len, bytesV_len, hlen.1]
      rw [← this, List.take_left]
    · simp [bytesL_len, bytesV_len, hzlen, hz']; omega
    · simp [hlen.1]
    · exact ⟨by simp [w2], fun b hb _ => by show (w.heap.push _)[b]? = _; rw [push_get, if_neg (by omega)]⟩
    · intro b hb; right; simp [blkA] at hb; omega

/-! ### Functions without a body -/

theorem SemR.ext {P : Program} {f : FuncId} {fn : Func} {e : Array Value → Sem Value} (hf : P.funcs[f]? = some fn) (hname : (fn.name == "runtime.NumGoroutine") = false) (hb : fn.body.isNone = true) (hn : Extern.findNext fn = none) (he : Extern.find fn = some e)
    {args : Array Value} {bs : List Nat} {h : Heap} {K : Value → Heap → Prop} (H : SemR P (e args) bs h K) : SemR P (extCall f args) bs h K := by
  unfold SemR at H ⊢
  intro hlt w hw
  obtain ⟨v, w', h1, h2⟩ := H hlt w hw
  refine ⟨v, w', ?_, h2⟩
  unfold extCall
  simp only [Sem.run_bind, run_callFunc_extern hf hname hb hn he, h1, Result.andThen_ok]
  simp

theorem SemR.pure {P : Program} {α : Type} {s : Sem α} {bs : List Nat} {h : Heap} {K : α → Heap → Prop} {v : α} (hs : ∀ w : World, w.heap = h → s.run P w = .ok v w) (H : K v h) : SemR P s bs h K := by
  unfold SemR
  intro hlt w hw
  exact ⟨v, w, hs w hw, SameOut.refl w, fun b _ => by rw [hw], by rw [hw]; exact H⟩

/-- a buffer of whatever bytes -/
theorem SemR.noZero {P : Program} {ps : Array TypeId} {t e : TypeId} (ht : P.underlying t = some (.slice e)) {n : Nat} (hn : n ≤ 281474976710656) (hp : 0 < n) {bs : List Nat} {h : Heap} {K : Value → Heap → Prop}
    (H : ∀ b c cs h', b = h.size → h'.size = h.size + 1 → h'[b]? = some (.cells ⟨cs⟩ e (0, 0)) → cs.length = c → n ≤ c → Keeps [] h h' → K (.slice (some ⟨b, 0, none⟩) n c) h') :
    SemR P (Extern.BytealgMakeNoZero.makeNoZero ps #[t] #[.int .i64 (n : Int)]) bs h K := by
  unfold SemR
  intro hlt w hw
  subst hw
  obtain ⟨cs, h1, h2, _⟩ := Lib.run_makeNoZero (P := P) w ps t e ht n hn
  refine ⟨_, _, h1, ⟨rfl, rfl, rfl⟩, fun b hb => ?_, H w.heap.size cs.size cs.toList (w.heap.push (.cells cs e)) rfl (by simp) (by rw [push_get, if_pos rfl]) (by simp) h2 (keeps_push _ _)⟩
  show (w.heap.push _)[b]? = _
  rw [push_get, if_neg (by have := hlt b hb; omega)]

theorem BothR.i {a b : Prop} (h1 : a) (h2 : b) : BothR a b := by unfold BothR; exact ⟨h1, h2⟩

theorem freeze_heap (w : World) (g : Nat) {n : Nat} (hn : n ≠ 0) {cs : Array Value} {e : TypeId} {fz : Nat × Nat} (hg : w.heap[g]? = some (.cells cs e fz)) :
    (w.freeze ⟨g, 0, none⟩ n).heap.size = w.heap.size ∧ (∃ fz', (w.freeze ⟨g, 0, none⟩ n).heap[g]? = some (.cells cs e fz') ∧ fz'.2 ≤ max fz.2 n) ∧ ∀ b, b ≠ g → (w.freeze ⟨g, 0, none⟩ n).heap[b]? = w.heap[b]? := by
  unfold World.freeze
  rw [if_neg hn]
  obtain ⟨lo, hi⟩ := fz
  refine ⟨by simp, ⟨if lo == hi then (0, 0 + n) else (min lo 0, max hi (0 + n)), ?_, ?_⟩, fun b hb => ?_⟩
  · simp only [Array.getElem?_modify, if_true, hg, Option.map_some]
  · split
    · simp; omega
    · simp
  · simp only [Array.getElem?_modify]
    rw [if_neg (fun e => hb e.symm)]

theorem SemR.unsafeStr {P : Program} {pt it ty e : TypeId} (hp : P.underlying pt = some (.pointer e)) (hc : P.cellsOf e = 1) {h : Heap} {g n c : Nat} {l : List UInt8} (o : Buf h e (some ⟨g, 0, none⟩) n c l) (h63 : l.length ≤ 70368744177664) {bs : List Nat} (hg : g ∉ bs) {K : Value → Heap → Prop}
    (H : ∀ h', Buf h' e (some ⟨g, 0, none⟩) n c l → h'.size = h.size → Keeps [g] h h' → K (.string ⟨l.toArray⟩) h') :
    SemR P (Builtin.unsafeString_ #[pt, it] ty ⟨[.pointer (some ⟨g, 0, none⟩), .int .i64 (n : Int)]⟩) bs h K := by
  rcases o with ⟨h1, _⟩ | ⟨g', cs, fz, h1, h2, h3, h4, h5, h6, h7, h8⟩
  · cases h1
  simp only [Option.some.injEq, Addr.mk.injEq, and_true] at h1
  subst h1
  subst h5
  by_cases h0 : l = []
  · subst h0
    refine SemR.pure (fun w _ => Lib.run_unsafeString_none w pt it ty (some ⟨g, 0, none⟩)) ?_
    exact H h (.inr ⟨g, cs, fz, rfl, h2, h3, h4, rfl, h6, h7, h8⟩) rfl (Keeps.refl _ _)
  · unfold SemR
    intro hlt w hw
    subst hw
    have hl0 : l.length ≠ 0 := by simpa using h0
    have hsh : w.shape? g = some (e, cs.length) := by unfold World.shape?; rw [h2]; simp
    have hr := Lib.run_unsafeString_row (P := P) w pt it ty e hp hc g cs.length hsh l h0 (by omega) (by omega) (fun j x hj => by
      rw [addr_add, Nat.zero_add, cell?_eq]
      simp only [Heap.cell?, h2]
      have hj' : j < l.length := (List.getElem?_eq_some_iff.1 hj).1
      have h9 : (cs.take l.length)[j]? = (bytesL l)[j]? := by rw [h3]
      rw [List.getElem?_take, if_pos hj'] at h9
      simp only [List.getElem?_toArray]
      rw [h9]
      simp [bytesL, hj])
    obtain ⟨q1, ⟨fz', q2, q3⟩, q4⟩ := freeze_heap w g hl0 h2
    refine ⟨_, _, hr, ?_, fun b hb => q4 b (fun x => hg (x ▸ hb)), H _ (.inr ⟨g, cs, fz', rfl, q2, h3, h4, rfl, h6, by omega, h8⟩) q1 ⟨by omega, fun b _ hb => q4 b (by simpa using hb)⟩⟩
    unfold World.freeze
    rw [if_neg hl0]
    exact ⟨rfl, rfl, rfl⟩

theorem slA_zero (a : Option Addr) (c s : Nat) : slA a c 0 s = a := by
  unfold slA; split
  · rfl
  · cases a <;> simp [Addr.add]

/-- 'append(nil, make(n)...)' -/
theorem SemR.appendMake {P : Program} {sT nT ty e : TypeId} {i : TypeInfo} {z : Value} {k : IntKind} (hu : P.underlying sT = some (.slice e)) (hx : P.underlying nT = some (.int k)) (hi : P.info? e = some i) (hsz : i.size = 1) {by_ : Nat} (hby : i.bytes = by_) (hz : i.zero = some z) (hzc : cellsOf z = [z])
    {n : Nat} (hp : 0 < n) (hbig : (2 * n + 192) * by_ ≤ 281474976710656) (hb0 : 0 < by_) {h : Heap} {bs : List Nat} {K : Value → Heap → Prop}
    (H : ∀ b c h', b = h.size → h'.size = h.size + 1 → h'[b]? = some (.cells ⟨List.replicate c z⟩ e (0, 0)) → n ≤ c → Keeps [] h h' → K (.slice (some ⟨b, 0, none⟩) n c) h') :
    SemR P (Builtin.append_ #[sT, nT] ty ⟨[.slice none 0 0, .int .i64 (n : Int)]⟩) bs h K := by
  unfold SemR
  intro hlt w hw
  subst hw
  have hn1 : n ≤ 281474976710656 := by
    have : 2 * n + 192 ≤ (2 * n + 192) * by_ := Nat.le_mul_of_pos_right _ hb0
    omega
  have hn2 : n * by_ ≤ 281474976710656 := by
    have := Nat.mul_le_mul_right by_ (show n ≤ 2 * n + 192 by omega)
    omega
  have hncap := nextcap_le n 0 hp
  have hn3 : Builtin.nextslicecap n 0 * by_ ≤ 281474976710656 := by
    have := Nat.mul_le_mul_right by_ hncap
    omega
  obtain ⟨nc, hnc, hle, hforced⟩ := cut_cap n 0 e (w.tape w.drawn (.appendCap n 0 e)) (by omega)
  have hz' : z.cells = #[z] := by rw [cellsOf_eq, hzc]
  have zc : ∀ m, Builtin.zeroCells z.cells m = ⟨List.replicate m z⟩ := by
    intro m
    rw [hz']
    apply Array.ext'
    simp only [Builtin.zeroCells]
    apply List.ext_getElem
    · simp
    · intro k k1 k2
      simp [Nat.mod_one]
  have hti : (typeInfo e).run P w = .ok i w := typeInfo_run P e w hi
  have hti2 : (typeInfo e).run P w.drew = .ok i w.drew := typeInfo_run P e w.drew hi
  have hsize : (sizeOf e).run P w = .ok 1 w := by simp [sizeOf, typeInfo_run P e w hi, hsz]
  have hzv2 : (zeroValue e).run P w.drew = .ok z w.drew := by simp [zeroValue, typeInfo_run P e w.drew hi, hz]
  have hwrap : IntKind.i64.wrap (n : Int) = (n : Int) := wrapN rfl (by omega)
  have c1 : ¬ (281474976710656 < (n : Int) * (by_ : Int)) := by
    have : (n : Int) * (by_ : Int) = ((n * by_ : Nat) : Int) := by simp
    rw [this]; omega
  have c2 : ¬ (281474976710656 < Builtin.nextslicecap n 0 * by_) := by omega
  have c3 : ¬ (9223372036854775807 < (n : Int)) := by omega
  have c4 : ¬ ((n : Int) < 0) := by omega
  have c5 : ¬ (n = 0) := by omega
  refine ⟨.slice (some ⟨w.heap.size, 0, none⟩) n nc, { w.drew with heap := w.heap.push (.cells ⟨List.replicate nc z⟩ e) }, ?_, ⟨rfl, rfl, rfl⟩, fun b hb => ?_, H w.heap.size nc (w.heap.push (.cells ⟨List.replicate nc z⟩ e)) rfl (by simp) (by rw [push_get, if_pos rfl]) hle (keeps_push _ _)⟩
  · have hb0' : ¬ (by_ = 0) := by omega
    simp [Builtin.append_, underlying_run P sT w hu, underlying_run P nT w hx, hsize, asInt, asIntOf, hwrap, c4, hti, hby, c1, c2, c3, c5, hb0', hforced, hnc, hti2, hzv2, zc, Builtin.firstCells, newRow]
    rw [show n + (nc - n) = nc by omega]
    rfl
  · show (w.heap.push _)[b]? = _
    rw [push_get, if_neg (by have := hlt b hb; omega)]

/-- nothing is appended -/
theorem SemR.append0 {P : Program} {sT xT ty e e' : TypeId} {i : TypeInfo} (hu : P.underlying sT = some (.slice e)) (hx : P.underlying xT = some (.slice e')) (hi : P.info? e = some i) {h : Heap} {a x : Option Addr} {n c xc : Nat} (hc : n ≤ c) {bs : List Nat} {K : Value → Heap → Prop} (H : K (.slice a n c) h) :
    SemR P (Builtin.append_ #[sT, xT] ty ⟨[.slice a n c, .slice x 0 xc]⟩) bs h K := by
  refine SemR.pure (fun w hw => ?_) H
  have hsize : (sizeOf e).run P w = .ok i.size w := by simp [sizeOf, typeInfo_run P e w hi]
  cases a <;> cases x <;> simp [Builtin.append_, underlying_run P sT w hu, underlying_run P xT w hx, hsize, Builtin.lenOf, hc, Builtin.firstCells, loadCells, loadCellsFrom, storeCells]
end Go.Eng
/-
  Layer 1: texts as words.
-/
set_option linter.all false
set_option maxRecDepth 100000
namespace Go.Proofs.YteambknhlbiajaaGreat
open Go Go.Eng

/-- a word's byte -/
def byteW (w : UInt64) (i : Nat) : UInt8 := UInt8.ofNat (w.toNat / 2 ^ (8 * (i % 8)))
/-- the first bytes of words -/
def untextL (ws : List UInt64) (n : Nat) : List UInt8 := (List.range n).map fun i => byteW (ws[i / 8]?.getD 0) i

theorem wrap_u8 (n : Int) : IntKind.u8.wrap n = n % 256 := by simp [IntKind.wrap, IntKind.bits, IntKind.signed]
theorem wrap_u64' (n : Int) : IntKind.u64.wrap n = n % 18446744073709551616 := by simp [IntKind.wrap, IntKind.bits, IntKind.signed]

theorem shift_amt (i : Nat) (hi : i ≤ 1000000) : IntKind.i64.wrap (8 * ((i : Int).tmod 8)) = ((8 * (i % 8) : Nat) : Int) := by
  have : (i : Int).tmod 8 = ((i % 8 : Nat) : Int) := by rw [Int.tmod_eq_emod_of_nonneg (by omega)]; omega
  rw [this, wrapN (n := 8 * (i % 8)) (by omega) (by omega)]
theorem quo_amt (i : Nat) (hi : i ≤ 1000000) : IntKind.i64.wrap ((i : Int).tdiv 8) = ((i / 8 : Nat) : Int) := by
  have : (i : Int).tdiv 8 = ((i / 8 : Nat) : Int) := by rw [Int.tdiv_eq_ediv_of_nonneg (by omega)]; omega
  rw [this, wrapN (n := i / 8) (by omega) (by omega)]

theorem byte_val (w : UInt64) (i : Nat) : Value.int .u8 (IntKind.u8.wrap ((w.toNat : Int).fdiv (2 ^ (min ((8 * (i % 8) : Nat) : Int).toNat 64)))) = .int .u8 ((byteW w i).toNat : Int) := by
  congr 1
  rw [wrap_u8]
  have h1 : min ((8 * (i % 8) : Nat) : Int).toNat 64 = 8 * (i % 8) := by omega
  rw [h1, Int.fdiv_eq_ediv_of_nonneg _ (by exact Int.le_of_lt (Int.pow_pos (by decide)))]
  unfold byteW
  rw [UInt8.toNat_ofNat']
  have : (2 : Int) ^ (8 * (i % 8)) = ((2 ^ (8 * (i % 8)) : Nat) : Int) := by simp
  rw [this]
  norm_cast

theorem untext_spec {h : Heap} {a : Option Addr} {m c : Nat} {ws : List UInt64} (S : Sl h a m c ws) (n : Nat) (hn : n ≤ 8 * m) (hm : m ≤ 1000) : CallH Tryz.prog 63 [.slice a m c, .int .i64 (n : Int)] h (fun v h' => Keeps [] h h' ∧ v = .tuple #[.string ⟨(untextL ws n).toArray⟩, .int .i64 0]) := by
  refine call_of hmix Tryz.func63 rfl ok63 (by simp [Tryz.f63]) ?_
  conv => whnf
  have hl := S.hlen
  have e8 : IntKind.i64.wrap (8 * (m : Int)) = ((8 * m : Nat) : Int) := wrapN (by omega) (by omega)
  refine IfR.f (by simp [bif_or, e8]; omega) ?_
  conv => whnf
  refine SemR.make (n := n) rfl rfl rfl rfl rfl (by show 1 * n ≤ _; omega) (by omega) fun b1 h1 e1 s1 o1 k1 => ?_
  conv => whnf
  refine LoopR.on [0, 6, 20, 21] [] (fun i : Nat => [(0, .v (.slice a m c)), (6, .v (.slice (some ⟨b1, 0, none⟩) n n)), (20, .v (.int .i64 (n : Int))), (21, .v (.int .i64 (i : Int)))]) (fun _ => [])
    (fun i h' => i ≤ n ∧ Keeps [] h h' ∧ h1.size ≤ h'.size ∧ h'[b1]? = some (.cells ⟨bytesL (untextL ws i) ++ List.replicate (n - i) (.int .u8 0)⟩ 5 (0, 0))) (fun i => n - i) 0 ?_ ?_
  · conv => whnf
    exact ⟨0, rfl, rfl, rfl, Nat.zero_le _, k1, Nat.le_refl _, o1⟩
  · rintro i h2 ⟨hi, k2, z2, o2⟩
    conv => whnf
    refine IfR.i (fun hc => ?_) (fun hc => ?_)
    · have hi1 : i < n := by simp at hc; omega
      conv => whnf
      refine Need.i (by decide) ?_
      have hi8 : i / 8 < ws.length := by omega
      obtain ⟨b, off, hb, _, hcell⟩ := (S.keep k2).at1 (i / 8) hi8
      conv => whnf
      refine IdxS.i (i / 8) (quo_amt i (by omega)) (by omega) hb ?_
      conv => whnf
      refine LoadR.i hcell ?_
      conv => whnf
      refine Need.i (by decide) ?_
      conv => whnf
      refine Need.i (by rw [shift_amt i (by omega)]; omega) ?_
      conv => whnf
      refine IdxS.i i rfl hi1 rfl ?_
      have er : List.replicate (n - i) (Value.int .u8 0) = .int .u8 0 :: List.replicate (n - (i + 1)) (.int .u8 0) := by
        rw [show n - i = (n - (i + 1)) + 1 by omega, List.replicate_succ]
      rw [er] at o2
      have hlen : (bytesL (untextL ws i)).length = i := by simp [bytesL_len, untextL]
      conv => whnf
      refine StoreR.i o2 ?_ (by simp [blocksOf]) fun h4 s4 o4 k4 => ?_
      · simp only [List.length_append, List.length_cons, hlen, List.length_replicate]
        show 0 + i * 1 + 1 ≤ _
        omega
      conv => whnf
      refine ⟨n - (i + 1), by omega, ?_⟩
      conv => whnf
      refine ⟨i + 1, rfl, by rw [wrapN (n := i + 1) (by simp) (by omega)], rfl, by omega, k2.new1 k4 (by omega), by omega, ?_⟩
      rw [shift_amt i (by omega)] at o4
      have e4 : spliceL (0 + i * 1) [Value.int .u8 ((byteW ws[i / 8] i).toNat : Int)] (bytesL (untextL ws i) ++ .int .u8 0 :: List.replicate (n - (i + 1)) (.int .u8 0)) = bytesL (untextL ws (i + 1)) ++ List.replicate (n - (i + 1)) (.int .u8 0) := by
        have := splice_at (A := bytesL (untextL ws i)) (x := .int .u8 0) (v := Value.int .u8 ((byteW ws[i / 8] i).toNat : Int)) (B := List.replicate (n - (i + 1)) (.int .u8 0))
        rw [hlen] at this
        rw [show 0 + i * 1 = i by omega, this]
        simp [untextL, List.range_succ, bytesL, hi8]
      rw [← e4, ← byte_val]; exact o4
    · have hi1 : i = n := by simp at hc; omega
      subst hi1
      conv => whnf
      refine SemR.textOf (l := untextL ws i) rfl rfl rfl (by simp [untextL]) (fun j hj => ?_) ?_
      · simp only [Heap.cell?, o2]
        simp [bytesL, hj, List.getElem?_append]
      conv => whnf
      exact ⟨k2, rfl⟩

/-- bytes as a number, the first one least -/
def packN : List UInt8 → Nat
  | [] => 0
  | b :: r => b.toNat + 256 * packN r
theorem packN_lt : ∀ l : List UInt8, packN l < 256 ^ l.length
  | [] => by simp [packN]
  | b :: r => by
    have := packN_lt r
    have hb := b.toNat_lt
    simp only [packN, List.length_cons, Nat.pow_succ]
    omega
theorem packN_snoc : ∀ (l : List UInt8) (c : UInt8), packN (l ++ [c]) = packN l + 256 ^ l.length * c.toNat
  | [], c => by simp [packN]
  | b :: r, c => by
    have := packN_snoc r c
    simp only [List.cons_append, packN, this, List.length_cons, Nat.pow_succ]
    rw [Nat.mul_add, Nat.mul_comm (256 ^ r.length) 256, Nat.mul_assoc]; omega

/-- a text's word -/
def wordT (l : List UInt8) (j : Nat) : UInt64 := UInt64.ofNat (packN ((l.drop (8 * j)).take 8))
def textL (l : List UInt8) (n : Nat) : List UInt64 := (List.range n).map fun j => wordT l j

theorem pack8_lt (l : List UInt8) (j : Nat) : packN ((l.drop (8 * j)).take 8) < 18446744073709551616 := by
  have h1 := packN_lt ((l.drop (8 * j)).take 8)
  have h2 : ((l.drop (8 * j)).take 8).length ≤ 8 := by simp; omega
  have h3 : 256 ^ ((l.drop (8 * j)).take 8).length ≤ 256 ^ 8 := Nat.pow_le_pow_right (by decide) h2
  have h4 : 256 ^ 8 = 18446744073709551616 := by decide
  omega
theorem wordT_toNat (l : List UInt8) (j : Nat) : (wordT l j).toNat = packN ((l.drop (8 * j)).take 8) := by
  unfold wordT
  rw [UInt64.toNat_ofNat']
  exact Nat.mod_eq_of_lt (pack8_lt l j)

theorem drop_take_other (l : List UInt8) (i j : Nat) (hi : i < l.length) (hj : j ≠ i / 8) : ((l.take (i + 1)).drop (8 * j)).take 8 = ((l.take i).drop (8 * j)).take 8 := by
  apply List.ext_getElem?
  intro k
  simp only [List.getElem?_take, List.getElem?_drop]
  by_cases h1 : k < 8
  · rw [if_pos h1, if_pos h1]
    by_cases h2 : 8 * j + k < i
    · rw [if_pos (by omega), if_pos h2]
    · by_cases h3 : 8 * j + k < i + 1
      · have : 8 * j + k = i := by omega
        omega
      · rw [if_neg h3, if_neg h2]
  · rw [if_neg h1, if_neg h1]
theorem drop_take_here (l : List UInt8) (i : Nat) (hi : i < l.length) : ((l.take (i + 1)).drop (8 * (i / 8))).take 8 = ((l.take i).drop (8 * (i / 8))).take 8 ++ [l[i]] := by
  rw [List.take_succ_eq_append_getElem hi, List.drop_append, List.take_append]
  have h1 : (l.take i).length = i := by simp; omega
  have h2 : 8 * (i / 8) - (l.take i).length = 0 := by rw [h1]; omega
  rw [h2, List.drop_zero]
  congr 1
  have h3 : (List.drop (8 * (i / 8)) (l.take i)).length = i % 8 := by rw [List.length_drop, h1]; omega
  rw [h3]
  have : 8 - i % 8 = (7 - i % 8) + 1 := by omega
  rw [this]; simp

theorem or_val (l : List UInt8) (i : Nat) (hi : i < l.length) :
    Value.int .u64 (IntKind.u64.wrap ((BitVec.ofInt IntKind.u64.bits ((wordT (l.take i) (i / 8)).toNat : Int) ||| BitVec.ofInt IntKind.u64.bits (IntKind.u64.wrap (IntKind.u64.wrap (l[i].toNat : Int) * 2 ^ (min ((8 * (i % 8) : Nat) : Int).toNat 64)))).toNat : Int)) = wv (wordT (l.take (i + 1)) (i / 8)) := by
  have h1 : min ((8 * (i % 8) : Nat) : Int).toNat 64 = 8 * (i % 8) := by omega
  rw [h1]
  unfold wv
  congr 1
  rw [wordT_toNat, wordT_toNat, drop_take_here l i hi, packN_snoc]
  generalize hA : ((l.take i).drop (8 * (i / 8))).take 8 = A
  have hlen : A.length = i % 8 := by subst hA; simp; omega
  have hA1 := packN_lt A
  rw [hlen] at hA1 ⊢
  have hp : (256 : Nat) ^ (i % 8) = 2 ^ (8 * (i % 8)) := by rw [Nat.pow_mul]
  have hc := l[i].toNat_lt
  have hk : i % 8 < 8 := by omega
  have hb : l[i].toNat * 2 ^ (8 * (i % 8)) < 18446744073709551616 := by
    have h5 : 2 ^ (8 * (i % 8)) ≤ 2 ^ 56 := Nat.pow_le_pow_right (by decide) (by omega)
    have h6 : l[i].toNat * 2 ^ (8 * (i % 8)) ≤ 255 * 2 ^ 56 := Nat.mul_le_mul (by omega) h5
    have h7 : 255 * 2 ^ 56 < 18446744073709551616 := by decide
    omega
  have hA2 : packN A < 18446744073709551616 := by
    have h5 : 2 ^ (8 * (i % 8)) ≤ 2 ^ 56 := Nat.pow_le_pow_right (by decide) (by omega)
    have h7 : 2 ^ 56 < 18446744073709551616 := by decide
    omega
  have w1 : IntKind.u64.wrap (l[i].toNat : Int) = (l[i].toNat : Int) := by rw [wrap_u64']; omega
  have w2 : IntKind.u64.wrap ((l[i].toNat : Int) * 2 ^ (8 * (i % 8))) = ((l[i].toNat * 2 ^ (8 * (i % 8)) : Nat) : Int) := by
    rw [wrap_u64']
    have : (l[i].toNat : Int) * 2 ^ (8 * (i % 8)) = ((l[i].toNat * 2 ^ (8 * (i % 8)) : Nat) : Int) := by simp
    rw [this]
    omega
  rw [w1, w2]
  have hbits : IntKind.u64.bits = 64 := rfl
  rw [hbits, BitVec.toNat_or]
  have t1 : (BitVec.ofInt 64 ((packN A : Nat) : Int)).toNat = packN A := by
    rw [BitVec.toNat_ofInt]; omega
  have t2 : (BitVec.ofInt 64 ((l[i].toNat * 2 ^ (8 * (i % 8)) : Nat) : Int)).toNat = l[i].toNat * 2 ^ (8 * (i % 8)) := by
    rw [BitVec.toNat_ofInt]; omega
  rw [t1, t2]
  have hor : packN A ||| l[i].toNat * 2 ^ (8 * (i % 8)) = packN A + 256 ^ (i % 8) * l[i].toNat := by
    rw [hp, Nat.or_comm, Nat.mul_comm, ← Nat.two_pow_add_eq_or_of_lt (by rw [← hp]; exact hA1)]
    omega
  rw [hor, wrap_u64']
  have hs : packN A + 256 ^ (i % 8) * l[i].toNat < 18446744073709551616 := by
    have := packN_lt (A ++ [l[i]])
    rw [packN_snoc, hlen, List.length_append, hlen] at this
    have h8 : 256 ^ (i % 8 + [l[i]].length) ≤ 256 ^ 8 := Nat.pow_le_pow_right (by decide) (by simp; omega)
    have h9 : 256 ^ 8 = 18446744073709551616 := by decide
    omega
  omega

theorem text_spec (s : ByteArray) (n : Nat) (h : Heap) (hn : n ≤ 64) (hs : s.size ≤ 8 * n) : CallH Tryz.prog 64 [.string s, .int .i64 (n : Int)] h (fun v h' => Keeps [] h h' ∧ ∃ b, v = .tuple #[.slice (some ⟨b, 0, none⟩) n n, .int .i64 0] ∧ h.size ≤ b ∧ b < h'.size ∧ h'[b]? = some (.cells ⟨(textL s.data.toList n).map wv⟩ 35 (0, 0))) := by
  refine call_of hmix Tryz.func64 rfl ok64 (by simp [Tryz.f64]) ?_
  conv => whnf
  have e8 : IntKind.i64.wrap (8 * (n : Int)) = ((8 * n : Nat) : Int) := wrapN (by omega) (by omega)
  have hsl : s.data.toList.length = s.size := by rw [Array.length_toList]; rfl
  refine IfR.f (by simp [bif_or]; omega) ?_
  conv => whnf
  refine IfR.f (by simp [e8]; omega) ?_
  conv => whnf
  refine SemR.make (n := n) rfl rfl rfl rfl rfl (by show 8 * n ≤ _; omega) (by omega) fun b1 h1 e1 s1 o1 k1 => ?_
  conv => whnf
  refine SemR.bytesOf rfl rfl rfl fun b2 c2 h2 r2 fz2 e2 s2 hc2 o2 k2 => ?_
  conv => whnf
  refine LoopR.on [6, 25, 26, 27] [] (fun i : Nat => [(6, .v (.slice (some ⟨b1, 0, none⟩) n n)), (25, .v (.slice (some ⟨b2, 0, none⟩) s.size c2)), (26, .v (.int .i64 (s.size : Int))), (27, .v (.int .i64 (i : Int)))]) (fun _ => [])
    (fun i h' => i ≤ s.size ∧ Keeps [] h h' ∧ h2.size ≤ h'.size ∧ h'[b1]? = some (.cells ⟨(textL (s.data.toList.take i) n).map wv⟩ 35 (0, 0)) ∧ h'[b2]? = some (.cells ⟨bytesV s ++ r2⟩ 5 fz2)) (fun i => s.size - i) 0 ?_ ?_
  · conv => whnf
    refine ⟨0, rfl, rfl, rfl, Nat.zero_le _, k1.trans k2, Nat.le_refl _, ?_, o2⟩
    rw [k2.obj o1 (by simp)]
    congr 3
    simp [textL, wordT, packN, List.map_const']
    exact .inr rfl
  · rintro i h3 ⟨hi, k3, z3, o3, o4⟩
    conv => whnf
    refine IfR.i (fun hc => ?_) (fun hc => ?_)
    · have hi1 : i < s.size := by simp at hc; omega
      have hi2 : i < s.data.toList.length := by omega
      conv => whnf
      refine IdxS.i i rfl hi1 rfl ?_
      conv => whnf
      refine LoadR.o (v := .int .u8 (s.data.toList[i].toNat : Int)) o4 ?_ ?_
      · rw [nth_eq]
        show (bytesV s ++ r2)[0 + i * 1]? = _
        rw [show 0 + i * 1 = i by omega, List.getElem?_append_left (by rw [bytesV_len]; exact hi1)]
        simp [bytesV]
        exact ⟨_, Array.getElem?_eq_getElem (by simpa using hi2), rfl⟩
      conv => whnf
      refine Need.i (by decide) ?_
      have hi8 : i / 8 < n := by omega
      conv => whnf
      refine IdxS.i (i / 8) (quo_amt i (by omega)) hi8 rfl ?_
      conv => whnf
      refine LoadR.o (v := wv (wordT (s.data.toList.take i) (i / 8))) o3 ?_ ?_
      · rw [nth_eq]
        show ((textL (s.data.toList.take i) n).map wv)[0 + i / 8 * 1]? = _
        rw [show 0 + i / 8 * 1 = i / 8 by omega]
        simp [textL, hi8]
      conv => whnf
      refine Need.i (by decide) ?_
      conv => whnf
      refine Need.i (by rw [shift_amt i (by omega)]; omega) ?_
      conv => whnf
      refine IdxS.i (i / 8) (quo_amt i (by omega)) hi8 rfl ?_
      conv => whnf
      refine StoreR.i o3 ?_ (by simp [blocksOf]) fun h5 s5 o5 k5 => ?_
      · show 0 + i / 8 * 1 + 1 ≤ _
        simp [textL]; omega
      conv => whnf
      refine ⟨s.size - (i + 1), by omega, ?_⟩
      conv => whnf
      refine ⟨i + 1, rfl, by rw [wrapN (n := i + 1) (by simp) (by omega)], rfl, by omega, k3.new1 k5 (by omega), by omega, ?_, k5.obj o4 (by simp; omega)⟩
      rw [shift_amt i (by omega)] at o5
      have hv := or_val s.data.toList i hi2
      have e5 : spliceL (0 + i / 8 * 1) [wv (wordT (s.data.toList.take (i + 1)) (i / 8))] ((textL (s.data.toList.take i) n).map wv) = (textL (s.data.toList.take (i + 1)) n).map wv := by
        rw [show 0 + i / 8 * 1 = i / 8 by omega]
        have hsp : ∀ (k : Nat) (L : List Value) (v : Value), k < L.length → spliceL k [v] L = L.set k v := by
          intro k
          induction k with
          | zero => intro L v hL; cases L with
            | nil => simp at hL
            | cons a L => cases L <;> rfl
          | succ k ih => intro L v hL; cases L with
            | nil => simp at hL
            | cons a L => simp only [spliceL, List.set_cons_succ]; rw [ih L v (by simpa using hL)]
        rw [hsp _ _ _ (by simp [textL]; exact hi8)]
        apply List.ext_getElem
        · simp [textL]
        · intro j j1 j2
          have hj : j < n := by simpa [textL] using j2
          rw [List.getElem_set]
          split
          · rename_i e; subst e
            simp [textL]
          · rename_i e
            simp only [textL, List.getElem_map, List.getElem_range]
            congr 1
            unfold wordT
            rw [drop_take_other _ i j hi2 (fun x => e x.symm)]
      rw [← e5, ← hv]; exact o5
    · have hi1 : i = s.size := by simp at hc; omega
      conv => whnf
      rw [hi1, ← hsl, List.take_length] at o3
      exact ⟨k3, b1, rfl, by omega, by omega, o3⟩
end Go.Proofs.YteambknhlbiajaaGreat
