/-
  Layers 5, 8: which words may be changed; a view.
-/
import Derived.Test.YtlloemmpnhoanaaGreatBodyB
set_option linter.all false
set_option maxRecDepth 100000
namespace Go.Proofs.YtlloemmpnhoanaaGreat
open Go Go.Eng

/-- what a word is part of -/
def whatK (a : Int) : Int := if 0 ≤ a ∧ a < 8 then 1 else if 8 ≤ a ∧ a < 200 then 2 else if 200 ≤ a ∧ a < 296 then 3 else if 296 ≤ a ∧ a < 1288 then 4 else if 1288 ≤ a ∧ a < 2824 then 5 else 0
def openW (a : Int) : Bool := (decide (8 ≤ a) && decide (a < 296)) || (decide (1288 ≤ a) && decide (a < 2824))

theorem what_spec (a : Int) (h : Heap) : CallH Tryz.prog 92 [.int .i64 a] h (fun v h' => Keeps [] h h' ∧ ∃ i, v = .tuple #[.int .i64 (whatK a), .int .i64 i]) := by
  refine call_of hmix Tryz.func92 rfl ok92 (by simp [Tryz.f92]) ?_
  conv => whnf
  refine CallR.i (parts_spec h) fun v h1 k1 hv => ?_
  obtain ⟨b, rfl, o1⟩ := hv
  conv => whnf
  refine LoopR.on [0, 6, 7, 8] [] (fun i : Nat => [(0, .v (.int .i64 a)), (6, .v (.slice (some ⟨b, 0, none⟩) 5 5)), (7, .v (.int .i64 5)), (8, .v (.int .i64 (i : Int)))]) (fun _ => []) (fun i h' => i ≤ 5 ∧ Keeps [] h1 h' ∧ ∀ k : Nat, 1 ≤ k → k ≤ i → ¬ (fromK k ≤ a ∧ a < fromK k + countK k * wideK k)) (fun i => 5 - i) 0 ?_ ?_
  · conv => whnf
    exact ⟨0, rfl, rfl, rfl, by decide, Keeps.refl _ _, fun k h1 h2 => by omega⟩
  · rintro i h2 ⟨i5, k2, no⟩
    have o2 := k2.obj o1 (by simp)
    conv => whnf
    refine IfR.i (fun hc => ?_) (fun hc => ?_)
    · have hi : i < 5 := by simp at hc; omega
      conv => whnf
      refine IdxS.i i rfl hi rfl ?_
      conv => whnf
      refine LoadN.o (vs := [.int .i64 ((i + 1 : Nat) : Int), .int .i64 (fromK (i + 1)), .int .i64 (countK (i + 1)), .int .i64 (wideK (i + 1))]) o2 ?_ ?_
      · have : i = 0 ∨ i = 1 ∨ i = 2 ∨ i = 3 ∨ i = 4 := by omega
        rcases this with rfl | rfl | rfl | rfl | rfl <;> rfl
      conv => whnf
      refine AllocR.i fun b3 h3 e3 s3 o3 k3 => ?_
      conv => whnf
      refine BoxR.i fun h4 s4 k4 => ?_
      have k24 : Keeps [] h2 h4 := k3.new1 k4 (by omega)
      have bnd : 0 ≤ fromK (i + 1) ∧ fromK (i + 1) ≤ 1288 ∧ 0 ≤ countK (i + 1) * wideK (i + 1) ∧ countK (i + 1) * wideK (i + 1) ≤ 1536 ∧ 1 ≤ wideK (i + 1) := by
        have : i = 0 ∨ i = 1 ∨ i = 2 ∨ i = 3 ∨ i = 4 := by omega
        rcases this with rfl | rfl | rfl | rfl | rfl <;> decide
      have ew : IntKind.i64.wrap (fromK (i + 1) + IntKind.i64.wrap (countK (i + 1) * wideK (i + 1))) = fromK (i + 1) + countK (i + 1) * wideK (i + 1) := by
        rw [wrapI (x := countK (i + 1) * wideK (i + 1)) (by omega) (by omega), wrapI (by omega) (by omega)]
      have found : fromK (i + 1) ≤ a → a < fromK (i + 1) + countK (i + 1) * wideK (i + 1) → ((i + 1 : Nat) : Int) = whatK a := by
        intro h1 h2
        have : i = 0 ∨ i = 1 ∨ i = 2 ∨ i = 3 ∨ i = 4 := by omega
        unfold whatK
        rcases this with rfl | rfl | rfl | rfl | rfl <;> simp [fromK, countK, wideK] at h1 h2 ⊢ <;> (repeat' split) <;> omega
      have next : ¬ (fromK (i + 1) ≤ a ∧ a < fromK (i + 1) + countK (i + 1) * wideK (i + 1)) → ∀ k : Nat, 1 ≤ k → k ≤ i + 1 → ¬ (fromK k ≤ a ∧ a < fromK k + countK k * wideK k) := by
        intro hn k h1 h2
        rcases Nat.lt_or_ge k (i + 1) with h | h
        · exact no k h1 (by omega)
        · have : k = i + 1 := by omega
          subst this; exact hn
      refine IfR.i (fun hg => ?_) (fun hg => ?_)
      · have hg1 : fromK (i + 1) ≤ a := by simpa using hg
        conv => whnf
        refine CallR.i (end_spec _ _ _ _ h4) fun v h5 k5 hv => ?_
        subst hv
        rw [ew]
        conv => whnf
        refine IfR.i (fun hd => ?_) (fun hd => ?_)
        · have hd1 : a < fromK (i + 1) + countK (i + 1) * wideK (i + 1) := by simp [bif_and] at hd; exact hd.2
          conv => whnf
          refine Need.i (by omega) ?_
          conv => whnf
          exact ⟨k1.trans (k2.trans (k24.trans k5)), _, by rw [found hg1 hd1]⟩
        · have hd1 : ¬ a < fromK (i + 1) + countK (i + 1) * wideK (i + 1) := by
            intro hx; simp [bif_and] at hd; exact absurd hx (by have := hd hg1; omega)
          conv => whnf
          refine ⟨5 - (i + 1), by omega, ?_⟩
          conv => whnf
          exact ⟨i + 1, rfl, by rw [wrapN (n := i + 1) (by simp) (by omega)], rfl, by omega, k2.trans (k24.trans k5), next fun h => hd1 h.2⟩
      · have hg1 : ¬ fromK (i + 1) ≤ a := by simpa using hg
        conv => whnf
        refine IfR.i (fun hd => ?_) (fun hd => ?_)
        · exfalso; simp [bif_and] at hd; exact hg1 hd.1
        · conv => whnf
          refine ⟨5 - (i + 1), by omega, ?_⟩
          conv => whnf
          exact ⟨i + 1, rfl, by rw [wrapN (n := i + 1) (by simp) (by omega)], rfl, by omega, k2.trans k24, next fun h => hg1 h.1⟩
    · conv => whnf
      have hi : i = 5 := by simp at hc; omega
      subst hi
      refine ⟨k1.trans k2, 0, ?_⟩
      have h1 := no 1 (by omega) (by omega)
      have h2 := no 2 (by omega) (by omega)
      have h3 := no 3 (by omega) (by omega)
      have h4 := no 4 (by omega) (by omega)
      have h5 := no 5 (by omega) (by omega)
      simp [fromK, countK, wideK] at h1 h2 h3 h4 h5
      have : whatK a = 0 := by unfold whatK; (repeat' split) <;> omega
      rw [this]

theorem open_spec (a : Int) (h : Heap) : CallH Tryz.prog 84 [.int .i64 a] h (fun v h' => Keeps [] h h' ∧ v = .bool (openW a)) := by
  refine call_of hmix Tryz.func84 rfl ok84 (by simp [Tryz.f84]) ?_
  conv => whnf
  refine CallR.i (what_spec a h) fun v h1 k1 hv => ?_
  obtain ⟨i, rfl⟩ := hv
  conv => whnf
  refine ⟨k1, ?_⟩
  congr 1
  rw [bif_or, bif_or, Bool.eq_iff_iff]
  simp only [Bool.or_eq_true, beq_iff_eq, openW, Bool.and_eq_true, decide_eq_true_eq]
  unfold whatK
  (repeat' split) <;> omega

/-! ### A view -/

/-- words by number -/
def upd (f : Int → UInt64) (a : Int) (w : UInt64) : Int → UInt64 := fun x => if x = a then w else f x
def updL (f : Int → UInt64) (a : Int) (l : List UInt64) : Int → UInt64 := fun x => if a ≤ x ∧ x < a + l.length then l[(x - a).toNat]?.getD 0 else f x
def rdL (f : Int → UInt64) (a : Int) (n : Nat) : List UInt64 := (List.range n).map fun (i : Nat) => f (a + (i : Int))

theorem updL_nil (f : Int → UInt64) (a : Int) : updL f a [] = f := by
  funext x; unfold updL; rw [if_neg (by simp only [List.length_nil]; omega)]
theorem updL_step (f : Int → UInt64) (a : Int) (l : List UInt64) (i : Nat) (hi : i < l.length) : upd (updL f a (l.take i)) (a + (i : Int)) l[i] = updL f a (l.take (i + 1)) := by
  funext x
  unfold upd updL
  have h1 : (l.take i).length = i := by simp; omega
  have h2 : (l.take (i + 1)).length = i + 1 := by simp; omega
  rw [h1, h2]
  by_cases h : x = a + (i : Int)
  · subst h
    rw [if_pos rfl, if_pos (by omega)]
    have : (a + (i : Int) - a).toNat = i := by omega
    rw [this]; simp [hi]
  · rw [if_neg h]
    by_cases h3 : a ≤ x ∧ x < a + (i : Int)
    · rw [if_pos h3, if_pos (by omega)]
      have : (x - a).toNat < i := by omega
      simp [List.getElem?_take, this, show (x - a).toNat < i + 1 by omega]
    · rw [if_neg h3, if_neg (by omega)]

structure VS where
  now : Int → UInt64
  seen : List Int
  mine : List Int
  away : List Int
  awayN : List Int

/-- where a view lies -/
structure VL where
  v : Nat
  mem : ML
  ob : Nat
  sb : Nat
  mb : Nat
  ab : Option Nat
  anb : Option Nat

def VL.blocks (V : VL) : List Nat := V.v :: V.ob :: V.sb :: V.mb :: (V.mem.blocks ++ (V.ab.toList ++ V.anb.toList))
/-- its maps, that its calls write -/
def VL.fp (V : VL) : List Nat := [V.ob, V.sb, V.mb]

def SetAt (h : Heap) (r : Option Nat) (s : List Int) : Prop := match r with | none => s = [] | some r => MapL h r (setV s)
theorem SetAt.keep {F : List Nat} {h h' : Heap} {r : Option Nat} {s : List Int} (A : SetAt h r s) (k : Keeps F h h') (hF : ∀ b ∈ r.toList, b ∉ F) : SetAt h' r s := by
  cases r with
  | none => exact A
  | some r => exact MapL.keep A k (hF r (by simp))

structure At (h : Heap) (V : VL) (M : MemS) (X : VS) : Prop where
  mem : MemAt h V.mem M
  obj : h[V.v]? = some (.cells ⟨[.pointer (some ⟨V.mem.m, 0, none⟩), .map (some V.ob), .map (some V.sb), .map (some V.mb), .map V.ab, .map V.anb]⟩ 82 (0, 0))
  own : ∃ own : List (Int × UInt64), MapL h V.ob (mapW own) ∧ (∀ a, X.now a = (lk own a).getD (M.read a)) ∧ ∀ a, lk own a ≠ none → openW a = true
  seen : MapL h V.sb (setV X.seen)
  mine : MapL h V.mb (setV X.mine)
  away : SetAt h V.ab X.away
  awayN : SetAt h V.anb X.awayN
  ap1 : V.ob ≠ V.sb ∧ V.ob ≠ V.mb ∧ V.sb ≠ V.mb
  ap2 : ∀ b ∈ [V.v, V.ob, V.sb, V.mb], b ∉ V.mem.blocks
  ap3 : ∀ r ∈ V.ab.toList ++ V.anb.toList, r ≠ V.ob ∧ r ≠ V.sb ∧ r ≠ V.mb ∧ r ≠ V.v

theorem At.keep {F : List Nat} {h h' : Heap} {V : VL} {M : MemS} {X : VS} (A : At h V M X) (k : Keeps F h h') (hF : ∀ b ∈ V.blocks, b ∉ F) : At h' V M X where
  mem := A.mem.keep k (fun b hb => hF b (by simp [VL.blocks, hb]))
  obj := k.obj A.obj (hF _ (by simp [VL.blocks]))
  own := let ⟨own, h1, h2⟩ := A.own; ⟨own, h1.keep k (hF _ (by simp [VL.blocks])), h2⟩
  seen := A.seen.keep k (hF _ (by simp [VL.blocks]))
  mine := A.mine.keep k (hF _ (by simp [VL.blocks]))
  away := A.away.keep k (fun b hb => hF b (by simp only [VL.blocks, List.mem_cons, List.mem_append]; simp [hb]))
  awayN := A.awayN.keep k (fun b hb => hF b (by simp only [VL.blocks, List.mem_cons, List.mem_append]; simp [hb]))
  ap1 := A.ap1
  ap2 := A.ap2
  ap3 := A.ap3
theorem At.on {h h' : Heap} {V : VL} {M : MemS} {X : VS} (A : At h V M X) (k : Keeps [] h h') : At h' V M X := A.keep k (by simp)

theorem At.blt {h : Heap} {V : VL} {M : MemS} {X : VS} (A : At h V M X) : ∀ b ∈ V.blocks, b < h.size := by
  have sl : ∀ (r : Option Nat) (s : List Int), SetAt h r s → ∀ b ∈ r.toList, b < h.size := by
    intro r s hs b hb
    cases r with
    | none => simp at hb
    | some r => simp at hb; subst hb; exact MapL.lt hs
  intro b hb
  simp only [VL.blocks, List.mem_cons, List.mem_append] at hb
  rcases hb with rfl | rfl | rfl | rfl | hb | hb | hb
  · exact obj_lt A.obj
  · obtain ⟨own, h1, _⟩ := A.own; exact h1.lt
  · exact A.seen.lt
  · exact A.mine.lt
  · exact A.mem.blt b hb
  · exact sl _ _ A.away b hb
  · exact sl _ _ A.awayN b hb
theorem At.vne {h : Heap} {V : VL} {M : MemS} {X : VS} (A : At h V M X) : V.v ≠ V.ob ∧ V.v ≠ V.sb ∧ V.v ≠ V.mb := by
  obtain ⟨own, h1, _⟩ := A.own
  exact ⟨obj_map_ne A.obj h1, obj_map_ne A.obj A.seen, obj_map_ne A.obj A.mine⟩

/-- words of the view's own are written -/
theorem At.put {h h' : Heap} {V : VL} {M : MemS} {X : VS} (A : At h V M X) {own : List (Int × UInt64)} (h2 : ∀ a, X.now a = (lk own a).getD (M.read a)) (h3 : ∀ a, lk own a ≠ none → openW a = true)
    {a : Int} {w : UInt64} (ho : openW a = true) (k : Keeps [V.ob] h h') (Mp : MapL h' V.ob (putI (mapW own) a (wv w))) : At h' V M { X with now := upd X.now a w } where
  mem := A.mem.keep k (fun b hb hx => by simp at hx; subst hx; exact A.ap2 _ (by simp) hb)
  obj := k.obj A.obj (by simpa using A.vne.1)
  own := ⟨putW own a w, by rw [← putI_mapW]; exact Mp, fun x => by
    rw [lk_put]
    show upd X.now a w x = _
    unfold upd
    split
    · rfl
    · exact h2 x, fun x hx => by
    rw [lk_put] at hx
    split at hx
    · rename_i e; subst e; exact ho
    · exact h3 x hx⟩
  seen := A.seen.keep k (by simpa using A.ap1.1.symm)
  mine := A.mine.keep k (by simpa using A.ap1.2.1.symm)
  away := A.away.keep k (fun b hb => by simpa using (A.ap3 b (by simp [hb])).1)
  awayN := A.awayN.keep k (fun b hb => by simpa using (A.ap3 b (by simp [hb])).1)
  ap1 := A.ap1
  ap2 := A.ap2
  ap3 := A.ap3

theorem vread_spec {h : Heap} {V : VL} {M : MemS} {X : VS} (A : At h V M X) (a : Int) : CallH Tryz.prog 55 [.pointer (some ⟨V.v, 0, none⟩), .int .i64 a] h (fun v h' => Keeps [] h h' ∧ v = wv (X.now a)) := by
  refine call_of hmix Tryz.func55 rfl ok55 (by simp [Tryz.f55]) ?_
  conv => whnf
  refine IfR.f rfl ?_
  conv => whnf
  refine LoadR.o A.obj rfl ?_
  conv => whnf
  obtain ⟨own, h1, h2, h3⟩ := A.own
  cases hl : lk own a with
  | some w =>
    refine LookR.is h1 (by rw [lookI_mapW, hl]) ?_
    conv => whnf
    refine IfR.t rfl ?_
    conv => whnf
    exact ⟨Keeps.refl _ _, by rw [h2, hl]; rfl⟩
  | none =>
    refine LookR.is h1 (by rw [lookI_mapW, hl]) ?_
    conv => whnf
    refine IfR.f rfl ?_
    conv => whnf
    refine LoadR.o A.obj rfl ?_
    conv => whnf
    refine CallR.i (mread_spec A.mem a) fun v h4 k4 hv => ?_
    subst hv
    conv => whnf
    exact ⟨k4, by rw [h2, hl]; rfl⟩

theorem vwrite_spec {h : Heap} {V : VL} {M : MemS} {X : VS} (A : At h V M X) (a : Int) (w : UInt64) : CallH Tryz.prog 65 [.pointer (some ⟨V.v, 0, none⟩), .int .i64 a, wv w] h (fun v h' => Keeps [V.ob] h h' ∧ v = .int .i64 (if openW a then 0 else 1) ∧ At h' V M (if openW a then { X with now := upd X.now a w } else X)) := by
  refine call_of hmix Tryz.func65 rfl ok65 (by simp [Tryz.f65]) ?_
  conv => whnf
  refine IfR.t rfl ?_
  conv => whnf
  refine CallR.i (open_spec a h) fun v h1 k1 hv => ?_
  subst hv
  have A1 := A.on k1
  conv => whnf
  refine IfR.i (fun hc => ?_) (fun hc => ?_)
  · conv => whnf
    have ho : openW a = false := by simpa [bif_or] using hc
    rw [ho]
    exact ⟨k1.mono (by simp), rfl, A1⟩
  · have ho : openW a = true := by simpa [bif_or] using hc
    conv => whnf
    refine LoadR.o A1.obj rfl ?_
    conv => whnf
    obtain ⟨own, h1, h2, h3⟩ := A1.own
    refine SemR.put rfl rfl h1 (by simp [blocksOf]) fun h2 s2 M2 k2 => ?_
    conv => whnf
    rw [ho]
    exact ⟨(k1.mono (by simp)).trans k2, rfl, A1.put (by assumption) h3 ho k2 M2⟩

theorem splice_at {A B : List Value} {x v : Value} : spliceL A.length [v] (A ++ x :: B) = A ++ v :: B := by
  induction A with
  | nil => cases B <;> rfl
  | cons a A ih => simp only [List.length_cons, List.cons_append, spliceL, ih]

theorem read_spec {h : Heap} {V : VL} {M : MemS} {X : VS} (A : At h V M X) (a : Int) (n : Nat) (ha : 0 ≤ a ∧ a ≤ 1000000) (hn : n ≤ 1000000) : CallH Tryz.prog 76 [.pointer (some ⟨V.v, 0, none⟩), .int .i64 a, .int .i64 (n : Int)] h (fun v h' => Keeps [] h h' ∧ ∃ b, v = .slice (some ⟨b, 0, none⟩) n n ∧ h.size ≤ b ∧ b < h'.size ∧ h'[b]? = some (.cells ⟨(rdL X.now a n).map wv⟩ 36 (0, 0))) := by
  refine call_of hmix Tryz.func76 rfl ok76 (by simp [Tryz.f76]) ?_
  conv => whnf
  refine SemR.make rfl rfl rfl rfl rfl (by show 8 * n ≤ _; omega) (by omega) fun b1 h1 e1 s1 o1 k1 => ?_
  conv => whnf
  refine LoopR.on [0, 1, 7, 12, 13] [] (fun i : Nat => [(0, .v (.pointer (some ⟨V.v, 0, none⟩))), (1, .v (.int .i64 a)), (7, .v (.slice (some ⟨b1, 0, none⟩) n n)), (12, .v (.int .i64 (n : Int))), (13, .v (.int .i64 (i : Int)))]) (fun _ => [])
    (fun i h' => i ≤ n ∧ Keeps [] h h' ∧ h1.size ≤ h'.size ∧ h'[b1]? = some (.cells ⟨(rdL X.now a i).map wv ++ List.replicate (n - i) (.int .u64 0)⟩ 36 (0, 0))) (fun i => n - i) 0 ?_ ?_
  · conv => whnf
    exact ⟨0, rfl, rfl, rfl, Nat.zero_le _, k1, Nat.le_refl _, o1⟩
  · rintro i h2 ⟨hi, k2, z2, o2⟩
    conv => whnf
    refine IfR.i (fun hc => ?_) (fun hc => ?_)
    · have hi1 : i < n := by simp at hc; omega
      conv => whnf
      rw [wrapI (x := a + (i : Int)) (by omega) (by omega)]
      refine CallR.i (vread_spec (A.on k2) (a + (i : Int))) fun v h3 k3 hv => ?_
      subst hv
      conv => whnf
      refine IdxS.i i rfl hi1 rfl ?_
      have er : List.replicate (n - i) (Value.int .u64 0) = .int .u64 0 :: List.replicate (n - (i + 1)) (.int .u64 0) := by
        rw [show n - i = (n - (i + 1)) + 1 by omega, List.replicate_succ]
      rw [er] at o2
      have hlen : ((rdL X.now a i).map wv).length = i := by simp [rdL]
      conv => whnf
      refine StoreR.i (k3.obj o2 (by simp)) ?_ (by simp [blocksOf]) fun h4 s4 o4 k4 => ?_
      · simp only [List.length_append, List.length_cons, hlen, List.length_replicate]
        show 0 + i * 1 + 1 ≤ _
        omega
      conv => whnf
      refine ⟨n - (i + 1), by omega, ?_⟩
      conv => whnf
      refine ⟨i + 1, rfl, by rw [wrapN (n := i + 1) (by simp) (by omega)], rfl, by omega, (k2.trans k3).new1 k4 (by omega), by have := k3.size; omega, ?_⟩
      have e4 : spliceL (0 + i * 1) [wv (X.now (a + (i : Int)))] ((rdL X.now a i).map wv ++ .int .u64 0 :: List.replicate (n - (i + 1)) (.int .u64 0)) = (rdL X.now a (i + 1)).map wv ++ List.replicate (n - (i + 1)) (.int .u64 0) := by
        have := splice_at (A := (rdL X.now a i).map wv) (x := .int .u64 0) (v := wv (X.now (a + (i : Int)))) (B := List.replicate (n - (i + 1)) (.int .u64 0))
        rw [hlen] at this
        rw [show 0 + i * 1 = i by omega, this]
        simp [rdL, List.range_succ]
      rw [← e4]; exact o4
    · conv => whnf
      have hi1 : i = n := by simp at hc; omega
      subst hi1
      refine ⟨k2, b1, rfl, by omega, by have := k1.size; omega, ?_⟩
      simpa using o2

theorem writes_spec {h : Heap} {V : VL} {M : MemS} {X : VS} (A : At h V M X) (a : Int) {sa : Option Addr} {n c : Nat} {ws : List UInt64} (S : Sl h sa n c ws) (ha : 0 ≤ a ∧ a ≤ 1000000) (hn : n ≤ 1000000) (ho : ∀ i : Nat, i < n → openW (a + (i : Int)) = true) (hs : V.ob ∉ blkA sa) :
    CallH Tryz.prog 85 [.pointer (some ⟨V.v, 0, none⟩), .int .i64 a, .slice sa n c] h (fun v h' => Keeps [V.ob] h h' ∧ At h' V M { X with now := updL X.now a ws }) := by
  refine call_of hmix Tryz.func85 rfl ok85 (by simp [Tryz.f85]) ?_
  conv => whnf
  have hl := S.hlen
  refine LoopR.on [0, 1, 8, 9, 10] [] (fun i : Nat => [(0, .v (.pointer (some ⟨V.v, 0, none⟩))), (1, .v (.int .i64 a)), (8, .v (.slice sa n c)), (9, .v (.int .i64 (n : Int))), (10, .v (.int .i64 (i : Int)))]) (fun _ => [])
    (fun i h' => i ≤ n ∧ Keeps [V.ob] h h' ∧ At h' V M { X with now := updL X.now a (ws.take i) }) (fun i => n - i) 0 ?_ ?_
  · conv => whnf
    exact ⟨0, rfl, rfl, rfl, Nat.zero_le _, Keeps.refl _ _, by rw [List.take_zero, updL_nil]; exact A⟩
  · rintro i h2 ⟨hi, k2, A2⟩
    conv => whnf
    refine IfR.i (fun hc => ?_) (fun hc => ?_)
    · have hi1 : i < ws.length := by simp at hc; omega
      have S2 := S.keepM k2 (fun b hb hx => by simp at hx; subst hx; exact hs hb)
      obtain ⟨b, off, hb, _, hcell⟩ := S2.at1 i hi1
      conv => whnf
      refine IdxS.i i rfl (by omega) hb ?_
      conv => whnf
      refine LoadR.i hcell ?_
      conv => whnf
      refine LoadR.o A2.obj rfl ?_
      conv => whnf
      rw [wrapI (x := a + (i : Int)) (by omega) (by omega)]
      obtain ⟨own, q1, q2, q3⟩ := A2.own
      refine SemR.put rfl rfl q1 (by simp [blocksOf]) fun h3 s3 M3 k3 => ?_
      conv => whnf
      refine ⟨n - (i + 1), by omega, ?_⟩
      conv => whnf
      refine ⟨i + 1, rfl, by rw [wrapN (n := i + 1) (by simp) (by omega)], rfl, by omega, k2.trans k3, ?_⟩
      have := A2.put q2 q3 (ho i (by omega)) k3 M3
      simp only at this
      rw [updL_step X.now a ws i hi1] at this
      exact this
    · conv => whnf
      have hi1 : i = ws.length := by simp at hc; omega
      rw [hi1, List.take_length] at A2
      exact ⟨k2, A2⟩
end Go.Proofs.YtlloemmpnhoanaaGreat
