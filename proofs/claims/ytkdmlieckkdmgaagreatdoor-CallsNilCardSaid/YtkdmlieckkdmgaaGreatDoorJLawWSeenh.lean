/-
  Joined texts: FolC, FolY, FolS, FolD, FolE, FolF, FolG, FolH, FolI.
-/
import Derived.Test.YtkdmlieckkdmgaaGreatDoorJLawWSeeng
import Derived.Shelf.SlLaysF0
import Derived.Test.YtkdmlieckkdmgaaGreatDoorProg
import Derived.Shelf.SlSortCmp.NoneTotal
import Derived.Laws.Cover1
/-
  A directory's entries, in a block's words.
-/
set_option linter.all false
set_option maxRecDepth 100000
set_option maxHeartbeats 1000000
namespace Go.Proofs.YtkdmlieckkdmgaaGreatDoor
open Go Go.Eng

/-- a name of a directory, and its file's number -/
structure Ent where
  name : List UInt8
  node : Int
deriving DecidableEq, Inhabited
def Ent.ok (e : Ent) : Prop := e.name.length ≤ 140737488351232 ∧ inI64 e.node
def Ent.cells (e : Ent) : List Value := [.string ⟨e.name.toArray⟩, .int .i64 e.node]
instance : Rp Ent where
  n := 2
  rep _ vs x := vs = x.cells ∧ x.ok
  len h := by rw [h.1]; rfl
  keep _ h := h
instance : Flat Ent := ⟨fun h => h⟩

theorem slot_spec (b k : Nat) (hk : k < 5) (h : Heap) : CallH Tryz.prog 91 [.slice (some ⟨b, 0, none⟩) 16 16, .int .i64 (k : Int)] h (fun v h' => Keeps [] h h' ∧ v = .slice (some ⟨b, 3 * k, none⟩) 3 3) := by
  have hk' : k = 0 ∨ k = 1 ∨ k = 2 ∨ k = 3 ∨ k = 4 := by omega
  rcases hk' with rfl | rfl | rfl | rfl | rfl
  all_goals
    refine call_of hmix Tryz.func91 rfl ok91 (by simp [Tryz.f91]) ?_
    conv => whnf
    refine PureR.i (fun w => rfl) ?_
    conv => whnf
    exact ⟨Keeps.refl _ _, rfl⟩

def wAt (ws : List UInt64) (i : Nat) : UInt64 := ws[i]?.getD 0
theorem nth_w {ws : List UInt64} {i : Nat} (hi : i < ws.length) : nth (ws.map wv) i = some (wv (wAt ws i)) := by
  rw [nth_eq]; simp [wAt, hi]

theorem slW {h : Heap} {b : Nat} {ws : List UInt64} {T : TypeId} {fz : Nat × Nat} (o : h[b]? = some (.cells ⟨ws.map wv⟩ T fz)) (off n : Nat) (hn : off + n ≤ ws.length) (hb : n ≤ 1000000) : Sl h (some ⟨b, off, none⟩) n n ((ws.drop off).take n) := by
  have hl : ((ws.drop off).take n).length = n := by simp; omega
  refine ⟨hl.symm, Nat.le_refl _, by omega, fun i hi => ⟨b, off, rfl, [wv _], rfl, fun j hj => ?_⟩⟩
  have : j = 0 := by simpa using hj
  subst this
  rw [hl] at hi
  show Heap.cell? h b (off + i * 1 + 0) = _
  rw [show off + i * 1 + 0 = off + i by omega]
  unfold Heap.cell?
  rw [o]
  simp
  refine ⟨_, ?_, rfl⟩
  rw [List.getElem?_eq_getElem (by omega)]

def emptyB (ws : List UInt64) (k : Nat) : Bool := decide (wAt ws (3 * k) = 0) && decide (wAt ws (3 * k + 1) = 0) && decide (wAt ws (3 * k + 2) = 0)

theorem empty_spec {h : Heap} {b : Nat} {ws : List UInt64} {T : TypeId} {fz : Nat × Nat} (o : h[b]? = some (.cells ⟨ws.map wv⟩ T fz)) (hl : ws.length = 16) (k : Nat) (hk : k < 5) : CallH Tryz.prog 90 [.slice (some ⟨b, 3 * k, none⟩) 3 3] h (fun v h' => Keeps [] h h' ∧ v = .bool (emptyB ws k)) := by
  refine call_of hmix Tryz.func90 rfl ok90 (by simp [Tryz.f90]) ?_
  conv => whnf
  refine IdxS.i 0 rfl (by decide) rfl ?_
  conv => whnf
  refine LoadR.o o (nth_w (i := 3 * k + 0 * 1) (by omega)) ?_
  conv => whnf
  refine IdxS.i 1 rfl (by decide) rfl ?_
  conv => whnf
  refine LoadR.o o (nth_w (i := 3 * k + 1 * 1) (by omega)) ?_
  conv => whnf
  refine IdxS.i 2 rfl (by decide) rfl ?_
  conv => whnf
  refine LoadR.o o (nth_w (i := 3 * k + 2 * 1) (by omega)) ?_
  conv => whnf
  refine ⟨Keeps.refl _ _, ?_⟩
  have e := wv_zero
  unfold emptyB
  rw [← e, ← e, ← e, bif_and, bif_and]
  rfl

/-- an entry's bytes, its name, its number -/
def entT (ws : List UInt64) (k : Nat) : List UInt8 := untextL [wAt ws (3 * k + 1), wAt ws (3 * k + 2)] 16
def entN (ws : List UInt64) (k : Nat) : List UInt8 := cutA (entT ws k)
def entV (ws : List UInt64) (k : Nat) : Int := IntKind.i64.wrap ((wAt ws (3 * k)).toNat : Int)
def entE (ws : List UInt64) (k : Nat) : Ent := ⟨entN ws k, entV ws k⟩
def entB (ws : List UInt64) (k place : Nat) : Bool := (cutB (entT ws k)).all ez && (nameB (entN ws k) && (decide (bucketL (entN ws k) = place % 8) && (decide (1 ≤ (wAt ws (3 * k)).toNat) && decide ((wAt ws (3 * k)).toNat < 24))))

theorem entT_len (ws : List UInt64) (k : Nat) : (entT ws k).length = 16 := by simp [entT, untextL]
theorem entN_len (ws : List UInt64) (k : Nat) : (entN ws k).length ≤ 16 := by
  have := cutA_len (entT ws k)
  rw [entT_len] at this; exact this
theorem cutB_len (l : List UInt8) : (cutB l).length ≤ l.length := by
  unfold cutB
  rw [List.length_drop]
  have := (List.dropWhile_suffix nz (l := l)).length_le
  omega

theorem entry_spec {h : Heap} {b : Nat} {ws : List UInt64} {T : TypeId} {fz : Nat × Nat} (o : h[b]? = some (.cells ⟨ws.map wv⟩ T fz)) (hl : ws.length = 16) (k place : Nat) (hk : k < 5) (hp : place < 1000000) :
    CallH Tryz.prog 92 [.slice (some ⟨b, 3 * k, none⟩) 3 3, .int .i64 (place : Int)] h (fun v h' => Keeps [] h h' ∧ v = .tuple #[.agg ⟨(entE ws k).cells⟩, .bool (entB ws k place)]) := by
  refine call_of hmix Tryz.func92 rfl ok92 (by simp [Tryz.f92]) ?_
  conv => whnf
  refine AllocR.i fun b1 h1 e1 s1 o1 k1 => ?_
  conv => whnf
  refine SliceR.i 1 3 rfl rfl (by decide) (by decide) ?_
  have S := slW (k1.obj o (by simp)) (3 * k + 1) 2 (by omega) (by decide)
  have hw2 : (ws.drop (3 * k + 1)).take 2 = [wAt ws (3 * k + 1), wAt ws (3 * k + 2)] := by
    apply List.ext_getElem
    · simp; omega
    · intro i i1 i2
      have : i = 0 ∨ i = 1 := by simp at i2; omega
      rcases this with rfl | rfl <;> simp [wAt]
      · rw [List.getElem?_eq_getElem (by omega)]; rfl
      · rw [List.getElem?_eq_getElem (by omega)]; rfl
  rw [hw2] at S
  conv => whnf
  refine CallR.i (untext_spec S 16 (by decide) (by decide)) fun v h2 k2 hv => ?_
  subst hv
  have ht : untextL [wAt ws (3 * k + 1), wAt ws (3 * k + 2)] 16 = entT ws k := rfl
  rw [ht]
  have hlen := entT_len ws k
  conv => whnf
  refine CallR.i (cut0_spec (entT ws k) (by omega) h2) fun v h3 k3 hv => ?_
  obtain ⟨bb, rfl⟩ := hv
  have hlb := cutB_len (entT ws k)
  have hla := entN_len ws k
  have hn : cutA (entT ws k) = entN ws k := rfl
  rw [hn]
  have o3 := ((k1.trans k2).trans k3).obj o (by simp)
  conv => whnf
  refine IfR.t rfl ?_
  conv => whnf
  refine CallR.i (trim_spec (cutB (entT ws k)) (by omega) h3) fun v h4 k4 hv => ?_
  subst hv
  have e0 : (ByteArray.mk #[]) = ⟨([] : List UInt8).toArray⟩ := rfl
  have hz : ((ByteArray.mk (trimZ (cutB (entT ws k))).toArray).toList == (ByteArray.mk #[]).toList) = (cutB (entT ws k)).all ez := by
    rw [e0, bs_eq]
    have := trimZ_nil (cutB (entT ws k))
    cases hx : (cutB (entT ws k)).all ez
    · rw [hx] at this; simp at this; exact decide_eq_false this
    · rw [hx] at this; simp at this; exact decide_eq_true this
  have k14 := ((k1.trans k2).trans k3).trans k4
  have o4 := k14.obj o (by simp)
  have n0 : nth (ws.map wv) (3 * k + 0 * 1) = some (wv (wAt ws (3 * k))) := nth_w (i := 3 * k + 0 * 1) (by omega)
  have hrem : (place : Int).tmod 8 = ((place % 8 : Nat) : Int) := by rw [Int.tmod_eq_emod_of_nonneg (by omega)]; omega
  have fin : ∀ (h' : Heap) (x : Bool), Keeps [] h h' → x = ((cutB (entT ws k)).all ez && (nameB (entN ws k) && decide (bucketL (entN ws k) = place % 8))) →
      Keeps [] h h' ∧ (Value.tuple #[.agg ⟨[.string ⟨(entN ws k).toArray⟩, .int .i64 (IntKind.i64.wrap ((wAt ws (3 * k)).toNat : Int))]⟩, .bool (bif (bif x then decide (((wAt ws (3 * k)).toNat : Int) ≥ 1) else false) then decide (((wAt ws (3 * k)).toNat : Int) < 24) else false)]) = .tuple #[.agg ⟨(entE ws k).cells⟩, .bool (entB ws k place)] := by
    intro h' x kk hx
    refine ⟨kk, ?_⟩
    have e1 : decide (((wAt ws (3 * k)).toNat : Int) ≥ 1) = decide (1 ≤ (wAt ws (3 * k)).toNat) := decide_eq_decide.2 (by omega)
    have e2 : decide (((wAt ws (3 * k)).toNat : Int) < 24) = decide ((wAt ws (3 * k)).toNat < 24) := decide_eq_decide.2 (by omega)
    rw [e1, e2, hx, bif_and, bif_and]
    unfold entB
    simp only [Bool.and_assoc]
    rfl
  have nb : b ∉ [b1] := by have := obj_lt o; simp; omega
  have z4 := ((k2.trans k3).trans k4).size
  conv => whnf
  refine IfR.i (fun h5 => ?_) (fun h5 => ?_)
  · have g5 : (cutB (entT ws k)).all ez = true := by rw [← hz]; exact h5
    conv => whnf
    refine CallR.i (right4_spec (entN ws k) (by omega) h4) fun v h6 k6 hv => ?_
    subst hv
    have o6 := k6.obj o4 (by simp)
    conv => whnf
    refine IfR.i (fun h7 => ?_) (fun h7 => ?_)
    · have g7 : nameB (entN ws k) = true := by rw [bif_and] at h7; simpa using (Bool.and_eq_true _ _ ▸ h7).2
      conv => whnf
      refine CallR.i (bucket_spec (entN ws k) (by omega) h6) fun v h8 k8 hv => ?_
      subst hv
      have o8 := k8.obj o6 (by simp)
      have z6 := k6.size
      have z8 := k8.size
      conv => whnf
      refine Need.i (by decide) ?_
      repeat' ((conv => whnf); first | refine IdxS.i 0 rfl (by decide) rfl ?_ | refine LoadR.o o8 n0 ?_ | refine LoadR.o ((by assumption : Keeps [b1] h8 _).obj o8 nb) n0 ?_ | refine BothR.i ?_ ?_ | refine BoxR.i fun h9 s9 k9 => ?_)
      all_goals
        conv => whnf
        refine fin _ _ (((k14.trans k6).trans k8).new1 k9 (by omega)) ?_
        rw [hz, g5, g7, hrem]
        simp
        rw [Bool.eq_iff_iff]; simp; omega
    · have g7 : nameB (entN ws k) = false := by rw [h5] at h7; simpa using h7
      repeat' ((conv => whnf); first | refine Need.i (by decide) ?_ | refine IdxS.i 0 rfl (by decide) rfl ?_ | refine LoadR.o o6 n0 ?_ | refine LoadR.o ((by assumption : Keeps [b1] h6 _).obj o6 nb) n0 ?_ | refine BothR.i ?_ ?_ | refine BoxR.i fun h9 s9 k9 => ?_)
      all_goals
        conv => whnf
        have z6 := k6.size
        refine fin _ _ ((k14.trans k6).new1 k9 (by omega)) ?_
        rw [hz, g5, g7]
        simp
  · have g5 : (cutB (entT ws k)).all ez = false := by rw [← hz]; exact h5
    conv => whnf
    refine IfR.f ?_ ?_
    · rw [h5]; rfl
    repeat' ((conv => whnf); first | refine Need.i (by decide) ?_ | refine IdxS.i 0 rfl (by decide) rfl ?_ | refine LoadR.o o4 n0 ?_ | refine LoadR.o ((by assumption : Keeps [b1] h4 _).obj o4 nb) n0 ?_ | refine BothR.i ?_ ?_ | refine BoxR.i fun h9 s9 k9 => ?_)
    all_goals
      conv => whnf
      refine fin _ _ (k14.new1 k9 (by omega)) ?_
      rw [hz, g5]
      simp
end Go.Proofs.YtkdmlieckkdmgaaGreatDoor
/-
  The library's sort of entries, laid at this program (made by wip/tools/laysrt.py).
-/
set_option linter.all false
namespace Go.Proofs.YtkdmlieckkdmgaaGreatDoor
open Go Go.Shelf
def srtE_ren : Go.Shelf.Ren := ⟨fun | 6 => 93 | 15 => 143 | 14 => 154 | 28 => 189 | 29 => 179 | 20 => 202 | 21 => 203 | 22 => 204 | 23 => 205 | 24 => 206 | 25 => 207 | 26 => 208 | 27 => 209 | 46 => 237 | 47 => 227 | 48 => 228 | 49 => 238 | 50 => 239 | 57 => 252 | n => n, fun | 22 => 52 | 24 => 120 | 25 => 171 | 3 => 3 | 39 => 45 | 0 => 0 | 53 => 257 | 55 => 32 | 4 => 4 | 46 => 250 | 45 => 249 | 50 => 128 | 5 => 5 | 9 => 9 | 66 => 285 | 70 => 289 | 76 => 303 | 77 => 304 | n => n, fun n => n⟩
theorem srtE : SlLaysF0.n6 Tryz.prog srtE_ren := {
  mixed := by kernel_rfl,
  f6 := ⟨Tryz.f93.name, by decide, Tryz.func93.trans (congrArg some (by kernel_rfl))⟩,
  f14 := ⟨Tryz.f154.name, by decide, Tryz.func154.trans (congrArg some (by kernel_rfl))⟩,
  f15 := Tryz.func143.trans (congrArg some (by kernel_rfl)),
  f20 := ⟨Tryz.f202.name, by decide, Tryz.func202.trans (congrArg some (by kernel_rfl))⟩,
  f21 := ⟨Tryz.f203.name, by decide, Tryz.func203.trans (congrArg some (by kernel_rfl))⟩,
  f22 := ⟨Tryz.f204.name, by decide, Tryz.func204.trans (congrArg some (by kernel_rfl))⟩,
  f23 := ⟨Tryz.f205.name, by decide, Tryz.func205.trans (congrArg some (by kernel_rfl))⟩,
  f24 := ⟨Tryz.f206.name, by decide, Tryz.func206.trans (congrArg some (by kernel_rfl))⟩,
  f25 := ⟨Tryz.f207.name, by decide, Tryz.func207.trans (congrArg some (by kernel_rfl))⟩,
  f26 := ⟨Tryz.f208.name, by decide, Tryz.func208.trans (congrArg some (by kernel_rfl))⟩,
  f27 := ⟨Tryz.f209.name, by decide, Tryz.func209.trans (congrArg some (by kernel_rfl))⟩,
  f28 := Tryz.func189.trans (congrArg some (by kernel_rfl)),
  f29 := Tryz.func179.trans (congrArg some (by kernel_rfl)),
  f46 := ⟨Tryz.f237.name, by decide, Tryz.func237.trans (congrArg some (by kernel_rfl))⟩,
  f47 := Tryz.func227.trans (congrArg some (by kernel_rfl)),
  f48 := Tryz.func228.trans (congrArg some (by kernel_rfl)),
  f49 := ⟨Tryz.f238.name, by decide, Tryz.func238.trans (congrArg some (by kernel_rfl))⟩,
  f50 := ⟨Tryz.f239.name, by decide, Tryz.func239.trans (congrArg some (by kernel_rfl))⟩,
  f57 := ⟨Tryz.f252.name, by decide, Tryz.func252.trans (congrArg some (by kernel_rfl))⟩,
  t0 := Tryz.underlying0,
  a0 := Tryz.isAgg0,
  z0 := Tryz.sizeOf0,
  v0 := Tryz.zeroValue0,
  t3 := Tryz.underlying3,
  a3 := Tryz.isAgg3,
  z3 := Tryz.sizeOf3,
  v3 := Tryz.zeroValue3,
  t4 := Tryz.underlying4,
  a4 := Tryz.isAgg4,
  z4 := Tryz.sizeOf4,
  v4 := Tryz.zeroValue4,
  t5 := Tryz.underlying5,
  a5 := Tryz.isAgg5,
  z5 := Tryz.sizeOf5,
  v5 := Tryz.zeroValue5,
  t9 := Tryz.underlying9,
  a9 := Tryz.isAgg9,
  z9 := Tryz.sizeOf9,
  v9 := Tryz.zeroValue9,
  t22 := Tryz.underlying52,
  a22 := Tryz.isAgg52,
  z22 := Tryz.sizeOf52,
  v22 := Tryz.zeroValue52,
  t25 := Tryz.underlying171,
  a25 := Tryz.isAgg171,
  z25 := Tryz.sizeOf171,
  v25 := Tryz.zeroValue171,
  t39 := Tryz.underlying45,
  a39 := Tryz.isAgg45,
  z39 := Tryz.sizeOf45,
  v39 := Tryz.zeroValue45,
  t45 := Tryz.underlying249,
  a45 := Tryz.isAgg249,
  z45 := Tryz.sizeOf249,
  v45 := Tryz.zeroValue249,
  t46 := Tryz.underlying250,
  a46 := Tryz.isAgg250,
  z46 := Tryz.sizeOf250,
  v46 := Tryz.zeroValue250,
  t50 := Tryz.underlying128,
  a50 := Tryz.isAgg128,
  z50 := Tryz.sizeOf128,
  v50 := Tryz.zeroValue128,
  t53 := Tryz.underlying257,
  a53 := Tryz.isAgg257,
  z53 := Tryz.sizeOf257,
  v53 := Tryz.zeroValue257,
  t55 := Tryz.underlying32,
  a55 := Tryz.isAgg32,
  z55 := Tryz.sizeOf32,
  v55 := Tryz.zeroValue32,
  t66 := Tryz.underlying285,
  a66 := Tryz.isAgg285,
  z66 := Tryz.sizeOf285,
  v66 := Tryz.zeroValue285,
  t70 := Tryz.underlying289,
  a70 := Tryz.isAgg289,
  z70 := Tryz.sizeOf289,
  v70 := Tryz.zeroValue289,
  t76 := Tryz.underlying303,
  a76 := Tryz.isAgg303,
  z76 := Tryz.sizeOf303,
  v76 := Tryz.zeroValue303,
  t77 := Tryz.underlying304,
  a77 := Tryz.isAgg304,
  z77 := Tryz.sizeOf304,
  v77 := Tryz.zeroValue304 }
end Go.Proofs.YtkdmlieckkdmgaaGreatDoor
/-
  What the library's sort does to a directory's entries.
-/
set_option linter.all false
set_option maxRecDepth 100000
set_option maxHeartbeats 2000000
namespace Go.Proofs.YtkdmlieckkdmgaaGreatDoor
open Go Go.Eng Go.Shelf Go.RowKit Go.Sort

/-! ### The order of texts -/

def blt (a b : List UInt8) : Bool := Op.bytesLess a b
theorem blt_irr : ∀ a : List UInt8, blt a a = false
  | [] => rfl
  | x :: a => by
    have := blt_irr a
    unfold blt at this ⊢
    simp [Op.bytesLess, this]
theorem blt_nil (a : List UInt8) : blt a [] = false := by cases a <;> rfl
theorem blt_cons (x y : UInt8) (a b : List UInt8) : blt (x :: a) (y :: b) = true ↔ x < y ∨ (x = y ∧ blt a b = true) := by
  unfold blt
  simp [Op.bytesLess]
theorem blt_trans : ∀ {a b c : List UInt8}, blt a b = true → blt b c = true → blt a c = true
  | a, [], _, h, _ => by rw [blt_nil] at h; cases h
  | _, _ :: _, [], _, h => by rw [blt_nil] at h; cases h
  | [], _ :: _, _ :: _, _, _ => rfl
  | x :: a, y :: b, z :: c, h, h' => by
    rw [blt_cons] at h h' ⊢
    rcases h with h | ⟨rfl, h⟩
    · rcases h' with h' | ⟨rfl, h'⟩
      · exact .inl (UInt8.lt_trans h h')
      · exact .inl h
    · rcases h' with h' | ⟨rfl, h'⟩
      · exact .inl h'
      · exact .inr ⟨rfl, blt_trans h h'⟩
theorem blt_tri : ∀ a b : List UInt8, blt a b = true ∨ a = b ∨ blt b a = true
  | [], [] => .inr (.inl rfl)
  | [], _ :: _ => .inl rfl
  | _ :: _, [] => .inr (.inr rfl)
  | x :: a, y :: b => by
    rw [blt_cons, blt_cons]
    by_cases h1 : x < y
    · exact .inl (.inl h1)
    by_cases h2 : y < x
    · exact .inr (.inr (.inl h2))
    have h : x = y := by
      apply UInt8.toNat_inj.1
      have g1 : ¬ x.toNat < y.toNat := h1
      have g2 : ¬ y.toNat < x.toNat := h2
      omega
    subst h
    rcases blt_tri a b with h | rfl | h
    · exact .inl (.inr ⟨rfl, h⟩)
    · exact .inr (.inl rfl)
    · exact .inr (.inr (.inr ⟨rfl, h⟩))
theorem blt_asym {a b : List UInt8} (h : blt a b = true) : blt b a = false := by
  rw [← Bool.not_eq_true]
  intro h'
  have := blt_trans h h'
  rw [blt_irr] at this; cases this

def cmpT (a b : List UInt8) : Int := if blt a b = true then -1 else if blt b a = true then 1 else 0
theorem cmpT_lt (a b : List UInt8) : decide (cmpT a b < 0) = blt a b := by
  unfold cmpT
  split
  · rename_i h; rw [h]; rfl
  · rename_i h
    have : blt a b = false := by simpa using h
    rw [this]
    split <;> rfl

theorem isNaN_calls (a : ByteArray) (W : World) : Calls Tryz.prog 155 #[.string a] W fun e w' => e = .returned (.bool false) ∧ w' = W := by
  go_enter Tryz.func155, Tryz.ntmps155
  go_wp2
  go_ret
  simp

theorem compare_calls (a b : List UInt8) (W : World) : Calls Tryz.prog 95 #[.string ⟨a.toArray⟩, .string ⟨b.toArray⟩] W fun e w' => e = .returned (.int .i64 (cmpT a b)) ∧ w' = W := by
  have hcon := fun x W' => isNaN_calls x W'
  have hlt : Op.bytesLess (ByteArray.mk a.toArray).toList (ByteArray.mk b.toArray).toList = blt a b := by
    rw [ByteArray.toList_mk, ByteArray.toList_mk]; rfl
  have heq : ((ByteArray.mk a.toArray).toList == (ByteArray.mk b.toArray).toList) = decide (a = b) := bs_eq a b
  have hc : cmpT a b = if blt a b = true then -1 else if (!(blt a b || decide (a = b))) = true then 1 else 0 := by
    unfold cmpT
    rcases blt_tri a b with h | rfl | h
    · rw [if_pos h, if_pos h]
    · simp [blt_irr]
    · have h1 := blt_asym h
      have h2 : ¬ a = b := by rintro rfl; rw [blt_irr] at h; cases h
      simp [h, h1, h2]
  rw [hc]
  go_enter Tryz.func95, Tryz.ntmps95
  go_wp2_with (go_at_call 155; refine (hcon _ _).mono ?_; rintro e w' ⟨rfl, rfl⟩)
  all_goals go_ret
  all_goals refine ⟨?_, rfl⟩
  all_goals first | rfl | (exfalso; unfold blt at *; simp_all)

/-! ### The sort -/

def cfE (x y : Ent) : Int := cmpT x.name y.name

theorem closureE (x y : Ent) (W : World) : Calls Tryz.prog 94 #[.agg ⟨x.cells⟩, .agg ⟨y.cells⟩] W fun e w' => e = .returned (.int .i64 (cfE x y)) ∧ ∃ q os', w' = grow (W.drewN q) os' := by
  obtain ⟨x, v⟩ := x
  obtain ⟨y, u⟩ := y
  unfold cfE Ent.cells
  simp only
  have hcon := fun W' => compare_calls x y W'
  generalize cmpT x y = r at hcon ⊢
  go_enter Tryz.func94, Tryz.ntmps94
  go_wp2_with (go_at_call 95; refine (hcon _).mono ?_; rintro e w' ⟨rfl, rfl⟩)
  go_ret
  exact ⟨rfl, 0, _, by rw [alloc_eq_grow, alloc_eq_grow, grow_grow]; rfl⟩

theorem ltE (x y : Ent) : ltOf cfE x y = blt x.name y.name := cmpT_lt _ _
theorem swoE : SWO (ltOf cfE) where
  irrefl x := by rw [ltE, blt_irr]
  trans x y z h1 h2 := by
    rw [ltE] at *
    exact blt_trans h1 h2
  ntrans x y z h1 h2 := by
    rw [ltE] at *
    rcases blt_tri x.name y.name with h | h | h
    · rw [h] at h1; cases h1
    · rw [h]; exact h2
    · rcases blt_tri y.name z.name with g | g | g
      · rw [g] at h2; cases h2
      · rw [← g]; exact h1
      · exact blt_asym (blt_trans g h)

def entC (l : List Ent) : List Value := l.flatMap Ent.cells
theorem entC_len (l : List Ent) : (entC l).length = l.length * 2 := by
  induction l with
  | nil => rfl
  | cons x l ih => simp only [entC, List.flatMap_cons, List.length_append, Ent.cells, List.length_cons, List.length_nil] at ih ⊢; omega
theorem entC_app (l m : List Ent) : entC (l ++ m) = entC l ++ entC m := by simp [entC]
theorem entC_get : ∀ (l : List Ent) (j : Nat) (h : j < l.length * 2), (entC l)[j]? = ((l[j / 2]'(by omega)).cells)[j % 2]?
  | [], j, h => by simp at h
  | x :: l, 0, h => rfl
  | x :: l, 1, h => rfl
  | x :: l, j + 2, h => by
    have h' : j < l.length * 2 := by simp at h; omega
    have ih := entC_get l j h'
    have e1 : (j + 2) / 2 = j / 2 + 1 := by omega
    have e2 : (j + 2) % 2 = j % 2 := by omega
    simp only [e1, e2, List.getElem_cons_succ]
    rw [← ih]
    rfl

theorem flat_ent (d : Array Ent) : flatK Ent.cells 2 d = ⟨entC d.toList⟩ := by
  have hl := entC_len d.toList
  simp at hl
  apply Array.ext
  · rw [size_flatK]
    show d.size * 2 = (entC d.toList).length
    omega
  · intro j h1 h2
    have hj : j < d.size * 2 := by rw [size_flatK] at h1; exact h1
    have g := entC_get d.toList j (by simpa using hj)
    have hd : j / 2 < d.size := by omega
    have hm : j % 2 < (Ent.cells d[j / 2]).length := by unfold Ent.cells; simp; omega
    have e1 := get_flatK Ent.cells 2 d j hj
    rw [getElem!_pos (flatK Ent.cells 2 d) j h1, getElem!_pos d (j / 2) hd, getElem!_pos (Ent.cells d[j / 2]) (j % 2) hm] at e1
    rw [e1]
    show _ = (entC d.toList)[j]
    have h3 : j < (entC d.toList).length := by omega
    rw [List.getElem?_eq_getElem h3] at g
    have g2 : (Ent.cells (d.toList[j / 2]'(by simpa using hd)))[j % 2]? = some (Ent.cells d[j / 2])[j % 2] := by
      rw [Array.getElem_toList]
      exact List.getElem?_eq_getElem hm
    rw [g2] at g
    exact (Option.some.inj g).symm

theorem sortE_spec {h : Heap} {a : Option Addr} {n c : Nat} {l : List Ent} (O : Own h 120 2 a n c (entC l)) (hlen : l.length ≤ 100000) :
    CallH Tryz.prog 93 [.slice a n c, .func (.func 94) #[] #[]] h (fun v h' => Keeps (blkA a) h h' ∧ v = .tuple #[] ∧ ∃ l', l'.Perm l ∧ l'.Pairwise (fun x y => blt y.name x.name = false) ∧ Own h' 120 2 a n c (entC l')) := by
  intro w hw
  subst hw
  have eg : ∀ args w, (callFunc 94 args).run Tryz.prog w = .ok (.enter 94 args) w := enters_of Tryz.func94 (by kernel_rfl) rfl
  have hcl := entC_len l
  rcases O with ⟨rfl, rfl, rfl, hl⟩ | ⟨b, cs, rfl, ho, ht, h1, h2, h3⟩
  · have : l = [] := List.eq_nil_of_length_eq_zero (by rw [hl] at hcl; simp at hcl; omega)
    subst this
    refine (AnyF.slices_SortFunc_none srtE none 0 (.func (.func 94) #[] #[]) w).mono fun e w' ⟨he, hw⟩ => ?_
    subst hw
    exact ⟨_, he, SameOut.refl _, Keeps.refl _ _, rfl, [], List.Perm.refl _, List.Pairwise.nil, .inl ⟨rfl, rfl, rfl, rfl⟩⟩
  · let d : Array Ent := l.toArray
    have hds : d.size = l.length := by simp [d]
    have hn : n = d.size := by omega
    subst hn
    have hfl : flatK Ent.cells 2 d = ⟨entC l⟩ := by rw [flat_ent]
    have hH : HoldsK Ent.cells 2 w b 0 d := by
      intro j hj
      rw [size_flatK] at hj
      have hjl : j < (entC l).length := by omega
      have hjc : j < cs.length := by
        have : d.size * 2 ≤ c * 2 := by omega
        omega
      constructor
      · have e : (flatK Ent.cells 2 d)[j]! = (entC l)[j] := by
          rw [hfl, getElem!_pos _ j (by simpa using hjl)]; rfl
        show w.cell? ⟨b, 0 + j, none⟩ = some (flatK Ent.cells 2 d)[j]!
        rw [e]
        have e2 : (entC l)[j] = cs[j] := by
          have : (cs.take (entC l).length)[j]? = (entC l)[j]? := by rw [ht]
          rw [List.getElem?_take, if_pos hjl, List.getElem?_eq_getElem hjc, List.getElem?_eq_getElem hjl] at this
          exact (Option.some.inj this).symm
        rw [e2]
        simp only [World.cell?, ho, Nat.zero_add]
        simp [hjc]
      · simp [World.frozen?, ho]
    have hblk : b < w.heap.size := obj_lt ho
    have hcmp : CmpLays Tryz.prog 94 #[] Ent.cells 2 cfE b 0 d.size w := fun _ _ _ _ x y => closureE x y _
    refine (AnyQ.slices_SortFunc srtE 2 Tryz.isAgg120 Tryz.sizeOf120 Ent.cells (fun _ => rfl) (fun x v hv => by simp [Ent.cells] at hv; rcases hv with rfl | rfl <;> rfl) cfE swoE 94 #[] b 0 c d w eg hcmp hH hblk (by omega)).mono fun e w' ⟨he, d', m, os, hp, hs, hw⟩ => ?_
    subst hw
    have hds' : d'.size = d.size := hp.1
    have hperm : d'.toList.Perm d.toList := by
      have := hp.2.2
      rw [Array.extract_eq_self_of_le (Nat.le_refl _)] at this
      rwa [← hds', Array.extract_eq_self_of_le (Nat.le_refl _)] at this
    have hheap : (sortWorldK Ent.cells 2 w b 0 m d' os).heap = w.heap.modify b (onCells (putCells id 0 (flatK Ent.cells 2 d'))) ++ os := rfl
    refine ⟨_, he, ⟨rfl, rfl, rfl⟩, ⟨?_, ?_⟩, rfl, d'.toList, ?_, ?_, ?_⟩
    · rw [hheap]; simp
    · intro x hx hxb
      rw [hheap, Array.getElem?_append_left (by simpa using hx), Array.getElem?_modify]
      simp [blkA] at hxb
      rw [if_neg (fun e => hxb e.symm)]
    · exact hperm
    · rw [List.pairwise_iff_getElem]
      intro i j hi hj hij
      have hj2 : j < d'.size := by simpa using hj
      have hi2 : i < d'.size := by omega
      have := hs i j (Nat.zero_le _) hij (by omega)
      rw [getElem!_pos d' i hi2, getElem!_pos d' j hj2, ltE] at this
      simpa only [Array.getElem_toList] using this
    · refine .inr ⟨b, (putCells id 0 (flatK Ent.cells 2 d') ⟨cs⟩).toList, rfl, ?_, ?_, ?_, ?_, h3⟩
      · rw [hheap, Array.getElem?_append_left (by simpa using hblk), Array.getElem?_modify, if_pos rfl, ho]
        rfl
      · have hl2 := entC_len d'.toList
        simp at hl2
        rw [flat_ent]
        apply List.ext_getElem
        · simp [putCells]; omega
        · intro j hj1 hj2
          have hjc : j < cs.length := by simp [putCells] at hj1; omega
          simp only [List.getElem_take, putCells, Array.toList_mapIdx, List.getElem_mapIdx]
          rw [if_pos ⟨Nat.zero_le _, by simpa using hj2⟩]
          simp only [id, Nat.sub_zero]
          rw [getElem!_pos _ j (by simpa using hj2)]
          rfl
      · simp [putCells]; exact h1
      · rw [entC_len]; simp [hds']
end Go.Proofs.YtkdmlieckkdmgaaGreatDoor
/-
  A directory's entries: finding, copying, leaving out what is the same.
-/
set_option linter.all false
set_option maxRecDepth 100000
set_option maxHeartbeats 1000000
namespace Go.Proofs.YtkdmlieckkdmgaaGreatDoor
open Go Go.Eng

theorem allOne_repL (l : List Value) (h : allOne l = true) : ∀ n, allOne (repL n l) = true
  | 0 => rfl
  | n + 1 => by
    have app : ∀ a b : List Value, allOne a = true → allOne b = true → allOne (a ++ b) = true := by
      intro a b ha hb
      induction a with
      | nil => exact hb
      | cons x a ih =>
        simp only [List.cons_append, allOne] at ha ⊢
        split
        · rename_i hx; rw [hx] at ha; exact ih ha
        · rename_i hx; rw [hx] at ha; cases ha
    exact app _ _ h (allOne_repL l h n)

theorem _root_.Go.Eng.SemR.clear {P : Program} {t e ty : TypeId} {zl : List Value} {s : Nat} (ht : P.underlying t = some (.slice e)) (hz : zeroCellsL P e = some zl) (hs : zl.length = s) (hp : 0 < s) (h1 : allOne zl = true)
    {h : Heap} {b off n cap : Nat} {L : List Value} {T : TypeId} (o : h[b]? = some (.cells ⟨L⟩ T (0, 0))) (hn : 0 < n) (hl : off + n * s ≤ L.length) {bs : List Nat} (hb : b ∉ bs) {K : Value → Heap → Prop}
    (H : ∀ h' L', L'.length = L.length → h'.size = h.size → h'[b]? = some (.cells ⟨L'⟩ T (0, 0)) → Keeps [b] h h' → K (.tuple #[]) h') :
    SemR P (Builtin.clear_ #[t] ty ⟨[.slice (some ⟨b, off, none⟩) n cap]⟩) bs h K := by
  unfold SemR
  intro hlt w hw
  subst hw
  obtain ⟨z, hzr, hzc⟩ := zeroCellsL_run hz w
  have hzz : (Builtin.zeroCells z.cells n).toList = repL n zl := by
    rw [hzc]
    unfold Builtin.zeroCells
    have e2 : (⟨zl⟩ : Array Value).size = s := hs
    have := congrArg Array.toList (repL_eq n s zl hs hp)
    rw [e2] at this ⊢
    exact this
  have hlen : (repL n zl).length = n * s := repL_length n s zl hs
  obtain ⟨w', r1, r2, r3, r4, r5⟩ := store_cells (P := P) (b := b) (T := T) (repL n zl) 0 off L w (allOne_one' (allOne_repL zl h1 n)) (by rw [hlen]; omega) o
  refine ⟨.tuple #[], w', ?_, r2, fun x hx => r5 x (fun e => hb (e ▸ hx)), H _ _ ?_ r3 r4 ⟨by omega, fun x _ hx => r5 x (by simpa using hx)⟩⟩
  · obtain ⟨m, rfl⟩ : ∃ m, n = m + 1 := ⟨n - 1, by omega⟩
    simp [Builtin.clear_, run_underlying ht, hzr, hzz, r1]
  · rw [spliceL_length]

/-! ### Find -/

def findE (l : List Ent) (name : List UInt8) : Option Ent := l.find? fun e => decide (e.name = name)
def idxE (name : List UInt8) : List Ent → Nat → Int
  | [], _ => -1
  | x :: l, i => if x.name = name then (i : Int) else idxE name l (i + 1)

theorem idxE_find (name : List UInt8) : ∀ (l : List Ent) (i : Nat), (idxE name l i = -1 ∧ findE l name = none) ∨ (∃ j : Nat, ∃ hj : j < l.length, idxE name l i = ((i + j : Nat) : Int) ∧ findE l name = some l[j])
  | [], i => .inl ⟨rfl, rfl⟩
  | x :: l, i => by
    unfold idxE findE
    by_cases hx : x.name = name
    · rw [if_pos hx]
      exact .inr ⟨0, by simp, by simp, by simp [hx]⟩
    · rw [if_neg hx]
      rcases idxE_find name l (i + 1) with ⟨h1, h2⟩ | ⟨j, hj, h1, h2⟩
      · refine .inl ⟨h1, ?_⟩
        rw [List.find?_cons, decide_eq_false hx]
        exact h2
      · refine .inr ⟨j + 1, by simpa using hj, by rw [h1]; congr 1; omega, ?_⟩
        rw [List.find?_cons, decide_eq_false hx]
        exact h2

theorem findC_spec (x : Ent) {q : Nat} {name : List UInt8} {h : Heap} (hq : h[q]? = some (.cells ⟨[.string ⟨name.toArray⟩]⟩ 9 (0, 0))) : CallH Tryz.prog 164 [.agg ⟨x.cells⟩, .pointer (some ⟨q, 0, none⟩)] h (fun v h' => Keeps [] h h' ∧ v = .bool (decide (x.name = name))) := by
  refine call_of hmix Tryz.func164 rfl ok164 (by simp [Tryz.f164]) ?_
  conv => whnf
  refine AllocR.i fun b1 h1 e1 s1 o1 k1 => ?_
  conv => whnf
  refine LoadR.o (k1.obj hq (by simp)) rfl ?_
  conv => whnf
  refine ⟨k1, ?_⟩
  rw [bs_eq]

theorem indexE_spec {q : Nat} {name : List UInt8} {h : Heap} (hq : h[q]? = some (.cells ⟨[.string ⟨name.toArray⟩]⟩ 9 (0, 0))) {a : Option Addr} {n c : Nat} {xs : List Ent} (S : Sl h a n c xs) (hn : n ≤ 1000000000) :
    CallH Tryz.prog 163 [.slice a n c, .func (.func 164) #[] #[.pointer (some ⟨q, 0, none⟩)]] h (fun v h' => Keeps [] h h' ∧ v = .int .i64 (idxE name xs 0)) := by
  have hl := S.hlen
  refine call_of hmix Tryz.func163 rfl ok163 (by simp [Tryz.f163]) ?_
  conv => whnf
  refine LoopR.on [0, 1, 7, 8] [] (fun i : Nat => [(0, .v (.slice a n c)), (1, .v (.func (.func 164) #[] #[.pointer (some ⟨q, 0, none⟩)])), (7, .v (.int .i64 (n : Int))), (8, .v (.int .i64 (i : Int)))]) (fun _ => [])
    (fun i h' => i ≤ n ∧ Keeps [] h h' ∧ idxE name xs 0 = idxE name (xs.drop i) i) (fun i => n - i) 0 ?_ ?_
  · conv => whnf
    exact ⟨0, rfl, rfl, rfl, Nat.zero_le _, Keeps.refl _ _, rfl⟩
  · rintro i h2 ⟨hi, k2, hI⟩
    conv => whnf
    refine IfR.i (fun hc => ?_) (fun hc => ?_)
    · have hi1 : i < xs.length := by simp at hc; omega
      obtain ⟨b, off, hb, cs, ⟨hcs, hok⟩, hcell⟩ := (S.keep k2).at_ i hi1
      subst hcs
      rw [List.drop_eq_getElem_cons hi1] at hI
      have hx : idxE name (xs[i] :: xs.drop (i + 1)) i = if xs[i].name = name then (i : Int) else idxE name (xs.drop (i + 1)) (i + 1) := rfl
      rw [hx] at hI
      conv => whnf
      refine IdxS.i i rfl (by omega) hb ?_
      conv => whnf
      refine LoadN.i (vs := xs[i].cells) rfl hcell ?_
      conv => whnf
      refine CallR.i (findC_spec xs[i] (k2.obj hq (by simp))) fun v h3 k3 hv => ?_
      subst hv
      conv => whnf
      refine IfR.i (fun hd => ?_) (fun hd => ?_)
      · conv => whnf
        rw [if_pos (by simpa using hd)] at hI
        exact ⟨k2.trans k3, by rw [hI]⟩
      · rw [if_neg (by simpa using hd)] at hI
        conv => whnf
        refine ⟨n - (i + 1), by omega, ?_⟩
        conv => whnf
        refine ⟨i + 1, rfl, by rw [wrapN (n := i + 1) (by simp) (by omega)], rfl, by omega, k2.trans k3, hI⟩
    · have hi1 : i = xs.length := by simp at hc; omega
      conv => whnf
      refine ⟨k2, ?_⟩
      rw [hI, hi1, List.drop_length]; rfl

/-- what 'find' tells -/
def findR (l : List Ent) (name : List UInt8) : Int × Bool := match findE l name with | some e => (e.node, true) | none => (0, false)

theorem find_spec {h : Heap} {a : Option Addr} {n c : Nat} {xs : List Ent} (S : Sl h a n c xs) (hn : n ≤ 1000000000) (name : List UInt8) :
    CallH Tryz.prog 119 [.slice a n c, .string ⟨name.toArray⟩] h (fun v h' => Keeps [] h h' ∧ v = .tuple #[.int .i64 (findR xs name).1, .bool (findR xs name).2]) := by
  have hl := S.hlen
  refine call_of hmix Tryz.func119 rfl ok119 (by simp [Tryz.f119]) ?_
  conv => whnf
  refine AllocR.i fun b1 h1 e1 s1 o1 k1 => ?_
  conv => whnf
  refine CallR.i (indexE_spec o1 (S.keep k1) hn) fun v h2 k2 hv => ?_
  subst hv
  have k02 := k1.trans k2
  rcases idxE_find name xs 0 with ⟨g1, g2⟩ | ⟨j, hj, g1, g2⟩
  · conv => whnf
    refine IfR.t (by rw [g1]; rfl) ?_
    conv => whnf
    refine ⟨k02, ?_⟩
    unfold findR; rw [g2]
  · conv => whnf
    refine IfR.f (by rw [g1]; simp) ?_
    obtain ⟨b, off, hb, cs, ⟨hcs, hok⟩, hcell⟩ := (S.keep k02).at_ j hj
    subst hcs
    conv => whnf
    refine IdxS.i j (by rw [g1]; simp) (by omega) hb ?_
    conv => whnf
    refine LoadR.i (v := .int .i64 xs[j].node) (hcell 1 (by simp [Ent.cells])) ?_
    conv => whnf
    refine ⟨k02, ?_⟩
    unfold findR; rw [g2]
end Go.Proofs.YtkdmlieckkdmgaaGreatDoor
/-
  A directory's entries: a copy; what is the same next to one another.
-/
set_option linter.all false
set_option maxRecDepth 100000
set_option maxHeartbeats 1000000
namespace Go.Proofs.YtkdmlieckkdmgaaGreatDoor
open Go Go.Eng

theorem reps_ent {h : Heap} : ∀ l : List Ent, (∀ e ∈ l, e.ok) → Reps h (entC l) l
  | [], _ => rfl
  | e :: l, hok => ⟨e.cells, entC l, rfl, ⟨rfl, hok e (by simp)⟩, reps_ent l fun x hx => hok x (by simp [hx])⟩
theorem own_ents {h : Heap} {a : Option Addr} {n c : Nat} {l : List Ent} (O : Own h 120 2 a n c (entC l)) (hok : ∀ e ∈ l, e.ok) (hb : l.length ≤ 1000000) : Sl h a n c l := O.sl (reps_ent l hok) rfl (by decide) (by omega)
theorem own_len' {h : Heap} {a : Option Addr} {n c : Nat} {l : List Ent} (O : Own h 120 2 a n c (entC l)) : n = l.length := by
  have := entC_len l
  rcases O with ⟨_, rfl, _, hl⟩ | ⟨b, cs, _, _, _, _, h2, _⟩
  · rw [hl] at this; simp at this; omega
  · omega
theorem allOne_ent : ∀ l : List Ent, allOne (entC l) = true
  | [] => rfl
  | e :: l => allOne_ent l

theorem cloneE_spec {h : Heap} {a : Option Addr} {n c : Nat} {l : List Ent} (O : Own h 120 2 a n c (entC l)) (hok : ∀ e ∈ l, e.ok) (hlen : l.length ≤ 100000) :
    CallH Tryz.prog 97 [.slice a n c] h (fun v h' => Keeps [] h h' ∧ ∃ a' c', v = .slice a' n c' ∧ Own h' 120 2 a' n c' (entC l) ∧ ∀ b ∈ blkA a', h.size ≤ b) := by
  have hn := own_len' O
  have S := own_ents O hok (by omega)
  refine call_of hmix Tryz.func97 rfl ok97 (by simp [Tryz.f97]) ?_
  conv => whnf
  rcases O with ⟨rfl, rfl, rfl, hl⟩ | ⟨b, cs, rfl, ho, ht, h1, h2, h3⟩
  · refine IfR.t rfl ?_
    conv => whnf
    exact ⟨Keeps.refl _ _, none, 0, rfl, .inl ⟨rfl, rfl, rfl, hl⟩, by simp [blkA]⟩
  · refine IfR.f rfl ?_
    conv => whnf
    refine AllocR.i fun b1 hh1 e1 s1 o1 k1 => ?_
    have O1 : Own hh1 120 2 (some ⟨b1, 0, none⟩) 0 0 [] := .inr ⟨b1, [], rfl, o1, rfl, rfl, rfl, Nat.le_refl _⟩
    conv => whnf
    rcases Nat.eq_zero_or_pos n with h0 | h0
    · subst h0
      refine SemR.append0 rfl rfl rfl (Nat.le_refl _) ?_
      conv => whnf
      have : l = [] := List.eq_nil_of_length_eq_zero hn.symm
      subst this
      exact ⟨k1, _, _, rfl, O1, fun x hx => by simp [blkA] at hx; omega⟩
    · refine append_own (e := 120) (sz := 2) (by_ := 24) (new := entC l) rfl rfl rfl rfl rfl rfl rfl O1 (by rw [entC_len]; omega) ?_ (allOne_ent l) (by omega) (by omega) (by simp [blocksOf]) ?_
      · intro j hj
        have oc := k1.obj ho (by simp)
        unfold Heap.cell?
        rw [oc]
        have : (cs.take (entC l).length)[j]? = (entC l)[j]? := by rw [ht]
        rw [List.getElem?_take, if_pos hj] at this
        rw [← this]
        simp
      · intro a' c' h5 O5 k5 n5
        conv => whnf
        refine ⟨k1.nil_of k5 (fun x hx => by simp [blkA] at hx; omega), a', c', by rw [Nat.zero_add], by rw [Nat.zero_add, List.nil_append] at O5; exact O5, fun x hx => ?_⟩
        rcases n5 x hx with h | h
        · simp [blkA] at h; omega
        · omega

theorem sameC_spec (x y : Ent) (h : Heap) : CallH Tryz.prog 98 [.agg ⟨x.cells⟩, .agg ⟨y.cells⟩] h (fun v h' => Keeps [] h h' ∧ v = .bool (decide (x.name = y.name))) := by
  refine call_of hmix Tryz.func98 rfl ok98 (by simp [Tryz.f98]) ?_
  conv => whnf
  refine AllocR.i fun b1 h1 e1 s1 o1 k1 => ?_
  conv => whnf
  refine AllocR.i fun b2 h2 e2 s2 o2 k2 => ?_
  conv => whnf
  refine ⟨k1.trans k2, ?_⟩
  rw [bs_eq]

/-- no two next to one another have one name -/
def noAdj (l : List Ent) : Prop := ∀ j (hj : j + 1 < l.length), l[j + 1].name ≠ l[j].name

theorem entC_cell {h : Heap} {b : Nat} {ys : List Ent} {rest : List Value} {T : TypeId} {fz : Nat × Nat} (o : h[b]? = some (.cells ⟨entC ys ++ rest⟩ T fz)) (j : Nat) (hj : j < ys.length) : ∀ i, i < 2 → Heap.cell? h b (j * 2 + i) = (ys[j].cells)[i]? := by
  intro i hi
  unfold Heap.cell?
  rw [o]
  have hl := entC_len ys
  have g := entC_get ys (j * 2 + i) (by omega)
  have e1 : (j * 2 + i) / 2 = j := by omega
  have e2 : (j * 2 + i) % 2 = i := by omega
  simp only [e1, e2] at g
  have e3 : (entC ys ++ rest)[j * 2 + i]? = (entC ys)[j * 2 + i]? := List.getElem?_append_left (by omega)
  rw [← g, ← e3]
  simp

theorem entC_cell2 {h : Heap} {b : Nat} {ys : List Ent} {rest : List Value} {T : TypeId} {fz : Nat × Nat} (o : h[b]? = some (.cells ⟨entC ys ++ rest⟩ T fz)) (k j : Nat) (hj : k + j < ys.length) : ∀ i, i < 2 → Heap.cell? h b (k * 2 + j * 2 + i) = (ys[k + j].cells)[i]? := by
  rw [← Nat.add_mul]; exact entC_cell o (k + j) hj

theorem ent_splice : ∀ (ys : List Ent) (k : Nat) (x : Ent) (rest : List Value), k < ys.length → spliceL (k * 2) x.cells (entC ys ++ rest) = entC (ys.set k x) ++ rest
  | [], k, x, rest, h => by simp at h
  | y :: ys, 0, x, rest, _ => by
    show spliceL 0 x.cells (_ :: _ :: (entC ys ++ rest)) = _
    cases hr : entC ys ++ rest with
    | nil => show _ = _ :: _ :: (entC ys ++ rest); rw [hr]; rfl
    | cons v r => show _ = _ :: _ :: (entC ys ++ rest); rw [hr]; rfl
  | y :: ys, k + 1, x, rest, h => by
    have ih := ent_splice ys k x rest (by simpa using h)
    rw [show (k + 1) * 2 = k * 2 + 2 by omega, List.set_cons_succ]
    show spliceL (k * 2 + 2) x.cells (.string ⟨y.name.toArray⟩ :: .int .i64 y.node :: (entC ys ++ rest)) = .string ⟨y.name.toArray⟩ :: .int .i64 y.node :: (entC (ys.set k x) ++ rest)
    rw [← ih]
    rfl

theorem compact_spec {h : Heap} {a : Option Addr} {n c : Nat} {l : List Ent} (O : Own h 120 2 a n c (entC l)) (hok : ∀ e ∈ l, e.ok) (hlen : l.length ≤ 100000) :
    CallH Tryz.prog 96 [.slice a n c, .func (.func 98) #[] #[]] h (fun v h' => Keeps (blkA a) h h' ∧ ∃ a' m c', v = .slice a' m c' ∧ ((m = n ∧ noAdj l) ∨ (m < n ∧ ¬ noAdj l))) := by
  have hn := own_len' O
  refine call_of hmix Tryz.func96 rfl ok96 (by simp [Tryz.f96]) ?_
  conv => whnf
  refine IfR.i (fun hs => ?_) (fun hs => ?_)
  · conv => whnf
    refine ⟨Keeps.refl _ _, _, _, _, rfl, .inl ⟨rfl, ?_⟩⟩
    intro j hj
    have : n < 2 := by simp at hs; omega
    omega
  have hn2 : 2 ≤ n := by simp at hs; omega
  rcases O with ⟨rfl, rfl, rfl, hl⟩ | ⟨b, cs, rfl, ho, ht, h1, h2, h3⟩
  · omega
  obtain ⟨rest, rfl⟩ : ∃ rest, cs = entC l ++ rest := ⟨cs.drop (entC l).length, by
    conv => lhs; rw [← List.take_append_drop (entC l).length cs]
    rw [ht]⟩
  have hel := entC_len l
  conv => whnf
  refine LoopR.on [0, 1, 5] [] (fun k : Nat => [(0, .v (.slice (some ⟨b, 0, none⟩) n c)), (1, .v (.func (.func 98) #[] #[])), (5, .v (.int .i64 (k : Int)))]) (fun _ => []) (fun k h' => 1 ≤ k ∧ k ≤ n ∧ Keeps [] h h' ∧ ∀ j (hj : j + 1 < l.length), j + 1 < k → l[j + 1].name ≠ l[j].name) (fun k => n - k) 1 ?_ ?_
  · conv => whnf
    exact ⟨1, rfl, rfl, rfl, Nat.le_refl _, by omega, Keeps.refl _ _, fun j hj hk => by omega⟩
  · rintro k hh ⟨hk1, hkn, kk, hno⟩
    conv => whnf
    refine IfR.i (fun hc => ?_) (fun hc => ?_)
    · have hk : k < l.length := by simp at hc; omega
      have o1 := kk.obj ho (by simp)
      conv => whnf
      refine IdxS.i k rfl (by omega) rfl ?_
      conv => whnf
      refine LoadN.i (vs := l[k].cells) rfl (by rw [Nat.zero_add]; exact entC_cell o1 k hk) ?_
      conv => whnf
      refine IdxS.i (k - 1) (by rw [wrapI (by omega) (by omega)]; omega) (by omega) rfl ?_
      conv => whnf
      refine LoadN.i (vs := (l[k - 1]'(by omega)).cells) rfl (by rw [Nat.zero_add]; exact entC_cell o1 (k - 1) (by omega)) ?_
      conv => whnf
      refine CallR.i (sameC_spec l[k] (l[k - 1]'(by omega)) hh) fun v h4 k4 hv => ?_
      subst hv
      conv => whnf
      refine IfR.i (fun hd => ?_) (fun hd => ?_)
      · have hdup : l[k].name = (l[k - 1]'(by omega)).name := by simpa using hd
        have hnot : ¬ noAdj l := fun hx => hx (k - 1) (by omega) (by simpa only [show k - 1 + 1 = k by omega] using hdup)
        have o4 := k4.obj o1 (by simp)
        conv => whnf
        refine SliceR.i k n rfl rfl (by omega) (by omega) ?_
        have hsl : slA (some ⟨b, 0, none⟩) c k 2 = some ⟨b, k * 2, none⟩ := by
          unfold slA
          rw [if_neg (by omega)]
          show some (Addr.add _ _) = _
          rw [addr_add, Nat.zero_add]
        conv => whnf
        refine LoopR.on [0, 1, 5, 6, 7] [] (fun q : Nat × Nat => [(0, .v (.slice (some ⟨b, 0, none⟩) n c)), (1, .v (.func (.func 98) #[] #[])), (5, .v (.int .i64 (q.1 : Int))), (6, .v (.slice (some ⟨b, k * 2, none⟩) (n - k) (c - k))), (7, .v (.int .i64 (q.2 : Int)))]) (fun _ => [])
          (fun q h' => 1 ≤ q.2 ∧ q.2 ≤ n - k ∧ q.1 + 1 ≤ k + q.2 ∧ k ≤ q.1 ∧ Keeps [b] h h' ∧ ∃ ys : List Ent, ys.length = n ∧ h'[b]? = some (.cells ⟨entC ys ++ rest⟩ 120 (0, 0))) (fun q => n - q.2) (k, 1) ?_ ?_
        · conv => whnf
          refine ⟨(k, 1), rfl, by simp only; rw [← hsl]; rfl, rfl, Nat.le_refl _, by simp only; omega, by simp only; omega, Nat.le_refl _, (kk.trans k4).mono (by simp), l, hn.symm, o4⟩
        · rintro ⟨kq, k2⟩ h5 ⟨q1, q2, q3, q4, kk5, ys, hys, o5⟩
          simp only at q1 q2 q3 q4
          conv => whnf
          refine IfR.i (fun hc2 => ?_) (fun hc2 => ?_)
          · have hk2 : k2 < n - k := by simp at hc2; omega
            conv => whnf
            first | refine IdxS.i k2 rfl (by omega) rfl ?_ | (refine MeetR.pass ?_; (conv => whnf); refine IdxS.i k2 rfl (by omega) rfl ?_)
            conv => whnf
            refine LoadN.i (vs := (ys[k + k2]'(by omega)).cells) rfl (entC_cell2 o5 k k2 (by omega)) ?_
            conv => whnf
            refine IdxS.i (k2 - 1) (by rw [wrapI (by omega) (by omega)]; omega) (by omega) rfl ?_
            conv => whnf
            refine LoadN.i (vs := (ys[k + (k2 - 1)]'(by omega)).cells) rfl (entC_cell2 o5 k (k2 - 1) (by omega)) ?_
            conv => whnf
            refine CallR.i (sameC_spec (ys[k + k2]'(by omega)) (ys[k + (k2 - 1)]'(by omega)) h5) fun v h6 k6 hv => ?_
            subst hv
            have o6 := k6.obj o5 (by simp)
            have kk6 := kk5.trans_nil k6
            conv => whnf
            first | refine IfR.i (fun hd2 => ?_) (fun hd2 => ?_) | (refine MeetR.pass ?_; (conv => whnf); refine IfR.i (fun hd2 => ?_) (fun hd2 => ?_))
            · conv => whnf
              refine IdxS.i k2 rfl (by omega) rfl ?_
              conv => whnf
              refine LoadN.i (vs := (ys[k + k2]'(by omega)).cells) rfl (entC_cell2 o6 k k2 (by omega)) ?_
              conv => whnf
              refine IdxS.i kq rfl (by omega) rfl ?_
              have hll := entC_len ys
              conv => whnf
              refine StoreR.i o6 (by show 0 + kq * 2 + 2 ≤ _; simp; omega) (by simp [blocksOf]) fun h7 s7 o7 k7 => ?_
              have e7 : spliceL (0 + kq * 2) (ys[k + k2]'(by omega)).cells (entC ys ++ rest) = entC (ys.set kq (ys[k + k2]'(by omega))) ++ rest := by
                rw [Nat.zero_add]; exact ent_splice ys kq _ rest (by omega)
              conv => whnf
              refine ⟨n - (k2 + 1), by simp only; omega, ?_⟩
              conv => whnf
              refine ⟨(kq + 1, k2 + 1), rfl, ?_, rfl, by simp only; omega, by simp only; omega, by simp only; omega, by simp only; omega, kk6.trans k7, ys.set kq (ys[k + k2]'(by omega)), by simp [hys], ?_⟩
              · rw [wrapN (n := kq + 1) (by simp) (by omega), wrapN (n := k2 + 1) (by simp) (by omega)]
              · rw [← e7]; exact o7
            · conv => whnf
              refine ⟨n - (k2 + 1), by simp only; omega, ?_⟩
              conv => whnf
              refine ⟨(kq, k2 + 1), rfl, ?_, rfl, by simp only; omega, by simp only; omega, by simp only; omega, q4, kk6, ys, hys, o6⟩
              rw [wrapN (n := k2 + 1) (by simp) (by omega)]
          · have hk2 : k2 = n - k := by simp at hc2; omega
            have hll := entC_len ys
            have hsk : slA (some ⟨b, 0, none⟩) c kq 2 = some ⟨b, kq * 2, none⟩ := by
              unfold slA
              rw [if_neg (by omega)]
              show some (Addr.add _ _) = _
              rw [addr_add, Nat.zero_add]
            conv => whnf
            refine SliceR.i kq n rfl rfl (by omega) (by omega) ?_
            conv => whnf
            change SemR _ (Builtin.clear_ _ _ ⟨[.slice (slA (some ⟨b, 0, none⟩) c kq 2) (n - kq) (c - kq)]⟩) _ _ _
            rw [hsk]
            refine SemR.clear (zl := [.string ⟨#[]⟩, .int .i64 0]) (s := 2) rfl rfl rfl (by decide) rfl o5 (by omega) (by simp; omega) (by simp [blocksOf]) fun h7 L' s6 s7 o7 k7 => ?_
            conv => whnf
            refine SliceR.i 0 kq rfl rfl (Nat.zero_le _) (by omega) ?_
            conv => whnf
            exact ⟨(kk5.trans k7).mono (by simp [blkA]), _, _, _, rfl, .inr ⟨by omega, hnot⟩⟩
      · conv => whnf
        refine ⟨n - (k + 1), by omega, ?_⟩
        conv => whnf
        refine ⟨k + 1, rfl, by rw [wrapN (n := k + 1) (by simp) (by omega)], rfl, by omega, by omega, kk.trans k4, fun j hj hjk => ?_⟩
        by_cases e : j + 1 = k
        · subst e
          simpa using hd
        · exact hno j hj (by omega)
    · have hk : k = n := by simp at hc; omega
      conv => whnf
      exact ⟨kk.mono (by simp), _, _, _, rfl, .inl ⟨rfl, fun j hj => hno j hj (by omega)⟩⟩
end Go.Proofs.YtkdmlieckkdmgaaGreatDoor
/-
  Layer 11: a directory that is read.
-/
set_option linter.all false
set_option maxRecDepth 100000
set_option maxHeartbeats 1000000
namespace Go.Proofs.YtkdmlieckkdmgaaGreatDoor
open Go Go.Eng

/-! ### What is read, in plain words -/

def blkW (now : Int → UInt64) (x : Int) : List UInt64 := rdL now (1288 + x * 16) 16
theorem blkW_len (now : Int → UInt64) (x : Int) : (blkW now x).length = 16 := rdL_len _ _ _
def slotOk (ws : List UInt64) (place k : Nat) : Bool := emptyB ws k || entB ws k place
def slotE (ws : List UInt64) (k : Nat) : List Ent := if emptyB ws k then [] else [entE ws k]
def blkOkB (now : Int → UInt64) (x : Int) (place : Nat) : Bool := decide (0 ≤ x ∧ x < 96) && (decide (wAt (blkW now x) 15 = 0) && (List.range 5).all (slotOk (blkW now x) place))
def blkE (now : Int → UInt64) (x : Int) : List Ent := (List.range 5).flatMap (slotE (blkW now x))
/-- a place's block -/
def plc (m : List Int) (i : Nat) : Int := m[i]?.getD (-1)
def placeOk (now : Int → UInt64) (m : List Int) (i : Nat) : Bool := decide (plc m i = -1) || blkOkB now (plc m i) i
def placeE (now : Int → UInt64) (m : List Int) (i : Nat) : List Ent := if plc m i = -1 then [] else blkE now (plc m i)
def rawE (now : Int → UInt64) (m : List Int) : List Ent := (List.range 21).flatMap (placeE now m)

/-- entries in order -/
def leE (x y : Ent) : Bool := !blt y.name x.name
def insE (x : Ent) : List Ent → List Ent
  | [] => [x]
  | y :: l => if leE x y then x :: y :: l else y :: insE x l
def sortE : List Ent → List Ent
  | [] => []
  | x :: l => insE x (sortE l)
def openP (now : Int → UInt64) (c : Crd) : Int × List Int × List Ent :=
  if c.kind ≠ 2 then (6, [], [])
  else match mapOf now c with
    | none => (15, [], [])
    | some m => if (List.range 21).all (placeOk now m) = true ∧ ((rawE now m).map (·.name)).Nodup ∧ ((rawE now m).length : Int) = c.size then (0, m, sortE (rawE now m)) else (15, [], [])

theorem slotE_len (ws : List UInt64) (k : Nat) : (slotE ws k).length ≤ 1 := by unfold slotE; split <;> simp
theorem flat_le {α β : Type} (f : α → List β) (n : Nat) (h : ∀ x, (f x).length ≤ n) : ∀ l : List α, (l.flatMap f).length ≤ n * l.length
  | [] => by simp
  | x :: l => by
    have := flat_le f n h l
    have hx := h x
    rw [List.flatMap_cons, List.length_append, List.length_cons, Nat.mul_add]
    omega
theorem blkE_len (now : Int → UInt64) (x : Int) : (blkE now x).length ≤ 5 := by
  have := flat_le _ 1 (slotE_len (blkW now x)) (List.range 5)
  simpa [blkE] using this
theorem placeE_len (now : Int → UInt64) (m : List Int) (i : Nat) : (placeE now m i).length ≤ 5 := by
  unfold placeE
  split
  · simp
  · exact blkE_len _ _
theorem rawE_len (now : Int → UInt64) (m : List Int) : (rawE now m).length ≤ 105 := by
  have := flat_le _ 5 (placeE_len now m) (List.range 21)
  simpa [rawE] using this
theorem entE_ok (ws : List UInt64) (k : Nat) : (entE ws k).ok := by
  refine ⟨by have := entN_len ws k; simp only [entE]; omega, ?_⟩
  unfold inI64
  simp only [entE, entV]
  generalize ((wAt ws (3 * k)).toNat : Int) = z
  simp only [IntKind.wrap, IntKind.bits, IntKind.signed]
  simp
  split <;> omega
theorem slotE_ok {ws : List UInt64} {k : Nat} : ∀ e ∈ slotE ws k, e.ok := by
  intro e he
  unfold slotE at he
  split at he
  · cases he
  · simp at he; subst he; exact entE_ok ws k
theorem placeE_ok {now : Int → UInt64} {m : List Int} {i : Nat} : ∀ e ∈ placeE now m i, e.ok := by
  intro e he
  unfold placeE at he
  split at he
  · cases he
  · unfold blkE at he
    obtain ⟨k, _, hk⟩ := List.mem_flatMap.1 he
    exact slotE_ok e hk
theorem rawE_ok {now : Int → UInt64} {m : List Int} : ∀ e ∈ rawE now m, e.ok := by
  intro e he
  obtain ⟨i, _, hi⟩ := List.mem_flatMap.1 he
  exact placeE_ok e hi

/-! ### The order -/

theorem leE_trans (a b c : Ent) (h1 : leE a b = true) (h2 : leE b c = true) : leE a c = true := by
  unfold leE at *
  rw [Bool.not_eq_true'] at *
  rcases blt_tri a.name b.name with h | h | h
  · rcases blt_tri b.name c.name with g | g | g
    · exact blt_asym (blt_trans h g)
    · rw [← g]; exact blt_asym h
    · rw [g] at h2; cases h2
  · rw [h]; exact h2
  · rw [h] at h1; cases h1
theorem leE_total (a b : Ent) : (leE a b || leE b a) = true := by
  unfold leE
  cases h : blt b.name a.name
  · rfl
  · rw [blt_asym h]; rfl
theorem insE_perm (x : Ent) : ∀ l : List Ent, (insE x l).Perm (x :: l)
  | [] => List.Perm.refl _
  | y :: l => by
    unfold insE
    split
    · exact List.Perm.refl _
    · exact ((insE_perm x l).cons y).trans (List.Perm.swap x y l)
theorem sortE_perm : ∀ l : List Ent, (sortE l).Perm l
  | [] => List.Perm.refl _
  | x :: l => (insE_perm x (sortE l)).trans ((sortE_perm l).cons x)
theorem insE_sorted (x : Ent) : ∀ l : List Ent, l.Pairwise (fun x y => leE x y = true) → (insE x l).Pairwise (fun x y => leE x y = true)
  | [], _ => by simp [insE]
  | y :: l, h => by
    obtain ⟨h1, h2⟩ := List.pairwise_cons.1 h
    unfold insE
    split
    · rename_i hx
      refine List.pairwise_cons.2 ⟨fun z hz => ?_, h⟩
      rcases List.mem_cons.1 hz with rfl | hz
      · exact hx
      · exact leE_trans _ _ _ hx (h1 z hz)
    · rename_i hx
      refine List.pairwise_cons.2 ⟨fun z hz => ?_, insE_sorted x l h2⟩
      rcases List.mem_cons.1 ((insE_perm x l).mem_iff.1 hz) with rfl | hz
      · have := leE_total z y
        rw [Bool.or_eq_true] at this
        exact this.resolve_left hx
      · exact h1 z hz
theorem sortE_sorted : ∀ l : List Ent, (sortE l).Pairwise (fun x y => leE x y = true)
  | [] => List.Pairwise.nil
  | x :: l => insE_sorted x _ (sortE_sorted l)

/-- lists without a name twice, in order, are one -/
theorem sorted_unique : ∀ {l m : List Ent}, l.Perm m → (l.map (·.name)).Nodup → l.Pairwise (fun x y => leE x y = true) → m.Pairwise (fun x y => leE x y = true) → l = m
  | [], m, p, _, _, _ => (List.Perm.nil_eq p)
  | x :: l, [], p, _, _, _ => by have := p.length_eq; simp at this
  | x :: l, y :: m, p, hn, hl, hm => by
    have hxy : x = y := by
      by_cases e : x = y
      · exact e
      exfalso
      have h1 : y ∈ l := by
        have : y ∈ x :: l := p.mem_iff.2 (by simp)
        simp at this
        exact this.resolve_left (fun h => e h.symm)
      have h2 : x ∈ m := by
        have : x ∈ y :: m := p.mem_iff.1 (by simp)
        simp at this
        exact this.resolve_left e
      have g1 := (List.pairwise_cons.1 hl).1 y h1
      have g2 := (List.pairwise_cons.1 hm).1 x h2
      unfold leE at g1 g2
      rw [Bool.not_eq_true'] at g1 g2
      rcases blt_tri x.name y.name with h | h | h
      · rw [h] at g2; cases g2
      · simp only [List.map_cons, List.nodup_cons] at hn
        exact hn.1 (h ▸ List.mem_map_of_mem h1)
      · rw [h] at g1; cases g1
    subst hxy
    rw [sorted_unique (p.cons_inv) (List.nodup_cons.1 hn).2 (List.pairwise_cons.1 hl).2 (List.pairwise_cons.1 hm).2]

/-- in a list in order what is twice is next to one another -/
theorem noAdj_nodup {l : List Ent} (hs : l.Pairwise (fun x y => leE x y = true)) : noAdj l ↔ (l.map (·.name)).Nodup := by
  constructor
  · intro h
    have hst : ∀ i d (hj : i + d + 1 < l.length), blt (l[i]'(by omega)).name l[i + d + 1].name = true := by
      intro i d
      induction d with
      | zero =>
        intro hj
        have g := List.pairwise_iff_getElem.1 hs i (i + 1) (by omega) hj (by omega)
        unfold leE at g
        rw [Bool.not_eq_true'] at g
        rcases blt_tri (l[i]'(by omega)).name l[i + 1].name with h' | h' | h'
        · exact h'
        · exact absurd h'.symm (h i hj)
        · rw [h'] at g; cases g
      | succ d ih =>
        intro hj
        have g := List.pairwise_iff_getElem.1 hs (i + d + 1) (i + d + 1 + 1) (by omega) hj (by omega)
        unfold leE at g
        rw [Bool.not_eq_true'] at g
        have ih' := ih (by omega)
        rcases blt_tri (l[i + d + 1]'(by omega)).name l[i + d + 1 + 1].name with h' | h' | h'
        · exact blt_trans ih' h'
        · exact absurd h'.symm (h (i + d + 1) hj)
        · rw [h'] at g; cases g
    rw [List.nodup_iff_pairwise_ne, List.pairwise_map, List.pairwise_iff_getElem]
    intro i j hi hj hij e
    have e2 : i + (j - i - 1) + 1 = j := by omega
    have := hst i (j - i - 1) (by rw [e2]; exact hj)
    simp only [e2] at this
    rw [e, blt_irr] at this; cases this
  · intro h j hj e
    rw [List.nodup_iff_pairwise_ne, List.pairwise_map, List.pairwise_iff_getElem] at h
    exact h j (j + 1) (by omega) hj (by omega) e.symm
end Go.Proofs.YtkdmlieckkdmgaaGreatDoor
/-
  Layer 11: a directory is read: the walk.
-/
set_option linter.all false
set_option maxRecDepth 100000
set_option maxHeartbeats 1000000
namespace Go.Proofs.YtkdmlieckkdmgaaGreatDoor
open Go Go.Eng

/-- where a book lies -/
structure BL where
  pb : Nat
  pcap : Nat
  sp : List Value
  r : Nat
  mb : List (Int × Nat)
def mbV (mb : List (Int × Nat)) : List (Int × Value) := mb.map fun p => (p.1, .slice (some ⟨p.2, 0, none⟩) 16 16)
def BL.blocks (b : Nat) (L : BL) : List Nat := b :: L.pb :: L.r :: L.mb.map (·.2)

/-- a book: the places below i have been read -/
structure BookAt (h : Heap) (b : Nat) (L : BL) (m : List Int) (i : Nat) (W : Int → List UInt64) : Prop where
  obj : h[b]? = some (.cells ⟨[.slice (some ⟨L.pb, 0, none⟩) 21 L.pcap, .map (some L.r)]⟩ 163 (0, 0))
  pl : IntsAt h L.pb m L.sp
  cap : 21 ≤ L.pcap
  len : m.length = 21
  map : MapL h L.r (mbV L.mb)
  keys : ∀ p : Int, p ∈ L.mb.map (·.1) ↔ (0 ≤ p ∧ p < (i : Int) ∧ plc m p.toNat ≠ -1)
  blk : ∀ p ∈ L.mb, h[p.2]? = some (.cells ⟨(W p.1).map wv⟩ 32 (0, 0)) ∧ (W p.1).length = 16
  nod : (BL.blocks b L).Nodup

theorem BookAt.keep {F : List Nat} {h h' : Heap} {b : Nat} {L : BL} {m : List Int} {i : Nat} {W : Int → List UInt64} (B : BookAt h b L m i W) (k : Keeps F h h') (hF : ∀ x ∈ BL.blocks b L, x ∉ F) : BookAt h' b L m i W where
  obj := k.obj B.obj (hF b (by simp [BL.blocks]))
  pl := k.obj B.pl (hF L.pb (by simp [BL.blocks]))
  cap := B.cap
  len := B.len
  map := B.map.keep k (hF L.r (by simp [BL.blocks]))
  keys := B.keys
  blk := fun p hp => ⟨k.obj (B.blk p hp).1 (hF p.2 (by simp only [BL.blocks, List.mem_cons]; exact .inr (.inr (.inr (List.mem_map_of_mem hp))))), (B.blk p hp).2⟩
  nod := B.nod
theorem BookAt.on {h h' : Heap} {b : Nat} {L : BL} {m : List Int} {i : Nat} {W : Int → List UInt64} (B : BookAt h b L m i W) (k : Keeps [] h h') : BookAt h' b L m i W := B.keep k (by simp)
theorem BookAt.lt {h : Heap} {b : Nat} {L : BL} {m : List Int} {i : Nat} {W : Int → List UInt64} (B : BookAt h b L m i W) : ∀ x ∈ BL.blocks b L, x < h.size := by
  intro x hx
  simp only [BL.blocks, List.mem_cons] at hx
  rcases hx with rfl | rfl | rfl | hx
  · exact obj_lt B.obj
  · exact obj_lt B.pl
  · exact B.map.lt
  · obtain ⟨p, hp, rfl⟩ := List.mem_map.1 hx
    exact obj_lt (B.blk p hp).1

/-- an open book's place: words of a view -/
def wordsAt (now : Int → UInt64) (m : List Int) (p : Int) : List UInt64 := blkW now (plc m p.toNat)

theorem BookAt.skip {h : Heap} {b : Nat} {L : BL} {m : List Int} {i : Nat} {W : Int → List UInt64} (B : BookAt h b L m i W) (hi : plc m i = -1) : BookAt h b L m (i + 1) W := by
  refine ⟨B.obj, B.pl, B.cap, B.len, B.map, fun p => ?_, B.blk, B.nod⟩
  rw [B.keys p]
  constructor
  · rintro ⟨h0, h1, h2⟩; exact ⟨h0, by omega, h2⟩
  · rintro ⟨h0, h1, h2⟩
    refine ⟨h0, ?_, h2⟩
    by_cases e : p = (i : Int)
    · subst e; simp at h2; exact absurd hi h2
    · omega

theorem putI_new : ∀ (m : List (Int × Value)) (n : Int) (v : Value), n ∉ m.map (·.1) → putI m n v = m ++ [(n, v)]
  | [], n, v, _ => rfl
  | (k, u) :: r, n, v, h => by
    simp only [List.map_cons, List.mem_cons, not_or] at h
    simp only [putI, if_neg h.1, List.cons_append]
    rw [putI_new r n v h.2]
theorem mbV_keys (mb : List (Int × Nat)) : (mbV mb).map (·.1) = mb.map (·.1) := by simp [mbV]

/-- a block more is noted -/
theorem BookAt.add {h h' : Heap} {b : Nat} {L : BL} {m : List Int} {i x : Nat} {W : Int → List UInt64} (B : BookAt h b L m i W) (hi : plc m i ≠ -1) (k : Keeps [L.r] h h') (hM : MapL h' L.r (putI (mbV L.mb) (i : Int) (.slice (some ⟨x, 0, none⟩) 16 16))) (hx : h[x]? = some (.cells ⟨(W i).map wv⟩ 32 (0, 0))) (hl : (W i).length = 16) (hn : x ∉ BL.blocks b L) :
    BookAt h' b { L with mb := L.mb ++ [((i : Int), x)] } m (i + 1) W := by
  have hnd := B.nod
  have hne : b ≠ L.r ∧ L.pb ≠ L.r ∧ L.r ∉ L.mb.map (·.2) := by
    simp only [BL.blocks, List.nodup_cons, List.mem_cons, not_or] at hnd
    exact ⟨hnd.1.2.1, hnd.2.1.1, hnd.2.2.1⟩
  have hnk : (i : Int) ∉ L.mb.map (·.1) := fun hk => by have := (B.keys i).1 hk; omega
  constructor
  · exact k.obj B.obj (by simp; exact hne.1)
  · exact k.obj B.pl (by simp; exact hne.2.1)
  · exact B.cap
  · exact B.len
  · rw [putI_new _ _ _ (by rw [mbV_keys]; exact hnk)] at hM
    simpa [mbV] using hM
  · intro p
    simp only [List.map_append, List.map_cons, List.map_nil, List.mem_append, List.mem_cons, List.not_mem_nil, or_false]
    rw [B.keys p]
    constructor
    · rintro (⟨h0, h1, h2⟩ | rfl)
      · exact ⟨h0, by omega, h2⟩
      · exact ⟨by omega, by omega, by simpa using hi⟩
    · rintro ⟨h0, h1, h2⟩
      by_cases e : p = (i : Int)
      · exact .inr e
      · exact .inl ⟨h0, by omega, h2⟩
  · intro p hp
    simp only [List.mem_append, List.mem_cons, List.not_mem_nil, or_false] at hp
    rcases hp with hp | rfl
    · exact ⟨k.obj (B.blk p hp).1 (by simp; intro e; exact hne.2.2 (e ▸ List.mem_map_of_mem hp)), (B.blk p hp).2⟩
    · exact ⟨k.obj hx (by simp; intro e; exact hn (by simp [BL.blocks, e])), hl⟩
  · have hperm : (BL.blocks b { L with mb := L.mb ++ [((i : Int), x)] }) = BL.blocks b L ++ [x] := by simp [BL.blocks]
    rw [hperm]
    rw [List.nodup_append]
    exact ⟨hnd, by simp, fun a ha c hc => by simp at hc; subst hc; exact fun e => hn (e ▸ ha)⟩

/-- what 'open' tells -/
def OpenR (h h' : Heap) (now : Int → UInt64) (r : Int × List Int × List Ent) (v : Value) : Prop :=
  if r.1 = 0 then ∃ b L a cc, v = .tuple #[.pointer (some ⟨b, 0, none⟩), .slice a r.2.2.length cc, .int .i64 0] ∧ BookAt h' b L r.2.1 21 (wordsAt now r.2.1) ∧ (∀ x ∈ BL.blocks b L, h.size ≤ x) ∧ Own h' 120 2 a r.2.2.length cc (entC r.2.2) ∧ (∀ x ∈ blkA a, h.size ≤ x) ∧ (∀ e ∈ r.2.2, e.ok)
  else v = .tuple #[.pointer none, .slice none 0 0, .int .i64 r.1]

def accE (now : Int → UInt64) (m : List Int) (i : Nat) : List Ent := (List.range i).flatMap (placeE now m)
def accK (ws : List UInt64) (k : Nat) : List Ent := (List.range k).flatMap (slotE ws)
theorem accE_succ (now : Int → UInt64) (m : List Int) (i : Nat) : accE now m (i + 1) = accE now m i ++ placeE now m i := by
  unfold accE
  rw [List.range_succ, List.flatMap_append]; simp
theorem accK_succ (ws : List UInt64) (k : Nat) : accK ws (k + 1) = accK ws k ++ slotE ws k := by
  unfold accK
  rw [List.range_succ, List.flatMap_append]; simp
theorem accE_len (now : Int → UInt64) (m : List Int) (i : Nat) : (accE now m i).length ≤ 5 * i := by
  have := flat_le _ 5 (placeE_len now m) (List.range i)
  simpa [accE] using this
theorem accK_len (ws : List UInt64) (k : Nat) : (accK ws k).length ≤ k := by
  have := flat_le _ 1 (slotE_len ws) (List.range k)
  simpa [accK] using this
theorem accE_ok {now : Int → UInt64} {m : List Int} {i : Nat} : ∀ e ∈ accE now m i, e.ok := by
  intro e he
  obtain ⟨j, _, hj⟩ := List.mem_flatMap.1 he
  exact placeE_ok e hj
theorem all_lt {p : Nat → Bool} {n : Nat} (h : (List.range n).all p = true) {i : Nat} (hi : i < n) : p i = true := List.all_eq_true.1 h i (List.mem_range.2 hi)

theorem fopen_spec {h : Heap} {V : VL} {M : MemS} {X : VS} (A : At h V M X) (c : Crd) (hc : c.ok) : CallH Tryz.prog 41 [.pointer (some ⟨V.v, 0, none⟩), .agg ⟨c.cells⟩] h (fun v h' => Keeps [] h h' ∧ OpenR h h' X.now (openP X.now c) v) := by
  refine call_of hmix Tryz.func41 rfl ok41 (by simp [Tryz.f41]) ?_
  conv => whnf
  refine AllocR.i fun b1 h1 e1 s1 o1 k1 => ?_
  conv => whnf
  refine IfR.f rfl ?_
  conv => whnf
  refine IfR.i (fun hk => ?_) (fun hk => ?_)
  · conv => whnf
    refine ⟨k1, ?_⟩
    have : c.kind ≠ 2 := by simpa using hk
    unfold openP
    rw [if_pos this]
    exact rfl
  have hkind : ¬ c.kind ≠ 2 := by simpa using hk
  conv => whnf
  refine CallR.i (map_spec (A.on k1) c hc) fun v h2 k2 hv => ?_
  have k02 := k1.trans k2
  cases hm : mapOf X.now c with
  | none =>
    rw [hm] at hv
    simp only at hv
    subst hv
    conv => whnf
    refine IfR.t rfl ?_
    conv => whnf
    refine ⟨k02, ?_⟩
    unfold openP
    rw [if_neg hkind, hm]
    exact rfl
  | some m =>
    rw [hm] at hv
    simp only at hv
    obtain ⟨pb, pcap, sp, rfl, I2, hpb, hpcap⟩ := hv
    have hml := mapOf_length hm
    have hop : openP X.now c = if (List.range 21).all (placeOk X.now m) = true ∧ ((rawE X.now m).map (·.name)).Nodup ∧ ((rawE X.now m).length : Int) = c.size then (0, m, sortE (rawE X.now m)) else (15, [], []) := by
      unfold openP
      rw [if_neg hkind, hm]
    have bad : ∀ h', Keeps [] h h' → ¬ ((List.range 21).all (placeOk X.now m) = true ∧ ((rawE X.now m).map (·.name)).Nodup ∧ ((rawE X.now m).length : Int) = c.size) → Keeps [] h h' ∧ OpenR h h' X.now (openP X.now c) (.tuple #[.pointer none, .slice none 0 0, .int .i64 15]) := by
      intro h' kk hn
      refine ⟨kk, ?_⟩
      rw [hop, if_neg hn]
      exact rfl
    have z1 := k1.size
    have z2 := k2.size
    conv => whnf
    refine IfR.f rfl ?_
    conv => whnf
    refine AllocR.i fun r3 h3 e3 s3 o3 k3 => ?_
    conv => whnf
    refine AllocR.i fun b4 h4 e4 s4 o4 k4 => ?_
    have z24 := (k3.trans k4).size
    have B0 : BookAt h4 b4 ⟨pb, pcap, sp, r3, []⟩ m 0 (wordsAt X.now m) :=
      { obj := o4, pl := (k3.trans k4).obj I2 (by simp), cap := hpcap, len := hml, map := (MapL.new o3).keep k4 (by simp), keys := (fun p => ⟨fun h => (by cases h), fun h => (by omega)⟩), blk := (fun p hp => (by cases hp)), nod := (by have := obj_lt I2; simp [BL.blocks]; omega) }
    conv => whnf
    refine LoopR.on [0, 3, 9, 10, 39, 40, 41] [3] (fun q : Nat × List (Int × Nat) × Option Addr × Nat => [(0, .v (.pointer (some ⟨V.v, 0, none⟩))), (3, .lp 3 0), (9, .v (.pointer (some ⟨b4, 0, none⟩))), (10, .v (.slice q.2.2.1 (accE X.now m q.1).length q.2.2.2)), (39, .v (.slice (some ⟨pb, 0, none⟩) 21 pcap)), (40, .v (.int .i64 21)), (41, .v (.int .i64 (q.1 : Int)))]) (fun _ => [(3, b1, c.cells)])
      (fun q h' => q.1 ≤ 21 ∧ Keeps [] h h' ∧ h4.size ≤ h'.size ∧ (List.range q.1).all (placeOk X.now m) = true ∧ BookAt h' b4 ⟨pb, pcap, sp, r3, q.2.1⟩ m q.1 (wordsAt X.now m) ∧ (∀ x ∈ BL.blocks b4 ⟨pb, pcap, sp, r3, q.2.1⟩, h.size ≤ x) ∧ Own h' 120 2 q.2.2.1 (accE X.now m q.1).length q.2.2.2 (entC (accE X.now m q.1)) ∧ (∀ x ∈ blkA q.2.2.1, h1.size ≤ x ∧ x ∉ BL.blocks b4 ⟨pb, pcap, sp, r3, q.2.1⟩)) (fun q => 21 - q.1) (0, [], none, 0) ?_ ?_
    · conv => whnf
      refine ⟨(0, [], none, 0), rfl, rfl, rfl, by decide, (k02.trans k3).trans k4, Nat.le_refl _, rfl, B0, ?_, Own.nil _ _ _, by simp [blkA]⟩
      intro x hx
      simp [BL.blocks] at hx
      omega
    · rintro ⟨i, mb, a, ca⟩ h5 ⟨q1, kk, z5, hall, B5, n5, O5, a5⟩
      simp only at q1 hall B5 n5 O5 a5
      conv => whnf
      refine IfR.i (fun hd => ?_) (fun hd => ?_)
      · have hi : i < 21 := by simp at hd; omega
        have hin : m[i]? = some (plc m i) := by unfold plc; rw [List.getElem?_eq_getElem (by omega)]; rfl
        have hin2 : m[i]'(by omega) = plc m i := by unfold plc; rw [List.getElem?_eq_getElem (by omega)]; rfl
        have hla := accE_len X.now m i
        have hsucc := accE_succ X.now m i
        conv => whnf
        first | refine IdxS.i i rfl hi rfl ?_ | (refine MeetR.pass ?_; (conv => whnf); refine IdxS.i i rfl hi rfl ?_)
        conv => whnf
        refine LoadR.i (IntsAt.nth B5.pl (by omega)) ?_
        conv => whnf
        rw [hin2]
        refine IfR.i (fun hx => ?_) (fun hx => ?_)
        · have hx1 : plc m i = -1 := by simpa using hx
          have hpe : placeE X.now m i = [] := by unfold placeE; rw [if_pos hx1]
          rw [hpe, List.append_nil] at hsucc
          conv => whnf
          refine ⟨21 - (i + 1), by simp only; omega, ?_⟩
          conv => whnf
          refine ⟨(i + 1, mb, a, ca), rfl, ?_, rfl, by simp only; omega, kk, z5, ?_, B5.skip hx1, n5, ?_, a5⟩
          · rw [hsucc, wrapN (n := i + 1) (by simp) (by omega)]
          · simp only
            rw [List.range_succ, List.all_append, hall]
            simp [placeOk, hx1]
          · simp only
            rw [hsucc]; exact O5
        · have hx1 : plc m i ≠ -1 := by simpa using hx
          have A5 := A.on kk
          conv => whnf
          refine CallR.i (block_spec A5 (plc m i)) fun v h6 k6 hv => ?_
          have kk6 := kk.trans k6
          rcases hv with ⟨g0, g1, x, rfl, x0, x1, o6⟩ | ⟨hout, rfl⟩
          · have o6' : h6[x]? = some (.cells ⟨(blkW X.now (plc m i)).map wv⟩ 32 (0, 0)) := o6
            have hwl := blkW_len X.now (plc m i)
            have hW : wordsAt X.now m (i : Int) = blkW X.now (plc m i) := by simp [wordsAt]
            have hpo : placeOk X.now m i = (decide (wAt (blkW X.now (plc m i)) 15 = 0) && (List.range 5).all (slotOk (blkW X.now (plc m i)) i)) := by
              unfold placeOk blkOkB
              rw [decide_eq_false hx1, decide_eq_true ⟨g0, g1⟩]; rfl
            have hpe : placeE X.now m i = accK (blkW X.now (plc m i)) 5 := by
              unfold placeE
              rw [if_neg hx1]; rfl
            generalize blkW X.now (plc m i) = ws at o6' hwl hW hpo hpe
            conv => whnf
            refine IdxS.i 15 rfl (by decide) rfl ?_
            conv => whnf
            refine LoadR.o o6' (nth_w (i := 0 + 15 * 1) (by omega)) ?_
            conv => whnf
            refine IfR.i (fun hw => ?_) (fun hw => ?_)
            · conv => whnf
              refine bad _ kk6 fun hh => ?_
              have h1 := all_lt hh.1 hi
              rw [hpo] at h1
              have h2 : wAt ws 15 = 0 := by simp at h1; exact h1.1
              have h3 : ((wAt ws (0 + 15 * 1)).toNat : Int) = 0 := by rw [show 0 + 15 * 1 = 15 by omega, h2]; rfl
              rw [h3] at hw
              revert hw; decide
            · have hw15 : decide (wAt ws 15 = 0) = true := by
                rw [← wv_zero]
                have h3 : (0 + 15 * 1) = 15 := by omega
                rw [h3] at hw
                simpa using hw
              have B6 := B5.on k6
              have hlt5 := B5.lt
              conv => whnf
              refine LoadR.o B6.obj rfl ?_
              conv => whnf
              refine SemR.put rfl rfl B6.map (by simp [blocksOf]; intro e; have := n5 r3 (by simp [BL.blocks]); omega) fun h7 s7 M7 k7 => ?_
              have hxn : x ∉ BL.blocks b4 ⟨pb, pcap, sp, r3, mb⟩ := fun hx => by have := hlt5 x hx; omega
              have B7 := B6.add (x := x) hx1 k7 M7 (by rw [hW]; exact o6') (by rw [hW]; exact hwl) hxn
              have n7 : ∀ y ∈ BL.blocks b4 ⟨pb, pcap, sp, r3, mb ++ [((i : Int), x)]⟩, h.size ≤ y := by
                intro y hy
                have e : BL.blocks b4 ⟨pb, pcap, sp, r3, mb ++ [((i : Int), x)]⟩ = BL.blocks b4 ⟨pb, pcap, sp, r3, mb⟩ ++ [x] := by simp [BL.blocks]
                rw [e] at hy
                simp only [List.mem_append, List.mem_cons, List.not_mem_nil, or_false] at hy
                rcases hy with hy | rfl
                · exact n5 y hy
                · have := kk.size; omega
              have O7 := (O5.keep k6 (by simp)).keep k7 (fun y hy => by simp; intro e; exact (a5 y hy).2 (by simp [BL.blocks, e]))
              have al5 := O5.lt
              have a7 : ∀ y ∈ blkA a, h1.size ≤ y ∧ y ∉ BL.blocks b4 ⟨pb, pcap, sp, r3, mb ++ [((i : Int), x)]⟩ := by
                intro y hy
                refine ⟨(a5 y hy).1, fun hx => ?_⟩
                have e : BL.blocks b4 ⟨pb, pcap, sp, r3, mb ++ [((i : Int), x)]⟩ = BL.blocks b4 ⟨pb, pcap, sp, r3, mb⟩ ++ [x] := by simp [BL.blocks]
                rw [e] at hx
                simp only [List.mem_append, List.mem_cons, List.not_mem_nil, or_false] at hx
                rcases hx with hx | rfl
                · exact (a5 y hy).2 hx
                · have := al5 y hy; omega
              have z56 := k6.size
              have kk7 : Keeps [] h h7 := kk6.new1 k7 (n5 r3 (by simp [BL.blocks]))
              have hxm : ((i : Int), x) ∈ (mb ++ [((i : Int), x)]) := by simp
              generalize mb ++ [((i : Int), x)] = mb' at B7 n7 a7 hxm
              conv => whnf
              refine LoopR.on [0, 3, 9, 10, 11, 13, 39, 40, 41, 68] [3] (fun q : Nat × Option Addr × Nat => [(0, .v (.pointer (some ⟨V.v, 0, none⟩))), (3, .lp 3 0), (9, .v (.pointer (some ⟨b4, 0, none⟩))), (10, .v (.slice q.2.1 (accE X.now m i ++ accK ws q.1).length q.2.2)), (11, .v (.int .i64 (i : Int))), (13, .v (.slice (some ⟨x, 0, none⟩) 16 16)), (39, .v (.slice (some ⟨pb, 0, none⟩) 21 pcap)), (40, .v (.int .i64 21)), (41, .v (.int .i64 (i : Int))), (68, .v (.int .i64 (q.1 : Int)))]) (fun _ => [(3, b1, c.cells)])
                (fun q h' => q.1 ≤ 5 ∧ Keeps [] h h' ∧ h4.size ≤ h'.size ∧ (List.range q.1).all (slotOk ws i) = true ∧ BookAt h' b4 ⟨pb, pcap, sp, r3, mb'⟩ m (i + 1) (wordsAt X.now m) ∧ Own h' 120 2 q.2.1 (accE X.now m i ++ accK ws q.1).length q.2.2 (entC (accE X.now m i ++ accK ws q.1)) ∧ (∀ x ∈ blkA q.2.1, h1.size ≤ x ∧ x ∉ BL.blocks b4 ⟨pb, pcap, sp, r3, mb'⟩)) (fun q => 5 - q.1) (0, a, ca) ?_ ?_
              · conv => whnf
                refine ⟨(0, a, ca), rfl, ?_, rfl, Nat.zero_le _, kk7, by omega, rfl, B7, ?_, a7⟩
                · have e : accE X.now m i ++ accK ws 0 = accE X.now m i := by simp [accK]
                  simp only [e]; rfl
                · have e : accE X.now m i ++ accK ws 0 = accE X.now m i := by simp [accK]
                  simp only [e]; exact O7
              · rintro ⟨k, a, ca⟩ h8 ⟨q2, kk8, z8, hall8, B8, O8, a8⟩
                simp only at q2 hall8 O8 a8
                conv => whnf
                refine IfR.i (fun hd2 => ?_) (fun hd2 => ?_)
                · have hk5 : k < 5 := by simp at hd2; omega
                  have ox := (B8.blk _ hxm).1
                  simp only [hW] at ox
                  have hks := accK_succ ws k
                  have hlk := accK_len ws k
                  have hallk : (List.range (k + 1)).all (slotOk ws i) = slotOk ws i k := by
                    rw [List.range_succ, List.all_append, hall8]
                    simp
                  conv => whnf
                  first | refine CallR.i (slot_spec x k hk5 h8) fun v h9 k9 hv => ?_ | (refine MeetR.pass ?_; (conv => whnf); refine CallR.i (slot_spec x k hk5 h8) fun v h9 k9 hv => ?_)
                  subst hv
                  conv => whnf
                  refine CallR.i (empty_spec (k9.obj ox (by simp)) hwl k hk5) fun v h10 k10 hv => ?_
                  subst hv
                  have k8_10 := k9.trans k10
                  conv => whnf
                  refine IfR.i (fun he => ?_) (fun he => ?_)
                  · have hse : slotE ws k = [] := by unfold slotE; rw [if_pos he]
                    rw [hse, List.append_nil] at hks
                    conv => whnf
                    refine ⟨5 - (k + 1), by simp only; omega, ?_⟩
                    conv => whnf
                    have z10 := k8_10.size
                    refine ⟨(k + 1, a, ca), rfl, ?_, rfl, by simp only; omega, kk8.trans k8_10, by omega, ?_, B8.on k8_10, ?_, a8⟩
                    · simp only
                      rw [hks, wrapN (n := k + 1) (by simp) (by omega)]
                    · simp only
                      rw [hallk]; unfold slotOk; rw [he]; rfl
                    · simp only
                      rw [hks]; exact O8.keep k8_10 (by simp)
                  · have hse : slotE ws k = [entE ws k] := by unfold slotE; rw [if_neg (by rw [he]; decide)]
                    have ho1 : slotOk ws i k = entB ws k i := by unfold slotOk; rw [he]; rfl
                    conv => whnf
                    refine CallR.i (slot_spec x k hk5 h10) fun v h11 k11 hv => ?_
                    subst hv
                    conv => whnf
                    refine CallR.i (entry_spec ((k8_10.trans k11).obj ox (by simp)) hwl k i hk5 (by omega)) fun v h12 k12 hv => ?_
                    subst hv
                    conv => whnf
                    refine AllocR.i fun b13 h13 e13 s13 o13 k13 => ?_
                    conv => whnf
                    refine BoxR.i fun h14 s14 k14 => ?_
                    have k8_12 := (k8_10.trans k11).trans k12
                    have z12 := k8_12.size
                    have z8' := kk8.size
                    have k8_14 : Keeps [] h8 h14 := (k8_12.trans k13).new1 k14 (by omega)
                    have O14 := O8.keep k8_14 (by simp)
                    have B14 := B8.on k8_14
                    conv => whnf
                    refine IfR.i (fun hf => ?_) (fun hf => ?_)
                    · conv => whnf
                      refine bad _ (kk8.trans k8_14) fun hh => ?_
                      have h1 := all_lt hh.1 hi
                      rw [hpo] at h1
                      have h2 : (List.range 5).all (slotOk ws i) = true := by simp only [Bool.and_eq_true] at h1; exact h1.2
                      have h3 := all_lt h2 hk5
                      rw [ho1] at h3
                      rw [h3] at hf; cases hf
                    · have hfine : entB ws k i = true := by simpa using hf
                      conv => whnf
                      refine AllocR.i fun b15 h15 e15 s15 o15 k15 => ?_
                      have hle : (accE X.now m i ++ accK ws k).length ≤ 110 := by rw [List.length_append]; omega
                      conv => whnf
                      refine append_own (e := 120) (sz := 2) (by_ := 24) (new := (entE ws k).cells) rfl rfl rfl rfl rfl rfl rfl (O14.keep k15 (by simp)) rfl ?_ rfl (by omega) (by omega) ?_ ?_
                      · intro j hj
                        unfold Heap.cell?
                        rw [o15]
                        have : j = 0 ∨ j = 1 := by simp [Ent.cells] at hj; omega
                        rcases this with rfl | rfl <;> rfl
                      · intro y hy hx2
                        have := (a8 y hy).1
                        have := O8.lt y hy
                        have hx3 : y = b1 ∨ y = b13 := by simpa [blocksOf, setB] using hx2
                        omega
                      · intro a' c' h16 O16 k16 n16
                        conv => whnf
                        refine ⟨5 - (k + 1), by simp only; omega, ?_⟩
                        conv => whnf
                        have e16 : accE X.now m i ++ accK ws (k + 1) = (accE X.now m i ++ accK ws k) ++ [entE ws k] := by rw [hks, hse, List.append_assoc]
                        have k8_16 : Keeps (blkA a) h8 h16 := ((k8_14.trans k15).mono (by simp)).trans k16
                        have z16 := k8_16.size
                        refine ⟨(k + 1, a', c'), rfl, ?_, rfl, by simp only; omega, kk8.nil_of k8_16 (fun y hy => by have := (a8 y hy).1; omega), by omega, ?_, B8.keep k8_16 (fun y hy hx2 => (a8 y hx2).2 hy), ?_, fun y hy => ?_⟩
                        · simp only
                          rw [e16, wrapN (n := k + 1) (by simp) (by omega)]
                          simp [Nat.add_assoc]
                        · simp only
                          rw [hallk, ho1]; exact hfine
                        · simp only
                          rw [e16, List.length_append, entC_app]; exact O16
                        · have h15z := k15.size
                          have h14z := k8_14.size
                          rcases n16 y hy with g | g
                          · exact a8 y g
                          · exact ⟨by omega, fun hx2 => by have := B8.lt y hx2; omega⟩
                · have hk5 : k = 5 := by simp at hd2; omega
                  subst hk5
                  conv => whnf
                  refine ⟨21 - (i + 1), by simp only; omega, ?_⟩
                  conv => whnf
                  rw [hpe] at hsucc
                  refine ⟨(i + 1, mb', a, ca), rfl, ?_, rfl, by simp only; omega, kk8, z8, ?_, B8, n7, ?_, a8⟩
                  · rw [hsucc, wrapN (n := i + 1) (by simp) (by omega)]
                  · simp only
                    rw [List.range_succ, List.all_append, hall]
                    simp only [List.all_cons, List.all_nil, Bool.and_true, Bool.true_and]
                    rw [hpo, hw15, hall8]; rfl
                  · simp only
                    rw [hsucc]; exact O8
          · conv => whnf
            refine IdxS.u 0 0 0 (fun hf => absurd hf (by decide)) ?_
            conv => whnf
            refine LoadR.u (.int .u64 0) (fun hf => absurd hf (by decide)) ?_
            conv => whnf
            refine IfR.t rfl ?_
            conv => whnf
            refine bad _ kk6 fun hh => ?_
            have hpo := all_lt hh.1 hi
            unfold placeOk blkOkB at hpo
            rw [decide_eq_false hx1, decide_eq_false hout] at hpo
            cases hpo
      · have hi : i = 21 := by simp at hd; omega
        subst hi
        have hraw : accE X.now m 21 = rawE X.now m := rfl
        rw [hraw] at O5
        have hrl := rawE_len X.now m
        conv => whnf
        rw [hraw]
        refine CallR.m (sortE_spec O5 (by omega)) ?_ fun v h6 k6 hv => ?_
        · intro y hy hx2
          have := (a5 y hx2).1
          have : y = b1 := by simpa [blocksOf, setB] using hy
          omega
        obtain ⟨rfl, l', pm, ps, O6⟩ := hv
        have hl' := pm.length_eq
        have hok' : ∀ e ∈ l', e.ok := fun e he => rawE_ok e (pm.mem_iff.1 he)
        have k56 : Keeps [] h h6 := kk.nil_of k6 (fun y hy => by have := (a5 y hy).1; omega)
        conv => whnf
        refine CallR.i (cloneE_spec O6 hok' (by omega)) fun v h7 k7 hv => ?_
        obtain ⟨a7, c7, rfl, O7, n7⟩ := hv
        have z6 := k56.size
        have z16 := k6.size
        have z55 := kk.size
        conv => whnf
        refine CallR.m (compact_spec O7 hok' (by omega)) ?_ fun v h8 k8 hv => ?_
        · intro y hy hx2
          have := n7 y hx2
          have : y = b1 := by simpa [blocksOf, setB] using hy
          omega
        obtain ⟨a8, m8, c8, rfl, hv8⟩ := hv
        have k58 : Keeps [] h h8 := (k56.trans k7).nil_of k8 (fun y hy => by have := n7 y hy; have := k56.size; omega)
        have k68 : Keeps [] h6 h8 := k7.nil_of k8 (fun y hy => n7 y hy)
        have ps2 : l'.Pairwise (fun x y => leE x y = true) := ps.imp fun {x y} hxy => by unfold leE; rw [hxy]; rfl
        have hnd : noAdj l' ↔ ((rawE X.now m).map (·.name)).Nodup := by
          rw [noAdj_nodup ps2]
          exact (pm.map _).nodup_iff
        conv => whnf
        refine IfR.i (fun hq => ?_) (fun hq => ?_)
        · conv => whnf
          refine bad _ k58 fun hh => ?_
          obtain ⟨g1, g2, g3⟩ := hh
          have : m8 = (rawE X.now m).length := by
            rcases hv8 with ⟨h1, _⟩ | ⟨_, h2⟩
            · exact h1
            · exact absurd (hnd.2 g2) h2
          subst this
          rw [g3] at hq
          revert hq
          simp [bif_or]
        · conv => whnf
          have hq2 : m8 = (rawE X.now m).length ∧ ((rawE X.now m).length : Int) = c.size := by
            rw [bif_or] at hq
            simp at hq
            omega
          have g2 : ((rawE X.now m).map (·.name)).Nodup := by
            rcases hv8 with ⟨_, h2⟩ | ⟨h1, _⟩
            · exact hnd.1 h2
            · omega
          have hls : l' = sortE (rawE X.now m) := by
            refine sorted_unique (pm.trans (sortE_perm _).symm) ?_ ps2 (sortE_sorted _)
            exact (pm.map _).nodup_iff.2 g2
          refine ⟨k58, ?_⟩
          rw [hop, if_pos ⟨hall, g2, hq2.2⟩]
          unfold OpenR
          rw [if_pos rfl]
          have hlen2 : (sortE (rawE X.now m)).length = (rawE X.now m).length := (sortE_perm _).length_eq
          have B6 := (B5.keep k6 (fun y hy hx => (a5 y hx).2 hy)).on k68
          rw [hls] at O6 hok'
          refine ⟨b4, _, a, ca, ?_, B6, n5, ?_, fun y hy => by have := (a5 y hy).1; omega, hok'⟩
          · simp only [hlen2]
          · simp only [hlen2]
            exact O6.keep k68 (by simp)
end Go.Proofs.YtkdmlieckkdmgaaGreatDoor
/-
  Layer 11: names that are told; maps whose entry is made first; a text that is too long.
-/
set_option linter.all false
set_option maxRecDepth 100000
set_option maxHeartbeats 1000000
namespace Go.Eng

/-- a map whose newest entry, at a key that wasn't there, waits for its value -/
def MapP (h : Heap) (r : Nat) (m : List (Int × Value)) (n : Int) (born : Int) : Prop :=
  ∃ (es : Array MapEntry) (cl : Nat) (z : Value), h[r]? = some (.map (es.push { key := .int .i64 n, val := z, born := cl }) (cl + 1)) ∧ born = (cl : Int) ∧ es.toList.map (fun e => (e.key, e.val)) = m.map (fun p => (Value.int .i64 p.1, p.2)) ∧ ((m.map (·.1)) ++ [n]).Nodup ∧
    (es.toList.map (·.born)).Nodup ∧ ∀ e ∈ es.toList, e.born < cl

theorem lookI_none : ∀ (m : List (Int × Value)) (a : Int), lookI m a = none ↔ a ∉ m.map (·.1)
  | [], a => by simp [lookI]
  | (k, v) :: m, a => by
    simp only [lookI, List.map_cons, List.mem_cons, not_or]
    by_cases h : a = k
    · simp [h]
    · rw [if_neg h, lookI_none m a]; simp [h]

theorem SemR.entryNew {P : Program} {T kT eT : TypeId} {i : TypeInfo} {z : Value} (hu : P.underlying T = some (.map kT eT)) (hk : P.underlying kT = some (.int .i64)) (hi : P.info? eT = some i) (hz : i.zero = some z) {h : Heap} {r : Nat} {m : List (Int × Value)} (o : MapL h r m) {n : Int} (hn : n ∉ m.map (·.1)) {bs : List Nat} (hb : r ∉ bs)
    {K : Value → Heap → Prop} (H : ∀ h' born, h'.size = h.size → MapP h' r m n born → Keeps [r] h h' → K (.tuple #[z, .int .i64 born]) h') : SemR P (Instr.mapEntry T (.map (some r)) (.int .i64 n)) bs h K := by
  unfold SemR
  intro hlt w hw
  subst hw
  have hr := o.lt
  obtain ⟨es, cl, h1, h2, h3, h4, h5⟩ := o
  obtain ⟨q, h6, h7, h8⟩ := findNow_look es.toList m n 0 h2
  have hq : q = none := by
    cases q with
    | none => rfl
    | some q =>
      have := (lookI_none m n).2 hn
      rw [this] at h7
      simp at h7
  subst hq
  have hf := findKey_now (P := P) hk h6 w
  have hg := getObj_run (P := P) h1
  have hs := setObj_run (P := P) h1 (.map (es.push { key := .int .i64 n, val := z, born := cl }) (cl + 1))
  have hzr : (zeroValue eT).run P w = .ok z w := by simp [zeroValue, typeInfo_run P eT w hi, hz]
  refine ⟨.tuple #[z, .int .i64 cl], { w with heap := w.heap.setIfInBounds r (.map (es.push { key := .int .i64 n, val := z, born := cl }) (cl + 1)) }, ?_, ⟨rfl, rfl, rfl⟩, fun b hb' => ?_, H _ _ (by simp) ⟨es, cl, z, by rw [set_get _ _ _ _ hr, if_pos rfl], rfl, h2, ?_, h4, h5⟩ (keeps_set _ _ _ hr)⟩
  · simp only [Instr.mapEntry, Sem.run_bind, underlying_run P T w hu, Result.andThen_ok, hg]
    rw [checkKey_plain hk (.inl ⟨_, rfl⟩)]
    simp only [Result.andThen_ok, hf, Sem.run_bind, hzr, hs, Sem.run_pure, goInt]
  · show (w.heap.setIfInBounds r _)[b]? = _
    rw [set_get _ _ _ _ hr, if_neg (by intro e; subst e; exact hb hb')]
  · exact List.nodup_append.2 ⟨h3, by simp, fun a ha b hb hab => by simp at hb; subst hb; subst hab; exact hn ha⟩

theorem SemR.entryStore {P : Program} {T : TypeId} {h : Heap} {r : Nat} {m : List (Int × Value)} {n born : Int} (o : MapP h r m n born) {v : Value} {bs : List Nat} (hb : r ∉ bs)
    {K : Unit → Heap → Prop} (H : ∀ h', h'.size = h.size → MapL h' r (m ++ [(n, v)]) → Keeps [r] h h' → K () h') : SemR P (Instr.entryStore T (.map (some r)) (.int .i64 born) v) bs h K := by
  unfold SemR
  intro hlt w hw
  subst hw
  obtain ⟨es, cl, z, h1, rfl, h2, h3, h4, h5⟩ := o
  have hr := obj_lt h1
  have hg := getObj_run (P := P) h1
  have hfind : (es.push { key := .int .i64 n, val := z, born := cl }).findIdx? (fun e => (e.born : Int) == (cl : Int)) = some es.size := by
    rw [Array.findIdx?_eq_some_iff_getElem]
    refine ⟨by simp, by simp, fun j hj => ?_⟩
    have hj2 : j < es.size := hj
    rw [Array.getElem_push_lt hj2]
    have := h5 es[j] (by simp)
    simp; omega
  have hmod : (es.push { key := .int .i64 n, val := z, born := cl }).modify es.size (fun e => { e with val := v }) = es.push { key := .int .i64 n, val := v, born := cl } := by
    apply Array.ext
    · simp
    · intro j j1 j2
      rw [Array.getElem_modify]
      have hj : j < es.size + 1 := by simpa using j2
      by_cases e : j = es.size
      · subst e; simp
      · rw [if_neg (fun x => e x.symm), Array.getElem_push_lt (by omega), Array.getElem_push_lt (by omega)]
  have hs := setObj_run (P := P) h1 (.map (es.push { key := .int .i64 n, val := v, born := cl }) (cl + 1))
  refine ⟨(), { w with heap := w.heap.setIfInBounds r (.map (es.push { key := .int .i64 n, val := v, born := cl }) (cl + 1)) }, ?_, ⟨rfl, rfl, rfl⟩, fun b hb' => ?_, H _ (by simp) ⟨es.push { key := .int .i64 n, val := v, born := cl }, cl + 1, by rw [set_get _ _ _ _ hr, if_pos rfl], ?_, ?_, ?_, ?_⟩ (keeps_set _ _ _ hr)⟩
  · simp [Instr.entryStore, hg, asInt, asIntOf, hfind, hmod, hs]
  · show (w.heap.setIfInBounds r _)[b]? = _
    rw [set_get _ _ _ _ hr, if_neg (by intro e; subst e; exact hb hb')]
  · simp only [Array.toList_push, List.map_append, List.map_cons, List.map_nil, h2]
  · simpa using h3
  · simp only [Array.toList_push, List.map_append, List.map_cons, List.map_nil]
    refine List.nodup_append.2 ⟨h4, by simp, fun a ha b hb hab => ?_⟩
    simp at hb; subst hb; subst hab
    obtain ⟨e, he, hx⟩ := List.mem_map.1 ha
    have := h5 e he
    omega
  · intro e he
    simp only [Array.toList_push, List.mem_append, List.mem_cons, List.not_mem_nil, or_false] at he
    rcases he with he | rfl
    · have := h5 e he; omega
    · simp
end Go.Eng
namespace Go.Proofs.YtkdmlieckkdmgaaGreatDoor
open Go Go.Eng

theorem text_long (l : List UInt8) (n : Nat) (h : Heap) (hn : n ≤ 64) (hs : 8 * n < l.length) (hl : l.length ≤ 140737488351232) : CallH Tryz.prog 118 [.string ⟨l.toArray⟩, .int .i64 (n : Int)] h (fun v h' => Keeps [] h h' ∧ v = .tuple #[.slice none 0 0, .int .i64 2]) := by
  refine call_of hmix Tryz.func118 rfl ok118 (by simp [Tryz.f118]) ?_
  conv => whnf
  have e8 : IntKind.i64.wrap (8 * (n : Int)) = ((8 * n : Nat) : Int) := wrapN (by omega) (by omega)
  refine IfR.f (by simp [bif_or]; omega) ?_
  conv => whnf
  refine IfR.t (by rw [bs_size, e8]; simp; omega) ?_
  conv => whnf
  exact ⟨Keeps.refl _ _, rfl⟩

theorem fmay_spec {v0 : Nat} (node : Int) (h : Heap) : CallH Tryz.prog 117 [.pointer (some ⟨v0, 0, none⟩), .int .i64 node] h (fun v h' => Keeps [] h h' ∧ v = .int .i64 (if 0 ≤ node ∧ node < 24 then 0 else 1)) := by
  refine call_of hmix Tryz.func117 rfl ok117 (by simp [Tryz.f117]) ?_
  conv => whnf
  refine CallR.i (cardAt_spec node h) fun v h1 k1 hv => ?_
  subst hv
  conv => whnf
  first | refine IfR.f rfl ?_ | (refine MeetR.pass ?_; (conv => whnf); refine IfR.f rfl ?_)
  conv => whnf
  exact ⟨k1, rfl⟩

/-- what 'List' tells -/
def ListR (h h' : Heap) (r : Int × List Int × List Ent) (v : Value) : Prop :=
  if r.1 = 0 then ∃ a cc, v = .tuple #[.slice a r.2.2.length cc, .int .i64 0] ∧ Own h' 120 2 a r.2.2.length cc (entC r.2.2) ∧ (∀ x ∈ blkA a, h.size ≤ x) ∧ (∀ e ∈ r.2.2, e.ok)
  else v = .tuple #[.slice none 0 0, .int .i64 r.1]

theorem list_spec {h : Heap} {V : VL} {M : MemS} {X : VS} (A : At h V M X) (c : Crd) (hc : c.ok) : CallH Tryz.prog 17 [.pointer (some ⟨V.v, 0, none⟩), .agg ⟨c.cells⟩] h (fun v h' => Keeps [] h h' ∧ ListR h h' (openP X.now c) v) := by
  refine call_of hmix Tryz.func17 rfl ok17 (by simp [Tryz.f17]) ?_
  conv => whnf
  refine AllocR.i fun b1 h1 e1 s1 o1 k1 => ?_
  conv => whnf
  refine CallR.i (fopen_spec (A.on k1) c hc) fun v h2 k2 hv => ?_
  have z1 := k1.size
  generalize openP X.now c = r at hv
  unfold OpenR at hv
  split at hv
  · rename_i h0
    obtain ⟨b, L, a, cc, rfl, B, nB, O, nO, ok⟩ := hv
    conv => whnf
    refine ⟨k1.trans k2, ?_⟩
    unfold ListR
    rw [if_pos h0]
    exact ⟨a, cc, rfl, O, fun x hx => by have := nO x hx; omega, ok⟩
  · rename_i h0
    subst hv
    conv => whnf
    refine ⟨k1.trans k2, ?_⟩
    unfold ListR
    rw [if_neg h0]

def findP (now : Int → UInt64) (c : Crd) (name : List UInt8) : Int × Bool × Int :=
  if (openP now c).1 = 0 then ((findR (openP now c).2.2 name).1, (findR (openP now c).2.2 name).2, 0) else (0, false, (openP now c).1)

theorem openP_len (now : Int → UInt64) (c : Crd) : (openP now c).2.2.length ≤ 105 := by
  unfold openP
  split
  · simp
  · split
    · simp
    · split
      · simp only
        rw [(sortE_perm _).length_eq]
        exact rawE_len _ _
      · simp

theorem ffind_spec {h : Heap} {V : VL} {M : MemS} {X : VS} (A : At h V M X) (c : Crd) (hc : c.ok) (name : List UInt8) : CallH Tryz.prog 70 [.pointer (some ⟨V.v, 0, none⟩), .agg ⟨c.cells⟩, .string ⟨name.toArray⟩] h (fun v h' => Keeps [] h h' ∧ v = .tuple #[.int .i64 (findP X.now c name).1, .bool (findP X.now c name).2.1, .int .i64 (findP X.now c name).2.2]) := by
  have hlen := openP_len X.now c
  unfold findP
  refine call_of hmix Tryz.func70 rfl ok70 (by simp [Tryz.f70]) ?_
  conv => whnf
  refine AllocR.i fun b1 h1 e1 s1 o1 k1 => ?_
  conv => whnf
  refine CallR.i (fopen_spec (A.on k1) c hc) fun v h2 k2 hv => ?_
  generalize openP X.now c = r at hv hlen
  unfold OpenR at hv
  split at hv
  · rename_i h0
    obtain ⟨b, L, a, cc, rfl, B, nB, O, nO, ok⟩ := hv
    conv => whnf
    refine IfR.f rfl ?_
    conv => whnf
    refine CallR.i (find_spec (own_ents O ok (by omega)) (by omega) name) fun v h3 k3 hv => ?_
    subst hv
    conv => whnf
    rw [if_pos h0]
    exact ⟨(k1.trans k2).trans k3, rfl⟩
  · rename_i h0
    subst hv
    conv => whnf
    refine IfR.t (by simpa using h0) ?_
    conv => whnf
    rw [if_neg h0]
    exact ⟨k1.trans k2, rfl⟩
end Go.Proofs.YtkdmlieckkdmgaaGreatDoor
/-
  Layer 11: where an entry stands, and may stand; an entry is put.
-/
set_option linter.all false
set_option maxRecDepth 100000
set_option maxHeartbeats 1000000
namespace Go.Proofs.YtkdmlieckkdmgaaGreatDoor
open Go Go.Eng

theorem lookI_mem : ∀ {m : List (Int × Value)} {k : Int} {v : Value}, (m.map (·.1)).Nodup → (k, v) ∈ m → lookI m k = some v
  | [], _, _, _, h => by cases h
  | (k', u) :: m, k, v, hn, h => by
    simp only [List.map_cons, List.nodup_cons] at hn
    simp only [lookI]
    rcases List.mem_cons.1 h with h | h
    · cases h; rw [if_pos rfl]
    · rw [if_neg (fun e => hn.1 (by rw [← e]; exact List.mem_map_of_mem (f := fun p : Int × Value => p.1) h))]
      exact lookI_mem hn.2 h

theorem BookAt.hole {h : Heap} {b : Nat} {L : BL} {m : List Int} {i : Nat} {W : Int → List UInt64} (B : BookAt h b L m i W) {p : Nat} (hp : plc m p = -1) : lookI (mbV L.mb) (p : Int) = none := by
  rw [lookI_none, mbV_keys, B.keys]
  rintro ⟨_, _, h3⟩
  exact h3 (by simpa using hp)
theorem BookAt.used {h : Heap} {b : Nat} {L : BL} {m : List Int} {i : Nat} {W : Int → List UInt64} (B : BookAt h b L m i W) {p : Nat} (hi : p < i) (hp : plc m p ≠ -1) : ∃ x, ((p : Int), x) ∈ L.mb ∧ lookI (mbV L.mb) (p : Int) = some (.slice (some ⟨x, 0, none⟩) 16 16) := by
  have hk : (p : Int) ∈ L.mb.map (·.1) := (B.keys p).2 ⟨by omega, by omega, by simpa using hp⟩
  obtain ⟨⟨q, x⟩, hq, e⟩ := List.mem_map.1 hk
  simp only at e; subst e
  refine ⟨x, hq, lookI_mem ?_ (List.mem_map.2 ⟨_, hq, rfl⟩)⟩
  obtain ⟨es, cl, _, _, g, _⟩ := B.map
  exact g

def firstK (p : List UInt64 → Nat → Bool) (ws : List UInt64) : Nat → Nat → Option Nat
  | 0, _ => none
  | f + 1, k => if p ws k then some k else firstK p ws f (k + 1)
def spotF (W : Int → List UInt64) (m : List Int) (p : List UInt64 → Nat → Bool) : Nat → Nat → Option (Nat × Nat)
  | 0, _ => none
  | f + 1, pl => if pl < 21 then (if plc m pl = -1 then spotF W m p f (pl + 8) else (match firstK p (W (pl : Int)) 5 0 with | some k => some (pl, k) | none => spotF W m p f (pl + 8))) else none
def spotV : Option (Nat × Nat) → Value
  | some (pl, k) => .tuple #[.int .i64 (pl : Int), .int .i64 (k : Int), .bool true]
  | none => .tuple #[.int .i64 0, .int .i64 0, .bool false]

theorem spotF_step {W : Int → List UInt64} {m : List Int} {p : List UInt64 → Nat → Bool} {f pl : Nat} (hf : pl + 8 * f ≤ 32) (hg : 21 ≤ pl + 8 * f) : spotF W m p f pl = (if pl < 21 then (if plc m pl = -1 then spotF W m p (f - 1) (pl + 8) else (match firstK p (W (pl : Int)) 5 0 with | some k => some (pl, k) | none => spotF W m p (f - 1) (pl + 8))) else none) := by
  cases f with
  | zero => simp only [spotF]; rw [if_neg (by omega)]
  | succ f => rfl

/-- is an entry a name's? -/
def isB (name : List UInt8) (ws : List UInt64) (k : Nat) : Bool := entB ws k (bucketL name) && decide (entN ws k = name)

theorem dropC_spec {h : Heap} {b q : Nat} {ws : List UInt64} {T : TypeId} {fz : Nat × Nat} {name : List UInt8} (hnl : name.length ≤ 140737488351232) (hq : h[q]? = some (.cells ⟨[.string ⟨name.toArray⟩]⟩ 9 (0, 0))) (o : h[b]? = some (.cells ⟨ws.map wv⟩ T fz)) (hl : ws.length = 16) (k : Nat) (hk : k < 5) :
    CallH Tryz.prog 215 [.slice (some ⟨b, 3 * k, none⟩) 3 3, .pointer (some ⟨q, 0, none⟩)] h (fun v h' => Keeps [] h h' ∧ v = .bool (isB name ws k)) := by
  have hlt := bucketL_lt name
  refine call_of hmix Tryz.func215 rfl ok215 (by simp [Tryz.f215]) ?_
  conv => whnf
  refine LoadR.o hq rfl ?_
  conv => whnf
  refine CallR.i (bucket_spec name hnl h) fun v h1 k1 hv => ?_
  subst hv
  conv => whnf
  refine CallR.i (entry_spec (k1.obj o (by simp)) hl k (bucketL name) hk (by omega)) fun v h2 k2 hv => ?_
  subst hv
  conv => whnf
  refine AllocR.i fun b3 h3 e3 s3 o3 k3 => ?_
  conv => whnf
  refine BoxR.i fun h4 s4 k4 => ?_
  have k04 : Keeps [] h h4 := ((k1.trans k2).trans k3).new1 k4 (by have := (k1.trans k2).size; omega)
  conv => whnf
  refine LoadR.o (k04.obj hq (by simp)) rfl ?_
  conv => whnf
  refine ⟨k04, ?_⟩
  rw [bs_eq, bif_and]
  rfl

theorem spotE_spec {h : Heap} {b : Nat} {L : BL} {m : List Int} {W : Int → List UInt64} (B : BookAt h b L m 21 W) (name : List UInt8) (hnl : name.length ≤ 140737488351232) :
    CallH Tryz.prog 166 [.pointer (some ⟨b, 0, none⟩), .string ⟨name.toArray⟩, .func (.func 90) #[] #[]] h (fun v h' => Keeps [] h h' ∧ v = spotV (spotF W m emptyB 4 (bucketL name))) := by
  have hbk := bucketL_lt name
  refine call_of hmix Tryz.func166 rfl ok166 (by simp [Tryz.f166]) ?_
  conv => whnf
  refine CallR.i (bucket_spec name hnl h) fun v h1 k1 hv => ?_
  subst hv
  conv => whnf
  refine LoopR.on [0, 2, 9] [] (fun p : Nat => [(0, .v (.pointer (some ⟨b, 0, none⟩))), (2, .v (.func (.func 90) #[] #[])), (9, .v (.int .i64 (p : Int)))]) (fun _ => [])
    (fun p h' => Keeps [] h h' ∧ ∃ f, p + 8 * f ≤ 32 + 7 ∧ f ≤ 4 ∧ p + 8 * f = bucketL name + 32 ∧ spotF W m emptyB 4 (bucketL name) = spotF W m emptyB f p) (fun p => 40 - p) (bucketL name) ?_ ?_
  · exact ⟨bucketL name, rfl, rfl, rfl, k1, 4, by omega, by omega, by omega, rfl⟩
  · rintro p h2 ⟨k2, f, q1, q2, q3, hf⟩
    have hst : spotF W m emptyB f p = (if p < 21 then (if plc m p = -1 then spotF W m emptyB (f - 1) (p + 8) else (match firstK emptyB (W (p : Int)) 5 0 with | some k => some (p, k) | none => spotF W m emptyB (f - 1) (p + 8))) else none) := by
      cases f with
      | zero => simp only [spotF]; rw [if_neg (by omega)]
      | succ f => rfl
    have B2 := B.on k2
    conv => whnf
    refine IfR.i (fun hc => ?_) (fun hc => ?_)
    · have hp : p < 21 := by simp at hc; omega
      rw [if_pos hp] at hst
      conv => whnf
      first | refine LoadR.o B2.obj rfl ?_ | (refine MeetR.pass ?_; (conv => whnf); refine LoadR.o B2.obj rfl ?_)
      by_cases hh : plc m p = -1
      · rw [if_pos hh] at hst
        conv => whnf
        refine LookR.is B2.map (B2.hole hh) ?_
        conv => whnf
        refine IfR.t rfl ?_
        conv => whnf
        refine ⟨40 - (p + 8), by omega, ?_⟩
        conv => whnf
        exact ⟨p + 8, rfl, by rw [wrapN (n := p + 8) (by simp) (by omega)], rfl, k2, f - 1, by omega, by omega, by omega, by rw [hf, hst]⟩
      · rw [if_neg hh] at hst
        obtain ⟨x, hx, hlk⟩ := B2.used hp hh
        obtain ⟨ox, hwl⟩ := B2.blk _ hx
        simp only at ox hwl
        conv => whnf
        refine LookR.is B2.map hlk ?_
        conv => whnf
        refine IfR.f rfl ?_
        conv => whnf
        refine LoopR.on [0, 2, 9, 10, 30] [] (fun k : Nat => [(0, .v (.pointer (some ⟨b, 0, none⟩))), (2, .v (.func (.func 90) #[] #[])), (9, .v (.int .i64 (p : Int))), (10, .v (.slice (some ⟨x, 0, none⟩) 16 16)), (30, .v (.int .i64 (k : Int)))]) (fun _ => [])
          (fun k h' => Keeps [] h2 h' ∧ k ≤ 5 ∧ firstK emptyB (W (p : Int)) 5 0 = firstK emptyB (W (p : Int)) (5 - k) k) (fun k => 5 - k) 0 ?_ ?_
        · conv => whnf
          exact ⟨0, rfl, rfl, rfl, Keeps.refl _ _, by decide, rfl⟩
        · rintro k h3 ⟨k3, hk5, hfk⟩
          conv => whnf
          refine IfR.i (fun hc2 => ?_) (fun hc2 => ?_)
          · have hk : k < 5 := by simp at hc2; omega
            have hf2 : firstK emptyB (W (p : Int)) (5 - k) k = if emptyB (W (p : Int)) k then some k else firstK emptyB (W (p : Int)) (5 - (k + 1)) (k + 1) := by
              have : 5 - k = (5 - (k + 1)) + 1 := by omega
              rw [this]; rfl
            rw [hf2] at hfk
            have o3 := k3.obj ox (by simp)
            conv => whnf
            first | refine CallR.i (slot_spec x k hk h3) fun v h4 k4 hv => ?_ | (refine MeetR.pass ?_; (conv => whnf); refine CallR.i (slot_spec x k hk h3) fun v h4 k4 hv => ?_)
            subst hv
            conv => whnf
            refine CallR.i (empty_spec (k4.obj o3 (by simp)) hwl k hk) fun v h5 k5 hv => ?_
            subst hv
            have k25 := (k3.trans k4).trans k5
            conv => whnf
            refine IfR.i (fun he => ?_) (fun he => ?_)
            · conv => whnf
              rw [if_pos he] at hfk
              rw [hfk] at hst
              refine ⟨k2.trans k25, ?_⟩
              rw [hf, hst]; rfl
            · rw [if_neg (by rw [he]; decide)] at hfk
              conv => whnf
              refine ⟨5 - (k + 1), by omega, ?_⟩
              conv => whnf
              exact ⟨k + 1, rfl, by rw [wrapN (n := k + 1) (by simp) (by omega)], rfl, k25, by omega, hfk⟩
          · have hk : k = 5 := by simp at hc2; omega
            subst hk
            have hfn : firstK emptyB (W (p : Int)) 5 0 = none := hfk
            rw [hfn] at hst
            conv => whnf
            refine ⟨40 - (p + 8), by omega, ?_⟩
            conv => whnf
            exact ⟨p + 8, rfl, by rw [wrapN (n := p + 8) (by simp) (by omega)], rfl, k2.trans k3, f - 1, by omega, by omega, by omega, by rw [hf, hst]⟩
    · have hp : ¬ p < 21 := by simp at hc; omega
      rw [if_neg hp] at hst
      conv => whnf
      refine ⟨k2, ?_⟩
      rw [hf, hst]; rfl

theorem spotD_spec {h : Heap} {b : Nat} {L : BL} {m : List Int} {W : Int → List UInt64} (B : BookAt h b L m 21 W) (name : List UInt8) (hnl : name.length ≤ 140737488351232) {q : Nat} (hq : h[q]? = some (.cells ⟨[.string ⟨name.toArray⟩]⟩ 9 (0, 0))) :
    CallH Tryz.prog 166 [.pointer (some ⟨b, 0, none⟩), .string ⟨name.toArray⟩, .func (.func 215) #[] #[.pointer (some ⟨q, 0, none⟩)]] h (fun v h' => Keeps [] h h' ∧ v = spotV (spotF W m (isB name) 4 (bucketL name))) := by
  have hbk := bucketL_lt name
  refine call_of hmix Tryz.func166 rfl ok166 (by simp [Tryz.f166]) ?_
  conv => whnf
  refine CallR.i (bucket_spec name hnl h) fun v h1 k1 hv => ?_
  subst hv
  conv => whnf
  refine LoopR.on [0, 2, 9] [] (fun p : Nat => [(0, .v (.pointer (some ⟨b, 0, none⟩))), (2, .v (.func (.func 215) #[] #[.pointer (some ⟨q, 0, none⟩)])), (9, .v (.int .i64 (p : Int)))]) (fun _ => [])
    (fun p h' => Keeps [] h h' ∧ ∃ f, p + 8 * f ≤ 32 + 7 ∧ f ≤ 4 ∧ p + 8 * f = bucketL name + 32 ∧ spotF W m (isB name) 4 (bucketL name) = spotF W m (isB name) f p) (fun p => 40 - p) (bucketL name) ?_ ?_
  · exact ⟨bucketL name, rfl, rfl, rfl, k1, 4, by omega, by omega, by omega, rfl⟩
  · rintro p h2 ⟨k2, f, q1, q2, q3, hf⟩
    have hst : spotF W m (isB name) f p = (if p < 21 then (if plc m p = -1 then spotF W m (isB name) (f - 1) (p + 8) else (match firstK (isB name) (W (p : Int)) 5 0 with | some k => some (p, k) | none => spotF W m (isB name) (f - 1) (p + 8))) else none) := by
      cases f with
      | zero => simp only [spotF]; rw [if_neg (by omega)]
      | succ f => rfl
    have B2 := B.on k2
    conv => whnf
    refine IfR.i (fun hc => ?_) (fun hc => ?_)
    · have hp : p < 21 := by simp at hc; omega
      rw [if_pos hp] at hst
      conv => whnf
      first | refine LoadR.o B2.obj rfl ?_ | (refine MeetR.pass ?_; (conv => whnf); refine LoadR.o B2.obj rfl ?_)
      by_cases hh : plc m p = -1
      · rw [if_pos hh] at hst
        conv => whnf
        refine LookR.is B2.map (B2.hole hh) ?_
        conv => whnf
        refine IfR.t rfl ?_
        conv => whnf
        refine ⟨40 - (p + 8), by omega, ?_⟩
        conv => whnf
        exact ⟨p + 8, rfl, by rw [wrapN (n := p + 8) (by simp) (by omega)], rfl, k2, f - 1, by omega, by omega, by omega, by rw [hf, hst]⟩
      · rw [if_neg hh] at hst
        obtain ⟨x, hx, hlk⟩ := B2.used hp hh
        obtain ⟨ox, hwl⟩ := B2.blk _ hx
        simp only at ox hwl
        conv => whnf
        refine LookR.is B2.map hlk ?_
        conv => whnf
        refine IfR.f rfl ?_
        conv => whnf
        refine LoopR.on [0, 2, 9, 10, 30] [] (fun k : Nat => [(0, .v (.pointer (some ⟨b, 0, none⟩))), (2, .v (.func (.func 215) #[] #[.pointer (some ⟨q, 0, none⟩)])), (9, .v (.int .i64 (p : Int))), (10, .v (.slice (some ⟨x, 0, none⟩) 16 16)), (30, .v (.int .i64 (k : Int)))]) (fun _ => [])
          (fun k h' => Keeps [] h2 h' ∧ k ≤ 5 ∧ firstK (isB name) (W (p : Int)) 5 0 = firstK (isB name) (W (p : Int)) (5 - k) k) (fun k => 5 - k) 0 ?_ ?_
        · conv => whnf
          exact ⟨0, rfl, rfl, rfl, Keeps.refl _ _, by decide, rfl⟩
        · rintro k h3 ⟨k3, hk5, hfk⟩
          conv => whnf
          refine IfR.i (fun hc2 => ?_) (fun hc2 => ?_)
          · have hk : k < 5 := by simp at hc2; omega
            have hf2 : firstK (isB name) (W (p : Int)) (5 - k) k = if (isB name) (W (p : Int)) k then some k else firstK (isB name) (W (p : Int)) (5 - (k + 1)) (k + 1) := by
              have : 5 - k = (5 - (k + 1)) + 1 := by omega
              rw [this]; rfl
            rw [hf2] at hfk
            have o3 := k3.obj ox (by simp)
            conv => whnf
            first | refine CallR.i (slot_spec x k hk h3) fun v h4 k4 hv => ?_ | (refine MeetR.pass ?_; (conv => whnf); refine CallR.i (slot_spec x k hk h3) fun v h4 k4 hv => ?_)
            subst hv
            conv => whnf
            refine CallR.i (dropC_spec hnl ((k2.trans (k3.trans k4)).obj hq (by simp)) (k4.obj o3 (by simp)) hwl k hk) fun v h5 k5 hv => ?_
            subst hv
            have k25 := (k3.trans k4).trans k5
            conv => whnf
            refine IfR.i (fun he => ?_) (fun he => ?_)
            · conv => whnf
              rw [if_pos he] at hfk
              rw [hfk] at hst
              refine ⟨k2.trans k25, ?_⟩
              rw [hf, hst]; rfl
            · rw [if_neg (by rw [he]; decide)] at hfk
              conv => whnf
              refine ⟨5 - (k + 1), by omega, ?_⟩
              conv => whnf
              exact ⟨k + 1, rfl, by rw [wrapN (n := k + 1) (by simp) (by omega)], rfl, k25, by omega, hfk⟩
          · have hk : k = 5 := by simp at hc2; omega
            subst hk
            have hfn : firstK (isB name) (W (p : Int)) 5 0 = none := hfk
            rw [hfn] at hst
            conv => whnf
            refine ⟨40 - (p + 8), by omega, ?_⟩
            conv => whnf
            exact ⟨p + 8, rfl, by rw [wrapN (n := p + 8) (by simp) (by omega)], rfl, k2.trans k3, f - 1, by omega, by omega, by omega, by rw [hf, hst]⟩
    · have hp : ¬ p < 21 := by simp at hc; omega
      rw [if_neg hp] at hst
      conv => whnf
      refine ⟨k2, ?_⟩
      rw [hf, hst]; rfl
end Go.Proofs.YtkdmlieckkdmgaaGreatDoor
