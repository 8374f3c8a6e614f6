/-
  Joined texts: ChgB, BodyY, ChgA, FileF, FileG, FolO, FolQ, FolR, FolT, FolU, FolV, FolW, FolX, FomA, FomB, FomC, FomD, FomE, WalD, FileH, FileJ, FileN.
-/
import Derived.Test.YtkjkdnphikendaaGreatDoorJLawCLinksf
import Derived.Shelf.SlLaysF0
import Derived.Test.YtkjkdnphikendaaGreatDoorProg
import Derived.Shelf.SlSortCmp.NoneTotal
import Derived.Test.YtkjkdnphikendaaGreatDoorJLawCLinksg
import Derived.Test.YtkjkdnphikendaaGreatDoorJLawCLinksh
/-
  Layer 8: a view's changes.
-/
set_option linter.all false
set_option maxRecDepth 100000
set_option maxHeartbeats 1000000
namespace Go.Proofs.YtkjkdnphikendaaGreatDoor
open Go Go.Eng

/-- changes as cells -/
def chgC (l : List (Int × UInt64)) : List Value := l.flatMap fun p => [.int .i64 p.1, wv p.2]
/-- what the library's sort does to changes -/
def SortS : Prop := ∀ (h : Heap) (a : Option Addr) (n c : Nat) (l : List (Int × UInt64)), Own h 159 2 a n c (chgC l) → l.length ≤ 2824 → (∀ p ∈ l, 0 ≤ p.1 ∧ p.1 < 4096) →
  CallH Tryz.prog 157 [.slice a n c, .func (.func 158) #[] #[]] h (fun v h' => Keeps (blkA a) h h' ∧ v = .tuple #[] ∧ ∃ l', l'.Perm l ∧ l'.Pairwise (fun x y => x.1 ≤ y.1) ∧ Own h' 159 2 a n c (chgC l'))

/-- the words that are changed, by their places -/
def chgL (now old : Int → UInt64) : List (Int × UInt64) := ((List.range 2824).filter fun (i : Nat) => decide (now (i : Int) ≠ old (i : Int))).map fun (i : Nat) => ((i : Int), now (i : Int))

theorem lk_of_mem : ∀ {l : List (Int × UInt64)} {p : Int × UInt64}, (l.map (·.1)).Nodup → p ∈ l → lk l p.1 = some p.2
  | [], p, _, h => nomatch h
  | (k, v) :: l, p, hn, h => by
    simp only [List.map_cons, List.nodup_cons] at hn
    unfold lk
    rcases List.mem_cons.1 h with rfl | h
    · rw [if_pos rfl]
    · rw [if_neg (fun e => hn.1 (by rw [← e]; exact List.mem_map_of_mem h))]
      exact lk_of_mem hn.2 h
theorem mapW_split {m : List (Int × UInt64)} {R1 R2 : List (Int × Value)} {p : Int × Value} (h : mapW m = R1 ++ p :: R2) : ∃ m1 q m2, m = m1 ++ q :: m2 ∧ R1 = mapW m1 ∧ R2 = mapW m2 ∧ p = (q.1, wv q.2) := by
  unfold mapW at h
  obtain ⟨m1, m', rfl, h1, h2⟩ := List.map_eq_append_iff.1 h
  obtain ⟨q, m2, rfl, h3, h4⟩ := List.map_eq_cons_iff.1 h2
  exact ⟨m1, q, m2, rfl, h1.symm, h4.symm, h3.symm⟩

end Go.Proofs.YtkjkdnphikendaaGreatDoor
/-
  The library's sort of changes, laid at this program (made by wip/tools/laysrt.py).
-/
set_option linter.all false
namespace Go.Proofs.YtkjkdnphikendaaGreatDoor
open Go Go.Shelf
def srt_ren : Go.Shelf.Ren := ⟨fun | 6 => 157 | 15 => 206 | 14 => 205 | 28 => 236 | 29 => 212 | 20 => 228 | 21 => 229 | 22 => 230 | 23 => 231 | 24 => 232 | 25 => 233 | 26 => 234 | 27 => 235 | 46 => 261 | 47 => 262 | 48 => 263 | 49 => 264 | 50 => 265 | 57 => 286 | n => n, fun | 22 => 156 | 24 => 159 | 25 => 219 | 3 => 3 | 39 => 258 | 0 => 0 | 53 => 281 | 55 => 56 | 4 => 4 | 46 => 291 | 45 => 290 | 50 => 192 | 5 => 5 | 9 => 9 | 66 => 315 | 70 => 319 | 76 => 330 | 77 => 331 | n => n, fun n => n⟩
end Go.Proofs.YtkjkdnphikendaaGreatDoor
/-
  What the library's sort does to a view's changes.
-/
set_option linter.all false
set_option maxRecDepth 100000
set_option maxHeartbeats 2000000
namespace Go.Proofs.YtkjkdnphikendaaGreatDoor
open Go Go.Eng Go.Shelf Go.RowKit Go.Sort

/-- a change, its place known to be small -/
def encS (x : Fin 4096 × UInt64) : List Value := [.int .i64 (x.1.val : Int), wv x.2]
def cfS (x y : Fin 4096 × UInt64) : Int := (x.1.val : Int) - y.1.val

def unS (x : Fin 4096 × UInt64) : Int × UInt64 := ((x.1.val : Int), x.2)
def toS (p : Int × UInt64) : Fin 4096 × UInt64 := (⟨p.1.toNat % 4096, Nat.mod_lt _ (by decide)⟩, p.2)
end Go.Proofs.YtkjkdnphikendaaGreatDoor
/-
  Layer 10's law: what a step leaves is made in the memory, or undone.
-/
set_option linter.all false
set_option maxRecDepth 100000
set_option maxHeartbeats 1000000
namespace Go.Proofs.YtkjkdnphikendaaGreatDoor
open Go Go.Eng

/-- words are stored one by one -/
def storeL (M : MemS) (l : List (Int × UInt64)) : MemS := l.foldl (fun M p => (M.store p.1 p.2).2) M

theorem At.store {h h' : Heap} {V : VL} {M M' : MemS} {X : VS} (A : At h V M X) (hab : V.ab = none) (hanb : V.anb = none) (k : Keeps [V.mem.m, V.mem.lb] h h') (R : MemAt h' V.mem M') : ∃ now, At h' V M' { X with now := now } := by
  obtain ⟨own, O, hx, ho⟩ := A.own
  have nb : ∀ b ∈ [V.v, V.ob, V.sb, V.mb], b ∉ [V.mem.m, V.mem.lb] := by
    intro b hb hm
    refine A.ap2 b hb ?_
    simp only [ML.blocks]
    simp at hm ⊢
    rcases hm with h | h <;> simp [h]
  exact ⟨fun a => (lk own a).getD (M'.read a), {
    mem := R
    obj := k.obj A.obj (nb V.v (by simp))
    own := ⟨own, O.keep k (nb V.ob (by simp)), fun a => rfl, ho⟩
    seen := A.seen.keep k (nb V.sb (by simp))
    mine := A.mine.keep k (nb V.mb (by simp))
    away := A.away.keep k (by rw [hab]; simp)
    awayN := A.awayN.keep k (by rw [hanb]; simp)
    ap1 := A.ap1
    ap2 := A.ap2
    ap3 := A.ap3
    rng := A.rng }⟩

/-- a file of the law's -/
def fileC (V : VL) (node : Int) (c : Crd) (s : ByteArray) : List Value := [.pointer (some ⟨V.v, 0, none⟩), .pointer (some ⟨V.mem.m, 0, none⟩), .int .i64 node] ++ c.cells ++ [.string s]

end Go.Proofs.YtkjkdnphikendaaGreatDoor
/-
  Layer 10's law: a file's own blocks; whole; two files.
-/
set_option linter.all false
set_option maxRecDepth 100000
set_option maxHeartbeats 1000000
namespace Go.Proofs.YtkjkdnphikendaaGreatDoor
open Go Go.Eng

/-- a view and its memory, between steps: the memory calm, the view as new -/
structure Idle (h : Heap) (V : VL) (M : MemS) : Prop where
  at_ : At h V M ⟨M.read, [], [], [], []⟩
  ab : V.ab = none
  anb : V.anb = none
  calm : M.until_ = -1
  size : M.sure.length = 2824

theorem Idle.on {h h' : Heap} {V : VL} {M : MemS} (I : Idle h V M) (k : Keeps [] h h') : Idle h' V M := ⟨I.at_.on k, I.ab, I.anb, I.calm, I.size⟩

end Go.Proofs.YtkjkdnphikendaaGreatDoor
/-
  Layer 11's laws: two empty directories on a new memory; the laws' own check that the program lives.
-/
set_option linter.all false
set_option maxRecDepth 100000
set_option maxHeartbeats 1000000
namespace Go.Proofs.YtkjkdnphikendaaGreatDoor
open Go Go.Eng

/-- a directory's words in memory -/
def bookC (V : VL) (node : Int) (c : Crd) (a : Option Addr) (n cc : Nat) : List Value := [.pointer (some ⟨V.v, 0, none⟩), .pointer (some ⟨V.mem.m, 0, none⟩), .int .i64 node] ++ c.cells ++ [.slice a n cc]
/-! ### The check -/

def lv1 : Crd × Int × VS := addP b0 ⟨b0, [], [], [], []⟩ 2 (freshC 2 1) [98] 5
def lv2 : Crd × Int × VS := addP b0 lv1.2.2 2 lv1.1 [97] 6
end Go.Proofs.YtkjkdnphikendaaGreatDoor
/-
  Layer 11's law: whatever lies there, each call ends.
-/
set_option linter.all false
set_option maxRecDepth 100000
set_option maxHeartbeats 1000000
namespace Go.Proofs.YtkjkdnphikendaaGreatDoor
open Go Go.Eng

/-! ### What a list that is told has -/

def entGood (e : Ent) : Prop := 1 ≤ e.node ∧ e.node ≤ 23 ∧ nameB e.name = true

theorem slotE_good {ws : List UInt64} {place k : Nat} (h : slotOk ws place k = true) : ∀ e ∈ slotE ws k, entGood e ∧ bucketL e.name = place % 8 := by
  intro e he
  unfold slotE at he
  split at he
  · cases he
  · rename_i hx
    simp only [List.mem_cons, List.not_mem_nil, or_false] at he
    subst he
    unfold slotOk at h
    have hx2 : emptyB ws k = false := by simpa using hx
    rw [hx2, Bool.false_or] at h
    unfold entB at h
    simp only [Bool.and_eq_true, decide_eq_true_eq] at h
    obtain ⟨_, h1, h2, h3, h4⟩ := h
    refine ⟨⟨?_, ?_, h1⟩, h2⟩
    · simp only [entE, entV]
      rw [wrapI (by omega) (by omega)]; omega
    · simp only [entE, entV]
      rw [wrapI (by omega) (by omega)]; omega
theorem placeE_good {now : Int → UInt64} {m : List Int} {i : Nat} (h : placeOk now m i = true) : ∀ e ∈ placeE now m i, entGood e ∧ bucketL e.name = i % 8 := by
  intro e he
  unfold placeE at he
  split at he
  · cases he
  · rename_i hx
    unfold placeOk blkOkB at h
    rw [decide_eq_false hx, Bool.false_or] at h
    simp only [Bool.and_eq_true] at h
    obtain ⟨k, hk, hk2⟩ := List.mem_flatMap.1 he
    exact slotE_good (List.all_eq_true.1 h.2.2 k hk) e hk2

theorem openP_is {now : Int → UInt64} {c : Crd} (h : (openP now c).1 = 0) : ∃ m, mapOf now c = some m ∧ c.kind = 2 ∧ (List.range 21).all (placeOk now m) = true ∧ ((rawE now m).map (·.name)).Nodup ∧ ((rawE now m).length : Int) = c.size ∧ openP now c = (0, m, sortE (rawE now m)) := by
  have h0 := h
  unfold openP at h
  split at h
  · simp at h
  · rename_i hk
    split at h
    · simp at h
    · rename_i m hm
      split at h
      · rename_i hc
        refine ⟨m, hm, by omega, hc.1, hc.2.1, hc.2.2, ?_⟩
        unfold openP
        rw [if_neg hk, hm]
        simp only
        rw [if_pos hc]
      · simp at h
def strict (l : List Ent) : Prop := l.Pairwise fun x y => blt x.name y.name = true
theorem strict_of {l : List Ent} (hs : l.Pairwise (fun x y => leE x y = true)) (hn : (l.map (·.name)).Nodup) : strict l := by
  rw [List.nodup_iff_pairwise_ne, List.pairwise_map] at hn
  refine List.Pairwise.imp₂ (fun x y h1 h2 => ?_) hs hn
  unfold leE at h1
  rw [Bool.not_eq_true'] at h1
  rcases blt_tri x.name y.name with h | h | h
  · exact h
  · exact absurd h h2
  · rw [h] at h1; cases h1
theorem openP_good {now : Int → UInt64} {c : Crd} (h : (openP now c).1 = 0) : strict (openP now c).2.2 ∧ ∀ e ∈ (openP now c).2.2, entGood e := by
  obtain ⟨m, hm, hk, ha, hn, hl, e⟩ := openP_is h
  rw [e]
  simp only
  have hp := sortE_perm (rawE now m)
  refine ⟨strict_of (sortE_sorted _) ((hp.map _).nodup_iff.2 hn), fun x hx => ?_⟩
  have := hp.mem_iff.1 hx
  obtain ⟨i, hi, hxi⟩ := List.mem_flatMap.1 this
  exact (placeE_good (List.all_eq_true.1 ha i hi) x hxi).1

/-- in a list in order a name is found where it would stand -/
theorem find_place {name : List UInt8} : ∀ {l : List Ent}, strict l → (findR l name).2 = plT l name
  | [], _ => rfl
  | x :: l, hs => by
    obtain ⟨h1, h2⟩ := List.pairwise_cons.1 hs
    have ih := find_place (name := name) h2
    by_cases hx : blt x.name name = true
    · have e1 : plK (x :: l) name = plK l name + 1 := by unfold plK; rw [List.takeWhile_cons, if_pos hx]; rfl
      have e2 : plT (x :: l) name = plT l name := by unfold plT; rw [e1]; rfl
      have hne : ¬ x.name = name := by rintro rfl; rw [blt_irr] at hx; cases hx
      rw [e2, ← ih]
      unfold findR findE
      rw [List.find?_cons, decide_eq_false hne]
    · have e1 : plK (x :: l) name = 0 := by unfold plK; rw [List.takeWhile_cons, if_neg hx]; rfl
      have e2 : plT (x :: l) name = decide (x.name = name) := by unfold plT; rw [e1]; rfl
      rw [e2]
      unfold findR findE
      rw [List.find?_cons]
      by_cases hne : x.name = name
      · rw [decide_eq_true hne]
      · rw [decide_eq_false hne]
        have hgt : blt name x.name = true := by
          rcases blt_tri x.name name with g | g | g
          · exact absurd g hx
          · exact absurd g hne
          · exact g
        have : l.find? (fun e => decide (e.name = name)) = none := by
          rw [List.find?_eq_none]
          intro y hy
          have := blt_trans hgt (h1 y hy)
          simp only [decide_eq_true_eq]
          rintro rfl
          rw [blt_irr] at this; cases this
        simp only [this]

end Go.Proofs.YtkjkdnphikendaaGreatDoor
/-
  Layer 11's plain law: what an entry that is put, or struck, does to a block's entries.
-/
set_option linter.all false
set_option maxRecDepth 100000
set_option maxHeartbeats 1000000
namespace Go.Proofs.YtkjkdnphikendaaGreatDoor
open Go Go.Eng

/-! ### Bytes and words -/

theorem byteW_toNat (w : UInt64) (i : Nat) : (byteW w i).toNat = w.toNat / 2 ^ (8 * (i % 8)) % 256 := by
  unfold byteW
  simp [UInt8.toNat_ofNat]

theorem pack_bytes (w : UInt64) (j : Nat) : packN ((List.range 8).map fun i => byteW w (8 * j + i)) = w.toNat := by
  have hw := w.toNat_lt
  have h : ∀ i, i < 8 → (byteW w (8 * j + i)).toNat = w.toNat / 2 ^ (8 * i) % 256 := by
    intro i hi
    rw [byteW_toNat]
    congr 4
    omega
  have e : (List.range 8) = [0, 1, 2, 3, 4, 5, 6, 7] := rfl
  rw [e]
  simp only [List.map_cons, List.map_nil, packN]
  rw [h 0 (by decide), h 1 (by decide), h 2 (by decide), h 3 (by decide), h 4 (by decide), h 5 (by decide), h 6 (by decide), h 7 (by decide)]
  simp only [Nat.mul_zero, Nat.pow_zero, Nat.div_one, Nat.reduceMul, Nat.reducePow]
  omega

theorem untext_inj {ws vs : List UInt64} (hl : ws.length = vs.length) (h : untextL ws (8 * ws.length) = untextL vs (8 * ws.length)) : ws = vs := by
  apply List.ext_getElem hl
  intro j h1 h2
  have key : ∀ (us : List UInt64) (hj : j < us.length), ((untextL us (8 * us.length)).drop (8 * j)).take 8 = (List.range 8).map fun i => byteW us[j] (8 * j + i) := by
    intro us hj
    apply List.ext_getElem
    · simp [untextL]; omega
    · intro i i1 i2
      have hi : i < 8 := by simpa using i2
      simp only [untextL, List.getElem_take, List.getElem_drop, List.getElem_map, List.getElem_range]
      have : (8 * j + i) / 8 = j := by omega
      rw [this, List.getElem?_eq_getElem hj]; rfl
  have k1 := key ws h1
  have k2 := key vs h2
  rw [h, hl, k2] at k1
  apply UInt64.toNat_inj.1
  rw [← pack_bytes ws[j] j, ← pack_bytes vs[j] j, k1]

/-! ### A slot that is set -/

theorem wAt_set {ws new : List UInt64} {k i : Nat} (hl : ws.length = 16) (hk : k < 5) (hn : new.length = 3) : wAt (setSlot ws k new) i = if 3 * k ≤ i ∧ i < 3 * k + 3 then wAt new (i - 3 * k) else wAt ws i := by
  unfold wAt setSlot
  have h1 : (ws.take (3 * k)).length = 3 * k := by simp; omega
  by_cases ha : i < 3 * k
  · rw [if_neg (by omega), List.append_assoc, List.getElem?_append_left (by omega), List.getElem?_take, if_pos ha]
  · by_cases hb : i < 3 * k + 3
    · rw [if_pos ⟨by omega, hb⟩, List.append_assoc, List.getElem?_append_right (by omega), h1, List.getElem?_append_left (by omega)]
    · rw [if_neg (by omega), List.getElem?_append_right (by simp; omega)]
      have h2 : (ws.take (3 * k) ++ new).length = 3 * k + 3 := by simp; omega
      rw [h2, List.getElem?_drop]
      congr 2
      omega

theorem slot_same {ws vs : List UInt64} {k place : Nat} (h0 : wAt vs (3 * k) = wAt ws (3 * k)) (h1 : wAt vs (3 * k + 1) = wAt ws (3 * k + 1)) (h2 : wAt vs (3 * k + 2) = wAt ws (3 * k + 2)) : slotOk vs place k = slotOk ws place k ∧ slotE vs k = slotE ws k := by
  have e1 : emptyB vs k = emptyB ws k := by unfold emptyB; rw [h0, h1, h2]
  have e2 : entT vs k = entT ws k := by unfold entT; rw [h1, h2]
  have e3 : entE vs k = entE ws k := by unfold entE entN entV; rw [e2, h0]
  have e4 : entB vs k place = entB ws k place := by unfold entB entN; rw [e2, h0]
  constructor
  · unfold slotOk; rw [e1, e4]
  · unfold slotE; rw [e1, e3]

theorem set_other {ws new : List UInt64} {k j place : Nat} (hl : ws.length = 16) (hk : k < 5) (hn : new.length = 3) (hj : j ≠ k) : slotOk (setSlot ws k new) place j = slotOk ws place j ∧ slotE (setSlot ws k new) j = slotE ws j := by
  refine slot_same ?_ ?_ ?_ <;> rw [wAt_set hl hk hn, if_neg (by omega)]

/-- an entry's words -/
def entWs (e : Ent) : List UInt64 := w64 e.node :: textL e.name 2
theorem entWs_len (e : Ent) : (entWs e).length = 3 := by simp [entWs, textL_len]

theorem sign_nz {c : UInt8} (h : signB c = true) : c ≠ 0 := by
  rintro rfl
  revert h; decide
theorem takeW_zeros : ∀ (l : List UInt8) (n : Nat), l.all nz = true → (l ++ zeros n).takeWhile nz = l ∧ ((l ++ zeros n).dropWhile nz).all ez = true
  | [], n, _ => by
    cases n with
    | zero => exact ⟨rfl, rfl⟩
    | succ n =>
      constructor
      · simp [zeros, List.replicate_succ, nz]
      · simp [zeros, List.replicate_succ, nz, ez]
  | c :: l, n, h => by
    simp only [List.all_cons, Bool.and_eq_true] at h
    obtain ⟨h1, h2⟩ := takeW_zeros l n h.2
    rw [List.cons_append, List.takeWhile_cons, if_pos h.1, List.dropWhile_cons, if_pos h.1, h1]
    exact ⟨rfl, h2⟩
theorem all_drop {p : UInt8 → Bool} {l : List UInt8} {n : Nat} (h : l.all p = true) : (l.drop n).all p = true := by
  rw [List.all_eq_true] at h ⊢
  exact fun x hx => h x (List.mem_of_mem_drop hx)

theorem entWs_text {e : Ent} (hn : nameB e.name = true) : untextL [wordT e.name 0, wordT e.name 1] 16 = e.name ++ zeros (16 - e.name.length) := by
  have hlen : e.name.length ≤ 14 := by
    unfold nameB at hn
    simp only [Bool.and_eq_true, decide_eq_true_eq] at hn
    exact hn.2.1.1.2
  apply List.ext_getElem
  · simp [untextL, zeros]; omega
  · intro i h1 h2
    have hi : i < 16 := by simpa [untextL] using h1
    simp only [untextL, List.getElem_map, List.getElem_range]
    have hw : ([wordT e.name 0, wordT e.name 1] : List UInt64)[i / 8]?.getD 0 = wordT e.name (i / 8) := by
      have : i / 8 = 0 ∨ i / 8 = 1 := by omega
      rcases this with h | h <;> rw [h] <;> rfl
    rw [hw, byte_word]
    rcases Nat.lt_or_ge i e.name.length with h | h
    · rw [List.getElem_append_left h, List.getElem?_eq_getElem h]; rfl
    · rw [List.getElem_append_right h, List.getElem?_eq_none h]
      simp [zeros]

/-- an entry that is put stands there -/
theorem set_here {ws : List UInt64} {k place : Nat} {e : Ent} (hl : ws.length = 16) (hk : k < 5) (hn : nameB e.name = true) (h1 : 1 ≤ e.node) (h2 : e.node < 24) (hb : bucketL e.name = place % 8) : slotOk (setSlot ws k (entWs e)) place k = true ∧ slotE (setSlot ws k (entWs e)) k = [e] := by
  have hlen := entWs_len e
  have w0 : wAt (setSlot ws k (entWs e)) (3 * k) = w64 e.node := by rw [wAt_set hl hk hlen, if_pos ⟨by omega, by omega⟩, Nat.sub_self]; rfl
  have w1 : wAt (setSlot ws k (entWs e)) (3 * k + 1) = wordT e.name 0 := by rw [wAt_set hl hk hlen, if_pos ⟨by omega, by omega⟩, show 3 * k + 1 - 3 * k = 1 by omega]; rfl
  have w2 : wAt (setSlot ws k (entWs e)) (3 * k + 2) = wordT e.name 1 := by rw [wAt_set hl hk hlen, if_pos ⟨by omega, by omega⟩, show 3 * k + 2 - 3 * k = 2 by omega]; rfl
  have hw : ((w64 e.node).toNat : Int) = e.node := by rw [w64_toNat]; omega
  have hall : e.name.all nz = true := by
    unfold nameB at hn
    simp only [Bool.and_eq_true] at hn
    rw [List.all_eq_true] at hn ⊢
    intro c hc
    have := sign_nz (hn.1 c hc)
    simpa [nz] using this
  have hT : entT (setSlot ws k (entWs e)) k = e.name ++ zeros (16 - e.name.length) := by
    unfold entT
    rw [w1, w2, entWs_text hn]
  obtain ⟨t1, t2⟩ := takeW_zeros e.name (16 - e.name.length) hall
  have hN : entN (setSlot ws k (entWs e)) k = e.name := by unfold entN cutA; rw [hT, t1]
  have hV : entV (setSlot ws k (entWs e)) k = e.node := by unfold entV; rw [w0, hw, wrapI (by omega) (by omega)]
  have hE : emptyB (setSlot ws k (entWs e)) k = false := by
    unfold emptyB
    rw [w0, decide_eq_false (fun h => by rw [h] at hw; simp at hw; omega)]
    rfl
  have hB : entB (setSlot ws k (entWs e)) k place = true := by
    unfold entB
    rw [hN, w0, hn, hT]
    unfold cutB
    rw [all_drop t2, hb]
    have g1 : 1 ≤ (w64 e.node).toNat := by omega
    have g2 : (w64 e.node).toNat < 24 := by omega
    simp [g1, g2]
  constructor
  · unfold slotOk; rw [hB, Bool.or_true]
  · unfold slotE
    rw [hE]
    simp only [Bool.false_eq_true, if_false]
    unfold entE
    rw [hN, hV]

/-- an entry that is struck is none -/
theorem set_none {ws : List UInt64} {k place : Nat} (hl : ws.length = 16) (hk : k < 5) : slotOk (setSlot ws k [0, 0, 0]) place k = true ∧ slotE (setSlot ws k [0, 0, 0]) k = [] := by
  have hE : emptyB (setSlot ws k [0, 0, 0]) k = true := by
    unfold emptyB
    rw [wAt_set hl hk rfl, wAt_set hl hk rfl, wAt_set hl hk rfl, if_pos ⟨by omega, by omega⟩, if_pos ⟨by omega, by omega⟩, if_pos ⟨by omega, by omega⟩, Nat.sub_self, show 3 * k + 1 - 3 * k = 1 by omega, show 3 * k + 2 - 3 * k = 2 by omega]
    rfl
  constructor
  · unfold slotOk; rw [hE]; rfl
  · unfold slotE; rw [if_pos hE]

/-! ### Blocks -/

/-- a block's entries, by its words -/
def wsOk (ws : List UInt64) (place : Nat) : Bool := decide (wAt ws 15 = 0) && (List.range 5).all (slotOk ws place)
def wsE (ws : List UInt64) : List Ent := (List.range 5).flatMap (slotE ws)

theorem flat_one {α β : Type} {f g : α → List β} {a : α} : ∀ {l : List α}, l.Nodup → a ∈ l → (∀ x ∈ l, x ≠ a → f x = g x) → (l.flatMap f ++ g a).Perm (l.flatMap g ++ f a)
  | [], _, h, _ => by cases h
  | x :: l, hn, ha, he => by
    obtain ⟨h1, h2⟩ := List.nodup_cons.1 hn
    rw [List.flatMap_cons, List.flatMap_cons]
    by_cases e : x = a
    · subst e
      have hfg : l.flatMap f = l.flatMap g := by
        have : ∀ y ∈ l, f y = g y := fun y hy => he y (by simp [hy]) (fun h => h1 (h ▸ hy))
        clear ha he hn h1 h2
        induction l with
        | nil => rfl
        | cons z l ih =>
          rw [List.flatMap_cons, List.flatMap_cons, this z (by simp), ih (fun y hy => this y (by simp [hy]))]
      rw [hfg]
      have p1 : (f x ++ l.flatMap g ++ g x).Perm (g x ++ (f x ++ l.flatMap g)) := List.perm_append_comm
      refine p1.trans ?_
      rw [List.append_assoc]
      exact List.Perm.append_left _ List.perm_append_comm
    · have ha2 : a ∈ l := by
        rcases List.mem_cons.1 ha with h | h
        · exact absurd h.symm e
        · exact h
      have ih := flat_one h2 ha2 (fun y hy hne => he y (by simp [hy]) hne)
      rw [he x (by simp) e, List.append_assoc, List.append_assoc]
      exact List.Perm.append_left _ ih

theorem ws_put {ws : List UInt64} {k place : Nat} {e : Ent} (hl : ws.length = 16) (hk : k < 5) (hn : nameB e.name = true) (h1 : 1 ≤ e.node) (h2 : e.node < 24) (hb : bucketL e.name = place % 8) (ho : wsOk ws place = true) (he : emptyB ws k = true) : wsOk (setSlot ws k (entWs e)) place = true ∧ (wsE (setSlot ws k (entWs e))).Perm (e :: wsE ws) := by
  obtain ⟨g1, g2⟩ := set_here (place := place) hl hk hn h1 h2 hb
  have hlen := entWs_len e
  unfold wsOk at ho ⊢
  simp only [Bool.and_eq_true] at ho
  constructor
  · rw [wAt_set hl hk hlen, if_neg (by omega), ho.1, Bool.true_and, List.all_eq_true]
    intro j hj
    by_cases e : j = k
    · subst e; exact g1
    · rw [(set_other hl hk hlen e).1]; exact List.all_eq_true.1 ho.2 j hj
  · have hse : slotE ws k = [] := by unfold slotE; rw [if_pos he]
    have p := flat_one (f := slotE (setSlot ws k (entWs e))) (g := slotE ws) (a := k) (l := List.range 5) List.nodup_range (by simpa using hk) (fun j _ hne => (set_other (place := place) hl hk hlen hne).2)
    rw [hse, g2, List.append_nil] at p
    exact p.trans (List.perm_append_comm (l₂ := [e]))

theorem ws_strike {ws : List UInt64} {k place : Nat} (hl : ws.length = 16) (hk : k < 5) (ho : wsOk ws place = true) (he : emptyB ws k = false) : wsOk (setSlot ws k [0, 0, 0]) place = true ∧ (entE ws k :: wsE (setSlot ws k [0, 0, 0])).Perm (wsE ws) := by
  obtain ⟨g1, g2⟩ := set_none (place := place) hl hk
  unfold wsOk at ho ⊢
  simp only [Bool.and_eq_true] at ho
  constructor
  · rw [wAt_set hl hk rfl, if_neg (by omega), ho.1, Bool.true_and, List.all_eq_true]
    intro j hj
    by_cases e : j = k
    · subst e; exact g1
    · rw [(set_other hl hk rfl e).1]; exact List.all_eq_true.1 ho.2 j hj
  · have hse : slotE ws k = [entE ws k] := by unfold slotE; rw [if_neg (by rw [he]; decide)]
    have p := flat_one (f := slotE (setSlot ws k [0, 0, 0])) (g := slotE ws) (a := k) (l := List.range 5) List.nodup_range (by simpa using hk) (fun j _ hne => (set_other (place := place) hl hk rfl hne).2)
    rw [hse, g2, List.append_nil] at p
    exact (List.perm_append_comm (l₁ := [entE ws k])).trans p

/-- words of noughts have no entries -/
theorem ws_zero (place : Nat) : wsOk (List.replicate 16 0) place = true ∧ wsE (List.replicate 16 0) = [] := by
  have h : ∀ k, k < 5 → emptyB (List.replicate 16 0) k = true := by decide
  constructor
  · unfold wsOk
    rw [show wAt (List.replicate 16 0) 15 = 0 from rfl, decide_eq_true rfl, Bool.true_and, List.all_eq_true]
    intro k hk
    unfold slotOk
    rw [h k (by simpa using hk)]; rfl
  · unfold wsE
    rw [List.flatMap_eq_nil_iff]
    intro k hk
    unfold slotE
    rw [if_pos (h k (by simpa using hk))]
end Go.Proofs.YtkjkdnphikendaaGreatDoor
/-
  Layer 11's plain law: a directory's names, and its map; a name more.
-/
set_option linter.all false
set_option maxRecDepth 100000
set_option maxHeartbeats 1000000
namespace Go.Proofs.YtkjkdnphikendaaGreatDoor
open Go Go.Eng

/-- a directory: its map, its blocks' entries, its names in order -/
structure DirI (now : Int → UInt64) (node : Int) (c : Crd) (m : List Int) (l : List Ent) : Prop where
  map : mapOf now c = some m
  wk : Wk now node c.more m
  kind : c.kind = 2 ∧ c.links = 1
  size : c.size = (l.length : Int)
  ok : ∀ i, i < 21 → plc m i ≠ -1 → wsOk (blkW now (plc m i)) i = true
  ents : (rawE now m).Perm l
  str : strict l
  mor : c.more = -1 ↔ (m.drop 5).any usedB = false

theorem Wk.rngP {now : Int → UInt64} {node more : Int} {m : List Int} (W : Wk now node more m) : mapRng m := ⟨W.len, fun x hx => W.rng x (List.mem_cons_of_mem _ hx)⟩

theorem strict_nodup {l : List Ent} (h : strict l) : (l.map (·.name)).Nodup := by
  rw [List.nodup_iff_pairwise_ne, List.pairwise_map]
  refine h.imp fun {x y} hxy e => ?_
  rw [e, blt_irr] at hxy; cases hxy
theorem strict_le {l : List Ent} (h : strict l) : l.Pairwise (fun x y => leE x y = true) := h.imp fun {x y} hxy => by unfold leE; rw [blt_asym hxy]; rfl

theorem placeOk_of {now : Int → UInt64} {m : List Int} (R : mapRng m) {i : Nat} (h : plc m i ≠ -1 → wsOk (blkW now (plc m i)) i = true) : placeOk now m i = true := by
  unfold placeOk
  by_cases e : plc m i = -1
  · rw [decide_eq_true e]; rfl
  · rw [decide_eq_false e, Bool.false_or]
    unfold blkOkB
    rw [decide_eq_true ((R.plc i).resolve_left e), Bool.true_and]
    exact h e

theorem DirI.all {now : Int → UInt64} {node : Int} {c : Crd} {m : List Int} {l : List Ent} (D : DirI now node c m l) : (List.range 21).all (placeOk now m) = true :=
  List.all_eq_true.2 fun i hi => placeOk_of D.wk.rngP (D.ok i (by simpa using hi))
theorem DirI.open_ {now : Int → UInt64} {node : Int} {c : Crd} {m : List Int} {l : List Ent} (D : DirI now node c m l) : openP now c = (0, m, l) := by
  unfold openP
  rw [if_neg (by rw [D.kind.1]; simp), D.map]
  simp only
  have hnd : ((rawE now m).map (·.name)).Nodup := (D.ents.map _).nodup_iff.2 (strict_nodup D.str)
  rw [if_pos ⟨D.all, hnd, by rw [D.ents.length_eq, D.size]⟩]
  congr 2
  exact sorted_unique ((sortE_perm _).trans D.ents) (((sortE_perm _).map _).nodup_iff.2 hnd) (sortE_sorted _) (strict_le D.str)
theorem DirI.few {now : Int → UInt64} {node : Int} {c : Crd} {m : List Int} {l : List Ent} (D : DirI now node c m l) : l.length ≤ 105 := by
  rw [← D.ents.length_eq]; exact rawE_len _ _
theorem DirI.good {now : Int → UInt64} {node : Int} {c : Crd} {m : List Int} {l : List Ent} (D : DirI now node c m l) : ∀ e ∈ l, entGood e := by
  have h : (openP now c).1 = 0 := by rw [D.open_]
  have := (openP_good h).2
  rwa [D.open_] at this
theorem DirI.right {now : Int → UInt64} {node : Int} {c : Crd} {m : List Int} {l : List Ent} (D : DirI now node c m l) : rightC c = true ∧ c.ok := by
  have hd := mapOf_direct D.map
  have hs := D.few
  have hz := D.size
  have hm := D.wk.rng c.more List.mem_cons_self
  have hk := D.kind
  have hr : ∀ x ∈ c.direct, -1 ≤ x ∧ x < 96 := by
    intro x hx
    have := D.wk.rng x (List.mem_cons_of_mem _ (hd x hx))
    unfold blkOk at this; omega
  unfold blkOk at hm
  constructor
  · unfold rightC
    rw [hk.1, hk.2]
    have h1 : c.direct.all blockC = true := by
      rw [List.all_eq_true]
      intro x hx
      have := hr x hx
      unfold blockC
      simp; omega
    rw [h1]
    unfold blockC
    simp; omega
  · refine ⟨by rw [hk.1]; exact ⟨by decide, by decide⟩, by rw [hk.2]; exact ⟨by decide, by decide⟩, ?_, fun x hx => ?_, ?_⟩
    · unfold inI64; omega
    · have := hr x hx; unfold inI64; omega
    · unfold inI64; omega

/-! ### Words that are kept -/

theorem fb_blk {f g : Int → UInt64} {m : List Int} (h : ∀ p, p < 2688 → fb g m p = fb f m p) {i : Nat} (hi : i < 21) (hu : plc m i ≠ -1) : blkW g (plc m i) = blkW f (plc m i) := by
  have hb : ∀ now : Int → UInt64, bytesB now (plc m i) = untextL (blkW now (plc m i)) 128 := by
    intro now
    unfold bytesB
    rw [if_neg hu]; rfl
  have hq : bytesB g (plc m i) = bytesB f (plc m i) := by
    apply List.ext_getElem?
    intro q
    rcases Nat.lt_or_ge q 128 with hq | hq
    · have := h (128 * i + q) (by omega)
      unfold fb at this
      have e1 : (128 * i + q) / 128 = i := by omega
      have e2 : (128 * i + q) % 128 = q := by omega
      rw [e1, e2] at this
      have l1 := bytesB_len g (plc m i)
      have l2 := bytesB_len f (plc m i)
      have hp : m[i]?.getD (-1) = plc m i := rfl
      rw [hp] at this
      rw [List.getElem?_eq_getElem (by omega), List.getElem?_eq_getElem (by omega)] at this ⊢
      simpa using this
    · rw [List.getElem?_eq_none (by rw [bytesB_len]; exact hq), List.getElem?_eq_none (by rw [bytesB_len]; exact hq)]
  rw [hb, hb] at hq
  refine untext_inj (by rw [blkW_len, blkW_len]) ?_
  rw [blkW_len]; exact hq

theorem Wk.putW {now : Int → UInt64} {node more : Int} {m : List Int} (W : Wk now node more m) {i : Nat} (hi : i < 21) (hu : plc m i ≠ -1) {ws : List UInt64} (hw : ws.length = 16) :
    Wk (putBlk now (plc m i) ws) node more m ∧ Fr node now (putBlk now (plc m i) ws) ∧ blkW (putBlk now (plc m i) ws) (plc m i) = ws ∧ (∀ j, j < 21 → j ≠ i → plc m j ≠ -1 → blkW (putBlk now (plc m i) ws) (plc m j) = blkW now (plc m j)) := by
  have hl := W.len
  have hm : plc m i ∈ m := by
    unfold plc
    rw [List.getElem?_eq_getElem (by omega)]
    exact List.getElem_mem _
  have hk : 0 ≤ plc m i ∧ plc m i < 96 := (W.rngP.plc i).resolve_left hu
  have ho : ∀ k, 0 ≤ k → k < 96 → putBlk now (plc m i) ws (200 + k) = now (200 + k) := fun k _ h => put_owner (by omega) hk.1 h
  have hown : now (200 + plc m i) = w64 (node + 1) := (W.own _ hk.1 hk.2).1 (usedL_mem.2 ⟨.inr hm, hu⟩)
  refine ⟨⟨W.len, W.rng, W.nod, fun k h0 h1 => by rw [ho k h0 h1]; exact W.own k h0 h1⟩, ⟨fun k h0 h1 hf => ⟨.inl (ho k h0 h1), fun _ => ?_⟩, fun k h0 h1 hf => .inl (by rw [ho k h0 h1]; exact hf), fun _ ha => put_low hk.1 ha⟩, ?_, fun j hj hne hju => ?_⟩
  · refine put_rd_ne (by omega) ?_
    rintro rfl
    exact hf hown
  · unfold blkW
    rw [put_rd (by omega)]
    unfold fullB
    rw [hw]; simp
  · unfold blkW
    refine put_rd_ne (by omega) fun e => hne ?_
    exact W.inj hj hi e.symm hju

/-! ### Raw entries -/

theorem rawE_one {f g : Int → UInt64} {m m' : List Int} {i : Nat} (hi : i < 21) (h : ∀ j, j < 21 → j ≠ i → placeE f m j = placeE g m' j) : (rawE f m ++ placeE g m' i).Perm (rawE g m' ++ placeE f m i) :=
  flat_one List.nodup_range (by simpa using hi) fun j hj hne => h j (by simpa using hj) hne
theorem placeE_ws {now : Int → UInt64} {m : List Int} {i : Nat} (h : plc m i ≠ -1) : placeE now m i = wsE (blkW now (plc m i)) := by
  unfold placeE
  rw [if_neg h]; rfl
theorem placeE_hole {now : Int → UInt64} {m : List Int} {i : Nat} (h : plc m i = -1) : placeE now m i = [] := by
  unfold placeE
  rw [if_pos h]
theorem rawE_same {f g : Int → UInt64} {m : List Int} (h : ∀ i, i < 21 → plc m i ≠ -1 → blkW f (plc m i) = blkW g (plc m i)) : rawE f m = rawE g m := by
  unfold rawE
  have : ∀ i ∈ List.range 21, placeE f m i = placeE g m i := by
    intro i hi
    by_cases e : plc m i = -1
    · rw [placeE_hole e, placeE_hole e]
    · rw [placeE_ws e, placeE_ws e, h i (by simpa using hi) e]
  revert this
  generalize List.range 21 = L
  intro this
  induction L with
  | nil => rfl
  | cons x L ih => rw [List.flatMap_cons, List.flatMap_cons, this x (by simp), ih (fun i hi => this i (by simp [hi]))]

/-! ### The document's list -/

def insL (l : List Ent) (e : Ent) : List Ent := l.take (plK l e.name) ++ e :: l.drop (plK l e.name)
theorem insL_perm (l : List Ent) (e : Ent) : (insL l e).Perm (e :: l) := by
  unfold insL
  refine List.perm_middle.trans ?_
  rw [List.take_append_drop]
theorem plT_false {l : List Ent} {name : List UInt8} (hs : strict l) : plT l name = false → ∀ e ∈ l.drop (plK l name), blt name e.name = true := by
  intro ht e he
  obtain ⟨j, hj, rfl⟩ := List.mem_iff_getElem.1 he
  rw [List.getElem_drop]
  have hl : plK l name + j < l.length := by simp at hj; omega
  have h0 : plK l name < l.length := by omega
  have hx : blt (l[plK l name]).name name = false := by
    rw [← Bool.not_eq_true]
    intro h
    have := plK_more (Nat.le_refl _) h0 h
    omega
  have hne : (l[plK l name]).name ≠ name := by
    unfold plT at ht
    rw [List.getElem?_eq_getElem h0] at ht
    simpa using ht
  have hgt : blt name (l[plK l name]).name = true := by
    rcases blt_tri (l[plK l name]).name name with g | g | g
    · rw [g] at hx; cases hx
    · exact absurd g hne
    · exact g
  rcases Nat.eq_zero_or_pos j with rfl | hj0
  · exact hgt
  · exact blt_trans hgt (List.pairwise_iff_getElem.1 hs (plK l name) (plK l name + j) h0 hl (by omega))
theorem insL_strict {l : List Ent} {e : Ent} (hs : strict l) (ht : plT l e.name = false) : strict (insL l e) := by
  unfold insL strict
  rw [List.pairwise_append]
  have hsplit : l.take (plK l e.name) ++ l.drop (plK l e.name) = l := List.take_append_drop _ _
  have hs2 : strict (l.take (plK l e.name) ++ l.drop (plK l e.name)) := by rw [hsplit]; exact hs
  unfold strict at hs2
  rw [List.pairwise_append] at hs2
  have hafter := plT_false hs ht
  have hbefore : ∀ x ∈ l.take (plK l e.name), blt x.name e.name = true := by
    intro x hx
    obtain ⟨j, hj, rfl⟩ := List.mem_iff_getElem.1 hx
    rw [List.getElem_take]
    exact (plK_lt (by simp at hj; omega)).2
  refine ⟨hs2.1, List.pairwise_cons.2 ⟨hafter, hs2.2.1⟩, fun x hx y hy => ?_⟩
  rcases List.mem_cons.1 hy with rfl | hy
  · exact hbefore x hx
  · exact hs2.2.2 x hx y hy
end Go.Proofs.YtkjkdnphikendaaGreatDoor
/-
  Layer 11's plain law: a name more.
-/
set_option linter.all false
set_option maxRecDepth 100000
set_option maxHeartbeats 2000000
namespace Go.Proofs.YtkjkdnphikendaaGreatDoor
open Go Go.Eng

/-! ### Free blocks -/

theorem freeN_pos {B : Int → UInt64} {X : VS} (h : 1 ≤ freeN B X 96) : firstF B X 96 0 ≠ none := by
  intro hf
  have := firstF_none hf
  unfold freeN at h
  have : ((List.range 96).filter fun (i : Nat) => freshB B X (i : Int)) = [] := by
    rw [List.filter_eq_nil_iff]
    intro k hk
    rw [this k (Nat.zero_le _) (by simpa using hk)]; simp
  rw [this] at h
  simp at h

theorem count_one {p q : Nat → Bool} {k : Nat} (hp : p k = true) (hq : q k = false) : ∀ {n : Nat}, k < n → (∀ j, j < n → j ≠ k → p j = q j) → ((List.range n).filter p).length = ((List.range n).filter q).length + 1
  | 0, h, _ => by omega
  | n + 1, h, hs => by
    rw [List.range_succ, List.filter_append, List.filter_append, List.length_append, List.length_append]
    by_cases e : k = n
    · subst e
      have : (List.range k).filter p = (List.range k).filter q := List.filter_congr fun j hj => hs j (by have := List.mem_range.1 hj; omega) (by have := List.mem_range.1 hj; omega)
      rw [this]
      simp [hp, hq]
    · have ih := count_one hp hq (n := n) (by omega) fun j hj hne => hs j (by omega) hne
      rw [ih]
      have : p n = q n := hs n (by omega) (fun x => e x.symm)
      simp only [List.filter_cons, this, List.filter_nil]
      omega

theorem free_take {B : Int → UInt64} {X : VS} {node : Int} (hn : 0 ≤ node ∧ node < 24) (h : (takeP B X node).2.1 = 0) : freeN B X 96 = freeN B (takeP B X node).2.2 96 + 1 := by
  unfold takeP at h ⊢
  rw [if_pos hn] at h ⊢
  cases hf : firstF B X 96 0 with
  | none => rw [hf] at h; simp at h
  | some k =>
    simp only
    have hk := firstF_is hf
    unfold freeN
    have hk2 : 0 ≤ (k : Int) ∧ (k : Int) < 96 := by omega
    have how : ∀ j : Nat, j < 96 → (putBlk (upd X.now (200 + (k : Int)) (w64 (node + 1))) (k : Int) []) (200 + (j : Int)) = if (j : Int) = (k : Int) then w64 (node + 1) else X.now (200 + (j : Int)) := fun j hj => takeW_owner (now := X.now) (node := node) hk2 (by omega) (by omega)
    refine count_one (k := k) hk.1 ?_ (by omega) fun j hj hne => ?_
    · have e := how k (by omega)
      rw [if_pos rfl] at e
      unfold freshB
      have h3 : decide ((putBlk (upd X.now (200 + (k : Int)) (w64 (node + 1))) (k : Int) []) (200 + (k : Int)) = 0) = false := decide_eq_false (by rw [e]; exact w64_ne hn)
      simp only [h3, Bool.false_and, Bool.and_false]
    · have e := how j hj
      rw [if_neg (by omega)] at e
      unfold freshB
      simp only [e]

theorem keepP_room {B : Int → UInt64} {node : Int} (hn : 0 ≤ node ∧ node < 24) {X : VS} {c : Crd} {m : List Int} (W : Wk X.now node c.more m) (h : 1 ≤ freeN B X 96) : Kep node X c m (keepP B X node c m) := by
  rcases keepP_plain (B := B) hn W with ⟨h9, _, hm, hu⟩ | K
  · exfalso
    unfold keepP at h9
    rw [if_pos ⟨hn, W.len, W.drops⟩, if_neg (by rw [hu]; decide), if_pos hm] at h9
    rcases take_facts (B := B) (X := X) hn with ⟨e0, k0, k1, kn, kx⟩ | ⟨e9, kx, kf⟩
    · simp only [e0, if_true, if_pos (show 0 ≤ (takeP B X node).1 ∧ (takeP B X node).1 < 96 from ⟨k0, k1⟩)] at h9
      cases h9
    · exact freeN_pos h kf
  · exact K

/-! ### How many stand in a bucket -/

theorem firstK_none {p : List UInt64 → Nat → Bool} {ws : List UInt64} : ∀ {f k : Nat}, firstK p ws f k = none → ∀ q, k ≤ q → q < k + f → p ws q = false
  | 0, _, _, q, _, _ => by omega
  | f + 1, k, h, q, h1, h2 => by
    unfold firstK at h
    split at h
    · cases h
    · rename_i hp
      by_cases e : q = k
      · subst e; simpa using hp
      · exact firstK_none h q (by omega) (by omega)
theorem spotF_none {W : Int → List UInt64} {m : List Int} {p : List UInt64 → Nat → Bool} : ∀ {f pl : Nat}, spotF W m p f pl = none → ∀ j, j < f → pl + 8 * j < 21 → plc m (pl + 8 * j) = -1 ∨ firstK p (W ((pl + 8 * j : Nat) : Int)) 5 0 = none
  | 0, _, _, j, hj, _ => by omega
  | f + 1, pl, h, j, hj, hl => by
    unfold spotF at h
    rw [if_pos (by omega)] at h
    cases j with
    | zero =>
      split at h
      · left; assumption
      · split at h
        · cases h
        · right; assumption
    | succ j =>
      have ih : spotF W m p f (pl + 8) = none → _ := fun g => spotF_none g j (by omega) (by omega)
      have e : pl + 8 + 8 * j = pl + 8 * (j + 1) := by omega
      rw [e] at ih
      split at h
      · exact ih h
      · split at h
        · cases h
        · exact ih h
theorem growF_none {m : List Int} : ∀ {f pl : Nat}, growF m f pl = none → ∀ j, j < f → pl + 8 * j < 21 → plc m (pl + 8 * j) ≠ -1
  | 0, _, _, j, hj, _ => by omega
  | f + 1, pl, h, j, hj, hl => by
    unfold growF at h
    rw [if_pos (by omega)] at h
    split at h
    · cases h
    · rename_i hp
      cases j with
      | zero => exact hp
      | succ j =>
        have := growF_none h j (by omega) (by omega)
        rwa [show pl + 8 + 8 * j = pl + 8 * (j + 1) by omega] at this

def hadL (l : List Ent) (name : List UInt8) : Nat := (l.filter fun e => decide (bucketL e.name = bucketL name)).length
def roomN (bk : Nat) : Nat := if bk < 5 then 15 else 10

theorem had_sum (now : Int → UInt64) (m : List Int) (bk : Nat) (hok : (List.range 21).all (placeOk now m) = true) : ((rawE now m).filter fun e => decide (bucketL e.name = bk)).length = ((List.range 21).map fun i => if i % 8 = bk then (placeE now m i).length else 0).sum := by
  have hk : ∀ i ∈ List.range 21, placeOk now m i = true := fun i hi => List.all_eq_true.1 hok i hi
  unfold rawE
  revert hk
  generalize List.range 21 = L
  intro hk
  induction L with
  | nil => rfl
  | cons i L ih =>
    rw [List.flatMap_cons, List.filter_append, List.length_append, ih (fun j hj => hk j (by simp [hj])), List.map_cons, List.sum_cons]
    congr 1
    have hg := placeE_good (hk i (by simp))
    by_cases e : i % 8 = bk
    · rw [if_pos e, List.filter_eq_self.2]
      intro x hx
      rw [(hg x hx).2]; exact decide_eq_true e
    · rw [if_neg e, List.filter_eq_nil_iff.2]
      · rfl
      · intro x hx
        rw [(hg x hx).2]; simpa using e

theorem sum_bucket (f : Nat → Nat) (bk : Nat) (h : bk < 8) : ((List.range 21).map fun i => if i % 8 = bk then f i else 0).sum = f bk + f (bk + 8) + (if bk < 5 then f (bk + 16) else 0) := by
  have : bk = 0 ∨ bk = 1 ∨ bk = 2 ∨ bk = 3 ∨ bk = 4 ∨ bk = 5 ∨ bk = 6 ∨ bk = 7 := by omega
  rcases this with rfl | rfl | rfl | rfl | rfl | rfl | rfl | rfl <;> simp [List.range_succ] <;> omega

theorem slot_full {ws : List UInt64} (h : ∀ k, k < 5 → emptyB ws k = false) : (wsE ws).length = 5 := by
  unfold wsE
  have e : List.range 5 = [0, 1, 2, 3, 4] := rfl
  have g : ∀ k, k < 5 → slotE ws k = [entE ws k] := fun k hk => by unfold slotE; rw [if_neg (by rw [h k hk]; decide)]
  rw [e]
  simp [g 0 (by decide), g 1 (by decide), g 2 (by decide), g 3 (by decide), g 4 (by decide)]
theorem slot_less {ws : List UInt64} {k : Nat} (hk : k < 5) (h : emptyB ws k = true) : (wsE ws).length ≤ 4 := by
  unfold wsE
  have e : List.range 5 = [0, 1, 2, 3, 4] := rfl
  have g : slotE ws k = [] := by unfold slotE; rw [if_pos h]
  have l0 := slotE_len ws 0
  have l1 := slotE_len ws 1
  have l2 := slotE_len ws 2
  have l3 := slotE_len ws 3
  have l4 := slotE_len ws 4
  rw [e]
  simp only [List.flatMap_cons, List.flatMap_nil, List.length_append, List.length_nil]
  have : k = 0 ∨ k = 1 ∨ k = 2 ∨ k = 3 ∨ k = 4 := by omega
  rcases this with rfl | rfl | rfl | rfl | rfl <;> rw [g] <;> simp <;> omega

theorem DirI.had {now : Int → UInt64} {node : Int} {c : Crd} {m : List Int} {l : List Ent} (D : DirI now node c m l) (name : List UInt8) : hadL l name = (placeE now m (bucketL name)).length + (placeE now m (bucketL name + 8)).length + (if bucketL name < 5 then (placeE now m (bucketL name + 16)).length else 0) := by
  unfold hadL
  rw [← ((D.ents.filter _).length_eq), had_sum now m _ D.all, sum_bucket _ _ (bucketL_lt name)]

/-- where there is an empty entry the bucket isn't full -/
theorem DirI.notfull {now : Int → UInt64} {node : Int} {c : Crd} {m : List Int} {l : List Ent} (D : DirI now node c m l) (name : List UInt8) {pl : Nat} (hp : pl < 21) (hb : pl % 8 = bucketL name) (hl : (placeE now m pl).length ≤ 4) : hadL l name < roomN (bucketL name) := by
  have hbk := bucketL_lt name
  rw [D.had]
  have h0 := placeE_len now m (bucketL name)
  have h1 := placeE_len now m (bucketL name + 8)
  have h2 := placeE_len now m (bucketL name + 16)
  have hc : pl = bucketL name ∨ pl = bucketL name + 8 ∨ (pl = bucketL name + 16 ∧ bucketL name < 5) := by omega
  unfold roomN
  rcases hc with rfl | rfl | ⟨rfl, hc⟩
  · split <;> omega
  · split <;> omega
  · rw [if_pos hc, if_pos hc]; omega

theorem DirI.full {now : Int → UInt64} {node : Int} {c : Crd} {m : List Int} {l : List Ent} (D : DirI now node c m l) (name : List UInt8) (h1 : spotF (wordsAt now m) m emptyB 4 (bucketL name) = none) (h2 : growF m 4 (bucketL name) = none) : roomN (bucketL name) ≤ hadL l name := by
  have hbk := bucketL_lt name
  rw [D.had]
  have key : ∀ j, j < 4 → bucketL name + 8 * j < 21 → (placeE now m (bucketL name + 8 * j)).length = 5 := by
    intro j hj hl
    have g1 := growF_none h2 j hj hl
    have g2 := (spotF_none h1 j hj hl).resolve_left g1
    rw [placeE_ws g1]
    have e : wordsAt now m ((bucketL name + 8 * j : Nat) : Int) = blkW now (plc m (bucketL name + 8 * j)) := by unfold wordsAt; rw [Int.toNat_natCast]
    rw [e] at g2
    exact slot_full fun k hk => firstK_none g2 k (Nat.zero_le _) (by omega)
  have k0 := key 0 (by decide) (by omega)
  have k1 := key 1 (by decide) (by omega)
  simp only [Nat.mul_zero, Nat.add_zero, Nat.mul_one] at k0 k1
  rw [k0, k1]
  unfold roomN
  by_cases h : bucketL name < 5
  · rw [if_pos h, if_pos h]
    have k2 := key 2 (by decide) (by omega)
    simp only [Nat.reduceMul] at k2
    rw [k2]; omega
  · rw [if_neg h, if_neg h]; omega
end Go.Proofs.YtkjkdnphikendaaGreatDoor
/-
  Layer 11's plain law: a name more, answered as the document does.
-/
set_option linter.all false
set_option maxRecDepth 100000
set_option maxHeartbeats 2000000
namespace Go.Proofs.YtkjkdnphikendaaGreatDoor
open Go Go.Eng

/-- the document's answer: a name more -/
def refAdd (l : List Ent) (name : List UInt8) (target : Int) : List Ent × Int :=
  if target < 1 ∨ 24 ≤ target then ([], 1)
  else if nameB name = false then ([], 3)
  else if plT l name = true then ([], 5)
  else (insL l ⟨name, target⟩, 0)

theorem wordsAt_nat (now : Int → UInt64) (m : List Int) (p : Nat) : wordsAt now m (p : Int) = blkW now (plc m p) := by unfold wordsAt; rw [Int.toNat_natCast]

/-- blocks are kept: what is free stays -/
theorem freeN_put {B : Int → UInt64} {X : VS} {k : Int} {ws : List UInt64} (hk : 0 ≤ k) (hw : ws.length ≤ 16) : freeN B { X with now := putBlk X.now k ws } 96 = freeN B X 96 := by
  unfold freeN
  congr 1
  refine List.filter_congr fun j hj => ?_
  have hj' : j < 96 := by simpa using hj
  unfold freshB
  have : (putBlk X.now k ws) (200 + (j : Int)) = X.now (200 + (j : Int)) := put_owner hw hk (by omega)
  simp only [this]

/-- an entry is put: what there is then -/
theorem put_dir {B : Int → UInt64} {node : Int} (hn : 0 ≤ node ∧ node < 24) {X : VS} {c : Crd} {m : List Int} {l : List Ent} {name : List UInt8} {target : Int} {pl k : Nat}
    (W : Wk X.now node c.more m) (ok : ∀ i, i < 21 → plc m i ≠ -1 → wsOk (blkW X.now (plc m i)) i = true) (ents : (rawE X.now m).Perm l) (str : strict l) (kind : c.kind = 2 ∧ c.links = 1) (size : c.size = (l.length : Int))
    (hpl : pl < 21) (hpu : plc m pl ≠ -1) (hk : k < 5) (he : emptyB (blkW X.now (plc m pl)) k = true) (hb : pl % 8 = bucketL name) (hname : nameB name = true) (ht : 1 ≤ target ∧ target < 24) (hnt : plT l name = false)
    {Y : VS} (hY : Y = { X with now := putBlk X.now (plc m pl) (setSlot (blkW X.now (plc m pl)) k (entWs ⟨name, target⟩)) }) :
    Wk Y.now node c.more m ∧ Fr node X.now Y.now ∧ freeN B Y 96 = freeN B X 96 ∧ (∀ r, Kep node Y { c with size := c.size + 1 } m r → DirI r.2.2.now node r.1 m (insL l ⟨name, target⟩) ∧ Fr node X.now r.2.2.now) := by
  have hlen := blkW_len X.now (plc m pl)
  have hsl : (setSlot (blkW X.now (plc m pl)) k (entWs ⟨name, target⟩)).length = 16 := by
    unfold setSlot
    simp [entWs_len, hlen]; omega
  obtain ⟨W2, F2, b1, b2⟩ := W.putW hpl hpu hsl
  have hk0 : 0 ≤ plc m pl := by have := (W.rngP.plc pl).resolve_left hpu; omega
  have hp := ws_put (place := pl) (e := ⟨name, target⟩) hlen hk hname ht.1 ht.2 hb.symm (ok pl hpl hpu) he
  subst hY
  refine ⟨W2, F2, freeN_put hk0 (by omega), fun r K => ?_⟩
  have hby : ∀ i, i < 21 → plc m i ≠ -1 → blkW r.2.2.now (plc m i) = blkW (putBlk X.now (plc m pl) (setSlot (blkW X.now (plc m pl)) k (entWs ⟨name, target⟩))) (plc m i) := fun i hi hu => fb_blk K.by_ hi hu
  refine ⟨⟨K.map, K.wk, ?_, ?_, fun i hi hu => ?_, ?_, insL_strict str hnt, K.mor⟩, F2.trans K.fr (w64_ne hn)⟩
  · rw [K.c_]; exact kind
  · rw [K.c_]
    show c.size + 1 = _
    rw [size, (insL_perm l _).length_eq]
    simp
  · rw [hby i hi hu]
    by_cases e : i = pl
    · subst e; rw [b1]; exact hp.1
    · rw [b2 i hi e hu]; exact ok i hi hu
  · rw [rawE_same hby]
    refine List.Perm.trans ?_ (insL_perm l _).symm
    have p := rawE_one (f := X.now) (g := putBlk X.now (plc m pl) (setSlot (blkW X.now (plc m pl)) k (entWs ⟨name, target⟩))) (m := m) (m' := m) hpl fun j hj hne => by
      by_cases e : plc m j = -1
      · rw [placeE_hole e, placeE_hole e]
      · rw [placeE_ws e, placeE_ws e, b2 j hj hne e]
    rw [placeE_ws hpu, placeE_ws hpu, b1] at p
    have p2 : (rawE X.now m ++ wsE (setSlot (blkW X.now (plc m pl)) k (entWs ⟨name, target⟩))).Perm ((⟨name, target⟩ :: l) ++ wsE (blkW X.now (plc m pl))) := by
      refine (ents.append hp.2).trans ?_
      rw [List.cons_append]
      exact List.perm_middle
    exact (List.perm_append_right_iff _).1 (p.symm.trans p2)

theorem addP_plain {B : Int → UInt64} {X : VS} {node : Int} (hn : 0 ≤ node ∧ node < 24) {c : Crd} {m : List Int} {l : List Ent} (D : DirI X.now node c m l) (name : List UInt8) (target : Int) :
    ((addP B X node c name target).2.1 = (refAdd l name target).2 ∧ (refAdd l name target).2 ≠ 0 ∧ (refAdd l name target).2 ≠ 9) ∨
    ((refAdd l name target).2 = 0 ∧ (addP B X node c name target).2.1 = 9 ∧ (roomN (bucketL name) ≤ hadL l name ∨ freeN B X 96 < 2)) ∨
    ((refAdd l name target) = (insL l ⟨name, target⟩, 0) ∧ (addP B X node c name target).2.1 = 0 ∧ hadL l name < roomN (bucketL name) ∧ ∃ m', DirI (addP B X node c name target).2.2.now node (addP B X node c name target).1 m' (insL l ⟨name, target⟩) ∧ Fr node X.now (addP B X node c name target).2.2.now) := by
  have hbk := bucketL_lt name
  unfold addP refAdd
  by_cases ht : target < 1 ∨ 24 ≤ target
  · left
    rw [if_pos (.inr ht), if_pos ht]
    exact ⟨rfl, by simp, by simp⟩
  rw [if_neg (show ¬ (¬ (0 ≤ node ∧ node < 24) ∨ target < 1 ∨ 24 ≤ target) from fun h => h.elim (fun h => h hn) ht), if_neg ht, D.open_]
  simp only [ne_eq, not_true_eq_false, if_false]
  rw [find_place D.str]
  by_cases hr : nameB name = false
  · left
    have hnp : plT l name = false := by
      rw [← Bool.not_eq_true]
      intro h
      rw [← find_place D.str] at h
      unfold findR at h
      cases hf : findE l name with
      | none => rw [hf] at h; cases h
      | some e =>
        unfold findE at hf
        have h1 := List.find?_some hf
        have h2 := D.good e (List.mem_of_find?_eq_some hf)
        have h3 : e.name = name := by simpa using h1
        have := h2.2.2
        rw [h3, hr] at this
        cases this
    rw [if_neg (by rw [hnp]; simp), if_pos hr, if_pos hr]
    exact ⟨rfl, by simp, by simp⟩
  rw [if_neg hr, if_neg hr]
  have hrt : nameB name = true := by simpa using hr
  by_cases hp : plT l name = true
  · left
    rw [if_pos hp, if_pos hp]
    exact ⟨rfl, by simp, by simp⟩
  rw [if_neg hp, if_neg hp]
  have hpf : plT l name = false := by simpa using hp
  right
  have htr : 1 ≤ target ∧ target < 24 := by omega
  unfold firstR
  cases hs : spotF (wordsAt X.now m) m emptyB 4 (bucketL name) with
  | some q =>
    obtain ⟨pl, k⟩ := q
    obtain ⟨q1, q2, q3, q4, q5⟩ := spotF_is hs
    simp only at q1 q2 q3 q4 q5 ⊢
    rw [wordsAt_nat] at q4
    simp only [not_true_eq_false, if_false, Int.toNat_natCast, wordsAt_nat]
    have hlt := D.notfull name q1 (by omega) (by rw [placeE_ws q2]; exact slot_less q3 q4)
    obtain ⟨W2, F2, fr2, HK⟩ := put_dir (B := B) (name := name) (target := target) hn D.wk D.ok D.ents D.str D.kind D.size q1 q2 q3 q4 (by omega) hrt htr hpf (Y := _) rfl
    by_cases hfree : 1 ≤ freeN B X 96
    · right
      have K := keepP_room (B := B) (c := { c with size := c.size + 1 }) hn W2 (by rw [fr2]; exact hfree)
      obtain ⟨R1, R2⟩ := HK _ K
      exact ⟨trivial, K.e, hlt, m, R1, R2⟩
    · rcases keepP_plain (B := B) (c := { c with size := c.size + 1 }) hn W2 with ⟨p9, _⟩ | K
      · left
        exact ⟨trivial, p9, .inr (by omega)⟩
      · right
        obtain ⟨R1, R2⟩ := HK _ K
        exact ⟨trivial, K.e, hlt, m, R1, R2⟩
  | none =>
    simp only
    unfold growP
    cases hg : growF m 4 (bucketL name) with
    | none =>
      left
      simp only
      exact ⟨trivial, rfl, .inl (D.full name hs hg)⟩
    | some pl =>
      obtain ⟨q1, q2, q3, q4⟩ := growF_is hg
      simp only
      rcases take_facts (B := B) (X := X) hn with ⟨e0, k0, k1, kn, kx⟩ | ⟨e9, kx, kf⟩
      · have hft := free_take hn e0
        simp only [e0, if_true, not_true_eq_false, if_false, Int.toNat_natCast]
        rw [kx] at hft ⊢
        generalize (takeP B X node).1 = blk at k0 k1 kn hft
        obtain ⟨W1, F1, _, hfb⟩ := D.wk.take_at hn ⟨k0, k1⟩ kn q1 q2
        have hml := D.wk.len
        have hset : ∀ i, plc (m.set pl blk) i = if i = pl then blk else plc m i := fun i => plc_set (by omega)
        have hnew : blkW (takeW X.now node blk) blk = List.replicate 16 0 := by
          unfold blkW takeW
          rw [put_rd (by simp)]; rfl
        have hold : ∀ i, i < 21 → i ≠ pl → plc m i ≠ -1 → blkW (takeW X.now node blk) (plc m i) = blkW X.now (plc m i) := by
          intro i hi hne hu
          have hr := (D.wk.rngP.plc i).resolve_left hu
          refine takeW_rd ⟨k0, k1⟩ hr.1 fun e => ?_
          have hm : plc m i ∈ m := by
            unfold plc
            rw [List.getElem?_eq_getElem (by omega)]
            exact List.getElem_mem _
          have := (D.wk.own _ hr.1 hr.2).1 (usedL_mem.2 ⟨.inr hm, hu⟩)
          rw [e, kn] at this
          exact w64_ne hn this.symm
        have hat : plc (m.set pl blk) pl = blk := by rw [hset, if_pos rfl]
        have hents : rawE (takeW X.now node blk) (m.set pl blk) = rawE X.now m := by
          unfold rawE
          have : ∀ i ∈ List.range 21, placeE (takeW X.now node blk) (m.set pl blk) i = placeE X.now m i := by
            intro i hi
            have hi : i < 21 := by simpa using hi
            by_cases e : i = pl
            · subst e
              rw [placeE_ws (by rw [hat]; omega), hat, hnew, placeE_hole q2]
              exact (ws_zero 0).2
            · by_cases e2 : plc m i = -1
              · rw [placeE_hole e2, placeE_hole (by rw [hset, if_neg e]; exact e2)]
              · rw [placeE_ws e2, placeE_ws (by rw [hset, if_neg e]; exact e2), hset, if_neg e, hold i hi e e2]
          revert this
          generalize List.range 21 = L
          intro this
          induction L with
          | nil => rfl
          | cons x L ih => rw [List.flatMap_cons, List.flatMap_cons, this x (by simp), ih (fun i hi => this i (by simp [hi]))]
        have hlt := D.notfull name q1 (by omega) (by rw [placeE_hole q2]; simp)
        have hW : growW (wordsAt X.now m) pl (pl : Int) = blkW (takeW X.now node blk) (plc (m.set pl blk) pl) := by
          unfold growW
          rw [if_pos rfl, hat, hnew]
        obtain ⟨W2, F2, fr2, HK⟩ := put_dir (B := B) (X := { X with now := takeW X.now node blk }) (m := m.set pl blk) (pl := pl) (k := 0) (name := name) (target := target) hn W1 (fun i hi hu => by
            by_cases e : i = pl
            · subst e
              rw [hat]; show wsOk (blkW (takeW X.now node blk) blk) i = true
              rw [hnew]; exact (ws_zero i).1
            · rw [hset, if_neg e] at hu ⊢
              show wsOk (blkW (takeW X.now node blk) (plc m i)) i = true
              rw [hold i hi e hu]; exact D.ok i hi hu) (by show (rawE (takeW X.now node blk) (m.set pl blk)).Perm l; rw [hents]; exact D.ents) D.str D.kind D.size q1 (by rw [hat]; omega) (by decide) (by show emptyB (blkW (takeW X.now node blk) _) 0 = true; rw [hat, hnew]; rfl) (by omega) hrt htr hpf (Y := _) rfl
        rw [hW]
        by_cases hfree : 1 ≤ freeN B { X with now := takeW X.now node blk } 96
        · right
          have K := keepP_room (B := B) (c := { c with size := c.size + 1 }) hn W2 (by rw [fr2]; exact hfree)
          obtain ⟨R1, R2⟩ := HK _ K
          exact ⟨trivial, K.e, hlt, _, R1, F1.trans R2 (w64_ne hn)⟩
        · rcases keepP_plain (B := B) (c := { c with size := c.size + 1 }) hn W2 with ⟨p9, _⟩ | K
          · left
            exact ⟨trivial, p9, .inr (by omega)⟩
          · right
            obtain ⟨R1, R2⟩ := HK _ K
            exact ⟨trivial, K.e, hlt, _, R1, F1.trans R2 (w64_ne hn)⟩
      · left
        simp only [e9]
        refine ⟨trivial, rfl, .inr ?_⟩
        rcases Nat.lt_or_ge (freeN B X 96) 1 with h | h
        · omega
        · exact absurd kf (freeN_pos h)
end Go.Proofs.YtkjkdnphikendaaGreatDoor
/-
  Layer 11's plain law: a name less.
-/
set_option linter.all false
set_option maxRecDepth 100000
set_option maxHeartbeats 2000000
namespace Go.Proofs.YtkjkdnphikendaaGreatDoor
open Go Go.Eng

/-- the document's answer: a name less -/
def refDrop (l : List Ent) (name : List UInt8) : List Ent × Int × Int :=
  if plT l name = true then (l.eraseIdx (plK l name), (l[plK l name]?.getD ⟨[], 0⟩).node, 0) else ([], 0, 4)

theorem plT_at {l : List Ent} {name : List UInt8} (h : plT l name = true) : ∃ hk : plK l name < l.length, (l[plK l name]'hk).name = name := by
  unfold plT at h
  cases he : l[plK l name]? with
  | none => rw [he] at h; cases h
  | some e =>
    rw [he] at h
    obtain ⟨hk, hh⟩ := List.getElem?_eq_some_iff.1 he
    exact ⟨hk, by rw [hh]; simpa using h⟩

theorem strict_one {l : List Ent} (hs : strict l) {x y : Ent} (hx : x ∈ l) (hy : y ∈ l) (e : x.name = y.name) : x = y := by
  obtain ⟨i, hi, rfl⟩ := List.mem_iff_getElem.1 hx
  obtain ⟨j, hj, rfl⟩ := List.mem_iff_getElem.1 hy
  rcases Nat.lt_trichotomy i j with h | h | h
  · have := List.pairwise_iff_getElem.1 hs i j hi hj h
    rw [e, blt_irr] at this; cases this
  · subst h; rfl
  · have := List.pairwise_iff_getElem.1 hs j i hj hi h
    rw [e, blt_irr] at this; cases this

theorem findR_at {l : List Ent} {name : List UInt8} (hs : strict l) (h : plT l name = true) : (findR l name).1 = (l[plK l name]?.getD ⟨[], 0⟩).node := by
  obtain ⟨hk, hn⟩ := plT_at h
  rw [← find_place hs] at h
  unfold findR at h ⊢
  cases hf : findE l name with
  | none => rw [hf] at h; cases h
  | some e =>
    unfold findE at hf
    have h1 : e.name = name := by simpa using List.find?_some hf
    have h2 := List.mem_of_find?_eq_some hf
    rw [List.getElem?_eq_getElem hk]
    show e.node = (l[plK l name]'hk).node
    rw [strict_one hs h2 (List.getElem_mem hk) (by rw [h1, hn])]

theorem isB_good {name : List UInt8} {ws : List UInt64} {k : Nat} (h : isB name ws k = true) : entN ws k = name ∧ emptyB ws k = false := by
  unfold isB entB at h
  simp only [Bool.and_eq_true, decide_eq_true_eq] at h
  refine ⟨h.2, ?_⟩
  have h1 := h.1.2.2.2.1
  unfold emptyB
  rw [decide_eq_false (fun e => by rw [e] at h1; simp at h1)]
  rfl

theorem spot_there {now : Int → UInt64} {node : Int} {c : Crd} {m : List Int} {l : List Ent} (D : DirI now node c m l) {name : List UInt8} (h : plT l name = true) :
    ∃ pl k, spotF (wordsAt now m) m (isB name) 4 (bucketL name) = some (pl, k) ∧ pl < 21 ∧ plc m pl ≠ -1 ∧ k < 5 ∧ emptyB (blkW now (plc m pl)) k = false ∧ entE (blkW now (plc m pl)) k = l[plK l name]?.getD ⟨[], 0⟩ := by
  have hbk := bucketL_lt name
  obtain ⟨hk, hn⟩ := plT_at h
  have hm : l[plK l name] ∈ rawE now m := D.ents.mem_iff.2 (List.getElem_mem hk)
  cases hs : spotF (wordsAt now m) m (isB name) 4 (bucketL name) with
  | some q =>
    obtain ⟨pl, k⟩ := q
    obtain ⟨q1, q2, q3, q4, q5⟩ := spotF_is hs
    simp only at q1 q2 q3 q4 q5
    rw [wordsAt_nat] at q4
    obtain ⟨g1, g2⟩ := isB_good q4
    refine ⟨pl, k, rfl, q1, q2, q3, g2, ?_⟩
    rw [List.getElem?_eq_getElem hk]
    refine strict_one D.str (D.ents.mem_iff.1 ?_) (List.getElem_mem hk) (g1.trans hn.symm)
    unfold rawE
    rw [List.mem_flatMap]
    refine ⟨pl, by simpa using q1, ?_⟩
    rw [placeE_ws q2]
    unfold wsE
    rw [List.mem_flatMap]
    refine ⟨k, by simpa using q3, ?_⟩
    unfold slotE
    rw [if_neg (by rw [g2]; decide)]
    simp
  | none =>
    exfalso
    unfold rawE at hm
    rw [List.mem_flatMap] at hm
    obtain ⟨i, hi, he⟩ := hm
    have hi : i < 21 := by simpa using hi
    have hu : plc m i ≠ -1 := fun e => by rw [placeE_hole e] at he; cases he
    rw [placeE_ws hu] at he
    unfold wsE at he
    rw [List.mem_flatMap] at he
    obtain ⟨k, hk5, hse⟩ := he
    have hk5 : k < 5 := by simpa using hk5
    have ho := D.ok i hi hu
    unfold wsOk at ho
    simp only [Bool.and_eq_true] at ho
    have hso := List.all_eq_true.1 ho.2 k (by simpa using hk5)
    unfold slotE at hse
    by_cases hem : emptyB (blkW now (plc m i)) k = true
    · rw [if_pos hem] at hse; cases hse
    rw [if_neg hem, List.mem_singleton] at hse
    unfold slotOk at hso
    have hem2 : emptyB (blkW now (plc m i)) k = false := by simpa using hem
    rw [hem2, Bool.false_or] at hso
    have hnm : entN (blkW now (plc m i)) k = name := by rw [← hn, hse]; rfl
    have hb : bucketL name = i % 8 := by
      have := hso
      unfold entB at this
      simp only [Bool.and_eq_true, decide_eq_true_eq] at this
      rw [← hnm]; exact this.2.2.1
    have hj := spotF_none hs (i / 8) (by omega) (by omega)
    have e : bucketL name + 8 * (i / 8) = i := by omega
    rw [e, wordsAt_nat] at hj
    have := firstK_none (hj.resolve_left hu) k (Nat.zero_le _) (by omega)
    have hib : isB name (blkW now (plc m i)) k = true := by
      unfold isB
      rw [decide_eq_true hnm, Bool.and_true]
      unfold entB at hso ⊢
      rw [hb, Nat.mod_mod]; exact hso
    rw [hib] at this
    cases this

theorem strike_dir {node : Int} (hn : 0 ≤ node ∧ node < 24) {now : Int → UInt64} {c : Crd} {m : List Int} {l : List Ent} (D : DirI now node c m l) {name : List UInt8} (ht : plT l name = true) {pl k : Nat}
    (hpl : pl < 21) (hpu : plc m pl ≠ -1) (hk : k < 5) (he : emptyB (blkW now (plc m pl)) k = false) (hee : entE (blkW now (plc m pl)) k = l[plK l name]?.getD ⟨[], 0⟩) :
    DirI (putBlk now (plc m pl) (setSlot (blkW now (plc m pl)) k [0, 0, 0])) node { c with size := c.size - 1 } m (l.eraseIdx (plK l name)) ∧ Fr node now (putBlk now (plc m pl) (setSlot (blkW now (plc m pl)) k [0, 0, 0])) := by
  obtain ⟨hkl, hnm⟩ := plT_at ht
  have hlen := blkW_len now (plc m pl)
  have hsl : (setSlot (blkW now (plc m pl)) k [0, 0, 0]).length = 16 := by
    unfold setSlot
    simp [hlen]; omega
  obtain ⟨W2, F2, b1, b2⟩ := D.wk.putW hpl hpu hsl
  have hp := ws_strike (place := pl) hlen hk (D.ok pl hpl hpu) he
  have hml := D.wk.len
  have hxm : plc m pl ∈ m := by
    unfold plc
    rw [List.getElem?_eq_getElem (by omega)]
    exact List.getElem_mem _
  refine ⟨⟨?_, W2, D.kind, ?_, fun i hi hu => ?_, ?_, ?_, D.mor⟩, F2⟩
  · have hm := D.map
    unfold mapOf at hm ⊢
    by_cases e : c.more = -1
    · rw [if_pos e] at hm ⊢; exact hm
    · rw [if_neg e] at hm ⊢
      have e2 : moreL (putBlk now (plc m pl) (setSlot (blkW now (plc m pl)) k [0, 0, 0])) c.more = moreL now c.more := more_put_ne (by omega) (D.wk.ne_more hxm hpu)
      simp only [e2]
      exact hm
  · show c.size - 1 = _
    rw [D.size, List.length_eraseIdx_of_lt hkl]
    omega
  · by_cases e : i = pl
    · subst e; rw [b1]; exact hp.1
    · rw [b2 i hi e hu]; exact D.ok i hi hu
  · have p := rawE_one (f := now) (g := putBlk now (plc m pl) (setSlot (blkW now (plc m pl)) k [0, 0, 0])) (m := m) (m' := m) hpl fun j hj hne => by
      by_cases e : plc m j = -1
      · rw [placeE_hole e, placeE_hole e]
      · rw [placeE_ws e, placeE_ws e, b2 j hj hne e]
    rw [placeE_ws hpu, placeE_ws hpu, b1] at p
    have hE : entE (blkW now (plc m pl)) k = l[plK l name] := by rw [hee, List.getElem?_eq_getElem hkl]; rfl
    have hq := hp.2
    rw [hE] at hq
    have pl1 : (l[plK l name] :: l.eraseIdx (plK l name)).Perm l := by
      rw [List.eraseIdx_eq_take_drop_succ]
      refine List.perm_middle.symm.trans ?_
      rw [List.getElem_cons_drop, List.take_append_drop]
    -- raw' ++ old ~ raw ++ new ~ l ++ new ~ (x :: erase) ++ new ~ erase ++ old
    have s1 : (rawE (putBlk now (plc m pl) (setSlot (blkW now (plc m pl)) k [0, 0, 0])) m ++ wsE (blkW now (plc m pl))).Perm (l.eraseIdx (plK l name) ++ wsE (blkW now (plc m pl))) := by
      refine p.symm.trans ?_
      refine (List.Perm.append_right _ (D.ents.trans pl1.symm)).trans ?_
      rw [List.cons_append]
      refine List.perm_middle.symm.trans ?_
      exact List.Perm.append_left _ hq
    exact (List.perm_append_right_iff _).1 s1
  · exact List.Pairwise.sublist (List.eraseIdx_sublist _ _) D.str
end Go.Proofs.YtkjkdnphikendaaGreatDoor
/-
  Layer 11: a directory with a name less.
-/
set_option linter.all false
set_option maxRecDepth 100000
set_option maxHeartbeats 1000000
namespace Go.Proofs.YtkjkdnphikendaaGreatDoor
open Go Go.Eng

theorem drop_specS {h : Heap} {V : VL} {M : MemS} {X : VS} (A : At h V M X) {node : Int} (hn : 0 ≤ node ∧ node < 24) {c : Crd} {m : List Int} {l : List Ent} (D : DirI X.now node c m l) (name : List UInt8) (hnl : name.length ≤ 140737488351232) :
    CallH Tryz.prog 147 [.pointer (some ⟨V.v, 0, none⟩), .int .i64 node, .agg ⟨c.cells⟩, .string ⟨name.toArray⟩] h (fun v h' => Keeps [V.ob] h h' ∧ ∃ c' X', v = .tuple #[.agg ⟨c'.cells⟩, .int .i64 (refDrop l name).2.1, .int .i64 (refDrop l name).2.2] ∧ At h' V M X' ∧ X'.away = X.away ∧ X'.awayN = X.awayN ∧
      ((refDrop l name).2.2 = 0 → DirI X'.now node c' m (refDrop l name).1 ∧ Fr node X.now X'.now) ∧ X' = { X with now := X'.now } ∧ ((refDrop l name).2.2 = 0 → c' = { c with size := c.size - 1 })) := by
  have hvb := A.blt
  have hob := hvb V.ob (by simp [VL.blocks])
  obtain ⟨_, hc⟩ := D.right
  have hop := D.open_
  refine call_of hmix Tryz.func147 rfl ok147 (by simp [Tryz.f147]) ?_
  conv => whnf
  refine AllocR.i fun b1 h1 e1 s1 o1 k1 => ?_
  conv => whnf
  refine AllocR.i fun b2 h2 e2 s2 o2 k2 => ?_
  conv => whnf
  refine AllocR.i fun b3 h3 e3 s3 o3 k3 => ?_
  conv => whnf
  refine CallR.i (fmay_spec node h3) fun v h4 k4 hv => ?_
  subst hv
  rw [if_pos hn]
  have k04 := ((k1.trans k2).trans k3).trans k4
  conv => whnf
  refine IfR.f rfl ?_
  conv => whnf
  refine CallR.i (fopen_spec (A.on k04) c hc) fun v h5 k5 hv => ?_
  have k05 := k04.trans k5
  unfold OpenR at hv
  rw [hop, if_pos rfl] at hv
  obtain ⟨b, L, a, cc, rfl, B5, nB, O5, nO, ok⟩ := hv
  have hlf := D.few
  have z1 := k1.size
  have z2 := k2.size
  have z3 := k3.size
  have z4 := k4.size
  have z5 := k5.size
  have hdis : ∀ x ∈ BL.blocks b L, x ∉ V.blocks := fun x hx hx2 => by have := nB x hx; have := hvb x hx2; omega
  conv => whnf
  refine IfR.f rfl ?_
  simp only at B5 O5 ok ⊢
  have hSl := own_ents O5 ok (by omega)
  have o25 : h5[b2]? = some (.cells ⟨[.string ⟨name.toArray⟩]⟩ 9 (0, 0)) := ((k3.trans k4).trans k5).obj o2 (by simp)
  conv => whnf
  refine LoadR.o o25 rfl ?_
  conv => whnf
  refine CallR.i (find_spec hSl (by omega) name) fun v h6 k6 hv => ?_
  subst hv
  have k06 := k05.trans k6
  have z6 := k6.size
  rw [find_place D.str]
  conv => whnf
  refine IfR.i (fun hth => ?_) (fun hth => ?_)
  · have ht : plT l name = false := by simpa using hth
    conv => whnf
    refine BoxR.i fun h7 s7 k7 => ?_
    conv => whnf
    have kk : Keeps [] h h7 := k06.new1 k7 (by omega)
    unfold refDrop
    rw [if_neg (by rw [ht]; decide)]
    exact ⟨kk.mono (by simp), Crd.zero, X, rfl, A.on kk, rfl, rfl, (fun e => by cases e), rfl, fun e => by cases e⟩
  · have ht : plT l name = true := by simpa using hth
    obtain ⟨pl, k, hsp, hpl, hpu, hk5, hem, hee⟩ := spot_there D ht
    have B6 := B5.keep k6 (by simp)
    have o26 : h6[b2]? = some (.cells ⟨[.string ⟨name.toArray⟩]⟩ 9 (0, 0)) := k6.obj o25 (by simp)
    have SP := spotD_spec B6 name hnl o26
    rw [hsp] at SP
    conv => whnf
    refine LoadR.o o26 rfl ?_
    conv => whnf
    refine CallR.i SP fun v h7 k7 hv => ?_
    subst hv
    conv => whnf
    refine SemR.make (n := 3) rfl rfl rfl rfl rfl (by decide) (by decide) fun b8 h8 e8 s8 o8 k8 => ?_
    have S8 : Sl h8 (some ⟨b8, 0, none⟩) 3 3 ([0, 0, 0] : List UInt64) := Sl.of1' (α := UInt64) (n := 3) o8 (by simp [One.ok]) rfl (by simp)
    have k78 := k7.trans k8
    have A8 := A.on (k06.trans k78)
    have B8 := B6.keep k78 (by simp)
    have hrp := (D.wk.rngP.plc pl).resolve_left hpu
    have PS := put_spec' A8 B8 hdis hpl hpu hrp hk5 S8
    have z78 := k78.size
    conv => whnf
    refine CallR.m PS ?_ fun v h9 k9 hv => ?_
    · intro y hy hx2
      have hy2 : y = b1 ∨ y = b3 := by simpa [blocksOf, setB, or_comm] using hy
      simp only [List.mem_cons] at hx2
      rcases hx2 with rfl | hx2
      · omega
      · have := nB y hx2
        omega
    obtain ⟨rfl, A9, _, _⟩ := hv
    have kk9 : Keeps [V.ob] h h9 := ((k06.trans k78).mono (by simp)).trans_new k9 (fun y hy => by
      simp only [List.mem_cons] at hy
      rcases hy with rfl | hy
      · exact .inl (by simp)
      · have := nB y hy; right; omega)
    rw [wordsAt_nat] at A9
    obtain ⟨D9, F9⟩ := strike_dir hn D ht hpl hpu hk5 hem hee
    conv => whnf
    refine IfR.f rfl ?_
    conv => whnf
    refine BoxR.i fun h10 s10 k10 => ?_
    conv => whnf
    refine BoxR.i fun h11 s11 k11 => ?_
    conv => whnf
    have z9 := k9.size
    have kk11 : Keeps [V.ob] h h11 := (kk9.trans_new k10 (fun y hy => by simp at hy; right; omega)).trans_new k11 (fun y hy => by simp at hy; right; omega)
    have A11 := (A9.keep k10 (fun y hy => by have := hvb y hy; simp; omega)).keep k11 (fun y hy => by have := hvb y hy; simp; omega)
    have hwr : IntKind.i64.wrap (c.size - 1) = c.size - 1 := by rw [D.size]; exact wrapI (by omega) (by omega)
    have er : refDrop l name = (l.eraseIdx (plK l name), (l[plK l name]?.getD ⟨[], 0⟩).node, 0) := by unfold refDrop; rw [if_pos ht]
    rw [er]
    refine ⟨kk11, { c with size := c.size - 1 }, _, ?_, A11, rfl, rfl, (fun _ => ⟨D9, F9⟩), rfl, fun _ => rfl⟩
    rw [findR_at D.str ht]
    have hcok : ({ c with size := c.size - 1 } : Crd).cells = spliceL (0 + 2) (cellsOf (.int .i64 (IntKind.i64.wrap (c.size - 1)))) c.cells := by rw [hwr]; rfl
    rw [hcok]
    rfl
end Go.Proofs.YtkjkdnphikendaaGreatDoor
/-
  Layer 11's document: Hash, Bucket, Room; names added, dropped, compared.
-/
set_option linter.all false
set_option maxRecDepth 100000
set_option maxHeartbeats 1000000
namespace Go.Proofs.YtkjkdnphikendaaGreatDoor
open Go Go.Eng

end Go.Proofs.YtkjkdnphikendaaGreatDoor
/-
  Layer 11's laws: how many stand in a bucket; a step's end; a directory is whole.
-/
set_option linter.all false
set_option maxRecDepth 100000
set_option maxHeartbeats 1000000
namespace Go.Proofs.YtkjkdnphikendaaGreatDoor
open Go Go.Eng

end Go.Proofs.YtkjkdnphikendaaGreatDoor
/-
  Layer 11's laws: a step of a script over a directory.
-/
set_option linter.all false
set_option maxRecDepth 100000
set_option maxHeartbeats 1000000
namespace Go.Proofs.YtkjkdnphikendaaGreatDoor
open Go Go.Eng

def entSays (x : Ent) (l l' : List Ent) : Prop := (1 ≤ x.node → l' = l ∨ (plT l x.name = false ∧ l' = insL l x)) ∧ (x.node < 1 → l' = if plT l x.name = true then l.eraseIdx (plK l x.name) else l)

/-! ### What was freed stays told -/

def SameAw (X Y : VS) : Prop := Y.away = X.away ∧ Y.awayN = X.awayN
theorem takeP_aw (B : Int → UInt64) (X : VS) (node : Int) : SameAw X (takeP B X node).2.2 := by
  unfold takeP
  split
  · split <;> exact ⟨rfl, rfl⟩
  · exact ⟨rfl, rfl⟩
theorem dropP_aw (X : VS) (k : Int) : SameAw X (dropP X k).2 := by
  unfold dropP
  split
  · split <;> exact ⟨rfl, rfl⟩
  · exact ⟨rfl, rfl⟩
theorem keepP_aw (B : Int → UInt64) (X : VS) (node : Int) (c : Crd) (m : List Int) : SameAw X (keepP B X node c m).2.2 := by
  have ht := takeP_aw B X node
  have hd := dropP_aw X c.more
  unfold keepP
  split
  · split
    · split
      · exact ⟨rfl, rfl⟩
      · split
        · exact hd
        · exact hd
    · by_cases hm : c.more = -1
      · simp only [if_pos hm]
        split
        · simp only
          split <;> exact ht
        · exact ht
      · simp only [if_neg hm, if_true]
        split <;> exact ⟨rfl, rfl⟩
  · exact ⟨rfl, rfl⟩

end Go.Proofs.YtkjkdnphikendaaGreatDoor
/-
  Layer 11's law: a directory behind adds and drops, in whatever row.
-/
set_option linter.all false
set_option maxRecDepth 100000
set_option maxHeartbeats 1000000
namespace Go.Proofs.YtkjkdnphikendaaGreatDoor
open Go Go.Eng

section
variable {H : Type} {enc : TypeId × Value → H} {W : World} {sp : Nat → Bool} {held : Bool}
end

def mNo : List Int := List.replicate 21 (-1)
theorem mNo_at (i : Nat) : plc mNo i = -1 := by
  unfold plc mNo
  rw [List.getElem?_replicate]
  split <;> rfl
theorem _root_.Go.Eng.Sl.ltE {h : Heap} {a : Option Addr} {n c : Nat} {xs : List Ent} (S : Sl h a n c xs) (hn : 0 < n) : ∀ b ∈ blkA a, b < h.size := by
  have hl := S.hlen
  obtain ⟨b, o, hb, cs, ⟨rfl, _⟩, hc⟩ := S.at_ 0 (by omega)
  intro x hx
  rw [hb] at hx
  simp [blkA] at hx
  subst hx
  exact cell_lt (hc 0 (by simp [Ent.cells]))

section
variable {h0 h h' : Heap} {F : List Nat} {f : Nat} {node : Int} {V : VL} {M : MemS} {c : Crd} {m : List Int} {l : List Ent}
end

theorem dir_find {now : Int → UInt64} {node : Int} {c : Crd} {m : List Int} {l : List Ent} (D : DirI now node c m l) (name : List UInt8) : findP now c name = ((findR l name).1, plT l name, 0) := by
  unfold findP
  rw [D.open_, if_pos rfl]
  simp only
  rw [find_place D.str]

end Go.Proofs.YtkjkdnphikendaaGreatDoor
/-
  Layer 11's laws: two directories over one memory.
-/
set_option linter.all false
set_option maxRecDepth 100000
set_option maxHeartbeats 1000000
namespace Go.Proofs.YtkjkdnphikendaaGreatDoor
open Go Go.Eng

theorem w64_inj' {a b : Int} (ha : 0 ≤ a ∧ a < 24) (hb : 0 ≤ b ∧ b < 24) (h : w64 (a + 1) = w64 (b + 1)) : a = b := by
  have h1 := w64_toNat (a + 1)
  have h2 := w64_toNat (b + 1)
  rw [h] at h1
  omega

/-- a directory of another node stays as it was -/
theorem DirI.other {now g : Int → UInt64} {x y : Int} (hx : 0 ≤ x ∧ x < 24) (hy : 0 ≤ y ∧ y < 24) (hne : x ≠ y) {c : Crd} {m : List Int} {l : List Ent} (D : DirI now y c m l) (R : Fr0 x now g) : DirI g y c m l := by
  have hxy : w64 (y + 1) ≠ w64 (x + 1) := fun e => hne (w64_inj' hx hy e.symm)
  have hy0 := w64_ne hy
  have key : ∀ k, 0 ≤ k → k < 96 → now (200 + k) = w64 (y + 1) → g (200 + k) = w64 (y + 1) ∧ rdL g (1288 + k * 16) 16 = rdL now (1288 + k * 16) 16 := by
    intro k h0 h1 h
    obtain ⟨p, q⟩ := R.oth k h0 h1 (by rw [h]; exact hxy)
    refine ⟨?_, q (by rw [h]; exact hy0)⟩
    rcases p with p | ⟨p, _⟩
    · rw [p, h]
    · exact absurd (h ▸ p) hy0
  have back : ∀ k, 0 ≤ k → k < 96 → g (200 + k) = w64 (y + 1) → now (200 + k) = w64 (y + 1) := by
    intro k h0 h1 h
    by_cases hm : now (200 + k) = w64 (x + 1)
    · rcases R.mine k h0 h1 hm with p | p
      · exact absurd (h.symm.trans p) hxy
      · exact absurd (h.symm.trans p) hy0
    · rcases (R.oth k h0 h1 hm).1 with p | ⟨_, p⟩
      · rw [← p, h]
      · exact absurd (h.symm.trans p) hxy
  have hown : ∀ k, k ∈ usedL c.more m → 0 ≤ k ∧ k < 96 ∧ now (200 + k) = w64 (y + 1) := by
    intro k hk
    obtain ⟨h1, h2⟩ := usedL_mem.1 hk
    have hb := D.wk.rng k (by rcases h1 with rfl | h1; exact List.mem_cons_self; exact List.mem_cons_of_mem _ h1)
    unfold blkOk at hb
    exact ⟨by omega, by omega, (D.wk.own k (by omega) (by omega)).1 hk⟩
  have hml := D.wk.len
  have hblk : ∀ i, i < 21 → plc m i ≠ -1 → blkW now (plc m i) = blkW g (plc m i) := by
    intro i hi hu
    have hm : plc m i ∈ m := by
      unfold plc
      rw [List.getElem?_eq_getElem (by omega)]
      exact List.getElem_mem _
    obtain ⟨k0, k1, ko⟩ := hown _ (usedL_mem.2 ⟨.inr hm, hu⟩)
    exact (key _ k0 k1 ko).2.symm
  refine ⟨?_, ⟨D.wk.len, D.wk.rng, D.wk.nod, fun k h0 h1 => ?_⟩, D.kind, D.size, fun i hi hu => ?_, ?_, D.str, D.mor⟩
  · have h := D.map
    unfold mapOf at h ⊢
    by_cases hm : c.more = -1
    · rw [if_pos hm] at h ⊢; exact h
    · obtain ⟨k0, k1, ko⟩ := hown c.more (usedL_mem.2 ⟨.inl rfl, hm⟩)
      have e : moreL g c.more = moreL now c.more := (key _ k0 k1 ko).2
      rw [e]; exact h
  · rw [D.wk.own k h0 h1]
    exact ⟨fun h => (key k h0 h1 h).1, back k h0 h1⟩
  · rw [← hblk i hi hu]; exact D.ok i hi hu
  · rw [← rawE_same hblk]; exact D.ents

section
variable {h0 h h' : Heap} {F : List Nat} {V : VL} {M : MemS} {f g : Nat} {x y : Int} {c d : Crd} {m n : List Int} {l t : List Ent}
end
end Go.Proofs.YtkjkdnphikendaaGreatDoor
/-
  Plain laws: how many blocks are free behind a name more, and behind bytes that are written; a card keeps its kind.
-/
set_option linter.all false
set_option maxRecDepth 100000
set_option maxHeartbeats 2000000
namespace Go.Proofs.YtkjkdnphikendaaGreatDoor
open Go Go.Eng

theorem take_fail {B : Int → UInt64} {X : VS} {node : Int} (h : (takeP B X node).2.1 ≠ 0) : (takeP B X node).2.2 = X := by
  unfold takeP at h ⊢
  split
  · rename_i hn
    rw [if_pos hn] at h
    split
    · rename_i k hk; rw [hk] at h; simp at h
    · rfl
  · rfl
theorem take_ok {B : Int → UInt64} {X : VS} {node : Int} (hn : 0 ≤ node ∧ node < 24) (h : 1 ≤ freeN B X 96) : (takeP B X node).2.1 = 0 := by
  unfold takeP
  rw [if_pos hn]
  cases hf : firstF B X 96 0 with
  | none => exact absurd hf (freeN_pos h)
  | some k => rfl

theorem count_le {p q : Nat → Bool} : ∀ {n : Nat}, (∀ j, j < n → p j = true → q j = true) → ((List.range n).filter p).length ≤ ((List.range n).filter q).length
  | 0, _ => by simp
  | n + 1, h => by
    rw [List.range_succ, List.filter_append, List.filter_append, List.length_append, List.length_append]
    have ih := count_le (n := n) fun j hj => h j (by omega)
    have : (([n].filter p).length ≤ ([n].filter q).length) := by
      have := h n (by omega)
      simp only [List.filter_cons, List.filter_nil]
      cases hp : p n with
      | false => simp
      | true => rw [this hp]; simp
    omega

theorem free_putA {B : Int → UInt64} {X : VS} {k : Int} {ws : List UInt64} (hk : k = -1 ∨ 0 ≤ k) (hw : ws.length ≤ 16) : freeN B { X with now := putBlk X.now k ws } 96 = freeN B X 96 := by
  unfold freeN
  congr 1
  refine List.filter_congr fun j hj => ?_
  have hj' : j < 96 := by simpa using hj
  unfold freshB
  have : (putBlk X.now k ws) (200 + (j : Int)) = X.now (200 + (j : Int)) := by
    unfold putBlk updL
    rw [fullB_len hw, if_neg (by omega)]
  simp only [this]

theorem take_x {B : Int → UInt64} {X : VS} {node : Int} : (takeP B X node).2.2 = { X with now := (takeP B X node).2.2.now } := by
  unfold takeP
  split
  · split <;> rfl
  · rfl
theorem take_cnt {B : Int → UInt64} {X : VS} {node : Int} (hn : 0 ≤ node ∧ node < 24) : freeN B X 96 ≤ freeN B (takeP B X node).2.2 96 + 1 := by
  by_cases h : (takeP B X node).2.1 = 0
  · rw [free_take hn h]; exact Nat.le_refl _
  · rw [take_fail h]; exact Nat.le_succ _

theorem free_keep {B : Int → UInt64} {node : Int} (hn : 0 ≤ node ∧ node < 24) {X : VS} {c : Crd} {m : List Int} : freeN B X 96 ≤ freeN B (keepP B X node c m).2.2 96 + 1 ∧ (keepP B X node c m).2.2 = { X with now := (keepP B X node c m).2.2.now } := by
  unfold keepP
  split
  · rename_i hc0
    have hl := hc0.2.1
    by_cases hd : (m.drop 5).any usedB = false
    · rw [if_pos hd]
      by_cases hc : c.more = -1
      · rw [if_pos hc]; exact ⟨Nat.le_succ _, rfl⟩
      · rw [if_neg hc]
        have hle : freeN B X 96 ≤ freeN B (dropP X c.more).2 96 ∧ (dropP X c.more).2 = { X with now := (dropP X c.more).2.now } := by
          unfold dropP
          split
          · split
            · exact ⟨Nat.le_refl _, rfl⟩
            · refine ⟨?_, rfl⟩
              unfold freeN
              refine count_le fun j hj hp => ?_
              unfold freshB at hp ⊢
              simp only [Bool.and_eq_true, decide_eq_true_eq] at hp ⊢
              refine ⟨hp.1, hp.2.1, ?_, hp.2.2.2⟩
              have := hp.2.2.1
              unfold upd
              split
              · rfl
              · exact this
          · exact ⟨Nat.le_refl _, rfl⟩
        split
        · exact ⟨by simp only; omega, hle.2⟩
        · exact ⟨by simp only; omega, hle.2⟩
    · rw [if_neg hd]
      by_cases hc : c.more = -1
      · rw [if_pos hc]
        simp only
        by_cases ht : (takeP B X node).2.1 = 0
        · rw [if_pos ht]
          have hr := takeP_rng ht
          have := free_take hn ht
          have hx : (takeP B X node).2.2 = { X with now := (takeP B X node).2.2.now } := take_x
          simp only
          rw [if_pos hr, freeN_put hr.1 (by simp [hl])]
          exact ⟨by omega, by rw [hx]⟩
        · rw [if_neg ht, take_fail ht]; exact ⟨Nat.le_succ _, rfl⟩
      · rw [if_neg hc]
        simp only [if_true]
        split
        · rename_i hk
          rw [freeN_put hk.1 (by simp [hl])]
          exact ⟨Nat.le_succ _, rfl⟩
        · exact ⟨Nat.le_succ _, rfl⟩
  · exact ⟨Nat.le_succ _, rfl⟩

/-- a name more takes two blocks at most -/
theorem addP_cnt {B : Int → UInt64} {X : VS} {node : Int} (hn : 0 ≤ node ∧ node < 24) {c : Crd} {m : List Int} {l : List Ent} (D : DirI X.now node c m l) (name : List UInt8) (target : Int) :
    freeN B X 96 ≤ freeN B (addP B X node c name target).2.2 96 + 2 ∧ (addP B X node c name target).2.2 = { X with now := (addP B X node c name target).2.2.now } := by
  have R := D.wk.rngP
  unfold addP
  rw [D.open_]
  simp only [ne_eq, not_true_eq_false, if_false]
  split
  · exact ⟨Nat.le_add_right _ _, rfl⟩
  split
  · exact ⟨Nat.le_add_right _ _, rfl⟩
  split
  · exact ⟨Nat.le_add_right _ _, rfl⟩
  have fin : ∀ (Y : VS) (k : Int) (ws : List UInt64) (mm : List Int) (cc : Crd), (k = -1 ∨ 0 ≤ k) → ws.length ≤ 16 → freeN B X 96 ≤ freeN B Y 96 + 1 → Y = { X with now := Y.now } →
      freeN B X 96 ≤ freeN B (keepP B { Y with now := putBlk Y.now k ws } node cc mm).2.2 96 + 2 ∧ (keepP B { Y with now := putBlk Y.now k ws } node cc mm).2.2 = { X with now := (keepP B { Y with now := putBlk Y.now k ws } node cc mm).2.2.now } := by
    intro Y k ws mm cc hk hw hc hx
    have FK := free_keep (B := B) (X := { Y with now := putBlk Y.now k ws }) (c := cc) (m := mm) hn
    rw [free_putA hk hw] at FK
    refine ⟨by omega, ?_⟩
    have h2 := FK.2
    rw [hx] at h2 ⊢
    exact h2
  unfold firstR
  cases hs : spotF (wordsAt X.now m) m emptyB 4 (bucketL name) with
  | some q =>
    obtain ⟨pl, k⟩ := q
    simp only [not_true_eq_false, if_false, Int.toNat_natCast, wordsAt_nat]
    have hk0 := R.plc pl
    have q3 := (spotF_is hs).2.2.1
    refine fin X _ _ _ _ (by omega) ?_ (Nat.le_succ _) rfl
    have := setSlot_len (new := w64 target :: textL name 2) (blkW_len X.now (plc m pl)) q3 (by simp [textL_len])
    exact Nat.le_of_eq this
  | none =>
    simp only
    unfold growP
    cases hg : growF m 4 (bucketL name) with
    | none =>
      simp only
      exact ⟨Nat.le_add_right _ _, rfl⟩
    | some pl =>
      simp only
      by_cases e0 : (takeP B X node).2.1 = 0
      · rw [if_pos e0]
        simp only [not_true_eq_false, if_false, Int.toNat_natCast]
        have hr := takeP_rng e0
        have q1 := (growF_is hg).1
        have hl := R.1
        have hat : plc (m.set pl (takeP B X node).1) pl = (takeP B X node).1 := by rw [plc_set (by omega), if_pos rfl]
        refine fin (takeP B X node).2.2 _ _ _ _ (by rw [hat]; omega) ?_ (take_cnt hn) take_x
        have hw : (growW (wordsAt X.now m) pl (pl : Int)).length = 16 := by
          unfold growW
          rw [if_pos rfl]; simp
        have := setSlot_len (k := 0) (new := w64 target :: textL name 2) hw (by decide) (by simp [textL_len])
        exact Nat.le_of_eq this
      · rw [if_neg e0]
        simp only
        rw [if_pos e0]
        exact ⟨Nat.le_trans (take_cnt hn) (Nat.le_succ _), take_x⟩

/-- a card keeps its kind, links, version -/
theorem keepP_same {B : Int → UInt64} {node : Int} {X : VS} {c : Crd} {m : List Int} (h : (keepP B X node c m).2.1 = 0) : (keepP B X node c m).1.kind = c.kind ∧ (keepP B X node c m).1.links = c.links ∧ (keepP B X node c m).1.ver = c.ver := by
  unfold keepP at h ⊢
  split at h
  · rename_i h0
    rw [if_pos h0]
    split at h
    · rename_i h1
      rw [if_pos h1]
      split at h
      · rename_i h2; rw [if_pos h2]; exact ⟨rfl, rfl, rfl⟩
      · rename_i h2
        rw [if_neg h2]
        split at h
        · rename_i h3; rw [if_pos h3]; exact ⟨rfl, rfl, rfl⟩
        · rename_i h3; exact absurd h h3
    · rename_i h1
      rw [if_neg h1]
      by_cases h2 : c.more = -1
      · rw [if_pos h2] at h ⊢
        simp only at h ⊢
        by_cases h3 : (takeP B X node).2.1 = 0
        · rw [if_pos h3]; exact ⟨rfl, rfl, rfl⟩
        · rw [if_neg h3] at h; exact absurd h h3
      · rw [if_neg h2]
        simp [setD]
  · simp at h
theorem writeP_same {B : Int → UInt64} {X : VS} {node : Int} {c : Crd} {at_ : Int} {data : List UInt8} (h : (writeP B X node c at_ data).2.1 = 0) : (writeP B X node c at_ data).1.kind = c.kind ∧ (writeP B X node c at_ data).1.links = c.links ∧ (writeP B X node c at_ data).1.ver = c.ver := by
  unfold writeP at h ⊢
  split at h
  · simp at h
  rename_i h1
  rw [if_neg h1]
  split at h
  · rename_i h2
    rw [if_pos h2]
    split at h
    · simp at h
    · exact ⟨rfl, rfl, rfl⟩
  rename_i h2
  rw [if_neg h2]
  split at h
  · simp at h
  rename_i h3
  rw [if_neg h3]
  split at h
  · simp at h
  · rename_i m hm
    simp only at h ⊢
    split at h
    · rename_i h5
      rw [if_pos h5]
      exact keepP_same (c := { c with size := max c.size (at_ + data.length) }) h
    · rename_i h5; exact absurd h h5

/-- writing where there is room -/
theorem wStep_cnt {B : Int → UInt64} {node more : Int} (hn : 0 ≤ node ∧ node < 24) {X : VS} {m : List Int} (W : Wk X.now node more m) {a : Nat} {data : List UInt8} {i : Nat} (hi : i < 21) (h1 : 128 * i < a + data.length) (h2 : a < 128 * i + 128) (hf : 1 ≤ freeN B X 96) : freeN B X 96 ≤ freeN B (wStep B node a data i X m).2.1 96 + 1 := by
  have hl := W.len
  have e0 := take_ok (B := B) (X := X) hn hf
  unfold wStep
  have hbl : ∀ (now : Int → UInt64) (k : Int), (textL (wblk (bytesB now k) data a (a + data.length) (128 * i)) 16).length ≤ 16 := fun now k => by rw [textL_len]; exact Nat.le_refl _
  by_cases hm : m[i]?.getD 0 = -1
  · rw [if_pos hm]
    simp only [e0, if_true]
    have hr := takeP_rng e0
    have hat : (m.set i (takeP B X node).1)[i]?.getD 0 = (takeP B X node).1 := by simp [hl, hi]
    rw [hat, free_putA (.inr hr.1) (hbl _ _)]
    exact take_cnt hn
  · rw [if_neg hm]
    simp only [if_true]
    have hr := W.rngP.plc i
    have e : m[i]?.getD 0 = plc m i := getD_21 hl hi
    rw [e, free_putA (by omega) (hbl _ _)]
    exact Nat.le_succ _

theorem writeL_room {B : Int → UInt64} {node more : Int} (hn : 0 ≤ node ∧ node < 24) {a : Nat} {data : List UInt8} : ∀ (f i : Nat) (X : VS) (m : List Int), Wk X.now node more m → i + f ≤ 21 → (0 < f → 128 * (i + f - 1) < a + data.length) → a < 128 * i + 128 → f ≤ freeN B X 96 →
    (writeL B node a data f i X m).1 = 0 ∧ freeN B X 96 ≤ freeN B (writeL B node a data f i X m).2.1 96 + f ∧ Wk (writeL B node a data f i X m).2.1.now node more (writeL B node a data f i X m).2.2
  | 0, i, X, m, W, _, _, _, _ => ⟨rfl, Nat.le_refl _, W⟩
  | f + 1, i, X, m, W, hi, hd, ha, hf => by
    have hd' := hd (Nat.succ_pos _)
    have c := wStep_cnt (B := B) (data := data) hn W (a := a) (i := i) (by omega) (by omega) ha (by omega)
    rcases wStep_plain (B := B) hn W (a := a) (data := data) (i := i) (by omega) (by omega) ha with ⟨_, hno⟩ | S
    · exact absurd hno (freeN_pos (by omega))
    · unfold writeL
      rw [if_pos S.e]
      obtain ⟨r1, r2, r3⟩ := writeL_room (B := B) (a := a) (data := data) hn f (i + 1) _ _ S.wk (by omega) (fun _ => by omega) (by omega) (by omega)
      exact ⟨r1, by omega, r3⟩

theorem writeP_room {B : Int → UInt64} {node : Int} (hn : 0 ≤ node ∧ node < 24) {X : VS} {c : Crd} {m : List Int} {s : List UInt8} (F : FileI X.now node c m s) (a : Nat) (data : List UInt8) (hroom : (a + data.length + 127) / 128 - a / 128 + 1 ≤ freeN B X 96) :
    (writeP B X node c (a : Int) data).2.1 = (refWriteL s (a : Int) data).2 ∧
    ((refWriteL s (a : Int) data).2 = 0 → freeN B X 96 ≤ freeN B (writeP B X node c (a : Int) data).2.2 96 + ((a + data.length + 127) / 128 - a / 128 + 1) ∧ ∃ m', Wrote node X m (a : Int) data (refWriteL s (a : Int) data).1 (writeP B X node c (a : Int) data) m') := by
  rcases writeP_plain (B := B) hn F (a : Int) data with ⟨h9, h0, _⟩ | ⟨he, hw⟩
  · exfalso
    unfold refWriteL at h0
    unfold writeP at h9
    by_cases h1 : (a : Int) < 0 ∨ 400 < data.length
    · rw [if_pos h1] at h0; simp at h0
    rw [if_neg h1] at h0
    rw [if_neg (by rintro (x | x); exact x hn; exact h1 x)] at h9
    by_cases h2 : data = []
    · rw [if_pos h2, F.map] at h9; simp at h9
    rw [if_neg h2] at h0 h9
    by_cases h3 : 2688 - (data.length : Int) < (a : Int)
    · rw [if_pos h3] at h0; simp at h0
    rw [if_neg h3, F.map] at h9
    simp only [Int.toNat_natCast] at h9
    have hdl : 0 < data.length := List.length_pos_iff.2 h2
    obtain ⟨r1, r2, r3⟩ := writeL_room (B := B) hn (a := a) (data := data) ((a + data.length + 127) / 128 - a / 128) (a / 128) X m F.wk (by omega) (fun _ => by omega) (by omega) (by omega)
    rw [r1] at h9
    simp only [if_true] at h9
    have K := keepP_room (B := B) (c := { c with size := max c.size ((a : Int) + data.length) }) hn r3 (by omega)
    rw [K.e] at h9
    cases h9
  · refine ⟨he, fun h0 => ⟨?_, hw h0⟩⟩
    unfold refWriteL at h0
    unfold writeP
    by_cases h1 : (a : Int) < 0 ∨ 400 < data.length
    · rw [if_pos h1] at h0; simp at h0
    rw [if_neg (by rintro (x | x); exact x hn; exact h1 x)]
    rw [if_neg h1] at h0
    by_cases h2 : data = []
    · rw [if_pos h2, F.map]; simp only; omega
    rw [if_neg h2] at h0 ⊢
    by_cases h3 : 2688 - (data.length : Int) < (a : Int)
    · rw [if_pos h3] at h0; simp at h0
    rw [if_neg h3, F.map]
    simp only [Int.toNat_natCast]
    have hdl : 0 < data.length := List.length_pos_iff.2 h2
    obtain ⟨r1, r2, r3⟩ := writeL_room (B := B) hn (a := a) (data := data) ((a + data.length + 127) / 128 - a / 128) (a / 128) X m F.wk (by omega) (fun _ => by omega) (by omega) (by omega)
    rw [r1]
    simp only [if_true]
    have K := (free_keep (B := B) (X := (writeL B node a data ((a + data.length + 127) / 128 - a / 128) (a / 128) X m).2.1) (c := { c with size := max c.size ((a : Int) + data.length) }) (m := (writeL B node a data ((a + data.length + 127) / 128 - a / 128) (a / 128) X m).2.2) hn).1
    omega
end Go.Proofs.YtkjkdnphikendaaGreatDoor
/-
  Layer 10's law: a file's own blocks; whole.
-/
set_option linter.all false
set_option maxRecDepth 100000
set_option maxHeartbeats 1000000
namespace Go.Proofs.YtkjkdnphikendaaGreatDoor
open Go Go.Eng

/-- a file's map, and its block behind -/
def ownL (c : Crd) (m : List Int) : List Int := if 0 ≤ c.more then m ++ [c.more] else m

end Go.Proofs.YtkjkdnphikendaaGreatDoor
/-
  Layer 10's law: a file is whole.
-/
set_option linter.all false
set_option maxRecDepth 100000
set_option maxHeartbeats 1000000
namespace Go.Proofs.YtkjkdnphikendaaGreatDoor
open Go Go.Eng

/-- the document's answer: bytes are read -/
def refReadL (s : List UInt8) (at_ n : Int) : List UInt8 × Int :=
  if at_ < 0 ∨ n < 0 ∨ 4096 < n then ([], 1)
  else if (s.length : Int) ≤ at_ then ([], 0) else ((s.take (min (s.length : Int) (at_ + n)).toNat).drop at_.toNat, 0)

theorem FileI.bytes {now : Int → UInt64} {node : Int} {c : Crd} {m : List Int} {s : List UInt8} (F : FileI now node c m s) : (fileB now m).take s.length = s := by
  have hl := flat_len (now := now) m
  have hm := F.wk.len
  have hf := F.fits
  apply List.ext_getElem?
  intro p
  rw [List.getElem?_take]
  by_cases h : p < s.length
  · rw [if_pos h, fileB_get m p (by omega), F.by_ p (by omega)]
    simp [h]
  · rw [if_neg h, List.getElem?_eq_none (by omega)]

theorem readP_plain {now : Int → UInt64} {node : Int} {c : Crd} {m : List Int} {s : List UInt8} (F : FileI now node c m s) (at_ n : Int) : readP now c at_ n = refReadL s at_ n := by
  unfold readP refReadL
  split
  · rfl
  · rename_i h
    rw [F.map, F.size]
    simp only
    split
    · rfl
    · rename_i h2
      have hb := F.bytes
      congr 2
      have e : (fileB now m).take (min (s.length : Int) (at_ + n)).toNat = s.take (min (s.length : Int) (at_ + n)).toNat := by
        generalize hX : (min (s.length : Int) (at_ + n)).toNat = x
        have e2 : s.take x = ((fileB now m).take s.length).take x := by rw [hb]
        rw [e2, List.take_take]
        congr 1; omega
      exact e

theorem FileI.szr {now : Int → UInt64} {node : Int} {c : Crd} {m : List Int} {s : List UInt8} (F : FileI now node c m s) : 0 ≤ c.size ∧ c.size ≤ 2688 := by
  have := F.size
  have := F.fits
  omega

end Go.Proofs.YtkjkdnphikendaaGreatDoor
/-
  Plain laws: new files, a file is cut; two files don't touch one another; what is free.
-/
set_option linter.all false
set_option maxRecDepth 100000
set_option maxHeartbeats 1000000
namespace Go.Proofs.YtkjkdnphikendaaGreatDoor
open Go Go.Eng

def m0 : List Int := List.replicate 21 (-1)
/-- what a step of cutting comes to -/
structure Cutt (node more : Int) (X : VS) (m : List Int) (z : Nat) (size : Int) (i f : Nat) (r : Int × VS × List Int) : Prop where
  e : r.1 = 0
  x : r.2.1 = { X with now := r.2.1.now }
  wk : Wk r.2.1.now node more r.2.2
  fr : Fr node X.now r.2.1.now
  more_ : more ≠ -1 → moreL r.2.1.now more = moreL X.now more
  by_ : ∀ p, p < 2688 → fb r.2.1.now r.2.2 p = if ((z : Int) < size) ∧ i ≤ p / 128 ∧ p / 128 < i + f ∧ z ≤ p then 0 else fb X.now m p
  holes : ∀ j, j < 21 → (r.2.2[j]?.getD (-1) = -1 ↔ m[j]?.getD (-1) = -1 ∨ ((z : Int) < size ∧ i ≤ j ∧ j < i + f ∧ z ≤ 128 * j))

theorem cutStep_plain {node more : Int} (hn : 0 ≤ node ∧ node < 24) {X : VS} {m : List Int} (W : Wk X.now node more m) {z : Nat} {size : Int} {i : Nat} (hi : i < 21) : Cutt node more X m z size i 1 (cutStep z size i X m) := by
  have hl := W.len
  unfold cutStep
  rw [getD_21 hl hi]
  by_cases h1 : m[i]?.getD (-1) = -1 ∨ size ≤ (z : Int) ∨ 128 * i + 128 ≤ z
  · rw [if_pos h1]
    refine ⟨rfl, rfl, W, Fr.refl _ _, fun _ => rfl, fun p hp => ?_, fun j hj => ⟨.inl, fun h => ?_⟩⟩
    · simp only
      split
      · rename_i hc
        have hpi : p / 128 = i := by omega
        rcases h1 with h1 | h1 | h1
        · unfold fb
          rw [hpi, h1]
          unfold bytesB
          rw [if_pos rfl, zeros_get]
        · omega
        · omega
      · rfl
    · rcases h with h | h
      · exact h
      · have : j = i := by omega
        subst this
        rcases h1 with h1 | h1 | h1
        · exact h1
        · omega
        · omega
  · rw [if_neg h1]
    have hm : m[i]?.getD (-1) ≠ -1 := fun h => h1 (.inl h)
    have hs : (z : Int) < size := by
      refine Classical.byContradiction fun h => h1 (.inr (.inl (by omega)))
    have hz : ¬ 128 * i + 128 ≤ z := fun h => h1 (.inr (.inr h))
    by_cases h2 : z ≤ 128 * i
    · rw [if_pos h2]
      obtain ⟨hk, ho, W1, F1, M1, B1⟩ := W.drop_at hn hi rfl hm
      have hdr : dropP X (m[i]?.getD (-1)) = (0, { X with now := upd X.now (200 + m[i]?.getD (-1)) 0 }) := by
        unfold dropP
        rw [if_pos hk, if_neg (by rw [ho]; exact w64_ne hn)]
      rw [hdr]
      refine ⟨rfl, rfl, W1, F1, M1, fun p hp => ?_, fun j hj => ?_⟩
      · simp only
        rw [B1 p hp]
        by_cases hpi : p / 128 = i
        · rw [if_pos hpi, if_pos ⟨hs, by omega, by omega, by omega⟩]
        · rw [if_neg hpi, if_neg (by omega)]
      · simp only
        by_cases hji : j = i
        · subst hji
          have : (m.set j (-1))[j]?.getD (-1) = -1 := by simp [hl, hj]
          rw [this]
          exact ⟨fun _ => .inr ⟨hs, by omega, by omega, h2⟩, fun _ => rfl⟩
        · rw [List.getElem?_set_ne (fun x => hji x.symm)]
          exact ⟨.inl, fun h => by rcases h with h | h; exact h; omega⟩
    · rw [if_neg h2]
      have hbl := bytesB_len X.now (m[i]?.getD (-1))
      obtain ⟨W2, F2, M2, B2⟩ := W.put hi (l := (bytesB X.now (m[i]?.getD (-1))).take (z - 128 * i)) (by rw [List.length_take]; omega) rfl hm
      refine ⟨rfl, rfl, W2, F2, M2, fun p hp => ?_, fun j hj => ?_⟩
      · simp only
        rw [B2 p hp]
        by_cases hpi : p / 128 = i
        · rw [if_pos hpi, List.getElem?_take]
          by_cases hpz : z ≤ p
          · rw [if_neg (by omega), if_pos ⟨hs, by omega, by omega, hpz⟩]; rfl
          · rw [if_pos (by omega), if_neg (by omega)]
            unfold fb
            rw [hpi]
        · rw [if_neg hpi, if_neg (by omega)]
      · simp only
        exact ⟨.inl, fun h => by rcases h with h | h; exact h; omega⟩

theorem cutL_plain {node more : Int} (hn : 0 ≤ node ∧ node < 24) {z : Nat} {size : Int} : ∀ (f i : Nat) (X : VS) (m : List Int), Wk X.now node more m → i + f ≤ 21 → Cutt node more X m z size i f (cutL z size f i X m)
  | 0, i, X, m, W, _ => by
    unfold cutL
    refine ⟨rfl, rfl, W, Fr.refl _ _, fun _ => rfl, fun p hp => ?_, fun j hj => ⟨.inl, fun h => by rcases h with h | h; exact h; omega⟩⟩
    simp only
    rw [if_neg (by omega)]
  | f + 1, i, X, m, W, hf => by
    unfold cutL
    have S := cutStep_plain hn W (z := z) (size := size) (i := i) (by omega)
    rw [S.e]
    simp only [if_true]
    have R := cutL_plain (z := z) (size := size) hn f (i + 1) (cutStep z size i X m).2.1 (cutStep z size i X m).2.2 S.wk (by omega)
    refine ⟨R.e, ?_, R.wk, S.fr.trans R.fr (w64_ne hn), fun h => (R.more_ h).trans (S.more_ h), fun p hp => ?_, fun j hj => ?_⟩
    · rw [R.x, S.x]
    · rw [R.by_ p hp, S.by_ p hp]
      by_cases c3 : (z : Int) < size ∧ i + 1 ≤ p / 128 ∧ p / 128 < i + 1 + f ∧ z ≤ p
      · rw [if_pos c3, if_pos ⟨c3.1, by omega, by omega, c3.2.2.2⟩]
      · rw [if_neg c3]
        by_cases c4 : (z : Int) < size ∧ i ≤ p / 128 ∧ p / 128 < i + 1 ∧ z ≤ p
        · rw [if_pos c4, if_pos ⟨c4.1, c4.2.1, by omega, c4.2.2.2⟩]
        · rw [if_neg c4, if_neg (by omega)]
    · rw [R.holes j hj, S.holes j hj]
      constructor
      · rintro ((h | h) | h)
        · exact .inl h
        · exact .inr ⟨h.1, by omega, by omega, h.2.2.2⟩
        · exact .inr ⟨h.1, by omega, by omega, h.2.2.2⟩
      · rintro (h | h)
        · exact .inl (.inl h)
        · by_cases hji : j = i
          · exact .inl (.inr ⟨h.1, by omega, by omega, h.2.2.2⟩)
          · exact .inr ⟨h.1, by omega, by omega, h.2.2.2⟩

/-- the document's answer: a file is cut -/
def refCutL (s : List UInt8) (size : Int) : List UInt8 × Int :=
  if size < 0 then ([], 1)
  else if 2688 < size then ([], 10)
  else if size ≤ (s.length : Int) then (s.take size.toNat, 0) else (s ++ zeros (size.toNat - s.length), 0)

theorem refCut_get (s : List UInt8) (z : Nat) (p : Nat) : (if (z : Int) ≤ (s.length : Int) then s.take z else s ++ zeros (z - s.length))[p]?.getD 0 = if (z : Int) < (s.length : Int) ∧ z ≤ p then 0 else s[p]?.getD 0 := by
  split
  · rw [List.getElem?_take]
    by_cases h : p < z
    · rw [if_pos h, if_neg (by omega)]
    · rw [if_neg h]
      split
      · rfl
      · rw [List.getElem?_eq_none (by omega)]
  · rw [pad_get, if_neg (by omega)]
theorem refCut_len (s : List UInt8) (z : Nat) : (if (z : Int) ≤ (s.length : Int) then s.take z else s ++ zeros (z - s.length)).length = z := by
  split
  · rw [List.length_take]; omega
  · simp [zeros]; omega

theorem cutP_plain {B : Int → UInt64} {node : Int} (hn : 0 ≤ node ∧ node < 24) {X : VS} {c : Crd} {m : List Int} {s : List UInt8} (F : FileI X.now node c m s) (size : Int) :
    (cutP B X node c size).2.1 = (refCutL s size).2 ∧ ((refCutL s size).2 = 0 → ∃ m', FileI (cutP B X node c size).2.2.now node (cutP B X node c size).1 m' (refCutL s size).1 ∧ Fr node X.now (cutP B X node c size).2.2.now ∧ (cutP B X node c size).2.2 = { X with now := (cutP B X node c size).2.2.now } ∧
      ∀ j : Nat, j < 21 → (m'[j]?.getD (-1) = -1 ↔ m[j]?.getD (-1) = -1 ∨ (size < s.length ∧ size ≤ 128 * (j : Int)))) := by
  unfold cutP refCutL
  by_cases h1 : size < 0
  · rw [if_pos (.inr h1), if_pos h1]
    exact ⟨rfl, fun h => by cases h⟩
  · rw [if_neg (by rintro (x | x); exact x hn; exact h1 x), if_neg h1]
    by_cases h2 : 2688 < size
    · rw [if_pos h2, if_pos h2]
      exact ⟨rfl, fun h => by cases h⟩
    · rw [if_neg h2, if_neg h2, F.map]
      simp only
      obtain ⟨z, rfl⟩ : ∃ z : Nat, size = (z : Int) := ⟨size.toNat, by omega⟩
      simp only [Int.toNat_natCast]
      have R := cutL_plain (z := z) (size := c.size) hn 21 0 X m F.wk (by omega)
      rw [R.e]
      simp only [if_true]
      have hsz := F.size
      have hfit := F.fits
      have hlr := R.wk.len
      have hc : ({ c with size := (z : Int) } : Crd).more = c.more := rfl
      have hmono : (((cutL z c.size 21 0 X m).2.2).drop 5).any usedB = true → (m.drop 5).any usedB = true := by
        intro h
        rw [List.any_eq_true] at h ⊢
        obtain ⟨x, hx, hu⟩ := h
        rw [List.mem_drop_iff_getElem] at hx
        obtain ⟨j, hj, rfl⟩ := hx
        have h5 : 5 + j < 21 := by omega
        have hh := R.holes (5 + j) h5
        rw [R.wk.at_ h5, F.wk.at_ h5] at hh
        have hne := usedB_t.1 hu
        have hml := F.wk.len
        refine ⟨m[5 + j], ?_, usedB_t.2 fun e => hne (hh.2 (.inl e))⟩
        rw [List.mem_drop_iff_getElem]
        exact ⟨j, by omega, rfl⟩
      have hpair : (if (z : Int) ≤ (s.length : Int) then (s.take z, (0 : Int)) else (s ++ zeros (z - s.length), 0)) = (if (z : Int) ≤ (s.length : Int) then s.take z else s ++ zeros (z - s.length), 0) := by split <;> rfl
      rw [hpair]
      rcases keepP_plain (B := B) (c := { c with size := (z : Int) }) hn (hc ▸ R.wk) with ⟨_, _, hmo, hus⟩ | K
      · exact absurd (F.mor.1 hmo) (by rw [hmono hus]; decide)
      · refine ⟨K.e, fun _ => ⟨(cutL z c.size 21 0 X m).2.2, ?_, R.fr.trans K.fr (w64_ne hn), by rw [K.x, R.x], fun j hj => ?_⟩⟩
        · have hcc := K.c_
          refine ⟨K.map, K.wk, ?_, ?_, ?_, fun p hp => ?_, fun j hj hs => ?_, K.mor⟩
          · rw [hcc]; exact F.kind
          · rw [hcc, refCut_len]; rfl
          · rw [refCut_len]; omega
          · rw [K.by_ p hp, R.by_ p hp, refCut_get, F.by_ p hp, hsz]
            by_cases hq : (z : Int) < (s.length : Int) ∧ z ≤ p
            · rw [if_pos ⟨hq.1, by omega, by omega, hq.2⟩, if_pos hq]
            · rw [if_neg (fun h => hq ⟨h.1, h.2.2.2⟩), if_neg hq]
          · rw [refCut_len] at hs
            refine (R.holes j hj).2 ?_
            rw [hsz]
            by_cases hq : (z : Int) < (s.length : Int)
            · exact .inr ⟨hq, by omega, by omega, hs⟩
            · exact .inl (F.hol j hj (by omega))
        · rw [R.holes j hj, hsz]
          constructor
          · rintro (h | h)
            · exact .inl h
            · exact .inr ⟨h.1, by omega⟩
          · rintro (h | h)
            · exact .inl h
            · exact .inr ⟨h.1, by omega, by omega, by omega⟩

theorem w64_inj {a b : Int} (ha : 0 ≤ a ∧ a < 24) (hb : 0 ≤ b ∧ b < 24) (h : w64 (a + 1) = w64 (b + 1)) : a = b := by
  have h1 := w64_toNat (a + 1)
  have h2 := w64_toNat (b + 1)
  rw [h] at h1
  omega

/-- a file of another node stays as it was -/
theorem FileI.other {now g : Int → UInt64} {x y : Int} (hx : 0 ≤ x ∧ x < 24) (hy : 0 ≤ y ∧ y < 24) (hne : x ≠ y) {c : Crd} {m : List Int} {s : List UInt8} (F : FileI now y c m s) (R : Fr0 x now g) : FileI g y c m s := by
  have hxy : w64 (y + 1) ≠ w64 (x + 1) := fun e => hne (w64_inj hx hy e.symm)
  have hy0 := w64_ne hy
  have key : ∀ k, 0 ≤ k → k < 96 → now (200 + k) = w64 (y + 1) → g (200 + k) = w64 (y + 1) ∧ rdL g (1288 + k * 16) 16 = rdL now (1288 + k * 16) 16 := by
    intro k h0 h1 h
    obtain ⟨p, q⟩ := R.oth k h0 h1 (by rw [h]; exact hxy)
    refine ⟨?_, q (by rw [h]; exact hy0)⟩
    rcases p with p | ⟨p, _⟩
    · rw [p, h]
    · exact absurd (h ▸ p) hy0
  have back : ∀ k, 0 ≤ k → k < 96 → g (200 + k) = w64 (y + 1) → now (200 + k) = w64 (y + 1) := by
    intro k h0 h1 h
    by_cases hm : now (200 + k) = w64 (x + 1)
    · rcases R.mine k h0 h1 hm with p | p
      · exact absurd (h.symm.trans p) hxy
      · exact absurd (h.symm.trans p) hy0
    · rcases (R.oth k h0 h1 hm).1 with p | ⟨_, p⟩
      · rw [← p, h]
      · exact absurd (h.symm.trans p) hxy
  have hown : ∀ k, k ∈ usedL c.more m → 0 ≤ k ∧ k < 96 ∧ now (200 + k) = w64 (y + 1) := by
    intro k hk
    obtain ⟨h1, h2⟩ := usedL_mem.1 hk
    have hb := F.wk.rng k (by rcases h1 with rfl | h1; exact List.mem_cons_self; exact List.mem_cons_of_mem _ h1)
    unfold blkOk at hb
    exact ⟨by omega, by omega, (F.wk.own k (by omega) (by omega)).1 hk⟩
  refine ⟨?_, ⟨F.wk.len, F.wk.rng, F.wk.nod, fun k h0 h1 => ?_⟩, F.kind, F.size, F.fits, fun p hp => ?_, F.hol, F.mor⟩
  · have h := F.map
    unfold mapOf at h ⊢
    by_cases hm : c.more = -1
    · rw [if_pos hm] at h ⊢; exact h
    · obtain ⟨k0, k1, ko⟩ := hown c.more (usedL_mem.2 ⟨.inl rfl, hm⟩)
      have e : moreL g c.more = moreL now c.more := (key _ k0 k1 ko).2
      rw [e]; exact h
  · rw [F.wk.own k h0 h1]
    exact ⟨fun h => (key k h0 h1 h).1, back k h0 h1⟩
  · rw [F.wk.fb_keep (fun k hk h0 h1 => ?_) p hp, F.by_ p hp]
    exact (key k h0 h1 (hown k (usedL_mem.2 ⟨.inr hk, by omega⟩)).2.2).2

end Go.Proofs.YtkjkdnphikendaaGreatDoor
