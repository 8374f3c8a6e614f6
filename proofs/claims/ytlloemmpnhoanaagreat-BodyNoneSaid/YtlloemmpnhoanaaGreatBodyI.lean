/-
  Functions of package slices that the layers call.
-/
import Derived.Test.YtlloemmpnhoanaaGreatBodyH
set_option linter.all false
set_option maxRecDepth 100000
namespace Go.Proofs.YtlloemmpnhoanaaGreat
open Go Go.Eng

theorem allOne_ints : ∀ l : List Int, allOne (l.map fun x => Value.int .i64 x) = true
  | [] => rfl
  | x :: l => by simpa [allOne, oneV] using allOne_ints l

theorem growI_spec (n : Nat) (hn : n ≤ 1000000) (h : Heap) : CallH Tryz.prog 73 [.slice none 0 0, .int .i64 (n : Int)] h (fun v h' => Keeps [] h h' ∧ ∃ a c, v = .slice a 0 c ∧ Own h' 3 1 a 0 c [] ∧ ∀ b ∈ blkA a, h.size ≤ b) := by
  have e1 : IntKind.i64.wrap ((n : Int) - IntKind.i64.wrap (((0 : Nat) : Int) - ((0 : Nat) : Int))) = (n : Int) := by
    rw [wrapN (x := ((0 : Nat) : Int) - ((0 : Nat) : Int)) (n := 0) (by simp) (by omega), wrapN (n := n) (by simp) (by omega)]
  refine call_of hmix Tryz.func73 rfl ok73 (by simp [Tryz.f73]) ?_
  conv => whnf
  refine MeetR.pass ?_
  conv => whnf
  refine IfR.f (by simp) ?_
  conv => whnf
  refine MeetR.pass ?_
  conv => whnf
  rw [e1]
  refine IfR.i (fun hc => ?_) (fun hc => ?_)
  · have hp : 0 < n := by simp at hc; omega
    conv => whnf
    refine SliceR.i 0 0 rfl rfl (Nat.le_refl _) (Nat.zero_le _) ?_
    conv => whnf
    rw [slA_zero]
    refine SemR.appendMake (by_ := 8) rfl rfl rfl rfl rfl rfl rfl hp (by omega) (by decide) fun b c h1 e1 s1 o1 hc k1 => ?_
    conv => whnf
    refine SliceR.i 0 0 rfl rfl (Nat.le_refl _) (Nat.zero_le _) ?_
    conv => whnf
    refine ⟨k1, some ⟨b, 0, none⟩, c, ?_, .inr ⟨b, _, rfl, o1, rfl, by simp, rfl, Nat.zero_le _⟩, by simp [blkA]; omega⟩
    rw [slA_zero]; rfl
  · conv => whnf
    exact ⟨Keeps.refl _ _, none, 0, rfl, .inl ⟨rfl, rfl, rfl, rfl⟩, by simp [blkA]⟩

theorem reps_ints (h : Heap) (xs : List Int) (hx : ∀ x ∈ xs, inI64 x) : Reps h (xs.map fun x => Value.int .i64 x) xs := by
  induction xs with
  | nil => rfl
  | cons x l ih => exact ⟨[.int .i64 x], _, rfl, ⟨rfl, hx x (by simp)⟩, ih (fun y hy => hx y (by simp [hy]))⟩

/-- one behind the other -/
theorem concat_spec {h : Heap} {a : Option Addr} {n c : Nat} {xss : List (List Int)} (S : Sl h a n c xss) (hx : ∀ xs ∈ xss, ∀ x ∈ xs, inI64 x) (hb : xss.flatten.length ≤ 1000) (hn : n ≤ 1000) : CallH Tryz.prog 50 [.slice a n c] h
    (fun v h' => Keeps [] h h' ∧ ∃ a' c', v = .slice a' xss.flatten.length c' ∧ Own h' 3 1 a' xss.flatten.length c' (xss.flatten.map fun x => .int .i64 x) ∧ ∀ b ∈ blkA a', h.size ≤ b) := by
  have hl := S.hlen
  have flen : ∀ i (hi : i < xss.length), (xss.take (i + 1)).flatten = (xss.take i).flatten ++ xss[i] := by
    intro i hi
    rw [List.take_succ_eq_append_getElem hi, List.flatten_append]; simp
  have fle : ∀ i, (xss.take i).flatten.length ≤ xss.flatten.length := by
    intro i
    have : xss.flatten = (xss.take i).flatten ++ (xss.drop i).flatten := by rw [← List.flatten_append, List.take_append_drop]
    rw [this, List.length_append]; omega
  refine call_of hmix Tryz.func50 rfl ok50 (by simp [Tryz.f50]) ?_
  conv => whnf
  refine LoopR.on [0, 3, 9, 10, 11] [] (fun i : Nat => [(0, .v (.slice a n c)), (3, .v (.int .i64 ((xss.take i).flatten.length : Int))), (9, .v (.slice a n c)), (10, .v (.int .i64 (n : Int))), (11, .v (.int .i64 (i : Int)))]) (fun _ => [])
    (fun i h' => i ≤ n ∧ h' = h) (fun i => n - i) 0 ?_ ?_
  · conv => whnf
    exact ⟨0, rfl, rfl, rfl, Nat.zero_le _, rfl⟩
  · rintro i h2 ⟨hi, rfl⟩
    conv => whnf
    refine IfR.i (fun hc => ?_) (fun hc => ?_)
    · have hi1 : i < xss.length := by simp at hc; omega
      obtain ⟨b, off, hb', cs, ⟨xa, xn, xc, rfl, SX⟩, hcell⟩ := S.at_ i hi1
      conv => whnf
      first | refine IdxS.i i rfl (by omega) hb' ?_ | (refine MeetR.pass ?_; (conv => whnf); refine IdxS.i i rfl (by omega) hb' ?_)
      conv => whnf
      refine LoadR.i (hcell 0 (by simp)) ?_
      have f1 := flen i hi1
      have f2 := fle (i + 1)
      have f3 : (xss.take (i + 1)).flatten.length = (xss.take i).flatten.length + xn := by rw [f1, List.length_append, SX.hlen]
      conv => whnf
      rw [wrapN (n := (xss.take (i + 1)).flatten.length) (by rw [f3]; simp) (by omega)]
      refine IfR.f (by simp) ?_
      conv => whnf
      refine ⟨n - (i + 1), by omega, ?_⟩
      conv => whnf
      exact ⟨i + 1, rfl, by rw [wrapN (x := (i : Int) + 1) (n := i + 1) (by simp) (by omega)], rfl, by omega, rfl⟩
    · have hi1 : i = xss.length := by simp at hc; omega
      subst hi1
      conv => whnf
      rw [List.take_length]
      refine CallR.i (growI_spec xss.flatten.length (by omega) h2) fun v h3 k3 hv => ?_
      obtain ⟨a3, c3, rfl, O3, n3⟩ := hv
      conv => whnf
      refine LoopR.on [6, 25, 26, 27] [] (fun q : Nat × Option Addr × Nat => [(6, .v (.slice q.2.1 (xss.take q.1).flatten.length q.2.2)), (25, .v (.slice a n c)), (26, .v (.int .i64 (n : Int))), (27, .v (.int .i64 (q.1 : Int)))]) (fun _ => [])
        (fun q h' => q.1 ≤ n ∧ Keeps [] h2 h' ∧ Own h' 3 1 q.2.1 (xss.take q.1).flatten.length q.2.2 ((xss.take q.1).flatten.map fun x => .int .i64 x) ∧ ∀ b ∈ blkA q.2.1, h2.size ≤ b) (fun q => n - q.1) (0, a3, c3) ?_ ?_
      · conv => whnf
        exact ⟨(0, a3, c3), rfl, rfl, rfl, Nat.zero_le _, k3, O3, n3⟩
      · rintro ⟨i, ai, ci⟩ h4 ⟨hi, k4, O4, n4⟩
        simp only at hi O4 n4
        conv => whnf
        refine IfR.i (fun hc => ?_) (fun hc => ?_)
        · have hi1 : i < xss.length := by simp at hc; omega
          obtain ⟨b, off, hb', cs, ⟨xa, xn, xc, rfl, SX⟩, hcell⟩ := S.at_ i hi1
          have hc4 := hcell.keep k4
          conv => whnf
          refine IdxS.i i rfl (by omega) hb' ?_
          conv => whnf
          refine LoadR.i (hc4 0 (by simp)) ?_
          have f1 := flen i hi1
          have f2 := fle (i + 1)
          have f3 : (xss.take (i + 1)).flatten.length = (xss.take i).flatten.length + xn := by rw [f1, List.length_append, SX.hlen]
          have SX4 := SX.keep k4
          have lenX := SX.hlen
          conv => whnf
          rcases Nat.eq_zero_or_pos xn with h0 | h0
          · subst h0
            have hx0 : xss[i] = [] := List.eq_nil_of_length_eq_zero lenX.symm
            have hcap : (xss.take i).flatten.length ≤ ci := by
              rcases O4 with ⟨rfl, h1, rfl, h2⟩ | ⟨b, c, _, _, _, _, _, h6⟩
              · omega
              · exact h6
            refine SemR.append0 rfl rfl rfl hcap ?_
            conv => whnf
            refine ⟨n - (i + 1), by omega, ?_⟩
            conv => whnf
            refine ⟨(i + 1, ai, ci), rfl, ?_, rfl, by simp only; omega, k4, ?_, n4⟩
            · have e : (xss.take (i + 1)).flatten.length = (xss.take i).flatten.length := by rw [f3, Nat.add_zero]
              simp only [e, Nat.add_zero]
              rw [wrapN (x := (i : Int) + 1) (n := i + 1) (by simp) (by omega)]
            · simp only
              rw [f1, hx0, List.append_nil]; exact O4
          · obtain ⟨xb, xo, rfl⟩ := SX.nonnil h0
            refine append_own (e := 3) (sz := 1) (by_ := 8) (new := xss[i].map fun x => .int .i64 x) rfl rfl rfl rfl rfl rfl rfl O4 (by simp [lenX]) (SX4.cells1) (allOne_ints _) (by omega) (by decide) (by simp [blocksOf]) ?_
            intro a5 c5 h5 O5 k5 n5
            conv => whnf
            refine ⟨n - (i + 1), by omega, ?_⟩
            conv => whnf
            refine ⟨(i + 1, a5, c5), rfl, ?_, rfl, by simp only; omega, k4.nil_of k5 n4, ?_, fun b hb => ?_⟩
            · simp only [f3]
              rw [wrapN (x := (i : Int) + 1) (n := i + 1) (by simp) (by omega)]
            · simp only
              rw [f1, List.length_append, ← lenX, List.map_append]; exact O5
            · rcases n5 b hb with h | h
              · exact n4 b h
              · have := k4.size; omega
        · have hi1 : i = xss.length := by simp at hc; omega
          subst hi1
          conv => whnf
          rw [List.take_length] at O4
          refine ⟨k4, ai, ci, ?_, O4, n4⟩
          rw [List.take_length]

theorem allOne_rep (n : Nat) (v : Value) (hv : oneV v = true) : allOne (List.replicate n v) = true := by
  induction n with
  | zero => rfl
  | succ n ih => rw [List.replicate_succ]; simp only [allOne, hv]; exact ih
theorem splice_drop {A N L : List Value} : spliceL A.length N (A ++ L) = A ++ spliceL 0 N L := by
  induction A with
  | nil => rfl
  | cons a A ih => simp only [List.length_cons, List.cons_append, spliceL, ih]

theorem repeatI_spec {h : Heap} {b : Nat} (o : h[b]? = some (.cells ⟨[.int .i64 (-1)]⟩ 3 (0, 0))) : CallH Tryz.prog 51 [.slice (some ⟨b, 0, none⟩) 1 1, .int .i64 16] h
    (fun v h' => Keeps [] h h' ∧ ∃ b', v = .slice (some ⟨b', 0, none⟩) 16 16 ∧ h'[b']? = some (.cells ⟨List.replicate 16 (.int .i64 (-1))⟩ 3 (0, 0)) ∧ h.size ≤ b') := by
  refine call_of hmix Tryz.func51 rfl ok51 (by simp [Tryz.f51]) ?_
  conv => whnf
  refine MeetR.pass ?_
  conv => whnf
  refine IfR.f rfl ?_
  conv => whnf
  refine CallR.i (mul_spec 16 (.inl rfl) h) fun v h1 k1 hv => ?_
  subst hv
  conv => whnf
  first | refine IfR.f rfl ?_ | (refine MeetR.pass ?_; (conv => whnf); refine IfR.f rfl ?_)
  conv => whnf
  refine SemR.make (n := 16) rfl rfl rfl rfl rfl (by decide) (by decide) fun b2 h2 e2 s2 o2 k2 => ?_
  have ob := (k1.trans k2).obj o (by simp)
  have hbl : b < h.size := obj_lt o
  have z1 := k1.size
  conv => whnf
  refine SemR.copy (sz := 1) (new := [.int .i64 (-1)]) rfl rfl rfl o2 rfl (fun j hj => by simp only [Heap.cell?, ob]; simp) rfl (by decide) (by simp [blocksOf]) fun h3 s3 o3 k3 => ?_
  conv => whnf
  refine LoopR.on [7, 8] [] (fun j : Nat => [(7, .v (.slice (some ⟨b2, 0, none⟩) 16 16)), (8, .v (.int .i64 ((2 ^ j : Nat) : Int)))]) (fun _ => [])
    (fun j h' => j ≤ 4 ∧ Keeps [] h h' ∧ h'[b2]? = some (.cells ⟨List.replicate (2 ^ j) (.int .i64 (-1)) ++ List.replicate (16 - 2 ^ j) (.int .i64 0)⟩ 3 (0, 0))) (fun j => 4 - j) 0 ?_ ?_
  · conv => whnf
    exact ⟨0, rfl, rfl, rfl, by decide, (k1.trans k2).new1 k3 (by omega), o3⟩
  · rintro j h4 ⟨hj, k4, o4⟩
    have hp : 2 ^ j ≤ 16 := by
      have : 2 ^ j ≤ 2 ^ 4 := Nat.pow_le_pow_right (by decide) hj
      simpa using this
    generalize hq : 2 ^ j = q at *
    conv => whnf
    refine IfR.i (fun hc => ?_) (fun hc => ?_)
    · have hj1 : j < 4 := by
        rcases Nat.lt_or_ge j 4 with h | h
        · exact h
        · have : j = 4 := by omega
          subst this; subst hq; simp at hc
      have hp2 : 2 ^ (j + 1) ≤ 16 := by
        have : 2 ^ (j + 1) ≤ 2 ^ 4 := Nat.pow_le_pow_right (by decide) (by omega)
        simpa using this
      have hps : 2 ^ (j + 1) = q + q := by rw [Nat.pow_succ]; omega
      conv => whnf
      refine SliceR.i q 16 rfl rfl (by omega) (by omega) ?_
      conv => whnf
      refine SliceR.i 0 q rfl rfl (by omega) (by omega) ?_
      conv => whnf
      have hq0 : 0 < q := by rw [← hq]; exact Nat.pow_pos (by decide)
      have eA : ∀ s, slA (some ⟨b2, 0, none⟩) 16 q s = some ⟨b2, 0 + q * s, none⟩ := by
        intro s
        unfold slA
        rw [if_neg (by omega)]
        simp [addr_add]
      rw [slA_zero, eA]
      refine SemR.copy (sz := 1) (new := List.replicate q (.int .i64 (-1))) rfl rfl rfl o4 (by rw [List.length_replicate]; omega) (fun k hk => ?_) (allOne_rep q _ rfl) ?_ (by simp [blocksOf]) fun h5 s5 o5 k5 => ?_
      · have hk' : k < q := by simpa using hk
        simp only [Heap.cell?, o4]
        simp [hk', List.getElem?_append]
      · show 0 + q * 1 + _ ≤ _
        simp only [List.length_append, List.length_replicate]; omega
      conv => whnf
      refine ⟨4 - (j + 1), by omega, ?_⟩
      conv => whnf
      have em : min (q - 0) (16 - q) = q := by omega
      refine ⟨j + 1, rfl, ?_, rfl, by omega, k4.new1 k5 (by omega), ?_⟩
      · rw [em, hps, wrapN (n := q + q) (by simp) (by omega)]
      · have e5 : spliceL (0 + q * 1) (List.replicate q (Value.int .i64 (-1))) (List.replicate q (Value.int .i64 (-1)) ++ List.replicate (16 - q) (Value.int .i64 0)) = List.replicate (2 ^ (j + 1)) (Value.int .i64 (-1)) ++ List.replicate (16 - 2 ^ (j + 1)) (Value.int .i64 0) := by
          have e6 : List.replicate (16 - q) (Value.int .i64 0) = List.replicate (List.replicate q (Value.int .i64 (-1))).length (Value.int .i64 0) ++ List.replicate (16 - 2 ^ (j + 1)) (Value.int .i64 0) := by
            rw [List.length_replicate, List.replicate_append_replicate]
            congr 1; omega
          rw [e6, show 0 + q * 1 = (List.replicate q (Value.int .i64 (-1))).length by rw [List.length_replicate]; omega, splice_drop, splice_head, ← List.append_assoc, List.replicate_append_replicate, hps]
        rw [← e5]; exact o5
    · have hj1 : j = 4 := by
        rcases Nat.lt_or_ge j 4 with h | h
        · have : 2 ^ j < 2 ^ 4 := Nat.pow_lt_pow_right (by decide) h
          have h2 : (q : Int) < 16 := by
            have : 2 ^ j < 16 := by simpa using this
            omega
          simp at hc; omega
        · omega
      subst hj1
      have hq' : q = 16 := by rw [← hq]
      subst hq'
      conv => whnf
      exact ⟨k4, b2, rfl, o4, by omega⟩

def usedB (n : Int) : Bool := decide (n ≠ -1)
def oddB (n : Int) : Bool := decide (n < -1) || decide (96 ≤ n)

theorem used_spec (n : Int) (h : Heap) : CallH Tryz.prog 40 [.int .i64 n] h (fun v h' => Keeps [] h h' ∧ v = .bool (usedB n)) := by
  refine call_of hmix Tryz.func40 rfl ok40 (by simp [Tryz.f40]) ?_
  conv => whnf
  refine ⟨Keeps.refl _ _, ?_⟩
  congr 1
  rw [Bool.eq_iff_iff]; simp [usedB]
theorem odd_spec (n : Int) (h : Heap) : CallH Tryz.prog 68 [.int .i64 n] h (fun v h' => Keeps [] h h' ∧ v = .bool (oddB n)) := by
  refine call_of hmix Tryz.func68 rfl ok68 (by simp [Tryz.f68]) ?_
  conv => whnf
  refine ⟨Keeps.refl _ _, ?_⟩
  congr 1

/-- the first that is so -/
def idxF (p : Int → Bool) : List Int → Nat → Int
  | [], _ => -1
  | x :: l, i => if p x then (i : Int) else idxF p l (i + 1)
theorem idxF_any (p : Int → Bool) : ∀ (l : List Int) (i : Nat), decide (0 ≤ idxF p l i) = l.any p
  | [], i => rfl
  | x :: l, i => by
    simp only [idxF, List.any_cons]
    split
    · rename_i hp; rw [hp]; simp
    · rename_i hp
      rw [idxF_any p l (i + 1)]
      simp [hp]

theorem indexFunc_used (p : Int → Bool) (hcall : ∀ (x : Int) (h : Heap), CallH Tryz.prog 40 [.int .i64 x] h (fun v h' => Keeps [] h h' ∧ v = .bool (p x))) {h : Heap} {a : Option Addr} {n c : Nat} {xs : List Int} (S : Sl h a n c xs) (hn : n ≤ 1000000000) :
    CallH Tryz.prog 77 [.slice a n c, .func (.func 40) #[] #[]] h (fun v h' => Keeps [] h h' ∧ v = .int .i64 (idxF p xs 0)) := by
  have hl := S.hlen
  refine call_of hmix Tryz.func77 rfl ok77 (by simp [Tryz.f77]) ?_
  conv => whnf
  refine LoopR.on [0, 1, 7, 8] [] (fun i : Nat => [(0, .v (.slice a n c)), (1, .v (.func (.func 40) #[] #[])), (7, .v (.int .i64 (n : Int))), (8, .v (.int .i64 (i : Int)))]) (fun _ => [])
    (fun i h' => i ≤ n ∧ Keeps [] h h' ∧ idxF p xs 0 = idxF p (xs.drop i) i) (fun i => n - i) 0 ?_ ?_
  · conv => whnf
    exact ⟨0, rfl, rfl, rfl, Nat.zero_le _, Keeps.refl _ _, rfl⟩
  · rintro i h2 ⟨hi, k2, hI⟩
    conv => whnf
    refine IfR.i (fun hc => ?_) (fun hc => ?_)
    · have hi1 : i < xs.length := by simp at hc; omega
      obtain ⟨b, off, hb, _, hcell⟩ := (S.keep k2).at1 i hi1
      rw [List.drop_eq_getElem_cons hi1] at hI
      simp only [idxF] at hI
      conv => whnf
      refine IdxS.i i rfl (by omega) hb ?_
      conv => whnf
      refine LoadR.i hcell ?_
      conv => whnf
      refine CallR.i (hcall xs[i] h2) fun v h3 k3 hv => ?_
      subst hv
      conv => whnf
      refine IfR.i (fun hd => ?_) (fun hd => ?_)
      · conv => whnf
        rw [if_pos (by simpa using hd)] at hI
        exact ⟨k2.trans k3, by rw [hI]⟩
      · rw [if_neg (by simpa using hd)] at hI
        conv => whnf
        refine ⟨n - (i + 1), by omega, ?_⟩
        conv => whnf
        exact ⟨i + 1, rfl, by rw [wrapN (n := i + 1) (by simp) (by omega)], rfl, by omega, k2.trans k3, hI⟩
    · have hi1 : i = xs.length := by simp at hc; omega
      conv => whnf
      refine ⟨k2, ?_⟩
      rw [hI, hi1, List.drop_length]; rfl

theorem indexFunc_odd (p : Int → Bool) (hcall : ∀ (x : Int) (h : Heap), CallH Tryz.prog 68 [.int .i64 x] h (fun v h' => Keeps [] h h' ∧ v = .bool (p x))) {h : Heap} {a : Option Addr} {n c : Nat} {xs : List Int} (S : Sl h a n c xs) (hn : n ≤ 1000000000) :
    CallH Tryz.prog 77 [.slice a n c, .func (.func 68) #[] #[]] h (fun v h' => Keeps [] h h' ∧ v = .int .i64 (idxF p xs 0)) := by
  have hl := S.hlen
  refine call_of hmix Tryz.func77 rfl ok77 (by simp [Tryz.f77]) ?_
  conv => whnf
  refine LoopR.on [0, 1, 7, 8] [] (fun i : Nat => [(0, .v (.slice a n c)), (1, .v (.func (.func 68) #[] #[])), (7, .v (.int .i64 (n : Int))), (8, .v (.int .i64 (i : Int)))]) (fun _ => [])
    (fun i h' => i ≤ n ∧ Keeps [] h h' ∧ idxF p xs 0 = idxF p (xs.drop i) i) (fun i => n - i) 0 ?_ ?_
  · conv => whnf
    exact ⟨0, rfl, rfl, rfl, Nat.zero_le _, Keeps.refl _ _, rfl⟩
  · rintro i h2 ⟨hi, k2, hI⟩
    conv => whnf
    refine IfR.i (fun hc => ?_) (fun hc => ?_)
    · have hi1 : i < xs.length := by simp at hc; omega
      obtain ⟨b, off, hb, _, hcell⟩ := (S.keep k2).at1 i hi1
      rw [List.drop_eq_getElem_cons hi1] at hI
      simp only [idxF] at hI
      conv => whnf
      refine IdxS.i i rfl (by omega) hb ?_
      conv => whnf
      refine LoadR.i hcell ?_
      conv => whnf
      refine CallR.i (hcall xs[i] h2) fun v h3 k3 hv => ?_
      subst hv
      conv => whnf
      refine IfR.i (fun hd => ?_) (fun hd => ?_)
      · conv => whnf
        rw [if_pos (by simpa using hd)] at hI
        exact ⟨k2.trans k3, by rw [hI]⟩
      · rw [if_neg (by simpa using hd)] at hI
        conv => whnf
        refine ⟨n - (i + 1), by omega, ?_⟩
        conv => whnf
        exact ⟨i + 1, rfl, by rw [wrapN (n := i + 1) (by simp) (by omega)], rfl, by omega, k2.trans k3, hI⟩
    · have hi1 : i = xs.length := by simp at hc; omega
      conv => whnf
      refine ⟨k2, ?_⟩
      rw [hI, hi1, List.drop_length]; rfl

theorem indexFunc_spec (f : Nat) (p : Int → Bool) (hf : (f = 40 ∧ p = usedB) ∨ (f = 68 ∧ p = oddB)) {h : Heap} {a : Option Addr} {n c : Nat} {xs : List Int} (S : Sl h a n c xs) (hn : n ≤ 1000000000) :
    CallH Tryz.prog 77 [.slice a n c, .func (.func f) #[] #[]] h (fun v h' => Keeps [] h h' ∧ v = .int .i64 (idxF p xs 0)) := by
  rcases hf with ⟨rfl, rfl⟩ | ⟨rfl, rfl⟩
  · exact indexFunc_used usedB used_spec S hn
  · exact indexFunc_odd oddB odd_spec S hn

theorem containsFunc_spec (f : Nat) (p : Int → Bool) (hf : (f = 40 ∧ p = usedB) ∨ (f = 68 ∧ p = oddB)) {h : Heap} {a : Option Addr} {n c : Nat} {xs : List Int} (S : Sl h a n c xs) (hn : n ≤ 1000000000) :
    CallH Tryz.prog 53 [.slice a n c, .func (.func f) #[] #[]] h (fun v h' => Keeps [] h h' ∧ v = .bool (xs.any p)) := by
  refine call_of hmix Tryz.func53 rfl ok53 (by simp [Tryz.f53]) ?_
  conv => whnf
  refine CallR.i (indexFunc_spec f p hf S hn) fun v h1 k1 hv => ?_
  subst hv
  conv => whnf
  refine ⟨k1, ?_⟩
  rw [← idxF_any p xs 0]
end Go.Proofs.YtlloemmpnhoanaaGreat
