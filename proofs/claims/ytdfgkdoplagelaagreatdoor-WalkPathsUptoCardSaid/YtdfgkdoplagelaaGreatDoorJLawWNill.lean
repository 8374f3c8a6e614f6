/-
  Joined texts: NamC, NamD, WalC, WalH, WalI, PthA, WldA.
-/
import Derived.Test.YtdfgkdoplagelaaGreatDoorJLawWNilk
import Derived.Test.YtdfgkdoplagelaaGreatDoorJLawWNilj
import Derived.Test.YtdfgkdoplagelaaGreatDoorJLawWNili
/-
  Layer 4: the path of names; a path without its last name.
-/
set_option linter.all false
set_option maxRecDepth 100000
set_option maxHeartbeats 1000000
namespace Go.Proofs.YtdfgkdoplagelaaGreatDoor
open Go Go.Eng

theorem joinS_app (a b : List (List UInt8)) : joinS (a ++ b) = joinS a ++ joinS b := by simp [joinS]
theorem joinS_cons (x : List UInt8) (r : List (List UInt8)) : joinS (x :: r) = 47 :: (x ++ joinS r) := by simp [joinS]
theorem joinS_le {x : List UInt8} {l : List (List UInt8)} (h : x ∈ l) : x.length ≤ (joinS l).length := by
  induction l with
  | nil => cases h
  | cons y r ih =>
    rw [joinS_cons]
    simp only [List.length_cons, List.length_append]
    rcases List.mem_cons.1 h with rfl | h
    · omega
    · have := ih h; omega
theorem joinS_take (l : List (List UInt8)) (i : Nat) : (joinS (l.take i)).length ≤ (joinS l).length := by
  have : joinS l = joinS (l.take i) ++ joinS (l.drop i) := by rw [← joinS_app, List.take_append_drop]
  rw [this]; simp

theorem strJoin_spec {h : Heap} {a : Option Addr} {n c : Nat} {l : List (List UInt8)} (S : Sl h a n c (bas l)) (hb : (joinS l).length ≤ 10000) : CallH Tryz.prog 87 [.slice a n c, .string ⟨#[47]⟩] h (fun v h' => Keeps [] h h' ∧ v = .string (ba ((joinS l).drop 1))) := by
  have hl := S.hlen
  rw [bas_len] at hl
  have hn : n ≤ 10000 := by
    have : l.length ≤ (joinS l).length := by
      clear S hl hb
      induction l with
      | nil => simp
      | cons x r ih => rw [joinS_cons]; simp only [List.length_cons, List.length_append]; omega
    omega
  refine call_of hmix Tryz.func87 rfl ok87 (by simp [Tryz.f87]) ?_
  conv => whnf
  refine IfR.i (fun hc => ?_) (fun hc => ?_)
  · conv => whnf
    have h0 : l = [] := List.eq_nil_of_length_eq_zero (by simp at hc; omega)
    subst h0
    exact ⟨Keeps.refl _ _, rfl⟩
  · conv => whnf
    first | refine IfR.i (fun hd => ?_) (fun hd => ?_) | (refine MeetR.pass ?_; (conv => whnf); refine IfR.i (fun hd => ?_) (fun hd => ?_))
    · obtain ⟨x, rfl⟩ : ∃ x, l = [x] := by
        have : l.length = 1 := by simp at hd; omega
        match l, this with
        | [x], _ => exact ⟨x, rfl⟩
      obtain ⟨b, off, hb', _, hcell⟩ := S.at1 0 (by simp [bas])
      conv => whnf
      refine IdxS.i 0 rfl (by simp at hd; omega) hb' ?_
      conv => whnf
      refine LoadR.i hcell ?_
      conv => whnf
      refine ⟨Keeps.refl _ _, ?_⟩
      simp [bas, joinS, One.val]
    · have h2 : 2 ≤ l.length := by
        simp at hc hd; omega
      conv => whnf
      first | refine IfR.t rfl ?_ | (refine MeetR.pass ?_; (conv => whnf); refine IfR.t rfl ?_)
      have e1 : IntKind.i64.wrap ((n : Int) - 1) = ((n - 1 : Nat) : Int) := wrapN (by omega) (by omega)
      have hq : 922337203685477 ≤ IntKind.i64.wrap ((9223372036854775807 : Int).tdiv ((n - 1 : Nat) : Int)) := by
        have h3 : (9223372036854775807 : Int).tdiv ((n - 1 : Nat) : Int) = ((9223372036854775807 / (n - 1) : Nat) : Int) := rfl
        have h4 : 9223372036854775807 / 10000 ≤ 9223372036854775807 / (n - 1) := Nat.div_le_div_left (by omega) (by omega)
        have h5 : 9223372036854775807 / (n - 1) ≤ 9223372036854775807 := Nat.div_le_self _ _
        rw [h3, wrapI (by omega) (by omega)]
        have : 9223372036854775807 / 10000 = 922337203685477 := by decide
        omega
      conv => whnf
      refine MeetR.pass ?_
      conv => whnf
      rw [e1]
      refine Need.i (by omega) ?_
      conv => whnf
      refine IfR.f ?_ ?_
      · have h1 : (ByteArray.mk #[47]).size = 1 := rfl
        rw [h1]
        simp only [decide_eq_false_iff_not]
        omega
      have jl : ∀ i, i ≤ n → i ≤ (joinS (l.take i)).length := fun i hi => by
        have hgen : ∀ r : List (List UInt8), r.length ≤ (joinS r).length := fun r => by
          induction r with
          | nil => simp
          | cons x r ih => rw [joinS_cons]; simp only [List.length_cons, List.length_append]; omega
        have := hgen (l.take i)
        rw [List.length_take] at this
        omega
      have jb : ∀ i, (joinS (l.take i)).length ≤ 10000 := fun i => Nat.le_trans (joinS_take l i) hb
      have js : ∀ i (hi : i < l.length), (joinS (l.take (i + 1))).length = (joinS (l.take i)).length + (l[i].length + 1) := fun i hi => by
        rw [List.take_succ_eq_append_getElem hi, joinS_app, List.length_append, joinS_cons]
        simp [joinS]
      conv => whnf
      refine LoopR.on [0, 1, 5, 39, 40, 41] [] (fun i : Nat => [(0, .v (.slice a n c)), (1, .v (.string ⟨#[47]⟩)), (5, .v (.int .i64 ((n - 1 + (joinS (l.take i)).length - i : Nat) : Int))), (39, .v (.slice a n c)), (40, .v (.int .i64 (n : Int))), (41, .v (.int .i64 (i : Int)))]) (fun _ => [])
        (fun i h' => i ≤ n ∧ Keeps [] h h') (fun i => n - i) 0 ?_ ?_
      · conv => whnf
        refine ⟨0, rfl, ?_, rfl, Nat.zero_le _, Keeps.refl _ _⟩
        have h1 : (ByteArray.mk #[47]).size = 1 := rfl
        rw [h1, e1, wrapN (x := ((1 : Nat) : Int) * ((n - 1 : Nat) : Int)) (n := n - 1) (by omega) (by omega), wrapN (n := n - 1) (by omega) (by omega)]
        simp [joinS]
      · rintro i h3 ⟨hi, k3⟩
        conv => whnf
        refine IfR.i (fun hf => ?_) (fun hf => ?_)
        · have hi1 : i < l.length := by simp at hf; omega
          obtain ⟨b, off, hb', _, hcell⟩ := (S.keep k3).at1 i (by rw [bas_len]; exact hi1)
          have e : (bas l)[i]'(by rw [bas_len]; exact hi1) = ba l[i] := by simp [bas]
          rw [e] at hcell
          have hsz : (ba l[i]).size = l[i].length := bs_size _
          have j1 := jl i (by omega)
          have j2 := jb (i + 1)
          have j3 := js i hi1
          conv => whnf
          refine IdxS.i i rfl (by omega) hb' ?_
          conv => whnf
          refine LoadR.i hcell ?_
          conv => whnf
          first | refine IfR.f ?_ ?_ | (refine MeetR.pass ?_; (conv => whnf); refine IfR.f ?_ ?_)
          · rw [wrapI (by omega) (by omega), hsz]
            simp only [decide_eq_false_iff_not]
            omega
          conv => whnf
          refine ⟨n - (i + 1), by omega, ?_⟩
          conv => whnf
          refine ⟨i + 1, rfl, ?_, rfl, by omega, k3⟩
          rw [hsz, wrapN (x := (i : Int) + 1) (n := i + 1) (by simp) (by omega), wrapN (n := n - 1 + (joinS (l.take (i + 1))).length - (i + 1)) (by omega) (by omega)]
        · have hi1 : i = n := by simp at hf; omega
          subst hi1
          have hlt : l.take i = l := by rw [hl]; exact List.take_length
          rw [hlt]
          have jn := jl i (Nat.le_refl _)
          rw [hlt] at jn
          generalize hN : i - 1 + (joinS l).length - i = N
          have hN1 : (joinS l).length = N + 1 := by omega
          conv => whnf
          refine AllocR.i fun b4 h4 e4 s4 o4 k4 => ?_
          have B4 : Bld h4 b4 none none 0 0 [] := ⟨o4, .inl ⟨rfl, rfl, rfl, rfl⟩, by simp [blkA], .inl rfl⟩
          conv => whnf
          refine CallR.m (Grow_spec B4 N (by omega) (by omega)) (by simp [blocksOf]) fun v h5 k5 hv => ?_
          obtain ⟨g, cg, B5, hcg, hg⟩ := hv
          have k05 : Keeps [] h h5 := (k3.trans k4).nil_of k5 (by simp; have := k3.size; omega)
          obtain ⟨x, r, rfl⟩ : ∃ x r, l = x :: r := by
            match l, h2 with
            | x :: r, _ => exact ⟨x, r, rfl⟩
          obtain ⟨b, off, hb', _, hcell⟩ := (S.keep k05).at1 0 (by simp [bas])
          have ex : (bas (x :: r))[0]'(by simp [bas]) = ba x := by simp [bas]
          rw [ex] at hcell
          have hsz : (ba x).size = x.length := bs_size _
          rw [joinS_cons] at hN1 hb
          simp only [List.length_cons, List.length_append] at hN1 hb hl
          conv => whnf
          refine IdxS.i 0 rfl (by omega) hb' ?_
          conv => whnf
          refine LoadR.i hcell ?_
          conv => whnf
          refine CallR.m (writeString_spec B5 (ba x) (by rw [hsz]; omega)) (by simp [blocksOf]) fun v h6 k6 hv => ?_
          obtain ⟨rfl, a6, c6, B6, n6, q6⟩ := hv
          obtain ⟨rfl, rfl⟩ := q6 (by rw [hsz]; omega)
          have z3 := k3.size
          have z4 := k4.size
          have z5 := k5.size
          have k06 : Keeps [] h h6 := k05.nil_of k6 (fun y hy => by simp [blkA] at hy; omega)
          rw [hsz, ba_list, Nat.zero_add, List.nil_append] at B6
          conv => whnf
          refine SliceR.i 1 i rfl rfl (by omega) S.hcap ?_
          have P := S.part (l := 1) (r := i) (by omega) (Nat.le_refl _)
          have hbr : ((bas (x :: r)).take i).drop 1 = bas r := by
            have : (bas (x :: r)).length = i := by rw [bas_len]; simp; omega
            rw [← this, List.take_length]; simp [bas]
          rw [hbr] at P
          conv => whnf
          have P1 : Sl h (slA a c 1 1) (i - 1) (c - 1) (bas r) := P
          clear P
          have rb : ∀ j, (joinS (r.take j)).length ≤ (joinS r).length := fun j => joinS_take r j
          refine LoopR.on [1, 8, 63, 64, 65] [] (fun j : Nat => [(1, .v (.string ⟨#[47]⟩)), (8, .v (.pointer (some ⟨b4, 0, none⟩))), (63, .v (.slice (slA a c 1 1) (i - 1) (c - 1))), (64, .v (.int .i64 ((i - 1 : Nat) : Int))), (65, .v (.int .i64 (j : Int)))]) (fun _ => [])
            (fun j h' => j ≤ i - 1 ∧ Keeps [] h h' ∧ Bld h' b4 (some ⟨b4, 0, none⟩) (some ⟨g, 0, none⟩) (x ++ joinS (r.take j)).length c6 (x ++ joinS (r.take j))) (fun j => i - j) 0 ?_ ?_
          · conv => whnf
            refine ⟨0, rfl, rfl, rfl, Nat.zero_le _, k06, ?_⟩
            have e : x ++ joinS (r.take 0) = x := by simp [joinS]
            rw [e]; exact B6
          · rintro j h7 ⟨hj, k7, B7⟩
            conv => whnf
            refine IfR.i (fun hf => ?_) (fun hf => ?_)
            · have hj1 : j < r.length := by simp at hf; omega
              obtain ⟨b, off, hb', _, hcell⟩ := (P1.keep k7).at1 j (by rw [bas_len]; exact hj1)
              have e : (bas r)[j]'(by rw [bas_len]; exact hj1) = ba r[j] := by simp [bas]
              rw [e] at hcell
              have hsj : (ba r[j]).size = r[j].length := bs_size _
              have jt : r.take (j + 1) = r.take j ++ [r[j]] := List.take_succ_eq_append_getElem hj1
              have j2 := rb (j + 1)
              rw [jt, joinS_app, joinS_cons] at j2
              have jz : joinS ([] : List (List UInt8)) = [] := rfl
              rw [jz] at j2
              simp only [List.length_append, List.length_cons, List.length_nil] at j2
              conv => whnf
              refine IdxS.i j rfl (by omega) hb' ?_
              conv => whnf
              refine LoadR.i hcell ?_
              conv => whnf
              refine CallR.m (writeString_spec B7 ⟨#[47]⟩ (by
                  have : (ByteArray.mk #[47]).size = 1 := rfl
                  rw [this, List.length_append]; omega)) (by simp [blocksOf]) fun v h8 k8 hv => ?_
              obtain ⟨rfl, a8, c8, B8, n8, q8⟩ := hv
              have s47 : (ByteArray.mk #[47]).size = 1 := rfl
              rw [s47] at B8 q8
              obtain ⟨rfl, rfl⟩ := q8 (by rw [List.length_append]; omega)
              conv => whnf
              refine CallR.m (writeString_spec B8 (ba r[j]) (by rw [hsj, List.length_append]; omega)) (by simp [blocksOf]) fun v h9 k9 hv => ?_
              obtain ⟨rfl, a9, c9, B9, n9, q9⟩ := hv
              rw [hsj] at B9 q9
              obtain ⟨rfl, rfl⟩ := q9 (by rw [List.length_append]; omega)
              rw [ba_list] at B9
              conv => whnf
              refine ⟨i - (j + 1), by omega, ?_⟩
              conv => whnf
              refine ⟨j + 1, rfl, by rw [wrapN (x := (j : Int) + 1) (n := j + 1) (by simp) (by omega)], rfl, by omega, (k7.nil_of k8 (fun y hy => by simp [blkA] at hy; omega)).nil_of k9 (fun y hy => by simp [blkA] at hy; omega), ?_⟩
              have e : x ++ joinS (r.take (j + 1)) = x ++ joinS (r.take j) ++ [47] ++ r[j] := by
                rw [jt, joinS_app, joinS_cons, jz]; simp
              have e2 : (x ++ joinS (r.take (j + 1))).length = (x ++ joinS (r.take j)).length + 1 + r[j].length := by rw [e]; simp only [List.length_append, List.length_cons, List.length_nil]
              rw [e2, e]
              exact B9
            · have hj1 : j = r.length := by simp at hf; omega
              subst hj1
              rw [List.take_length] at B7
              conv => whnf
              refine CallR.m (bstring_spec B7 (by rw [List.length_append]; omega)) (by simp [blocksOf]) fun v h9 k9 hv => ?_
              obtain ⟨rfl, B9⟩ := hv
              conv => whnf
              refine ⟨k7.nil_of k9 (fun y hy => by simp [blkA] at hy; omega), ?_⟩
              rw [joinS_cons]; rfl
end Go.Proofs.YtdfgkdoplagelaaGreatDoor
/-
  Layer 4: a path of names, a path without its last name, names behind a link's.
-/
set_option linter.all false
set_option maxRecDepth 100000
set_option maxHeartbeats 1000000
namespace Go.Proofs.YtdfgkdoplagelaaGreatDoor
open Go Go.Eng

def pathJ (l : List (List UInt8)) : List UInt8 := if l = [] then [47] else joinS l

theorem njoin_spec {h : Heap} {a : Option Addr} {n c : Nat} {l : List (List UInt8)} (S : Sl h a n c (bas l)) (hl : l.all nameB = true) (hb : (joinS l).length ≤ 120) : CallH Tryz.prog 47 [.slice a n c] h (fun v h' => Keeps [] h h' ∧ v = .tuple #[.string (ba (pathJ l)), .int .i64 0]) := by
  have hn := S.hlen
  rw [bas_len] at hn
  have hll : l.length ≤ 120 := by
    have := joinS_len (l := l) fun x hx => nameB_ne (List.all_eq_true.1 hl x hx)
    omega
  have hx : ∀ x ∈ l, x.length ≤ 140737488351232 := fun x hx => by have := joinS_le hx; omega
  refine call_of hmix Tryz.func47 rfl ok47 (by simp [Tryz.f47]) ?_
  conv => whnf
  refine CallR.i (strJoin_spec S (by omega)) fun v h1 k1 hv => ?_
  subst hv
  have e : (ByteArray.mk #[47]) ++ ba ((joinS l).drop 1) = ba (pathJ l) := by
    have e1 : (ByteArray.mk #[47]) ++ ba ((joinS l).drop 1) = ba (47 :: (joinS l).drop 1) := by
      apply ByteArray.ext
      rw [ByteArray.data_append]
      simp [ba]
    rw [e1]
    unfold pathJ
    cases l with
    | nil => rfl
    | cons x r => rw [if_neg (by simp), joinS_cons]; rfl
  have hp : (pathJ l).length ≤ 120 := by
    unfold pathJ
    split
    · simp
    · exact hb
  have hsz : (ByteArray.mk #[47]).size = 1 := rfl
  have hsb : (ba ((joinS l).drop 1)).size = ((joinS l).drop 1).length := bs_size _
  conv => whnf
  refine Need.i (by rw [hsz, hsb, List.length_drop]; omega) ?_
  conv => whnf
  rw [e]
  have hpz : (ba (pathJ l)).size = (pathJ l).length := bs_size _
  refine IfR.t (by simp; omega) ?_
  conv => whnf
  refine CallR.i (containsOdd_spec (S.keep k1) (by omega) hx) fun v h2 k2 hv => ?_
  subst hv
  rw [hl]
  conv => whnf
  refine IfR.f (by simp [bif_or]; omega) ?_
  conv => whnf
  exact ⟨k1.trans k2, rfl⟩

theorem parent_spec (l : List UInt8) (hl : l.length ≤ 140737488351232) (h : Heap) : CallH Tryz.prog 21 [.string (ba l)] h (fun v h' => Keeps [] h h' ∧ v = match pathP l with
    | none => .tuple #[.string ⟨#[]⟩, .string ⟨#[]⟩, .int .i64 3]
    | some m => if m = [] then .tuple #[.string ⟨#[]⟩, .string ⟨#[]⟩, .int .i64 1] else .tuple #[.string (ba (pathJ m.dropLast)), .string (ba (m.getLast?.getD [])), .int .i64 0]) := by
  refine call_of hmix Tryz.func21 rfl ok21 (by simp [Tryz.f21]) ?_
  conv => whnf
  refine CallR.i (nsplit_spec l hl h) fun v h1 k1 hv => ?_
  cases hp : pathP l with
  | none =>
    rw [hp] at hv
    have hv : v = .tuple #[.slice none 0 0, .int .i64 3] := hv
    subst hv
    conv => whnf
    refine IfR.t rfl ?_
    conv => whnf
    exact ⟨k1, rfl⟩
  | some m =>
    rw [hp] at hv
    obtain ⟨a, c, rfl, S, nb⟩ := hv
    obtain ⟨p1, p2, p3, p4⟩ := pathP_len hp
    have hm := S.hlen
    conv => whnf
    refine IfR.f rfl ?_
    conv => whnf
    refine IfR.i (fun hc => ?_) (fun hc => ?_)
    · conv => whnf
      have : m = [] := List.eq_nil_of_length_eq_zero (by simpa using hc)
      refine ⟨k1, ?_⟩
      simp only
      rw [if_pos this]
    · have hne : ¬ m = [] := by
        intro e
        rw [e] at hc; simp at hc
      have hpos : 0 < m.length := List.length_pos_iff.2 hne
      have e1 : IntKind.i64.wrap ((m.length : Int) - 1) = ((m.length - 1 : Nat) : Int) := wrapN (by omega) (by omega)
      conv => whnf
      rw [e1]
      refine SliceR.i 0 (m.length - 1) rfl rfl (Nat.zero_le _) (by have := S.hcap; omega) ?_
      have P := S.part (l := 0) (r := m.length - 1) (Nat.zero_le _) (by omega)
      rw [List.drop_zero, slA_zero] at P
      have hbt : (bas m).take (m.length - 1) = bas m.dropLast := by
        rw [List.dropLast_eq_take]; simp [bas]
      rw [hbt] at P
      have hall : m.dropLast.all nameB = true := List.all_eq_true.2 fun x hx => List.all_eq_true.1 p2 x (List.dropLast_subset _ hx)
      have hjl : (joinS m.dropLast).length ≤ 120 := by
        rw [List.dropLast_eq_take]
        have := joinS_take m (m.length - 1)
        rw [if_neg hne] at p4
        rw [p4] at this
        omega
      conv => whnf
      rw [slA_zero]
      refine CallR.i (njoin_spec P hall hjl) fun v h2 k2 hv => ?_
      subst hv
      obtain ⟨b, off, hb', _, hcell⟩ := (S.keep k2).at1 (m.length - 1) (by rw [bas_len]; omega)
      have e : (bas m)[m.length - 1]'(by rw [bas_len]; omega) = ba (m.getLast?.getD []) := by
        rw [List.getLast?_eq_getElem?, List.getElem?_eq_getElem (by omega)]; simp [bas]
      rw [e] at hcell
      conv => whnf
      refine IdxS.i (m.length - 1) rfl (by omega) hb' ?_
      conv => whnf
      refine LoadR.i hcell ?_
      conv => whnf
      refine ⟨k1.trans k2, ?_⟩
      simp only
      rw [if_neg hne]; rfl

/-! ### Names behind a link's -/

theorem growS_spec (n : Nat) (hn : n ≤ 1000000) (h : Heap) : CallH Tryz.prog 129 [.slice none 0 0, .int .i64 (n : Int)] h (fun v h' => Keeps [] h h' ∧ ∃ a c, v = .slice a 0 c ∧ Own h' 9 1 a 0 c [] ∧ ∀ b ∈ blkA a, h.size ≤ b) := by
  have e1 : IntKind.i64.wrap ((n : Int) - IntKind.i64.wrap (((0 : Nat) : Int) - ((0 : Nat) : Int))) = (n : Int) := by
    rw [wrapN (x := ((0 : Nat) : Int) - ((0 : Nat) : Int)) (n := 0) (by simp) (by omega), wrapN (n := n) (by simp) (by omega)]
  refine call_of hmix Tryz.func129 rfl ok129 (by simp [Tryz.f129]) ?_
  conv => whnf
  refine MeetR.pass ?_
  conv => whnf
  refine IfR.f (by simp) ?_
  conv => whnf
  refine MeetR.pass ?_
  conv => whnf
  rw [e1]
  refine IfR.i (fun hc => ?_) (fun hc => ?_)
  · have hp : 0 < n := by simp at hc; omega
    conv => whnf
    refine SliceR.i 0 0 rfl rfl (Nat.le_refl _) (Nat.zero_le _) ?_
    conv => whnf
    rw [slA_zero]
    refine SemR.appendMake (by_ := 16) rfl rfl rfl rfl rfl rfl rfl hp (by omega) (by decide) fun b c h1 e1 s1 o1 hc k1 => ?_
    conv => whnf
    refine SliceR.i 0 0 rfl rfl (Nat.le_refl _) (Nat.zero_le _) ?_
    conv => whnf
    refine ⟨k1, some ⟨b, 0, none⟩, c, ?_, .inr ⟨b, _, rfl, o1, rfl, by simp, rfl, Nat.zero_le _⟩, by simp [blkA]; omega⟩
    rw [slA_zero]; rfl
  · conv => whnf
    exact ⟨Keeps.refl _ _, none, 0, rfl, .inl ⟨rfl, rfl, rfl, rfl⟩, by simp [blkA]⟩

theorem allOne_strs : ∀ l : List ByteArray, allOne (l.map fun x => Value.string x) = true
  | [] => rfl
  | x :: l => by simpa [allOne, oneV] using allOne_strs l

theorem concatS_spec {h : Heap} {a : Option Addr} {n c : Nat} {xss : List (List ByteArray)} (S : Sl h a n c xss) (hb : xss.flatten.length ≤ 1000) (hn : n ≤ 1000) : CallH Tryz.prog 86 [.slice a n c] h
    (fun v h' => Keeps [] h h' ∧ ∃ a' c', v = .slice a' xss.flatten.length c' ∧ Own h' 9 1 a' xss.flatten.length c' (xss.flatten.map fun x => .string x) ∧ ∀ b ∈ blkA a', h.size ≤ b) := by
  have hl := S.hlen
  have flen : ∀ i (hi : i < xss.length), (xss.take (i + 1)).flatten = (xss.take i).flatten ++ xss[i] := by
    intro i hi
    rw [List.take_succ_eq_append_getElem hi, List.flatten_append]; simp
  have fle : ∀ i, (xss.take i).flatten.length ≤ xss.flatten.length := by
    intro i
    have : xss.flatten = (xss.take i).flatten ++ (xss.drop i).flatten := by rw [← List.flatten_append, List.take_append_drop]
    rw [this, List.length_append]; omega
  refine call_of hmix Tryz.func86 rfl ok86 (by simp [Tryz.f86]) ?_
  conv => whnf
  refine LoopR.on [0, 3, 9, 10, 11] [] (fun i : Nat => [(0, .v (.slice a n c)), (3, .v (.int .i64 ((xss.take i).flatten.length : Int))), (9, .v (.slice a n c)), (10, .v (.int .i64 (n : Int))), (11, .v (.int .i64 (i : Int)))]) (fun _ => [])
    (fun i h' => i ≤ n ∧ h' = h) (fun i => n - i) 0 ?_ ?_
  · conv => whnf
    exact ⟨0, rfl, rfl, rfl, Nat.zero_le _, rfl⟩
  · rintro i h2 ⟨hi, rfl⟩
    conv => whnf
    refine IfR.i (fun hc => ?_) (fun hc => ?_)
    · have hi1 : i < xss.length := by simp at hc; omega
      obtain ⟨b, off, hb', cs, ⟨xa, xn, xc, rfl, SX⟩, hcell⟩ := S.at_ i hi1
      conv => whnf
      first | refine IdxS.i i rfl (by omega) hb' ?_ | (refine MeetR.pass ?_; (conv => whnf); refine IdxS.i i rfl (by omega) hb' ?_)
      conv => whnf
      refine LoadR.i (hcell 0 (by simp)) ?_
      have f1 := flen i hi1
      have f2 := fle (i + 1)
      have f3 : (xss.take (i + 1)).flatten.length = (xss.take i).flatten.length + xn := by rw [f1, List.length_append, SX.hlen]
      conv => whnf
      rw [wrapN (n := (xss.take (i + 1)).flatten.length) (by rw [f3]; simp) (by omega)]
      refine IfR.f (by simp) ?_
      conv => whnf
      refine ⟨n - (i + 1), by omega, ?_⟩
      conv => whnf
      exact ⟨i + 1, rfl, by rw [wrapN (x := (i : Int) + 1) (n := i + 1) (by simp) (by omega)], rfl, by omega, rfl⟩
    · have hi1 : i = xss.length := by simp at hc; omega
      subst hi1
      conv => whnf
      rw [List.take_length]
      refine CallR.i (growS_spec xss.flatten.length (by omega) h2) fun v h3 k3 hv => ?_
      obtain ⟨a3, c3, rfl, O3, n3⟩ := hv
      conv => whnf
      refine LoopR.on [6, 25, 26, 27] [] (fun q : Nat × Option Addr × Nat => [(6, .v (.slice q.2.1 (xss.take q.1).flatten.length q.2.2)), (25, .v (.slice a n c)), (26, .v (.int .i64 (n : Int))), (27, .v (.int .i64 (q.1 : Int)))]) (fun _ => [])
        (fun q h' => q.1 ≤ n ∧ Keeps [] h2 h' ∧ Own h' 9 1 q.2.1 (xss.take q.1).flatten.length q.2.2 ((xss.take q.1).flatten.map fun x => .string x) ∧ ∀ b ∈ blkA q.2.1, h2.size ≤ b) (fun q => n - q.1) (0, a3, c3) ?_ ?_
      · conv => whnf
        exact ⟨(0, a3, c3), rfl, rfl, rfl, Nat.zero_le _, k3, O3, n3⟩
      · rintro ⟨i, ai, ci⟩ h4 ⟨hi, k4, O4, n4⟩
        simp only at hi O4 n4
        conv => whnf
        refine IfR.i (fun hc => ?_) (fun hc => ?_)
        · have hi1 : i < xss.length := by simp at hc; omega
          obtain ⟨b, off, hb', cs, ⟨xa, xn, xc, rfl, SX⟩, hcell⟩ := S.at_ i hi1
          have hc4 := hcell.keep k4
          conv => whnf
          refine IdxS.i i rfl (by omega) hb' ?_
          conv => whnf
          refine LoadR.i (hc4 0 (by simp)) ?_
          have f1 := flen i hi1
          have f2 := fle (i + 1)
          have f3 : (xss.take (i + 1)).flatten.length = (xss.take i).flatten.length + xn := by rw [f1, List.length_append, SX.hlen]
          have SX4 := SX.keep k4
          have lenX := SX.hlen
          conv => whnf
          rcases Nat.eq_zero_or_pos xn with h0 | h0
          · subst h0
            have hx0 : xss[i] = [] := List.eq_nil_of_length_eq_zero lenX.symm
            have hcap : (xss.take i).flatten.length ≤ ci := by
              rcases O4 with ⟨rfl, h1, rfl, h2⟩ | ⟨b, c, _, _, _, _, _, h6⟩
              · omega
              · exact h6
            refine SemR.append0 rfl rfl rfl hcap ?_
            conv => whnf
            refine ⟨n - (i + 1), by omega, ?_⟩
            conv => whnf
            refine ⟨(i + 1, ai, ci), rfl, ?_, rfl, by simp only; omega, k4, ?_, n4⟩
            · have e : (xss.take (i + 1)).flatten.length = (xss.take i).flatten.length := by rw [f3, Nat.add_zero]
              simp only [e, Nat.add_zero]
              rw [wrapN (x := (i : Int) + 1) (n := i + 1) (by simp) (by omega)]
            · simp only
              rw [f1, hx0, List.append_nil]; exact O4
          · obtain ⟨xb, xo, rfl⟩ := SX.nonnil h0
            refine append_own (e := 9) (sz := 1) (by_ := 16) (new := xss[i].map fun x => .string x) rfl rfl rfl rfl rfl rfl rfl O4 (by simp [lenX]) (SX4.cells1) (allOne_strs _) (by omega) (by decide) (by simp [blocksOf]) ?_
            intro a5 c5 h5 O5 k5 n5
            conv => whnf
            refine ⟨n - (i + 1), by omega, ?_⟩
            conv => whnf
            refine ⟨(i + 1, a5, c5), rfl, ?_, rfl, by simp only; omega, k4.nil_of k5 n4, ?_, fun b hb => ?_⟩
            · simp only [f3]
              rw [wrapN (x := (i : Int) + 1) (n := i + 1) (by simp) (by omega)]
            · simp only
              rw [f1, List.length_append, ← lenX, List.map_append]; exact O5
            · rcases n5 b hb with h | h
              · exact n4 b h
              · have := k4.size; omega
        · have hi1 : i = xss.length := by simp at hc; omega
          subst hi1
          conv => whnf
          rw [List.take_length] at O4
          refine ⟨k4, ai, ci, ?_, O4, n4⟩
          rw [List.take_length]


theorem reps_strs (h : Heap) : ∀ xs : List ByteArray, (∀ x ∈ xs, okStr x) → Reps h (xs.map fun x => Value.string x) xs
  | [], _ => rfl
  | x :: l, hx => ⟨[.string x], _, rfl, ⟨rfl, hx x (by simp)⟩, reps_strs h l (fun y hy => hx y (by simp [hy]))⟩

theorem lead_spec {h : Heap} {a b : Option Addr} {n c m d : Nat} {x y : List (List UInt8)} (S : Sl h a n c (bas x)) (T : Sl h b m d (bas y)) (hb : x.length + y.length ≤ 1000) (hx : ∀ z ∈ x ++ y, z.length ≤ 140737488351232) : CallH Tryz.prog 45 [.slice a n c, .slice b m d] h (fun v h' => Keeps [] h h' ∧ ∃ a' c', v = .slice a' (x ++ y).length c' ∧ Sl h' a' (x ++ y).length c' (bas (x ++ y)) ∧ ∀ z ∈ blkA a', h.size ≤ z) := by
  refine call_of hmix Tryz.func45 rfl ok45 (by simp [Tryz.f45]) ?_
  conv => whnf
  refine AllocR.i fun b4 h4 e4 s4 o4 k4 => ?_
  have o4' : h4[b4]? = some (.cells ⟨[.slice a n c, .slice b m d]⟩ 63 (0, 0)) := o4
  have S2 : Sl h4 (some ⟨b4, 0, none⟩) 2 2 [bas x, bas y] := ⟨rfl, Nat.le_refl _, by simp, fun i hi => ⟨b4, 0, rfl, [if i = 0 then .slice a n c else .slice b m d], by
    have hi' : i < 2 := hi
    have : i = 0 ∨ i = 1 := by omega
    rcases this with rfl | rfl
    · exact ⟨_, _, _, rfl, S.keep k4⟩
    · exact ⟨_, _, _, rfl, T.keep k4⟩, fun j hj => by
    have hj0 : j = 0 := by simpa using hj
    subst hj0
    have hi' : i < 2 := hi
    have : i = 0 ∨ i = 1 := by omega
    simp only [Heap.cell?, o4']
    rcases this with rfl | rfl <;> rfl⟩⟩
  have hfl : [bas x, bas y].flatten = bas (x ++ y) := by simp [bas]
  have hlen : (bas (x ++ y)).length = (x ++ y).length := bas_len _
  conv => whnf
  refine CallR.i (concatS_spec S2 (by rw [hfl, hlen, List.length_append]; omega) (by decide)) fun v h5 k5 hv => ?_
  obtain ⟨a5, c5, rfl, O5, n5⟩ := hv
  rw [hfl, hlen] at O5
  rw [hfl, hlen]
  conv => whnf
  have R := O5.sl (α := ByteArray) (xs := bas (x ++ y)) (reps_strs _ _ (fun z hz => bas_ok hx z hz)) rfl (by decide) (by rw [hlen, List.length_append]; omega)
  exact ⟨k4.trans k5, a5, c5, rfl, R, fun z hz => by have := n5 z hz; omega⟩
end Go.Proofs.YtdfgkdoplagelaaGreatDoor
/-
  Layer 12: names are walked in a view.
-/
set_option linter.all false
set_option maxRecDepth 100000
set_option maxHeartbeats 2000000
namespace Go.Proofs.YtdfgkdoplagelaaGreatDoor
open Go Go.Eng

/-- what a directory names is there -/
structure FsC (S : FS) : Prop where
  root : (S.C 1).kind = 2
  names : ∀ n, 0 ≤ n → n < 24 → (S.C n).kind = 2 → ∀ e ∈ S.nm n, 0 ≤ e.node ∧ e.node < 24 ∧ (S.C e.node).kind ≠ 0

theorem vget_spec {h : Heap} {V : VL} {M : MemS} {X : VS} (A : At h V M X) {S : FS} (I : FsI X.now S) {n : Int} (hn : 0 ≤ n ∧ n < 24) (hk : (S.C n).kind ≠ 0) : CallH Tryz.prog 43 [.pointer (some ⟨V.v, 0, none⟩), .int .i64 n] h (fun v h' => Keeps [V.sb] h h' ∧ v = .tuple #[.agg ⟨(S.C n).cells⟩, .int .i64 0] ∧ At h' V M (seeS X n)) := by
  have bl := A.blt
  have hcr : cardR (rdL X.now (8 + n * 8) 8) = some (S.C n) := by rw [I.card n hn.1 hn.2]; exact cardR_W (I.node n hn.1 hn.2).right
  refine call_of hmix Tryz.func43 rfl ok43 (by simp [Tryz.f43]) ?_
  conv => whnf
  refine AllocR.i fun b1 h1 e1 s1 o1 k1 => ?_
  have nb1 : ∀ b ∈ V.blocks, b ≠ b1 := fun b hb => by have := bl b hb; omega
  conv => whnf
  refine CallR.m (vcard_spec (A.on k1) n) (by simp [blocksOf, setB]; exact fun e => nb1 V.sb (by simp [VL.blocks]) e.symm) fun v h2 k2 hv => ?_
  rw [if_pos hn] at hv
  obtain ⟨rfl, A2⟩ := hv
  rw [hcr]
  unfold cardT
  conv => whnf
  refine AllocR.i fun b3 h3 e3 s3 o3 k3 => ?_
  conv => whnf
  refine BoxR.i fun h4 s4 k4 => ?_
  conv => whnf
  refine IfR.f ?_ ?_
  · simp [bif_or]; exact hk
  conv => whnf
  refine BoxR.i fun h5 s5 k5 => ?_
  conv => whnf
  have z2 := k2.size
  have bl2 := A2.blt
  have A5 : At h5 V M (seeS X n) := ((A2.on k3).keep k4 (fun b hb => by have := bl2 b hb; simp; omega)).keep k5 (fun b hb => by simp; exact nb1 b hb)
  refine ⟨?_, rfl, A5⟩
  exact (((k1.mono (by simp)).trans k2).trans_nil k3).m1 k4 (by omega) |>.m1 k5 (by omega)

theorem pathP_take (s : List UInt8) : pathP (s.take 121) = pathP s := by
  by_cases h : s.length ≤ 121
  · rw [List.take_of_length_le h]
  · have h1 : ∀ t : List UInt8, 120 < t.length → pathP t = none := by
      intro t ht
      unfold pathP
      cases t with
      | nil => rfl
      | cons c r => simp only; rw [if_pos (.inr ht)]
    rw [h1 _ (by rw [List.length_take]; omega), h1 _ (by omega)]

theorem vtarget_spec {h : Heap} {V : VL} {M : MemS} {X : VS} (A : At h V M X) {n : Int} {c : Crd} {m : List Int} {s : List UInt8} (F : FileI X.now n c m s) : CallH Tryz.prog 44 [.pointer (some ⟨V.v, 0, none⟩), .agg ⟨c.cells⟩] h (fun v h' => Keeps [] h h' ∧ match pathP s with
    | none => v = .tuple #[.slice none 0 0, .int .i64 15]
    | some l => ∃ a k, v = .tuple #[.slice a l.length k, .int .i64 0] ∧ Sl h' a l.length k (bas l) ∧ ∀ b ∈ blkA a, h.size ≤ b) := by
  have hfit := F.fits
  refine call_of hmix Tryz.func44 rfl ok44 (by simp [Tryz.f44]) ?_
  conv => whnf
  refine AllocR.i fun b1 h1 e1 s1 o1 k1 => ?_
  conv => whnf
  refine CallR.i (bread_spec (A.on k1) c F.ok F.szr F.okMap 0 121) fun v h2 k2 hv => ?_
  have hrd : readP X.now c 0 121 = (s.take 121, 0) := by
    rw [readP_plain F]
    unfold refReadL
    rw [if_neg (by omega)]
    by_cases h0 : (s.length : Int) ≤ 0
    · rw [if_pos h0]
      have : s = [] := List.eq_nil_of_length_eq_zero (by omega)
      rw [this]; rfl
    · rw [if_neg h0]
      congr 1
      rw [show (0 : Int).toNat = 0 from rfl, List.drop_zero]
      have : (min (s.length : Int) (0 + 121)).toNat = min s.length 121 := by omega
      rw [this]
      rw [show min s.length 121 = min 121 s.length by omega, ← List.take_take, List.take_length]
  rw [hrd] at hv
  subst hv
  conv => whnf
  refine IfR.f rfl ?_
  conv => whnf
  refine CallR.i (nsplit_spec (s.take 121) (by rw [List.length_take]; omega) h2) fun v h3 k3 hv => ?_
  rw [pathP_take] at hv
  have z1 := k1.size
  have z2 := k2.size
  cases hp : pathP s with
  | none =>
    rw [hp] at hv
    have hv : v = .tuple #[.slice none 0 0, .int .i64 3] := hv
    subst hv
    conv => whnf
    refine IfR.t rfl ?_
    conv => whnf
    exact ⟨k1.trans (k2.trans k3), rfl⟩
  | some l =>
    rw [hp] at hv
    obtain ⟨a, k, rfl, S3, nb⟩ := hv
    conv => whnf
    refine IfR.f rfl ?_
    conv => whnf
    exact ⟨k1.trans (k2.trans k3), a, k, rfl, S3, fun b hb => by have := nb b hb; omega⟩

theorem viewFs_find {S : FS} {n : Int} {name : List UInt8} : (viewFs S).find n name = (findE (S.nm n) name).map (·.node) := rfl

theorem walkA_cons {F : Fs} {root : Int} {follow : Bool} {f : Nat} {at_ : Int} {links : Nat} {name : List UInt8} {rest : List (List UInt8)} : walkA F root follow (f + 1) at_ links (name :: rest) = (if F.kind at_ ≠ 2 then (0, 6)
      else (match F.find at_ name with
        | none => (0, 4)
        | some next =>
          if F.kind next ≠ 3 ∨ (rest = [] ∧ follow = false) then walkA F root follow f next links rest
          else if 8 < links + 1 then (0, 11)
          else (match pathP (F.data next) with
            | none => (0, 15)
            | some head => walkA F root follow f root (links + 1) (head ++ rest)))) := rfl

structure WS where
  f : Nat
  links : Nat
  l : List (List UInt8)
  a : Option Addr
  n : Nat
  c : Nat
  s : List Int

/-- what walking tells, as the code has it -/
def walkV (S : FS) (r : Int × Int) : Value := .tuple #[.int .i64 r.1, .agg ⟨(if r.2 = 0 then S.C r.1 else Crd.zero).cells⟩, .int .i64 r.2]

theorem vwalk_spec {h : Heap} {V : VL} {M : MemS} {X : VS} (A : At h V M X) {S : FS} (I : FsI X.now S) (C : FsC S) (follow : Bool) {a : Option Addr} {n c : Nat} {l : List (List UInt8)} (T : Sl h a n c (bas l)) (ha : ∀ b ∈ blkA a, b ≠ V.sb) (hl : l.length ≤ 60) (hx : ∀ x ∈ l, x.length ≤ 200) :
    CallH Tryz.prog 18 [.pointer (some ⟨V.v, 0, none⟩), .slice a n c, .bool follow] h (fun v h' => Keeps [V.sb] h h' ∧ v = walkV S (walkA (viewFs S) 1 follow 600 1 0 l) ∧ ∃ s, At h' V M { X with seen := s }) := by
  have bl := A.blt
  have hE : (walkA (viewFs S) 1 follow 600 1 0 l).2 ≠ -1 := walkA_ends 600 1 0 l (by decide) (by omega)
  generalize hR : walkA (viewFs S) 1 follow 600 1 0 l = R at hE
  have hk1 : (S.C 1).kind ≠ 0 := by rw [C.root]; decide
  refine call_of hmix Tryz.func18 rfl ok18 (by simp [Tryz.f18]) ?_
  conv => whnf
  refine AllocR.i fun b1 h1 e1 s1 o1 k1 => ?_
  have nb1 : ∀ b ∈ V.blocks, b ≠ b1 := fun b hb => by have := bl b hb; omega
  have msb : V.sb ∈ V.blocks := by simp [VL.blocks]
  conv => whnf
  refine LoopR.on [0, 1, 2, 7, 9] [7] (fun q : WS => [(0, .v (.pointer (some ⟨V.v, 0, none⟩))), (1, .v (.slice q.a q.n q.c)), (2, .v (.bool follow)), (7, .lp 7 0), (9, .v (.int .i64 (q.links : Int)))]) (fun _ => [(7, b1, Crd.zero.cells)])
    (fun q h' => q.links ≤ 8 ∧ Keeps [V.sb] h h' ∧ h1.size ≤ h'.size ∧ At h' V M { X with seen := q.s } ∧ Sl h' q.a q.n q.c (bas q.l) ∧ (∀ b ∈ blkA q.a, b ≠ V.sb) ∧ (∀ x ∈ q.l, x.length ≤ 200) ∧ q.l.length ≤ 60 + 60 * q.links ∧ walkA (viewFs S) 1 follow q.f 1 q.links q.l = R) (fun q => q.f) ⟨600, 0, l, a, n, c, X.seen⟩ ?_ ?_
  · conv => whnf
    exact ⟨⟨600, 0, l, a, n, c, X.seen⟩, rfl, rfl, rfl, Nat.zero_le _, k1.mono (by simp), Nat.le_refl _, A.on k1, T.keep k1, ha, hx, by simpa using hl, hR⟩
  · rintro ⟨f, links, l, a, n, c, s0⟩ h2 ⟨q1, k2, z2, A2, T2, a2, x2, l2, r2⟩
    simp only at q1 A2 T2 a2 x2 l2 r2
    have bl2 := A2.blt
    have nl := T2.hlen
    rw [bas_len] at nl
    conv => whnf
    refine CallR.m (vget_spec A2 I (n := 1) (by decide) hk1) (by simp [blocksOf, setB]; exact fun e => nb1 V.sb msb e.symm) fun v h3 k3 hv => ?_
    obtain ⟨rfl, A3⟩ := hv
    conv => whnf
    refine AllocR.i fun b4 h4 e4 s4 o4 k4 => ?_
    conv => whnf
    refine BoxR.i fun h5 s5 k5 => ?_
    conv => whnf
    refine IfR.f rfl ?_
    have z3 := k3.size
    have k35 : Keeps [] h3 h5 := k4.new1 k5 (by omega)
    have A5 := A3.on k35
    have T5 := (T2.keepM k3 (fun b hb => by simpa using a2 b hb)).keep k35
    have bl3 := A3.blt
    have hb4 : ∀ b ∈ V.blocks, b ≠ b4 := fun b hb => by have := bl3 b hb; omega
    conv => whnf
    refine LoopR.on [0, 1, 2, 7, 9, 10, 11, 29, 30, 31] [7, 11] (fun q : Nat × Int × List Int => [(0, .v (.pointer (some ⟨V.v, 0, none⟩))), (1, .v (.slice a n c)), (2, .v (.bool follow)), (7, .lp 7 0), (9, .v (.int .i64 (links : Int))), (10, .v (.int .i64 q.2.1)), (11, .lp 11 0), (29, .v (.slice a n c)), (30, .v (.int .i64 (n : Int))), (31, .v (.int .i64 (q.1 : Int)))]) (fun q => [(7, b1, Crd.zero.cells), (11, b4, (S.C q.2.1).cells)])
      (fun q h' => q.1 ≤ n ∧ Keeps [V.sb] h h' ∧ h5.size ≤ h'.size ∧ At h' V M { X with seen := q.2.2 } ∧ Sl h' a n c (bas l) ∧ (0 ≤ q.2.1 ∧ q.2.1 < 24) ∧ (S.C q.2.1).kind ≠ 0 ∧ walkA (viewFs S) 1 follow (f - q.1) q.2.1 links (l.drop q.1) = R) (fun q => n - q.1) (0, 1, addS s0 1) ?_ ?_
    · conv => whnf
      refine ⟨(0, 1, addS s0 1), rfl, rfl, rfl, Nat.zero_le _, ?_, Nat.le_refl _, A5, T5, (show (0 : Int) ≤ 1 ∧ (1 : Int) < 24 by decide), hk1, by simpa using r2⟩
      exact (k2.trans k3).trans_nil k35
    · rintro ⟨i, at_, s6⟩ h6 ⟨hi, k6, z6, A6, T6, rat, kat, r6⟩
      simp only at hi A6 rat kat r6
      have bl6 := A6.blt
      obtain ⟨f', hf'⟩ : ∃ f', f - i = f' + 1 := by
        cases hfi : f - i with
        | zero =>
          exfalso
          rw [hfi] at r6
          apply hE
          rw [← r6]; rfl
        | succ f' => exact ⟨f', rfl⟩
      rw [hf'] at r6
      -- what is told where it ends
      have stop : ∀ (e : Int) (h7 h8 : Heap), e ≠ 0 → Keeps [V.sb] h h7 → h1.size ≤ h7.size → (∃ s, At h7 V M { X with seen := s }) → Keeps [b1] h7 h8 → R = (0, e) → Keeps [V.sb] h h8 ∧ Value.tuple #[.int .i64 0, .agg ⟨Crd.zero.cells⟩, .int .i64 e] = walkV S R ∧ ∃ s, At h8 V M { X with seen := s } := by
        intro e h7 h8 he k7 z7 ⟨s, A7⟩ k8 hRe
        refine ⟨k7.m1 k8 (by omega), ?_, s, A7.keep k8 (fun b hb => by simp; exact nb1 b hb)⟩
        subst hRe
        unfold walkV
        simp only
        rw [if_neg he]
      conv => whnf
      refine IfR.i (fun hc => ?_) (fun hc => ?_)
      · have hi1 : i < l.length := by
          have : (i : Int) < (n : Int) := by simpa using hc
          omega
        rw [List.drop_eq_getElem_cons hi1] at r6
        obtain ⟨b7, off7, hb7, _, hcell⟩ := T6.at1 i (by rw [bas_len]; exact hi1)
        have en : (bas l)[i]'(by rw [bas_len]; exact hi1) = ba l[i] := by simp [bas]
        rw [en] at hcell
        have N6 := I.node at_ rat.1 rat.2
        conv => whnf
        refine IdxS.i i rfl (by omega) hb7 ?_
        conv => whnf
        refine LoadR.i hcell ?_
        conv => whnf
        refine CallR.i (ffind_spec A6 (S.C at_) N6.ok l[i]) fun v h7 k7 hv => ?_
        have A7 := A6.on k7
        have T7 := T6.keep k7
        have k07 : Keeps [V.sb] h h7 := k6.trans_nil k7
        have z7 := k7.size
        have z5 := k35.size
        by_cases hk2 : (S.C at_).kind = 2
        · obtain ⟨m, D⟩ := N6.dir hk2
          rw [dir_find D l[i]] at hv
          simp only at hv
          have hk2' : ¬ ((viewFs S).kind at_ ≠ 2) := fun h => h hk2
          rw [walkA_cons, if_neg hk2', viewFs_find] at r6
          have hplc := find_place (name := l[i]) D.str
          cases hfe : findE (S.nm at_) l[i] with
          | none =>
            have hfr : findR (S.nm at_) l[i] = (0, false) := by unfold findR; rw [hfe]
            rw [hfr] at hv hplc
            rw [← hplc] at hv
            subst hv
            rw [hfe] at r6
            conv => whnf
            first | refine IfR.f rfl ?_ | (refine MeetR.pass ?_; (conv => whnf); refine IfR.f rfl ?_)
            conv => whnf
            first | refine IfR.t rfl ?_ | (refine MeetR.pass ?_; (conv => whnf); refine IfR.t rfl ?_)
            conv => whnf
            refine BoxR.i fun h8 s8 k8 => ?_
            conv => whnf
            exact stop 4 h7 h8 (by decide) k07 (by omega) ⟨_, A7⟩ k8 r6.symm
          | some e =>
            have hfr : findR (S.nm at_) l[i] = (e.node, true) := by unfold findR; rw [hfe]
            rw [hfr] at hv hplc
            rw [← hplc] at hv
            subst hv
            rw [hfe] at r6
            simp only [Option.map_some] at r6
            obtain ⟨en0, en1, enk⟩ := C.names at_ rat.1 rat.2 hk2 e (List.mem_of_find?_eq_some hfe)
            conv => whnf
            first | refine IfR.f rfl ?_ | (refine MeetR.pass ?_; (conv => whnf); refine IfR.f rfl ?_)
            conv => whnf
            first | refine IfR.f rfl ?_ | (refine MeetR.pass ?_; (conv => whnf); refine IfR.f rfl ?_)
            conv => whnf
            refine CallR.m (vget_spec A7 I (n := e.node) ⟨en0, en1⟩ enk) (by
                have q1 := fun e => nb1 V.sb msb e
                have q2 := fun e => hb4 V.sb msb e
                simp [blocksOf, setB]; exact ⟨fun e => q1 e.symm, fun e => q2 e.symm⟩) fun v h8 k8 hv => ?_
            obtain ⟨rfl, A8⟩ := hv
            conv => whnf
            refine BoxR.i fun h9 s9 k9 => ?_
            have A9 := A8.keep k9 (fun b hb => by simp; exact hb4 b hb)
            have T9 : Sl h9 a n c (bas l) := (T7.keepM k8 (fun b hb => by simpa using a2 b hb)).keepM k9 (fun b hb => by
              have hlt : b < h2.size := by
                obtain ⟨bb, oo, hbb, _, hcc⟩ := T2.at1 i (by rw [bas_len]; exact hi1)
                rw [hbb] at hb
                simp [blkA] at hb
                subst hb
                exact cell_lt hcc
              simp; omega)
            have k09 : Keeps [V.sb] h h9 := (k07.trans k8).m1 k9 (by omega)
            have z8 := k8.size
            conv => whnf
            refine IfR.f rfl ?_
            have hdr : (l.drop (i + 1) = []) ↔ i + 1 = n := by
              rw [List.drop_eq_nil_iff]; omega
            have ewn : IntKind.i64.wrap ((n : Int) - 1) = ((n - 1 : Nat) : Int) := wrapN (by omega) (by omega)
            conv => whnf
            by_cases hcnd : (viewFs S).kind e.node ≠ 3 ∨ (l.drop (i + 1) = [] ∧ follow = false)
            · rw [if_pos hcnd] at r6
              refine IfR.t ?_ ?_
              · rw [ewn]
                rcases hcnd with h | ⟨h, h'⟩
                · have h : (S.C e.node).kind ≠ 3 := h
                  simp [bif_or, h]
                · have := hdr.1 h
                  have h2 : ((i : Int) == ((n - 1 : Nat) : Int)) = true := by simp; omega
                  rw [h', h2]
                  simp [bif_or]
              conv => whnf
              refine ⟨n - (i + 1), by omega, ?_⟩
              conv => whnf
              exact ⟨(i + 1, e.node, addS s6 e.node), rfl, by rw [wrapN (x := (i : Int) + 1) (n := i + 1) (by simp) (by omega)], rfl, by simp only; omega, k09, by omega, A9, T9, ⟨en0, en1⟩, enk, by
                have : f - (i + 1) = f' := by omega
                simp only [this]; exact r6⟩
            · rw [if_neg hcnd] at r6
              have h3 : (S.C e.node).kind = 3 := by
                apply Classical.byContradiction
                intro h; exact hcnd (.inl h)
              have hnf : ¬ (i + 1 = n ∧ follow = false) := fun h => hcnd (.inr ⟨hdr.2 h.1, h.2⟩)
              refine IfR.f ?_ ?_
              · rw [ewn, h3]
                by_cases hin : i + 1 = n
                · have : follow = true := by
                    cases follow with
                    | true => rfl
                    | false => exact absurd ⟨hin, rfl⟩ hnf
                  rw [this]
                  simp [bif_or, bif_and]
                · have h2 : ((i : Int) == ((n - 1 : Nat) : Int)) = false := by simp; omega
                  rw [h2]
                  simp [bif_or]
              have ewl : IntKind.i64.wrap ((links : Int) + 1) = ((links + 1 : Nat) : Int) := wrapN (by omega) (by omega)
              conv => whnf
              rw [ewl]
              by_cases h8 : 8 < links + 1
              · rw [if_pos h8] at r6
                refine IfR.t (by simp; omega) ?_
                conv => whnf
                refine BoxR.i fun h10 s10 k10 => ?_
                conv => whnf
                exact stop 11 h9 h10 (by decide) k09 (by omega) ⟨_, A9⟩ k10 r6.symm
              · rw [if_neg h8] at r6
                refine IfR.f (by simp; omega) ?_
                obtain ⟨mm, FF⟩ := (I.node e.node en0 en1).file (.inr h3)
                conv => whnf
                refine CallR.i (vtarget_spec A9 FF) fun v h10 k10 hv => ?_
                have A10 := A9.on k10
                have k010 := k09.trans_nil k10
                have z10 := k10.size
                have hdat : (viewFs S).data e.node = S.by_ e.node := rfl
                rw [hdat] at r6
                cases hp : pathP (S.by_ e.node) with
                | none =>
                  rw [hp] at hv r6
                  simp only at hv r6
                  subst hv
                  conv => whnf
                  refine IfR.t rfl ?_
                  conv => whnf
                  refine BoxR.i fun h11 s11 k11 => ?_
                  conv => whnf
                  exact stop 15 h10 h11 (by decide) k010 (by omega) ⟨_, A10⟩ k11 r6.symm
                | some head =>
                  rw [hp] at hv r6
                  simp only at hv r6
                  obtain ⟨ah, kh, rfl, Th, nh⟩ := hv
                  obtain ⟨p1, p2, p3, p4⟩ := pathP_len hp
                  conv => whnf
                  refine IfR.f rfl ?_
                  have ewi : IntKind.i64.wrap ((i : Int) + 1) = ((i + 1 : Nat) : Int) := wrapN (by simp) (by omega)
                  have T10 := T9.keep k10
                  conv => whnf
                  refine SliceR.i (i + 1) n ewi rfl (by omega) T10.hcap ?_
                  have P := T10.part (l := i + 1) (r := n) (by omega) (Nat.le_refl _)
                  have hbr : ((bas l).take n).drop (i + 1) = bas (l.drop (i + 1)) := by
                    have : (bas l).length = n := by rw [bas_len]; omega
                    rw [← this, List.take_length]; simp [bas]
                  rw [hbr] at P
                  have hhs : ∀ x ∈ head, x.length ≤ 200 := by
                    intro x hx
                    have h1 := joinS_le hx
                    by_cases hh : head = []
                    · rw [hh] at hx; cases hx
                    · rw [if_neg hh] at p4
                      rw [p4] at h1; omega
                  have hxs : ∀ x ∈ head ++ l.drop (i + 1), x.length ≤ 200 := by
                    intro x hx
                    rcases List.mem_append.1 hx with h | h
                    · exact hhs x h
                    · exact x2 x (List.mem_of_mem_drop h)
                  conv => whnf
                  refine CallR.i (lead_spec Th P (by rw [List.length_drop]; omega) (fun z hz => by have := hxs z hz; omega)) fun v h11 k11 hv => ?_
                  obtain ⟨a', c', rfl, T11, n11⟩ := hv
                  have bl10 := A10.blt V.sb msb
                  conv => whnf
                  refine ⟨f', by show f' < f; omega, ?_⟩
                  conv => whnf
                  refine ⟨⟨f', links + 1, head ++ l.drop (i + 1), a', (head ++ l.drop (i + 1)).length, c', addS s6 e.node⟩, rfl, rfl, rfl, by simp only; omega, k010.trans_nil k11, by have := k11.size; omega, A10.on k11, T11, fun b hb => by have := n11 b hb; omega, hxs, ?_, r6⟩
                  simp only [List.length_append, List.length_drop]
                  omega
        · have hop : findP X.now (S.C at_) l[i] = (0, false, 6) := by
            unfold findP openP
            rw [if_pos hk2]
            rfl
          have hop' : findP ({ X with seen := s6 } : VS).now (S.C at_) l[i] = (0, false, 6) := hop
          rw [hop'] at hv
          subst hv
          conv => whnf
          first | refine IfR.t rfl ?_ | (refine MeetR.pass ?_; (conv => whnf); refine IfR.t rfl ?_)
          conv => whnf
          refine BoxR.i fun h8 s8 k8 => ?_
          conv => whnf
          refine stop 6 h7 h8 (by decide) k07 (by omega) ⟨_, A7⟩ k8 ?_
          rw [← r6]
          rw [walkA_cons, if_pos (show (viewFs S).kind at_ ≠ 2 from hk2)]
      · have hi1 : i = n := by
          have : ¬ ((i : Int) < (n : Int)) := by simpa using hc
          omega
        subst hi1
        conv => whnf
        refine BoxR.i fun h7 s7 k7 => ?_
        conv => whnf
        rw [nl, List.drop_length] at r6
        have hR2 : R = (at_, 0) := by rw [← r6]; rfl
        have z5 := k35.size
        refine ⟨k6.m1 k7 (by omega), ?_, s6, A6.keep k7 (fun b hb => by simp; exact nb1 b hb)⟩
        rw [hR2]
        unfold walkV
        simp only
        rw [if_pos trivial]; rfl
end Go.Proofs.YtdfgkdoplagelaaGreatDoor
/-
  Layer 12's plain law: a file is put into a view and into the document's tree.
-/
set_option linter.all false
set_option maxRecDepth 100000
set_option maxHeartbeats 2000000
namespace Go.Proofs.YtdfgkdoplagelaaGreatDoor
open Go Go.Eng

theorem freeN_setS {B : Int → UInt64} {X : VS} {n : Int} {c : Crd} (hn : n < 24) : freeN B (setS X n c) 96 = freeN B X 96 := by
  unfold freeN
  congr 1
  refine List.filter_congr fun j hj => ?_
  unfold freshB
  have : (setS X n c).now (200 + (j : Int)) = X.now (200 + (j : Int)) := setW_high hn (by omega)
  have h2 : (setS X n c).away = X.away := rfl
  rw [this, h2]
theorem freeN_seeS {B : Int → UInt64} {X : VS} {n : Int} : freeN B (seeS X n) 96 = freeN B X 96 := rfl

/-- a world: files over words, and the document's tree -/
structure WI (B : Int → UInt64) (X : VS) (S : FS) (T : List Nod) (num : List Int) : Prop where
  fs : FsI X.now S
  w : WorldI S T num
  all : ∀ n, 0 ≤ n → n < 24 → (S.C n).kind ≠ 0 → ∃ i, inT T i ∧ nu num i = n
  free : 96 ≤ freeN B X 96 + 5 * (T.length - 2)
  aw : X.awayN = []

theorem WI.fc {B : Int → UInt64} {X : VS} {S : FS} {T : List Nod} {num : List Int} (W : WI B X S T num) : FsC S := by
  have htwo := W.w.two
  have h1 : inT T 1 := ⟨by omega, by omega⟩
  refine ⟨?_, fun n n0 n1 hk e he => ?_⟩
  · have := W.w.kind 1 h1
    rw [W.w.root.1] at this
    rw [this.1]; exact W.w.root.2
  · obtain ⟨i, hi, rfl⟩ := W.all n n0 n1 (by rw [hk]; decide)
    have hki : (tn T i).kind = 2 := by rw [← (W.w.kind i hi).1]; exact hk
    obtain ⟨q1, q2, q3⟩ := W.w.dir i hi hki
    rw [q1] at he
    obtain ⟨e0, he0, rfl⟩ := List.mem_map.1 he
    have hin := q2 e0 he0
    have hr := W.w.rng e0.node hin
    have hk2 := W.w.kind e0.node hin
    have hn : (rn num e0).node = nu num e0.node := rfl
    rw [hn]
    exact ⟨by omega, hr.2, by rw [hk2.1]; omega⟩

theorem freeC_iff {X : VS} {S : FS} (I : FsI X.now S) (ha : X.awayN = []) {n : Int} (h0 : 0 ≤ n ∧ n < 24) : freeC X n = true ↔ (S.C n).kind = 0 := by
  have hc := I.card n h0.1 h0.2
  have hw : X.now (8 + n * 8) = fldK (S.C n) := by
    have h1 := congrArg (fun l => l[0]?.getD 0) hc
    have h2 : (rdL X.now (8 + n * 8) 8)[0]?.getD 0 = X.now (8 + n * 8) := by simp [rdL]
    rw [h2] at h1
    exact h1
  have B := rightC_b (I.node n h0.1 h0.2).right
  have hg : (cardG (cardW (S.C n))).kind = (S.C n).kind := by rw [cardG_W B]
  have hg2 : (cardG (cardW (S.C n))).kind = ((getF (fldK (S.C n)) 0 8).toNat : Int) := rfl
  rw [hg2] at hg
  unfold freeC
  rw [ha, hw]
  simp
  constructor
  · intro h; rw [← hg, h]; rfl
  · intro h
    rw [h] at hg
    exact UInt64.toNat_inj.1 (by simpa using hg)

theorem firstC_least {X : VS} : ∀ {f i k : Nat}, firstC X f i = some k → ∀ j, i ≤ j → j < k → freeC X (j : Int) = false
  | 0, _, _, h => by cases h
  | f + 1, i, k, h => by
    unfold firstC at h
    split at h
    · cases h; intro j h1 h2; omega
    · rename_i hh
      intro j h1 h2
      by_cases e : j = i
      · subst e; simpa using hh
      · exact firstC_least h j (by omega) h2
theorem firstC_none {X : VS} : ∀ {f i : Nat}, firstC X f i = none → ∀ j, i ≤ j → j < i + f → freeC X (j : Int) = false
  | 0, _, _ => fun j h1 h2 => by omega
  | f + 1, i, h => by
    unfold firstC at h
    split at h
    · cases h
    · rename_i hh
      intro j h1 h2
      by_cases e : j = i
      · subst e; simpa using hh
      · exact firstC_none h j (by omega) (by omega)

/-- a number is found -/
theorem node_found {B : Int → UInt64} {X : VS} {S : FS} {T : List Nod} {num : List Int} (W : WI B X S T num) {kind : Int} (hk : 1 ≤ kind ∧ kind ≤ 3) :
    (nodeP X kind = (0, 9, X) ∧ 20 < T.length) ∨ ∃ n v, nodeP X kind = (n, 0, setS X n (freshC kind v)) ∧ 2 ≤ n ∧ n < 24 ∧ (S.C n).kind = 0 ∧ ∀ k, 2 ≤ k → k < n → (S.C k).kind ≠ 0 := by
  unfold nodeP
  rw [if_pos hk]
  cases hf : firstC X 22 2 with
  | some n =>
    right
    obtain ⟨f1, f2, f3⟩ := firstC_is hf
    refine ⟨(n : Int), _, rfl, by omega, by omega, (freeC_iff W.fs W.aw (by omega)).1 f1, fun k k2 kn hk0 => ?_⟩
    have := firstC_least hf k.toNat (by omega) (by omega)
    rw [Int.toNat_of_nonneg (by omega)] at this
    rw [(freeC_iff W.fs W.aw (by omega)).2 hk0] at this
    cases this
  | none =>
    left
    refine ⟨rfl, ?_⟩
    have hfull : ∀ x ∈ (List.range 22).map (fun (i : Nat) => ((i : Int) + 2)), x ∈ num := by
      intro x hx
      obtain ⟨i, hi, rfl⟩ := List.mem_map.1 hx
      have hi : i < 22 := by simpa using hi
      have h1 := firstC_none hf (i + 2) (by omega) (by omega)
      have h2 : (S.C (((i + 2 : Nat)) : Int)).kind ≠ 0 := by
        intro h
        rw [(freeC_iff W.fs W.aw (by omega)).2 h] at h1
        cases h1
      obtain ⟨j, hj, he⟩ := W.all _ (by omega) (by omega) h2
      have hj1 : j.toNat < num.length := by
        have := W.w.len
        have := hj.1
        have := hj.2
        omega
      unfold nu at he
      rw [List.getElem?_eq_getElem hj1] at he
      have : ((i : Int) + 2) = num[j.toNat] := by
        have h3 : num[j.toNat] = ((i + 2 : Nat) : Int) := by simpa using he
        rw [h3]; simp
      rw [this]; exact List.getElem_mem _
    have hnd : ((List.range 22).map (fun (i : Nat) => ((i : Int) + 2))).Nodup := by decide +kernel
    have hle := hnd.length_le_of_subset hfull
    have hz : num[0]?.getD 0 = num[0]?.getD 0 := rfl
    have := W.w.len
    simp at hle
    omega

theorem WorldI.congr {S S' : FS} {T : List Nod} {num : List Int} (W : WorldI S T num) (h : ∀ i, inT T i → (S'.C (nu num i)).kind = (S.C (nu num i)).kind ∧ S'.nm (nu num i) = S.nm (nu num i) ∧ S'.by_ (nu num i) = S.by_ (nu num i)) : WorldI S' T num :=
  ⟨W.len, W.two, W.root, W.rng, W.inj, fun i hi => by rw [(h i hi).1]; exact W.kind i hi, fun i hi hk => by rw [(h i hi).2.1]; exact W.dir i hi hk, fun i hi hk => by rw [(h i hi).2.2]; exact W.data i hi hk, W.oth⟩

/-- a number is taken, and given back -/
theorem WI.back {B : Int → UInt64} {X Y : VS} {S : FS} {T : List Nod} {num : List Int} (W : WI B X S T num) {n : Int} (hn : 2 ≤ n ∧ n < 24) (hk : (S.C n).kind = 0) {c : Crd} (hc : c.kind = 0 → c = noneC c.ver) (hk0 : c.kind = 0)
    (hY : ∀ a, 200 ≤ a → Y.now a = X.now a) (hcard : rdL Y.now (8 + n * 8) 8 = cardW c) (hoth : ∀ k, 0 ≤ k → k < 24 → k ≠ n → rdL Y.now (8 + k * 8) 8 = rdL X.now (8 + k * 8) 8) (haw : Y.awayN = X.awayN) (hay : Y.away = X.away) : ∃ S', WI B Y S' T num := by
  have hno : ∀ x, 0 ≤ x → x < 96 → Y.now (200 + x) ≠ w64 (n + 1) := fun x x0 x1 => by rw [hY _ (by omega)]; exact ((W.fs.node n (by omega) hn.2).free hk).2 x x0 x1
  have N : NodeI Y.now n c [] [] := by
    have := none_node (now := Y.now) (n := n) c.ver hno
    rw [← hc hk0] at this
    exact this
  refine ⟨S.put n c [] [], ?_, ?_, ?_, ?_, haw.trans W.aw⟩
  · exact W.fs.put ⟨by omega, hn.2⟩ (Fr0.of n hY) hoth hcard N (by omega)
  · refine W.w.congr fun i hi => ?_
    have hne : nu num i ≠ n := by
      intro e
      have h1 := (W.w.kind i hi).1
      have h2 := (W.w.kind i hi).2.1
      rw [e, hk] at h1
      omega
    show (if nu num i = n then c else S.C (nu num i)).kind = _ ∧ (if nu num i = n then [] else S.nm (nu num i)) = _ ∧ (if nu num i = n then [] else S.by_ (nu num i)) = _
    rw [if_neg hne, if_neg hne, if_neg hne]
    exact ⟨rfl, rfl, rfl⟩
  · intro k k0 k1 hkk
    have hkk : (if k = n then c else S.C k).kind ≠ 0 := hkk
    by_cases e : k = n
    · rw [if_pos e] at hkk; exact absurd hk0 hkk
    · rw [if_neg e] at hkk; exact W.all k k0 k1 hkk
  · have : freeN B Y 96 = freeN B X 96 := by
      unfold freeN
      congr 1
      refine List.filter_congr fun j hj => ?_
      unfold freshB
      rw [hY _ (by omega), hay]
    rw [this]; exact W.free
end Go.Proofs.YtdfgkdoplagelaaGreatDoor
/-
  Layer 12's plain law: a file is put into a view and into the document's tree: it is added, or all stays.
-/
set_option linter.all false
set_option maxRecDepth 100000
set_option maxHeartbeats 4000000
namespace Go.Proofs.YtdfgkdoplagelaaGreatDoor
open Go Go.Eng

theorem freshC_kind (kind : Int) (v : UInt64) : (freshC kind v).kind = kind := rfl

/-- a number that was taken is given back -/
theorem rel_plain {B : Int → UInt64} {X Y : VS} {S : FS} {T : List Nod} {num : List Int} (W : WI B X S T num) {n kind : Int} (hn : 2 ≤ n ∧ n < 24) (hk : (S.C n).kind = 0) (hkk : 1 ≤ kind ∧ kind ≤ 3) {v : UInt64}
    (hY : Y.now = setW X.now n (freshC kind v)) (haw : Y.awayN = X.awayN) (hay : Y.away = X.away) :
    (releaseP Y n).1 = 0 ∧ ∃ S', WI B (releaseP Y n).2 S' T num := by
  have hcr : cardR (rdL Y.now (8 + n * 8) 8) = some (freshC kind v) := by
    rw [hY, setW_rd]; exact cardR_W (freshC_ok hkk v).2
  unfold releaseP
  rw [if_pos ⟨by omega, hn.2⟩, hcr]
  simp only
  rw [if_neg (show ¬ (freshC kind v).kind = 0 by rw [freshC_kind]; omega)]
  refine ⟨rfl, W.back hn hk (c := noneC ((freshC kind v).ver + 1)) (fun _ => rfl) rfl (fun a ha => ?_) setW_rd (fun k k0 k1 hne => ?_) haw hay⟩
  · show setW Y.now n _ a = X.now a
    rw [setW_high hn.2 ha, hY, setW_high hn.2 ha]
  · show rdL (setW Y.now n _) (8 + k * 8) 8 = _
    rw [setW_ne hne, hY, setW_ne hne]

theorem refWrite_zero (data : List UInt8) (h : data.length ≤ 130) : refWriteL [] ((0 : Nat) : Int) data = (data, 0) := by
  unfold refWriteL
  rw [if_neg (by omega)]
  by_cases h0 : data = []
  · rw [if_pos h0, h0]
  · rw [if_neg h0, if_neg (by omega)]
    congr 1
    simp [zeros]

/-- a name more, and a file -/
structure Added (B : Int → UInt64) (X : VS) (S : FS) (T : List Nod) (num : List Int) (d n kind : Int) (name data : List UInt8) (v : UInt64) : Prop where
  cAt : cardR (rdL (setS X n (freshC kind v)).now (8 + nu num d * 8) 8) = some (S.C (nu num d))
  okAt : (S.C (nu num d)).ok
  fail : (addP B (seeS (setS X n (freshC kind v)) (nu num d)) (nu num d) (S.C (nu num d)) name n).2.1 ≠ 0 →
    (addP B (seeS (setS X n (freshC kind v)) (nu num d)) (nu num d) (S.C (nu num d)) name n).2.2 = seeS (setS X n (freshC kind v)) (nu num d) ∧ 10 ≤ (tn T d).names.length
  good : (addP B (seeS (setS X n (freshC kind v)) (nu num d)) (nu num d) (S.C (nu num d)) name n).2.1 = 0 →
    (addP B (seeS (setS X n (freshC kind v)) (nu num d)) (nu num d) (S.C (nu num d)) name n).1.ok ∧ rightC (addP B (seeS (setS X n (freshC kind v)) (nu num d)) (nu num d) (S.C (nu num d)) name n).1 = true ∧
    ∀ X4, X4 = setS (addP B (seeS (setS X n (freshC kind v)) (nu num d)) (nu num d) (S.C (nu num d)) name n).2.2 (nu num d) (addP B (seeS (setS X n (freshC kind v)) (nu num d)) (nu num d) (S.C (nu num d)) name n).1 →
      cardR (rdL X4.now (8 + n * 8) 8) = some (freshC kind v) ∧ okMap X4.now (freshC kind v) ∧
      (writeP B (seeS X4 n) n (freshC kind v) 0 data).2.1 = 0 ∧ (writeP B (seeS X4 n) n (freshC kind v) 0 data).1.ok ∧ rightC (writeP B (seeS X4 n) n (freshC kind v) 0 data).1 = true ∧
      ∃ S', WI B (setS (writeP B (seeS X4 n) n (freshC kind v) 0 data).2.2 n (writeP B (seeS X4 n) n (freshC kind v) 0 data).1) S' (nset T d (insL (tn T d).names ⟨name, (T.length : Int)⟩) ++ [⟨n, kind, 1, data, []⟩]) (num ++ [n])

theorem WI.added {B : Int → UInt64} {X : VS} {S : FS} {T : List Nod} {num : List Int} (W : WI B X S T num) (hT : T.length ≤ 20) {d n kind : Int} {name data : List UInt8} {v : UInt64} (hd : inT T d) (hk : (tn T d).kind = 2) (hkk : 1 ≤ kind ∧ kind ≤ 3) (hn : 2 ≤ n ∧ n < 24) (hn0 : (S.C n).kind = 0)
    (hname : nameB name = true) (hpt : plT (tn T d).names name = false) (hdl : data.length ≤ 130) (hdd : kind = 2 → data = []) : Added B X S T num d n kind name data v := by
  have htwo := W.w.two
  have hfree := W.free
  have hr := W.w.rng d hd
  have hkd := W.w.kind d hd
  have hkd2 : (S.C (nu num d)).kind = 2 := by rw [hkd.1]; exact hk
  have hne : nu num d ≠ n := by
    intro e
    rw [e, hn0] at hkd2
    cases hkd2
  obtain ⟨q1, q2, q3⟩ := W.w.dir d hd hk
  have hno : ∀ x, 0 ≤ x → x < 96 → X.now (200 + x) ≠ w64 (n + 1) := ((W.fs.node n (by omega) hn.2).free hn0).2
  -- the number is taken
  have N1 : NodeI X.now n (freshC kind v) [] [] := fresh_node hkk v hno
  have I1 : FsI (setW X.now n (freshC kind v)) (S.put n (freshC kind v) [] []) := W.fs.set (by omega) (Fr.refl n X.now) N1
  have C1 : (S.put n (freshC kind v) [] []).C (nu num d) = S.C (nu num d) := if_neg hne
  have nm1 : (S.put n (freshC kind v) [] []).nm (nu num d) = S.nm (nu num d) := if_neg hne
  have Nat1 := I1.node (nu num d) (by omega) hr.2
  have hcAt : cardR (rdL (setW X.now n (freshC kind v)) (8 + nu num d * 8) 8) = some (S.C (nu num d)) := by
    have := I1.card (nu num d) (by omega) hr.2
    rw [C1] at this
    rw [this]
    have hrt := Nat1.right
    rw [C1] at hrt
    exact cardR_W hrt
  rw [C1, nm1] at Nat1
  obtain ⟨m, D⟩ := Nat1.dir hkd2
  have hn24 : 0 ≤ nu num d ∧ nu num d < 24 := ⟨by omega, hr.2⟩
  have hfr1 : freeN B (seeS (setS X n (freshC kind v)) (nu num d)) 96 = freeN B X 96 := by rw [freeN_seeS, freeN_setS hn.2]
  have hpt2 : plT (S.nm (nu num d)) name = false := by rw [q1, plT_map (rn num) (fun _ => rfl)]; exact hpt
  have hlen : (S.nm (nu num d)).length = (tn T d).names.length := by rw [q1, List.length_map]
  have href : refAdd (S.nm (nu num d)) name n = (insL (S.nm (nu num d)) ⟨name, n⟩, 0) := by
    unfold refAdd
    rw [if_neg (by omega), if_neg (by rw [hname]; simp), if_neg (by rw [hpt2]; simp)]
  have D' : DirI (seeS (setS X n (freshC kind v)) (nu num d)).now (nu num d) (S.C (nu num d)) m (S.nm (nu num d)) := D
  have AP := addP_plain (B := B) (X := seeS (setS X n (freshC kind v)) (nu num d)) hn24 D' name n
  have AE := addP_err (B := B) (X := seeS (setS X n (freshC kind v)) (nu num d)) hn24 D' name n (by rw [hfr1]; omega)
  have AC := addP_cnt (B := B) (X := seeS (setS X n (freshC kind v)) (nu num d)) hn24 D' name n
  rw [href] at AP
  refine ⟨hcAt, Nat1.ok, fun he => ⟨AE he, ?_⟩, fun he => ?_⟩
  · rcases AP with ⟨_, a2, _⟩ | ⟨_, a2, a3⟩ | ⟨_, a2, _⟩
    · exact absurd rfl a2
    · rw [hfr1] at a3
      have h1 : hadL (S.nm (nu num d)) name ≤ (S.nm (nu num d)).length := List.length_filter_le _ _
      have h2 : 10 ≤ roomN (bucketL name) := by unfold roomN; split <;> omega
      rcases a3 with a3 | a3 <;> omega
    · exact absurd a2 he
  · have hAP : ∃ m', DirI (addP B (seeS (setS X n (freshC kind v)) (nu num d)) (nu num d) (S.C (nu num d)) name n).2.2.now (nu num d) (addP B (seeS (setS X n (freshC kind v)) (nu num d)) (nu num d) (S.C (nu num d)) name n).1 m' (insL (S.nm (nu num d)) ⟨name, n⟩) ∧ Fr (nu num d) (setW X.now n (freshC kind v)) (addP B (seeS (setS X n (freshC kind v)) (nu num d)) (nu num d) (S.C (nu num d)) name n).2.2.now := by
      rcases AP with ⟨_, a2, _⟩ | ⟨_, a2, _⟩ | ⟨_, _, _, m', a4, a5⟩
      · exact absurd rfl a2
      · rw [he] at a2; cases a2
      · exact ⟨m', a4, a5⟩
    obtain ⟨m', D2, F2⟩ := hAP
    generalize addP B (seeS (setS X n (freshC kind v)) (nu num d)) (nu num d) (S.C (nu num d)) name n = r at he D2 F2 AC ⊢
    obtain ⟨ac1, ac2⟩ := AC
    rw [hfr1] at ac1
    have hk2 := D2.kind
    have N2 : NodeI r.2.2.now (nu num d) r.1 (insL (S.nm (nu num d)) ⟨name, n⟩) (S.by_ (nu num d)) := ⟨by rw [hk2.1]; decide, fun h => (by rw [hk2.1] at h; cases h), fun _ => ⟨m', D2⟩, fun h => (by rw [hk2.1] at h; omega)⟩
    have I2 := I1.set (n := nu num d) (by omega) F2 N2
    refine ⟨D2.right.2, D2.right.1, fun X4 hX4 => ?_⟩
    have hX4now : X4.now = setW r.2.2.now (nu num d) r.1 := by rw [hX4]; rfl
    have hX4free : freeN B X4 96 = freeN B r.2.2 96 := by rw [hX4]; exact freeN_setS hr.2
    have C2 : ((S.put n (freshC kind v) [] []).put (nu num d) r.1 (insL (S.nm (nu num d)) ⟨name, n⟩) (S.by_ (nu num d))).C n = freshC kind v := by
      show (if n = nu num d then _ else (if n = n then _ else _)) = _
      rw [if_neg (fun e => hne e.symm), if_pos rfl]
    have nm2 : ((S.put n (freshC kind v) [] []).put (nu num d) r.1 (insL (S.nm (nu num d)) ⟨name, n⟩) (S.by_ (nu num d))).nm n = [] := by
      show (if n = nu num d then _ else (if n = n then _ else _)) = _
      rw [if_neg (fun e => hne e.symm), if_pos rfl]
    have by2 : ((S.put n (freshC kind v) [] []).put (nu num d) r.1 (insL (S.nm (nu num d)) ⟨name, n⟩) (S.by_ (nu num d))).by_ n = [] := by
      show (if n = nu num d then _ else (if n = n then _ else _)) = _
      rw [if_neg (fun e => hne e.symm), if_pos rfl]
    have Nn := I2.node n (by omega) hn.2
    have hcn := I2.card n (by omega) hn.2
    rw [C2, nm2, by2] at Nn
    rw [C2] at hcn
    rw [← hX4now] at hcn Nn
    have hmapf : mapOf X4.now (freshC kind v) = some m0 := rfl
    have hokm : okMap X4.now (freshC kind v) := by
      intro mm hmm x hx
      rw [hmapf] at hmm
      cases hmm
      left
      exact (List.mem_replicate.1 hx).2
    -- the bytes are written
    have hwr : (writeP B (seeS X4 n) n (freshC kind v) 0 data).2.1 = 0 ∧ freeN B X4 96 ≤ freeN B (writeP B (seeS X4 n) n (freshC kind v) 0 data).2.2 96 + 3 ∧ Fr n X4.now (writeP B (seeS X4 n) n (freshC kind v) 0 data).2.2.now ∧ (writeP B (seeS X4 n) n (freshC kind v) 0 data).2.2 = { (seeS X4 n) with now := (writeP B (seeS X4 n) n (freshC kind v) 0 data).2.2.now } ∧
        NodeI (writeP B (seeS X4 n) n (freshC kind v) 0 data).2.2.now n (writeP B (seeS X4 n) n (freshC kind v) 0 data).1 [] data ∧ (writeP B (seeS X4 n) n (freshC kind v) 0 data).1.kind = kind := by
      by_cases hkind : kind = 2
      · have hdn := hdd hkind
        subst hdn
        have hw : writeP B (seeS X4 n) n (freshC kind v) 0 [] = (freshC kind v, 0, seeS X4 n) := by
          unfold writeP
          rw [if_neg (by simp; omega), if_pos rfl]
          rfl
        rw [hw]
        exact ⟨rfl, Nat.le_add_right _ _, Fr.refl _ _, rfl, Nn, rfl⟩
      · obtain ⟨mm, FF⟩ := Nn.file (by rw [freshC_kind]; omega)
        have FF' : FileI (seeS X4 n).now n (freshC kind v) mm [] := FF
        have hroom : (0 + data.length + 127) / 128 - 0 / 128 + 1 ≤ 3 := by omega
        have WR := writeP_room (B := B) (X := seeS X4 n) ⟨by omega, hn.2⟩ FF' 0 data (by rw [freeN_seeS, hX4free]; omega)
        rw [refWrite_zero data hdl] at WR
        rw [show ((0 : Nat) : Int) = 0 from rfl] at WR
        obtain ⟨w1, w2⟩ := WR
        obtain ⟨w3, mw, w4⟩ := w2 rfl
        have w5 := writeP_same w1
        have hwk : (writeP B (seeS X4 n) n (freshC kind v) 0 data).1.kind = kind := w5.1
        refine ⟨w1, ?_, w4.fr, w4.x, ⟨by rw [hwk]; omega, fun h => ?_, fun h => ?_, fun _ => ⟨mw, w4.file⟩⟩, hwk⟩
        · rw [freeN_seeS] at w3
          omega
        · rw [hwk] at h; omega
        · rw [hwk] at h; omega
    generalize writeP B (seeS X4 n) n (freshC kind v) 0 data = q at hwr ⊢
    obtain ⟨w1, w2, w3, w4, w5, w6⟩ := hwr
    refine ⟨by rw [hcn]; exact cardR_W (freshC_ok hkk v).2, hokm, w1, w5.ok, w5.right, ?_⟩
    have I2' : FsI X4.now ((S.put n (freshC kind v) [] []).put (nu num d) r.1 (insL (S.nm (nu num d)) ⟨name, n⟩) (S.by_ (nu num d))) := by rw [hX4now]; exact I2
    have I3 := I2'.set (n := n) (by omega) w3 w5
    refine ⟨_, I3, ?_, fun k k0 k1 hkk' => ?_, ?_, ?_⟩
    · refine W.w.grow hd hk hn0 (by omega) hpt hkk (fun x h1 h2 => ?_) ?_ ?_
      · show (if x = n then q.1 else (if x = nu num d then r.1 else (if x = n then freshC kind v else S.C x))).kind = _ ∧ (if x = n then [] else (if x = nu num d then _ else (if x = n then [] else S.nm x))) = _ ∧ (if x = n then data else (if x = nu num d then _ else (if x = n then [] else S.by_ x))) = _
        rw [if_neg h1, if_neg h1, if_neg h1, if_neg h2, if_neg h2, if_neg h2, if_neg h1, if_neg h1, if_neg h1]
        exact ⟨rfl, rfl, rfl⟩
      · show (if nu num d = n then q.1 else (if nu num d = nu num d then r.1 else _)).kind = 2 ∧ (if nu num d = n then [] else (if nu num d = nu num d then insL (S.nm (nu num d)) ⟨name, n⟩ else _)) = _
        rw [if_neg hne, if_neg hne, if_pos rfl, if_pos rfl]
        exact ⟨hk2.1, rfl⟩
      · show (if n = n then q.1 else _).kind = kind ∧ (kind ≠ 2 → (if n = n then data else _) = data) ∧ (kind = 2 → (if n = n then ([] : List Ent) else _) = [])
        rw [if_pos rfl, if_pos rfl, if_pos rfl]
        exact ⟨w6, fun _ => rfl, fun _ => rfl⟩
    · have hkk' : (if k = n then q.1 else (if k = nu num d then r.1 else (if k = n then freshC kind v else S.C k))).kind ≠ 0 := hkk'
      have hLT : (nset T d (insL (tn T d).names ⟨name, (T.length : Int)⟩) ++ [(⟨n, kind, 1, data, []⟩ : Nod)]).length = T.length + 1 := by unfold nset; simp
      have hnl := W.w.len
      by_cases e : k = n
      · refine ⟨(T.length : Int), ⟨by omega, by rw [hLT]; omega⟩, ?_⟩
        rw [nu_app (by omega), if_pos (by omega), e]
      · rw [if_neg e] at hkk'
        have hold : (S.C k).kind ≠ 0 := by
          by_cases e2 : k = nu num d
          · rw [e2, hkd2]; decide
          · rw [if_neg e2, if_neg e] at hkk'; exact hkk'
        obtain ⟨i, hi, he'⟩ := W.all k k0 k1 hold
        have := hi.1
        have := hi.2
        refine ⟨i, ⟨by omega, by rw [hLT]; omega⟩, ?_⟩
        rw [nu_app (by omega), if_neg (by omega)]; exact he'
    · have hLT : (nset T d (insL (tn T d).names ⟨name, (T.length : Int)⟩) ++ [(⟨n, kind, 1, data, []⟩ : Nod)]).length = T.length + 1 := by unfold nset; simp
      rw [hLT, freeN_setS hn.2]
      omega
    · show q.2.2.awayN = []
      rw [w4]
      show X4.awayN = []
      rw [hX4]
      show r.2.2.awayN = []
      rw [ac2]
      exact W.aw
end Go.Proofs.YtdfgkdoplagelaaGreatDoor
/-
  Layer 12: the file that a path names; where a name stands.
-/
set_option linter.all false
set_option maxRecDepth 100000
set_option maxHeartbeats 2000000
namespace Go.Proofs.YtdfgkdoplagelaaGreatDoor
open Go Go.Eng

/-- the file that a path names, over files -/
def pathA (F : Fs) (path : List UInt8) (follow : Bool) : Int × Int := match pathP path with | none => (0, 3) | some l => walkA F 1 follow 600 1 0 l

theorem walkV_in {X : VS} {S : FS} (C : FsC S) {follow : Bool} (f : Nat) (at_ : Int) (links : Nat) (l : List (List UInt8)) (h : 0 ≤ at_ ∧ at_ < 24 ∧ (S.C at_).kind ≠ 0) (he : (walkA (viewFs S) 1 follow f at_ links l).2 = 0) :
    0 ≤ (walkA (viewFs S) 1 follow f at_ links l).1 ∧ (walkA (viewFs S) 1 follow f at_ links l).1 < 24 ∧ (S.C (walkA (viewFs S) 1 follow f at_ links l).1).kind ≠ 0 := by
  have A : Alike (viewFs S) (viewFs S) id (fun n => 0 ≤ n ∧ n < 24 ∧ (S.C n).kind ≠ 0) := by
    refine ⟨fun x _ => rfl, fun x n _ _ => by simp, fun x n y hx hk hf => ?_, fun x _ _ => rfl⟩
    have hf' : (findE (S.nm x) n).map (·.node) = some y := hf
    cases hfe : findE (S.nm x) n with
    | none => rw [hfe] at hf'; cases hf'
    | some e =>
      rw [hfe] at hf'
      have : e.node = y := by simpa using hf'
      rw [← this]
      exact C.names x hx.1 hx.2.1 hk e (List.mem_of_find?_eq_some hfe)
  exact ((walkA_alike A (root := 1) ⟨by decide, by decide, by rw [C.root]; decide⟩ f at_ links l h).2 he).2

theorem pathP_names {path : List UInt8} {l : List (List UInt8)} (h : pathP path = some l) : ∀ x ∈ l, x.length ≤ 200 := by
  obtain ⟨p1, p2, p3, p4⟩ := pathP_len h
  intro x hx
  have h1 := joinS_le hx
  by_cases hh : l = []
  · rw [hh] at hx; cases hx
  · rw [if_neg hh] at p4
    rw [p4] at h1; omega

theorem vpath_spec {h : Heap} {V : VL} {M : MemS} {X : VS} (A : At h V M X) {S : FS} (I : FsI X.now S) (C : FsC S) (path : List UInt8) (hp : path.length ≤ 140737488351232) (follow : Bool) :
    CallH Tryz.prog 8 [.pointer (some ⟨V.v, 0, none⟩), .string (ba path), .bool follow] h (fun v h' => Keeps [V.sb] h h' ∧ v = walkV S (pathA (viewFs S) path follow) ∧ ∃ s, At h' V M { X with seen := s }) := by
  have bl := A.blt
  have msb : V.sb ∈ V.blocks := by simp [VL.blocks]
  refine call_of hmix Tryz.func8 rfl ok8 (by simp [Tryz.f8]) ?_
  conv => whnf
  refine AllocR.i fun b1 h1 e1 s1 o1 k1 => ?_
  have nb1 : ∀ b ∈ V.blocks, b ≠ b1 := fun b hb => by have := bl b hb; omega
  conv => whnf
  refine IfR.f rfl ?_
  conv => whnf
  refine CallR.i (nsplit_spec path hp h1) fun v h2 k2 hv => ?_
  have k02 := k1.trans k2
  have z1 := k1.size
  have z2 := k2.size
  unfold pathA
  cases hpp : pathP path with
  | none =>
    rw [hpp] at hv
    have hv : v = .tuple #[.slice none 0 0, .int .i64 3] := hv
    subst hv
    conv => whnf
    refine IfR.t rfl ?_
    conv => whnf
    refine BoxR.i fun h3 s3 k3 => ?_
    conv => whnf
    exact ⟨(k02.mono (by simp)).m1 k3 (by omega), rfl, X.seen, (A.on k02).keep k3 (fun b hb => by simp; exact nb1 b hb)⟩
  | some l =>
    rw [hpp] at hv
    obtain ⟨a, c, rfl, T2, n2⟩ := hv
    obtain ⟨p1, p2, p3, p4⟩ := pathP_len hpp
    conv => whnf
    refine IfR.f rfl ?_
    conv => whnf
    refine CallR.m (vwalk_spec (A.on k02) I C follow T2 (fun b hb => by have := n2 b hb; have := bl V.sb msb; omega) p1 (pathP_names hpp)) (by simp [blocksOf, setB]; exact fun e => nb1 V.sb msb e.symm) fun v h3 k3 hv => ?_
    obtain ⟨rfl, s, A3⟩ := hv
    unfold walkV
    conv => whnf
    refine BoxR.i fun h4 s4 k4 => ?_
    conv => whnf
    exact ⟨((k02.mono (by simp)).trans k3).m1 k4 (by omega), rfl, s, A3.keep k4 (fun b hb => by simp; exact nb1 b hb)⟩

/-- where a name stands, over files: the directory, its name, the file that has it, the error -/
def placeA (F : Fs) (path : List UInt8) : Int × List UInt8 × Int × Int :=
  match pathP path with
  | none => (0, [], 0, 3)
  | some l => if l = [] then (0, [], 0, 1) else
    let r := walkA F 1 true 600 1 0 l.dropLast
    if r.2 ≠ 0 then (0, [], 0, r.2) else if F.kind r.1 ≠ 2 then (0, [], 0, 6) else (r.1, l.getLast?.getD [], (F.find r.1 (l.getLast?.getD [])).getD 0, 0)

/-- a spot's cells -/
def spotC (S : FS) (r : Int × List UInt8 × Int × Int) : List Value := if r.2.2.2 = 0 then [.int .i64 r.1] ++ (S.C r.1).cells ++ [.string (ba r.2.1), .int .i64 r.2.2.1] else [.int .i64 0] ++ Crd.zero.cells ++ [.string ⟨#[]⟩, .int .i64 0]

theorem vplace_spec {h : Heap} {V : VL} {M : MemS} {X : VS} (A : At h V M X) {S : FS} (I : FsI X.now S) (C : FsC S) (path : List UInt8) (hp : path.length ≤ 140737488351232) :
    CallH Tryz.prog 10 [.pointer (some ⟨V.v, 0, none⟩), .string (ba path)] h (fun v h' => Keeps [V.sb] h h' ∧ v = .tuple #[.agg ⟨spotC S (placeA (viewFs S) path)⟩, .int .i64 (placeA (viewFs S) path).2.2.2] ∧ ∃ s, At h' V M { X with seen := s }) := by
  have bl := A.blt
  have msb : V.sb ∈ V.blocks := by simp [VL.blocks]
  refine call_of hmix Tryz.func10 rfl ok10 (by simp [Tryz.f10]) ?_
  conv => whnf
  refine AllocR.i fun b1 h1 e1 s1 o1 k1 => ?_
  have nb1 : ∀ b ∈ V.blocks, b ≠ b1 := fun b hb => by have := bl b hb; omega
  conv => whnf
  refine IfR.f rfl ?_
  conv => whnf
  refine CallR.i (parent_spec path hp h1) fun v h2 k2 hv => ?_
  have k02 := k1.trans k2
  have z1 := k1.size
  have z2 := k2.size
  have stop : ∀ (h2 h3 : Heap) (r : Int × List UInt8 × Int × Int), Keeps [V.sb] h h2 → (∃ s, At h2 V M { X with seen := s }) → Keeps [b1] h2 h3 → r.2.2.2 ≠ 0 → placeA (viewFs S) path = r →
      Keeps [V.sb] h h3 ∧ Value.tuple #[.agg ⟨[.int .i64 0] ++ Crd.zero.cells ++ [.string ⟨#[]⟩, .int .i64 0]⟩, .int .i64 r.2.2.2] = .tuple #[.agg ⟨spotC S (placeA (viewFs S) path)⟩, .int .i64 (placeA (viewFs S) path).2.2.2] ∧ ∃ s, At h3 V M { X with seen := s } := by
    intro h2 h3 r k2 ⟨s, A2⟩ k3 hr he
    refine ⟨k2.m1 k3 (by omega), ?_, s, A2.keep k3 (fun b hb => by simp; exact nb1 b hb)⟩
    rw [he]
    unfold spotC
    rw [if_neg hr]
  have hpl : placeA (viewFs S) path = placeA (viewFs S) path := rfl
  conv at hpl => rhs; unfold placeA
  cases hpp : pathP path with
  | none =>
    rw [hpp] at hv hpl
    simp only at hv hpl
    subst hv
    conv => whnf
    refine IfR.t rfl ?_
    conv => whnf
    refine BoxR.i fun h3 s3 k3 => ?_
    conv => whnf
    exact stop h2 h3 _ (k02.mono (by simp)) ⟨X.seen, A.on k02⟩ k3 (by decide) hpl
  | some l =>
    rw [hpp] at hv hpl
    simp only at hv hpl
    obtain ⟨p1, p2, p3, p4⟩ := pathP_len hpp
    by_cases h0 : l = []
    · rw [if_pos h0] at hv hpl
      subst hv
      conv => whnf
      refine IfR.t rfl ?_
      conv => whnf
      refine BoxR.i fun h3 s3 k3 => ?_
      conv => whnf
      exact stop h2 h3 _ (k02.mono (by simp)) ⟨X.seen, A.on k02⟩ k3 (by decide) hpl
    · rw [if_neg h0] at hv hpl
      subst hv
      have hall : l.dropLast.all nameB = true := List.all_eq_true.2 fun x hx => List.all_eq_true.1 p2 x (List.dropLast_subset _ hx)
      have hjl : (joinS l.dropLast).length ≤ 120 := by
        rw [List.dropLast_eq_take]
        have := joinS_take l (l.length - 1)
        rw [if_neg h0] at p4
        rw [p4] at this
        omega
      have hup : pathP (pathJ l.dropLast) = some l.dropLast := pathP_join hall hjl
      have hul : (pathJ l.dropLast).length ≤ 120 := by
        unfold pathJ
        split
        · simp
        · exact hjl
      conv => whnf
      refine IfR.f rfl ?_
      conv => whnf
      refine CallR.m (vpath_spec (A.on k02) I C (pathJ l.dropLast) (by omega) true) (by simp [blocksOf, setB]; exact fun e => nb1 V.sb msb e.symm) fun v h3 k3 hv => ?_
      obtain ⟨rfl, s, A3⟩ := hv
      have hpa : pathA (viewFs S) (pathJ l.dropLast) true = walkA (viewFs S) 1 true 600 1 0 l.dropLast := by
        unfold pathA
        rw [hup]
      rw [hpa]
      generalize hr : walkA (viewFs S) 1 true 600 1 0 l.dropLast = r at hpl
      unfold walkV
      conv => whnf
      refine AllocR.i fun b4 h4 e4 s4 o4 k4 => ?_
      conv => whnf
      refine BoxR.i fun h5 s5 k5 => ?_
      have z3 := k3.size
      have k35 : Keeps [] h3 h5 := k4.new1 k5 (by omega)
      have A5 := A3.on k35
      have k05 : Keeps [V.sb] h h5 := ((k02.mono (by simp)).trans k3).trans_nil k35
      by_cases hr2 : r.2 = 0
      · rw [if_neg (fun h => h hr2)] at hpl
        have hin := walkV_in (X := X) C (follow := true) 600 1 0 l.dropLast ⟨by decide, by decide, by rw [C.root]; decide⟩
        rw [hr] at hin
        obtain ⟨r0, r1, rk⟩ := hin hr2
        rw [hr2]
        conv => whnf
        refine IfR.f rfl ?_
        have N5 := I.node r.1 r0 r1
        conv => whnf
        refine CallR.i (ffind_spec A5 (S.C r.1) N5.ok (l.getLast?.getD [])) fun v h6 k6 hv => ?_
        have A6 := A5.on k6
        have k06 := k05.trans_nil k6
        by_cases hk2 : (S.C r.1).kind = 2
        · obtain ⟨m, D⟩ := N5.dir hk2
          rw [dir_find D] at hv
          simp only at hv
          subst hv
          rw [if_neg (show ¬ ((viewFs S).kind r.1 ≠ 2) from fun h => h hk2)] at hpl
          have hfr : (findR (S.nm r.1) (l.getLast?.getD [])).1 = ((viewFs S).find r.1 (l.getLast?.getD [])).getD 0 := by
            rw [viewFs_find]
            unfold findR
            cases findE (S.nm r.1) (l.getLast?.getD []) <;> rfl
          conv => whnf
          refine IfR.f rfl ?_
          conv => whnf
          refine BoxR.i fun h7 s7 k7 => ?_
          conv => whnf
          have z6 := k6.size
          refine ⟨k06.m1 k7 (by omega), ?_, s, A6.keep k7 (fun b hb => by simp; exact nb1 b hb)⟩
          rw [hpl]
          unfold spotC
          simp only
          rw [if_pos trivial, hfr]
          rfl
        · rw [if_pos (show (viewFs S).kind r.1 ≠ 2 from hk2)] at hpl
          have hop : findP X.now (S.C r.1) (l.getLast?.getD []) = (0, false, 6) := by
            unfold findP openP
            rw [if_pos hk2]
            rfl
          have hop' : findP ({ X with seen := s } : VS).now (S.C r.1) (l.getLast?.getD []) = (0, false, 6) := hop
          rw [hop'] at hv
          subst hv
          conv => whnf
          refine IfR.t rfl ?_
          conv => whnf
          refine BoxR.i fun h7 s7 k7 => ?_
          conv => whnf
          have z6 := k6.size
          exact stop h6 h7 _ k06 ⟨s, A6⟩ k7 (by decide) hpl
      · rw [if_pos hr2] at hpl
        conv => whnf
        refine IfR.t (by simp; exact hr2) ?_
        conv => whnf
        refine BoxR.i fun h7 s7 k7 => ?_
        conv => whnf
        exact stop h5 h7 _ k05 ⟨s, A5⟩ k7 hr2 hpl
end Go.Proofs.YtdfgkdoplagelaaGreatDoor
/-
  Layer 12's statements: a world lies in the heap.
-/
set_option linter.all false
set_option maxRecDepth 100000
set_option maxHeartbeats 4000000
namespace Go.Proofs.YtdfgkdoplagelaaGreatDoor
open Go Go.Eng

structure NodH where
  nd : Nod
  a : Option Addr
  n : Nat
  c : Nat
def NodH.cells (x : NodH) : List Value := [.int .i64 x.nd.id, .int .i64 x.nd.kind, .int .i64 x.nd.links, .string (ba x.nd.data), .slice x.a x.n x.c]
def nodC (L : List NodH) : List Value := L.flatMap NodH.cells

theorem nodC_len : ∀ L : List NodH, (nodC L).length = L.length * 5
  | [] => rfl
  | x :: L => by
    have ih := nodC_len L
    unfold nodC at ih ⊢
    rw [List.flatMap_cons, List.length_append, ih, List.length_cons]
    show 5 + _ = _
    omega
theorem nodC_get : ∀ (L : List NodH) (i j : Nat) (hi : i < L.length), j < 5 → (nodC L)[i * 5 + j]? = L[i].cells[j]?
  | [], i, j, hi, _ => by simp at hi
  | x :: L, 0, j, _, hj => by
    unfold nodC
    rw [List.flatMap_cons, List.getElem?_append_left (by show 0 * 5 + j < 5; omega)]
    simp
  | x :: L, i + 1, j, hi, hj => by
    have ih := nodC_get L i j (by simpa using hi) hj
    unfold nodC at ih ⊢
    rw [List.flatMap_cons, List.getElem?_append_right (by show 5 ≤ _; omega)]
    have : (i + 1) * 5 + j - x.cells.length = i * 5 + j := by show (i + 1) * 5 + j - 5 = _; omega
    rw [this]
    simpa using ih
theorem own_cell {h : Heap} {e : TypeId} {sz : Nat} {a : Option Addr} {n c : Nat} {l : List Value} (O : Own h e sz a n c l) {k : Nat} (hk : k < l.length) : ∃ b cs, a = some ⟨b, 0, none⟩ ∧ h[b]? = some (.cells ⟨cs⟩ e (0, 0)) ∧ Heap.cell? h b k = l[k]? ∧ cs.take l.length = l ∧ l.length ≤ cs.length := by
  rcases O with ⟨_, _, _, rfl⟩ | ⟨b, cs, rfl, o, ht, h1, h2, h3⟩
  · simp at hk
  · have hle : l.length ≤ cs.length := by
      have := congrArg List.length ht
      rw [List.length_take] at this
      omega
    refine ⟨b, cs, rfl, o, ?_, ht, hle⟩
    simp only [Heap.cell?, o]
    have : l[k]? = (cs.take l.length)[k]? := by rw [ht]
    rw [this, List.getElem?_take, if_pos hk]
    simp

structure WorldH (h : Heap) (z w t : Nat) (V : VL) (aT : Option Addr) (cT : Nat) (L : List NodH) (aN : Option Addr) (cN : Nat) (num : List Int) : Prop where
  obj : h[w]? = some (.cells ⟨[.pointer (some ⟨V.v, 0, none⟩), .pointer (some ⟨t, 0, none⟩), .slice aN num.length cN]⟩ 37 (0, 0))
  tr : h[t]? = some (.cells ⟨[.slice aT L.length cT]⟩ 51 (0, 0))
  own : Own h 48 5 aT L.length cT (nodC L)
  nums : Own h 3 1 aN num.length cN (num.map fun x => .int .i64 x)
  nam : ∀ x ∈ L, x.n = x.nd.names.length ∧ Own h 75 2 x.a x.n x.c (entC x.nd.names) ∧ (∀ b ∈ blkA x.a, z ≤ b) ∧ (∀ e ∈ x.nd.names, e.ok) ∧ x.nd.names.length ≤ 105
  zw : z ≤ w ∧ z ≤ t ∧ (∀ b ∈ blkA aT, z ≤ b) ∧ (∀ b ∈ blkA aN, z ≤ b)
  zv : ∀ b ∈ V.blocks, b < z

theorem WorldH.keep {F : List Nat} {h h' : Heap} {z w t : Nat} {V : VL} {aT : Option Addr} {cT : Nat} {L : List NodH} {aN : Option Addr} {cN : Nat} {num : List Int} (W : WorldH h z w t V aT cT L aN cN num) (k : Keeps F h h') (hF : ∀ x ∈ F, x < z) : WorldH h' z w t V aT cT L aN cN num := by
  obtain ⟨z1, z2, z3, z4⟩ := W.zw
  have no : ∀ b, z ≤ b → b ∉ F := fun b hb hx => by have := hF b hx; omega
  exact ⟨k.obj W.obj (no _ z1), k.obj W.tr (no _ z2), W.own.keep k (fun b hb => no b (z3 b hb)), W.nums.keep k (fun b hb => no b (z4 b hb)), fun x hx => by
    obtain ⟨n1, n2, n3, n4, n5⟩ := W.nam x hx
    exact ⟨n1, n2.keep k (fun b hb => no b (n3 b hb)), n3, n4, n5⟩, W.zw, W.zv⟩

/-- a world's blocks are old -/
theorem WorldH.old {h : Heap} {z w t : Nat} {V : VL} {aT : Option Addr} {cT : Nat} {L : List NodH} {aN : Option Addr} {cN : Nat} {num : List Int} (W : WorldH h z w t V aT cT L aN cN num) : w < h.size ∧ t < h.size ∧ (∀ b ∈ blkA aT, b < h.size) ∧ (∀ b ∈ blkA aN, b < h.size) ∧ ∀ x ∈ L, ∀ b ∈ blkA x.a, b < h.size :=
  ⟨obj_lt W.obj, obj_lt W.tr, W.own.lt, W.nums.lt, fun x hx => (W.nam x hx).2.1.lt⟩
theorem WorldH.keepW {F : List Nat} {h h' h'' : Heap} {z w t : Nat} {V : VL} {aT : Option Addr} {cT : Nat} {L : List NodH} {aN : Option Addr} {cN : Nat} {num : List Int} (W0 : WorldH h z w t V aT cT L aN cN num) (W : WorldH h' z w t V aT cT L aN cN num) (k : Keeps F h' h'') (hF : ∀ x ∈ F, x < z ∨ h.size ≤ x) : WorldH h'' z w t V aT cT L aN cN num := by
  obtain ⟨z1, z2, z3, z4⟩ := W.zw
  obtain ⟨o1, o2, o3, o4, o5⟩ := W0.old
  have no : ∀ b, z ≤ b → b < h.size → b ∉ F := fun b hb hb2 hx => by have := hF b hx; omega
  exact ⟨k.obj W.obj (no _ z1 o1), k.obj W.tr (no _ z2 o2), W.own.keep k (fun b hb => no b (z3 b hb) (o3 b hb)), W.nums.keep k (fun b hb => no b (z4 b hb) (o4 b hb)), fun x hx => by
    obtain ⟨n1, n2, n3, n4, n5⟩ := W.nam x hx
    exact ⟨n1, n2.keep k (fun b hb => no b (n3 b hb) (o5 x hx b hb)), n3, n4, n5⟩, W.zw, W.zv⟩

theorem cells_ne {h : Heap} {a b : Nat} {x y : Array Value} {S T : TypeId} {f g : Nat × Nat} (h1 : h[a]? = some (.cells x S f)) (h2 : h[b]? = some (.cells y T g)) (hne : S ≠ T) : a ≠ b := by
  rintro rfl
  rw [h1] at h2
  cases h2
  exact hne rfl

/-- the nodes of a world -/
def nds (L : List NodH) : List Nod := L.map (·.nd)
theorem nds_len (L : List NodH) : (nds L).length = L.length := by simp [nds]
theorem tn_nds {L : List NodH} {i : Nat} (hi : i < L.length) : tn (nds L) (i : Int) = L[i].nd := by
  unfold tn nds
  rw [Int.toNat_natCast, List.getElem?_map, List.getElem?_eq_getElem hi]
  rfl

/-- a file that is put -/
structure Fil where
  in_ : Int
  kind : Int
  name : List UInt8
  data : List UInt8
def Fil.cells (f : Fil) : List Value := [.int .i64 f.in_, .int .i64 f.kind, .string (ba f.name), .string (ba f.data)]
def Fil.ok (f : Fil) : Prop := inI64 f.in_ ∧ inI64 f.kind ∧ f.name.length ≤ 140737488351232 ∧ f.data.length ≤ 140737488351232

def u64N (x : Int) : Nat := (x % 18446744073709551616).toNat
/-- where a file goes, of which kind it is -/
def dirOf (f : Fil) (len : Nat) : Nat := 1 + u64N f.in_ % (len - 1)
def kindOf (f : Fil) : Int := 1 + ((u64N f.kind % 3 : Nat) : Int)
theorem dirOf_in {f : Fil} {len : Nat} (h : 2 ≤ len) : 1 ≤ dirOf f len ∧ dirOf f len < len := by
  unfold dirOf
  have := Nat.mod_lt (u64N f.in_) (show 0 < len - 1 by omega)
  omega
theorem kindOf_in (f : Fil) : 1 ≤ kindOf f ∧ kindOf f ≤ 3 := by
  unfold kindOf
  have := Nat.mod_lt (u64N f.kind) (show 0 < 3 by decide)
  omega

/-! ### A name's node is set -/

theorem plK_ins (l : List Ent) (name : List UInt8) (x : Int) : plK (insL l ⟨name, x⟩) name = plK l name := by
  have h1 : l.take (plK l name) = l.takeWhile fun e => blt e.name name := (List.prefix_iff_eq_take.1 (List.takeWhile_prefix _)).symm
  have hall : ∀ e ∈ l.take (plK l name), blt e.name name = true := by
    rw [h1]
    intro e he
    have := List.all_takeWhile (p := fun e : Ent => blt e.name name) (l := l)
    exact List.all_eq_true.1 this e he
  have hle := plK_le l name
  show (List.takeWhile (fun e : Ent => blt e.name name) (l.take (plK l name) ++ ⟨name, x⟩ :: l.drop (plK l name))).length = plK l name
  rw [List.takeWhile_append_of_pos hall, List.takeWhile_cons, if_neg (by rw [blt_irr]; simp), List.append_nil, List.length_take]
  show min (plK l name) l.length = plK l name
  omega
theorem insL_len (l : List Ent) (e : Ent) : (insL l e).length = l.length + 1 := by rw [(insL_perm l e).length_eq]; rfl
theorem ins_set (l : List Ent) (name : List UInt8) (x y : Int) : (entC (insL l ⟨name, x⟩)).set (plK l name * 2 + 1) (.int .i64 y) = entC (insL l ⟨name, y⟩) := by
  have hle := plK_le l name
  unfold insL
  rw [entC_app, entC_app]
  have hl : (entC (l.take (plK l name))).length = plK l name * 2 := by rw [entC_len, List.length_take]; omega
  rw [List.set_append, if_neg (by rw [hl]; omega), hl]
  have : plK l name * 2 + 1 - plK l name * 2 = 1 := by omega
  rw [this]
  rfl
theorem nodC_app (a b : List NodH) : nodC (a ++ b) = nodC a ++ nodC b := by unfold nodC; rw [List.flatMap_append]
theorem nodC_set : ∀ (L : List NodH) (i : Nat) (hi : i < L.length) (x : NodH), x.nd.id = L[i].nd.id → x.nd.kind = L[i].nd.kind → x.nd.links = L[i].nd.links → x.nd.data = L[i].nd.data → (nodC L).set (i * 5 + 4) (.slice x.a x.n x.c) = nodC (L.set i x)
  | [], i, hi, _, _, _, _, _ => by simp at hi
  | y :: L, 0, _, x, h1, h2, h3, h4 => by
    simp only [List.getElem_cons_zero] at h1 h2 h3 h4
    unfold nodC
    rw [List.set_cons_zero, List.flatMap_cons, List.flatMap_cons, List.set_append, if_pos (by show 0 * 5 + 4 < 5; decide)]
    congr 1
    unfold NodH.cells
    rw [h1, h2, h3, h4]; rfl
  | y :: L, i + 1, hi, x, h1, h2, h3, h4 => by
    have ih := nodC_set L i (by simpa using hi) x (by simpa using h1) (by simpa using h2) (by simpa using h3) (by simpa using h4)
    unfold nodC at ih ⊢
    rw [List.set_cons_succ, List.flatMap_cons, List.flatMap_cons, List.set_append, if_neg (by show ¬ ((i + 1) * 5 + 4 < 5); omega)]
    have : (i + 1) * 5 + 4 - y.cells.length = i * 5 + 4 := by show (i + 1) * 5 + 4 - 5 = _; omega
    rw [this, ih]
theorem own_set {h h' : Heap} {e : TypeId} {sz : Nat} {b n c : Nat} {l : List Value} (O : Own h e sz (some ⟨b, 0, none⟩) n c l) {k : Nat} (hk : k < l.length) {v : Value} {cs : List Value} (o : h[b]? = some (.cells ⟨cs⟩ e (0, 0))) (o' : h'[b]? = some (.cells ⟨spliceL k [v] cs⟩ e (0, 0))) : Own h' e sz (some ⟨b, 0, none⟩) n c (l.set k v) := by
  rcases O with ⟨h0, _⟩ | ⟨b', cs', hb, ob, ht, h1, h2, h3⟩
  · cases h0
  · cases hb
    rw [o] at ob
    cases ob
    have hle : l.length ≤ cs.length := by
      have := congrArg List.length ht
      rw [List.length_take] at this
      omega
    rw [splice_set1 _ _ _ (by omega)] at o'
    refine .inr ⟨b, _, rfl, o', ?_, by rw [List.length_set]; exact h1, by rw [List.length_set]; exact h2, h3⟩
    rw [List.length_set, List.take_set, ht]
/-! ### A world is changed -/

theorem own_ty {h : Heap} {e : TypeId} {sz : Nat} {a : Option Addr} {n c : Nat} {l : List Value} (O : Own h e sz a n c l) : ∀ b ∈ blkA a, ∃ cs, h[b]? = some (.cells cs e (0, 0)) := by
  intro b hb
  rcases O with ⟨rfl, _⟩ | ⟨b', cs, rfl, o, _⟩
  · cases hb
  · have : b = b' := by simpa [blkA] using hb
    subst this
    exact ⟨_, o⟩

theorem WorldH.setNames {h h' : Heap} {z w t : Nat} {V : VL} {aT : Option Addr} {cT : Nat} {L : List NodH} {aN : Option Addr} {cN : Nat} {num : List Int} (W : WorldH h z w t V aT cT L aN cN num) {d : Nat} (hd : d < L.length) {bT : Nat} (haT : aT = some ⟨bT, 0, none⟩) {csT : List Value} (o : h[bT]? = some (.cells ⟨csT⟩ 48 (0, 0))) (k : Keeps [bT] h h') (x : NodH)
    (h1 : x.nd.id = L[d].nd.id) (h2 : x.nd.kind = L[d].nd.kind) (h3 : x.nd.links = L[d].nd.links) (h4 : x.nd.data = L[d].nd.data) (o' : h'[bT]? = some (.cells ⟨spliceL (d * 5 + 4) [.slice x.a x.n x.c] csT⟩ 48 (0, 0)))
    (hx : x.n = x.nd.names.length ∧ Own h 75 2 x.a x.n x.c (entC x.nd.names) ∧ (∀ b ∈ blkA x.a, z ≤ b) ∧ (∀ e ∈ x.nd.names, e.ok) ∧ x.nd.names.length ≤ 105) : WorldH h' z w t V aT cT (L.set d x) aN cN num := by
  have hw : w ≠ bT := cells_ne W.obj o (by decide)
  have ht : t ≠ bT := cells_ne W.tr o (by decide)
  have O' := own_set (haT ▸ W.own) (k := d * 5 + 4) (by rw [nodC_len]; omega) o o'
  rw [nodC_set L d hd x h1 h2 h3 h4, ← haT] at O'
  have nk : ∀ y : NodH, Own h 75 2 y.a y.n y.c (entC y.nd.names) → Own h' 75 2 y.a y.n y.c (entC y.nd.names) := fun y oy => oy.keep k (fun b hb hx => by
    obtain ⟨cs, oc⟩ := own_ty oy b hb
    have := cells_ne oc o (by decide)
    simp at hx; exact this hx)
  refine ⟨k.obj W.obj (by simpa using hw), by rw [List.length_set]; exact k.obj W.tr (by simpa using ht), by rw [List.length_set]; exact O', W.nums.keep k (fun b hb hx => ?_), fun y hy => ?_, W.zw, W.zv⟩
  · obtain ⟨cs, oc⟩ := own_ty W.nums b hb
    have := cells_ne oc o (by decide)
    simp at hx; exact this hx
  · rcases List.mem_or_eq_of_mem_set hy with hy | rfl
    · obtain ⟨n1, n2, n3, n4, n5⟩ := W.nam y hy
      exact ⟨n1, nk y n2, n3, n4, n5⟩
    · exact ⟨hx.1, nk y hx.2.1, hx.2.2⟩

theorem WorldH.pushNode {h h1 h' : Heap} {z w t : Nat} {V : VL} {aT : Option Addr} {cT : Nat} {L : List NodH} {aN : Option Addr} {cN : Nat} {num : List Int} (W : WorldH h z w t V aT cT L aN cN num) {aT' : Option Addr} {cT' : Nat} (k1 : Keeps (blkA aT) h h1) (n1 : ∀ b ∈ blkA aT', b ∈ blkA aT ∨ h.size ≤ b) (x : NodH) (O1 : Own h1 48 5 aT' (L.length + 1) cT' (nodC L ++ x.cells)) (k2 : Keeps [t] h1 h')
    (o' : h'[t]? = some (.cells ⟨[.slice aT' (L.length + 1) cT']⟩ 51 (0, 0))) (hx : x.n = 0 ∧ x.a = none ∧ x.c = 0 ∧ x.nd.names = []) : WorldH h' z w t V aT' cT' (L ++ [x]) aN cN num := by
  obtain ⟨z1, z2, z3, z4⟩ := W.zw
  have ndT : ∀ {b : Nat} {cs : Array Value} {T : TypeId} {fz : Nat × Nat}, h[b]? = some (.cells cs T fz) → T ≠ 48 → b ∉ blkA aT := by
    intro b cs T fz o hne hb
    obtain ⟨cs2, o2⟩ := own_ty W.own b hb
    exact cells_ne o o2 hne rfl
  have ob1 := k1.obj W.obj (ndT W.obj (by decide))
  have tr1 := k1.obj W.tr (ndT W.tr (by decide))
  have nums1 := W.nums.keep k1 (fun b hb => by
    obtain ⟨cs, oc⟩ := own_ty W.nums b hb
    exact ndT oc (by decide))
  have wt : w ≠ t := cells_ne W.obj W.tr (by decide)
  have zh := W.old
  have z1' := k1.size
  have nt : ∀ {b : Nat} {cs : Array Value} {T : TypeId} {fz : Nat × Nat}, h1[b]? = some (.cells cs T fz) → T ≠ 51 → b ∉ [t] := by
    intro b cs T fz o hne hb
    have : b = t := by simpa using hb
    subst this
    exact cells_ne o tr1 hne rfl
  refine ⟨k2.obj ob1 (by simpa using wt), by simpa using o', ?_, nums1.keep k2 (fun b hb => ?_), fun y hy => ?_, ⟨z1, z2, fun b hb => ?_, z4⟩, W.zv⟩
  · have e : nodC (L ++ [x]) = nodC L ++ x.cells := by rw [nodC_app]; unfold nodC; simp
    rw [e, List.length_append]
    exact O1.keep k2 (fun b hb => by
      obtain ⟨cs, oc⟩ := own_ty O1 b hb
      exact nt oc (by decide))
  · obtain ⟨cs, oc⟩ := own_ty nums1 b hb
    exact nt oc (by decide)
  · rcases List.mem_append.1 hy with hy | hy
    · obtain ⟨m1, m2, m3, m4, m5⟩ := W.nam y hy
      have o1 := m2.keep k1 (fun b hb => by
        obtain ⟨cs, oc⟩ := own_ty m2 b hb
        exact ndT oc (by decide))
      exact ⟨m1, o1.keep k2 (fun b hb => by
        obtain ⟨cs, oc⟩ := own_ty o1 b hb
        exact nt oc (by decide)), m3, m4, m5⟩
    · have : y = x := by simpa using hy
      subst this
      obtain ⟨q1, q2, q3, q4⟩ := hx
      rw [q1, q2, q3, q4]
      exact ⟨rfl, .inl ⟨rfl, rfl, rfl, rfl⟩, by simp [blkA], by simp, by simp⟩
  · rcases n1 b hb with h2 | h2
    · exact z3 b h2
    · have := zh.1; omega

theorem WorldH.pushNum {h h1 h' : Heap} {z w t : Nat} {V : VL} {aT : Option Addr} {cT : Nat} {L : List NodH} {aN : Option Addr} {cN : Nat} {num : List Int} (W : WorldH h z w t V aT cT L aN cN num) {aN' : Option Addr} {cN' : Nat} (k1 : Keeps (blkA aN) h h1) (n1 : ∀ b ∈ blkA aN', b ∈ blkA aN ∨ h.size ≤ b) (x : Int) (O1 : Own h1 3 1 aN' (num.length + 1) cN' ((num ++ [x]).map fun x => .int .i64 x)) (k2 : Keeps [w] h1 h')
    (o' : h'[w]? = some (.cells ⟨[.pointer (some ⟨V.v, 0, none⟩), .pointer (some ⟨t, 0, none⟩), .slice aN' (num.length + 1) cN']⟩ 37 (0, 0))) : WorldH h' z w t V aT cT L aN' cN' (num ++ [x]) := by
  obtain ⟨z1, z2, z3, z4⟩ := W.zw
  have ndN : ∀ {b : Nat} {cs : Array Value} {T : TypeId} {fz : Nat × Nat}, h[b]? = some (.cells cs T fz) → T ≠ 3 → b ∉ blkA aN := by
    intro b cs T fz o hne hb
    obtain ⟨cs2, o2⟩ := own_ty W.nums b hb
    exact cells_ne o o2 hne rfl
  have ob1 := k1.obj W.obj (ndN W.obj (by decide))
  have tr1 := k1.obj W.tr (ndN W.tr (by decide))
  have own1 := W.own.keep k1 (fun b hb => by
    obtain ⟨cs, oc⟩ := own_ty W.own b hb
    exact ndN oc (by decide))
  have zh := W.old
  have nw : ∀ {b : Nat} {cs : Array Value} {T : TypeId} {fz : Nat × Nat}, h1[b]? = some (.cells cs T fz) → T ≠ 37 → b ∉ [w] := by
    intro b cs T fz o hne hb
    have : b = w := by simpa using hb
    subst this
    exact cells_ne o ob1 hne rfl
  refine ⟨by simpa using o', k2.obj tr1 (nw tr1 (by decide)), own1.keep k2 (fun b hb => ?_), ?_, fun y hy => ?_, ⟨z1, z2, z3, fun b hb => ?_⟩, W.zv⟩
  · obtain ⟨cs, oc⟩ := own_ty own1 b hb
    exact nw oc (by decide)
  · rw [List.length_append]
    exact O1.keep k2 (fun b hb => by
      obtain ⟨cs, oc⟩ := own_ty O1 b hb
      exact nw oc (by decide))
  · obtain ⟨m1, m2, m3, m4, m5⟩ := W.nam y hy
    have o1 := m2.keep k1 (fun b hb => by
      obtain ⟨cs, oc⟩ := own_ty m2 b hb
      exact ndN oc (by decide))
    exact ⟨m1, o1.keep k2 (fun b hb => by
      obtain ⟨cs, oc⟩ := own_ty o1 b hb
      exact nw oc (by decide)), m3, m4, m5⟩
  · rcases n1 b hb with h2 | h2
    · exact z4 b h2
    · have := zh.1; omega
end Go.Proofs.YtdfgkdoplagelaaGreatDoor
