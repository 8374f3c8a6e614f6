/-
  Joined texts: LnkB, LnkC.
-/
import Derived.Test.YtkjkdnphikendaaGreatDoorJLawCLinksm
/-
  Layer 13's law: all names of a file are one file.
-/
set_option linter.all false
set_option maxRecDepth 100000
set_option maxHeartbeats 8000000
namespace Go.Proofs.YtkjkdnphikendaaGreatDoor
open Go Go.Eng

def pths (P : List (List UInt8)) : List (List UInt8) := P.map (47 :: ·)
theorem pths_len (P : List (List UInt8)) : (pths P).length = P.length := by simp [pths]
theorem pths_get {P : List (List UInt8)} {i : Nat} (hi : i < P.length) : (bas (pths P))[i]'(by rw [bas_len, pths_len]; exact hi) = ba (47 :: P[i]) := by simp [bas, pths]
theorem LkI.short {X : VS} {S : FS} {P : List (List UInt8)} {s : List UInt8} (L : LkI X S P s) : ∀ x ∈ pths P, x.length ≤ 140737488351232 := by
  intro x hx
  obtain ⟨y, hy, rfl⟩ := List.mem_map.1 hx
  have := (pathP_len (L.ok y hy)).2.2.1
  omega

theorem blk_slA (a : Option Addr) (c l s : Nat) : blkA (slA a c l s) = blkA a := by
  unfold slA
  split
  · rfl
  · cases a with
    | none => rfl
    | some x =>
      simp only [Option.map, blkA, Addr.add]
      split <;> rfl

theorem link_step {B : Int → UInt64} {X X' : VS} {S : FS} {P : List (List UInt8)} {s name : List UInt8} {v : Value} (L : LkI X S P s) (hf : frst ∈ P) (R : LinkR B X S (47 :: frst) name v X') :
    ∃ e : Int, v = .int .i64 e ∧ (e = 9 ∨ (e ≠ 0 ∧ LkI X' S P s) ∨ (e = 0 ∧ ∃ nm S', name = 47 :: nm ∧ LkI X' S' (P ++ [nm]) s)) := by
  obtain ⟨e1, e2, H⟩ := R
  have hP : P ≠ [] := List.ne_nil_of_mem hf
  rw [L.path hf false] at H
  simp only at H
  have hk := L.k2' hf
  rcases H with ⟨h, _⟩ | ⟨_, h, _⟩ | ⟨_, _, ⟨h, hv, w1, w2⟩ | ⟨d, nm, nd, Q, ⟨_, hv, w1, w2⟩ | ⟨_, _, hv, w1, _⟩ | ⟨_, _, hv, _⟩ | ⟨_, _, hv, _, _, c2, c1, k1, k2, k3, k4, I⟩⟩⟩
  · exact absurd rfl h
  · rw [hk] at h; cases h
  · exact ⟨_, hv, .inr (.inl ⟨h, L.same w1 e2⟩)⟩
  · exact ⟨_, hv, .inr (.inl ⟨by decide, L.same w1 e2⟩)⟩
  · exact ⟨_, hv, .inr (.inl ⟨by decide, L.same w1 e2⟩)⟩
  · exact ⟨_, hv, .inl rfl⟩
  · obtain ⟨hd, hp, hn⟩ := L.root Q
    subst hd
    obtain ⟨S', L'⟩ := L.linked hP e2 (nm := nm) (by rw [← hn]; exact hp) k1 k2 k3 I
    exact ⟨_, hv, .inr (.inr ⟨rfl, nm, S', hn, L'⟩)⟩

theorem write_step2 {B : Int → UInt64} {X X' : VS} {S : FS} {P : List (List UInt8)} {s x : List UInt8} {at_ : Int} {data : List UInt8} {v : Value} (L : LkI X S P s) (hx : x ∈ P) (R : WriteR B X S (47 :: x) at_ data v X') :
    ∃ e : Int, v = .int .i64 e ∧ (e = 9 ∨ ∃ S' s', LkI X' S' P s') := by
  obtain ⟨e1, e2, H⟩ := R
  rw [L.pthE hx, L.pthV hx] at H
  simp only at H
  rcases H with ⟨h, _⟩ | ⟨_, _, hv, w1, _⟩ | ⟨_, _, hv, _⟩ | ⟨_, _, hv, _, c', k1, k2, I⟩
  · exact absurd rfl h
  · exact ⟨_, hv, .inr ⟨S, s, L.same w1 e2⟩⟩
  · exact ⟨_, hv, .inl rfl⟩
  · obtain ⟨S', L'⟩ := L.wrote e2 k1 k2 I
    exact ⟨_, hv, .inr ⟨S', _, L'⟩⟩

theorem remove_step2 {X X' : VS} {S : FS} {P : List (List UInt8)} {s x : List UInt8} {v : Value} (L : LkI X S (x :: P) s) (R : RemoveR X S (47 :: x) mayRm v X') : v = .int .i64 0 ∧ ∃ S', LkI X' S' P s := by
  obtain ⟨e1, e2, H⟩ := R
  have hx : x ∈ x :: P := List.mem_cons_self
  have hpl := L.place hx
  rw [hpl] at H
  rcases H with ⟨h, _⟩ | ⟨d, nm, nd, Q, H⟩
  · exact absurd rfl h
  · have hq := Q.is
    rw [hpl] at hq
    obtain ⟨t1, t2⟩ := Prod.mk.inj hq
    obtain ⟨t2, t3⟩ := Prod.mk.inj t2
    obtain ⟨t3, _⟩ := Prod.mk.inj t3
    subst t1 t2 t3
    have hm : mayRm (S.C 2) = 0 := by
      unfold mayRm
      rw [L.k2' hx, if_neg (by decide)]
    rcases H with ⟨h, _⟩ | ⟨_, h, _⟩ | ⟨_, _, hv, _, H⟩
    · cases h
    · exact absurd hm h
    · obtain ⟨S', L'⟩ := L.lost e2 H
      exact ⟨hv, S', L'⟩

theorem links13_law {h : Heap} {a : Option Addr} {n c : Nat} {N : List (List UInt8)} {a2 : Option Addr} {n2 c2 : Nat} {W : List Cal} (SN : Sl h a n c (bas N)) (SW : Sl h a2 n2 c2 W) : CallH Tryz.prog 3 [.slice a n c, .slice a2 n2 c2] h (fun v h' => Keeps [] h h' ∧ v = .bool true) := by
  have nl := SN.hlen
  rw [bas_len] at nl
  have nb := SN.hbig
  rw [bas_len] at nb
  have wl := SW.hlen
  have wb := SW.hbig
  refine call_of hmix Tryz.func3 rfl ok3 (by simp [Tryz.f3]) ?_
  conv => whnf
  refine CallR.i (lives13_spec h) fun v h1 k1 hv => ?_
  subst hv
  conv => whnf
  refine IfR.f rfl ?_
  conv => whnf
  refine CallR.i (begin13_spec h1) fun v h2 k2 hv => ?_
  obtain ⟨w, t, bT, V, B, rfl, o2, _, _, A2, hr, hu, hs, hlo, hab, hanb, hV⟩ := hv
  have z1 := k1.size
  have z2 := k2.size
  have nob := hV V.ob (by simp [VL.blocks])
  have nsb := hV V.sb (by simp [VL.blocks])
  have nmb := hV V.mb (by simp [VL.blocks])
  have hf0 : freeN B.read ⟨laidR, [], [], [], []⟩ 96 = 96 := by rw [hr]; exact freeN_laid _ _ _ _ rfl
  have hw2 := obj_lt o2
  conv => whnf
  refine LoadR.o o2 rfl ?_
  conv => whnf
  refine IfR.t rfl ?_
  conv => whnf
  refine CallR.m (cmake_spec A2 fs0 (sim0.fc rfl fc0) rfl (47 :: frst) (by decide) (kind := 1) (.inl rfl)) (by simp [blocksOf]) fun v h3 k3 hv => ?_
  obtain ⟨X3, A3, R3⟩ := hv
  obtain ⟨rfl, a3, n3, f3, S3, I3, Z3, l3, c3⟩ := fresh_step (n1 := 2) sim0 pl5 (by omega) (by decide) (by decide) (by decide +kernel) R3
  have o3 := k3.obj o2 (by simp; omega)
  have L3 := LkI.first I3 n3 Z3 l3
  have z3 := k3.size
  conv => whnf
  refine IfR.f rfl ?_
  conv => whnf
  refine AllocR.i fun b4 h4 e4 s4 o4 k4 => ?_
  have A4 := A3.on k4
  have w4 := k4.obj o3 (by simp)
  have k04 : Keeps [] h h4 := ((k1.trans k2).nil_of k3 (fun x hx => by simp at hx; omega)).trans k4
  have O4 : Own h4 9 1 (some ⟨b4, 0, none⟩) [frst].length 1 ((bas (pths [frst])).map fun x => .string x) := .inr ⟨b4, _, rfl, o4, rfl, rfl, rfl, by decide⟩
  conv => whnf
  refine LoopR.on [0, 1, 5, 6, 7] [] (fun q : Nat × List (List UInt8) × Option Addr × Nat × VS × FS => [(0, .v (.slice a n c)), (1, .v (.slice a2 n2 c2)), (5, .v (.pointer (some ⟨w, 0, none⟩))), (6, .v (.slice q.2.2.1 q.2.1.length q.2.2.2.1)), (7, .v (.int .i64 (q.1 : Int)))]) (fun _ => [])
    (fun q h' => q.1 ≤ n ∧ q.1 ≤ 8 ∧ Keeps [] h h' ∧ h2.size ≤ h'.size ∧ h'[w]? = some (.cells ⟨[.pointer (some ⟨V.mem.m, 0, none⟩), .pointer (some ⟨V.v, 0, none⟩), .pointer (some ⟨t, 0, none⟩)]⟩ 33 (0, 0)) ∧ At h' V B q.2.2.2.2.1 ∧ LkI q.2.2.2.2.1 q.2.2.2.2.2 q.2.1 [] ∧ frst ∈ q.2.1 ∧ q.2.1.length ≤ q.1 + 1 ∧
      Own h' 9 1 q.2.2.1 q.2.1.length q.2.2.2.1 ((bas (pths q.2.1)).map fun x => .string x) ∧ ∀ b ∈ blkA q.2.2.1, h2.size ≤ b) (fun q => n - q.1) (0, [frst], some ⟨b4, 0, none⟩, 1, X3, S3) ?_ ?_
  · conv => whnf
    refine ⟨(0, [frst], some ⟨b4, 0, none⟩, 1, X3, S3), rfl, rfl, rfl, Nat.zero_le _, Nat.zero_le _, k04, by omega, w4, A4, L3, by simp, by simp, O4, fun b hb => ?_⟩
    have : b = b4 := by simpa [blkA] using hb
    omega
  · rintro ⟨i, P, aP, cP, X, S⟩ h5 ⟨hi, hi8, k5, z5, w5, A5, L5, f5, p5, O5, n5⟩
    simp only at hi hi8 w5 A5 L5 f5 p5 O5 n5
    conv => whnf
    refine IfR.i (fun hd => ?_) (fun hd => ?_)
    · have hi1 : i < N.length ∧ i < 8 := by simp [bif_and] at hd; omega
      have hiN : i < (bas N).length := by rw [bas_len]; exact hi1.1
      obtain ⟨b6, o6, hb6, _, ⟨rfl, hok⟩, hc6⟩ := (SN.keep k5).at_ i hiN
      have eN : (bas N)[i] = ba N[i] := by simp [bas]
      rw [eN] at hok hc6
      have hNl : N[i].length ≤ 140737488351232 := by unfold okStr at hok; rw [bs_size] at hok; exact hok
      conv => whnf
      refine LoadR.o w5 rfl ?_
      conv => whnf
      refine IdxS.i i rfl (by omega) hb6 ?_
      conv => whnf
      refine LoadR.i (hc6 0 (by show 0 < 1; decide)) ?_
      conv => whnf
      refine CallR.m (clink_spec A5 L5.fs L5.fc (47 :: frst) N[i] (by decide) hNl) (by simp [blocksOf]) fun v h6 k6 hv => ?_
      obtain ⟨X6, A6, R6⟩ := hv
      obtain ⟨e, rfl, H6⟩ := link_step L5 f5 R6
      have w6 := k6.obj w5 (by simp; omega)
      have z6 := k6.size
      have k06 : Keeps [] h h6 := k5.nil_of k6 (fun x hx => by simp at hx; omega)
      have nP : ∀ b ∈ blkA aP, b ∉ [V.ob, V.sb, V.mb] := fun b hb hx => by have := n5 b hb; simp at hx; omega
      have O6 := O5.keep k6 nP
      rcases H6 with he9 | ⟨he0, L6⟩ | ⟨he0, nm, S6, hN, L6⟩
      · subst he9
        conv => whnf
        first | refine IfR.f rfl ?_ | (refine MeetR.pass ?_; (conv => whnf); refine IfR.f rfl ?_)
        conv => whnf
        first | refine IfR.t rfl ?_ | (refine MeetR.pass ?_; (conv => whnf); refine IfR.t rfl ?_)
        conv => whnf
        exact ⟨k06, rfl⟩
      · by_cases he9 : e = 9
        · subst he9
          conv => whnf
          first | refine IfR.f rfl ?_ | (refine MeetR.pass ?_; (conv => whnf); refine IfR.f rfl ?_)
          conv => whnf
          first | refine IfR.t rfl ?_ | (refine MeetR.pass ?_; (conv => whnf); refine IfR.t rfl ?_)
          conv => whnf
          exact ⟨k06, rfl⟩
        · conv => whnf
          first | refine IfR.f (by simp [he0]) ?_ | (refine MeetR.pass ?_; (conv => whnf); refine IfR.f (by simp [he0]) ?_)
          conv => whnf
          first | refine IfR.f (by simp [he9]) ?_ | (refine MeetR.pass ?_; (conv => whnf); refine IfR.f (by simp [he9]) ?_)
          conv => whnf
          refine ⟨n - (i + 1), by omega, ?_⟩
          conv => whnf
          exact ⟨(i + 1, P, aP, cP, X6, S), rfl, by rw [wrapN (x := (i : Int) + 1) (n := i + 1) (by simp) (by omega)], rfl, by show i + 1 ≤ n; omega, by show i + 1 ≤ 8; omega, k06, by omega, w6, A6, L6, f5, by show P.length ≤ i + 1 + 1; omega, O6, n5⟩
      · subst he0
        obtain ⟨b7, o7, hb7, _, ⟨hv7, _⟩, hc7⟩ := (SN.keep k06).at_ i hiN
        rename_i cs7
        subst hv7
        rw [eN, hN] at hc7
        conv => whnf
        first | refine IfR.t rfl ?_ | (refine MeetR.pass ?_; (conv => whnf); refine IfR.t rfl ?_)
        conv => whnf
        refine IdxS.i i rfl (by omega) hb7 ?_
        conv => whnf
        refine LoadR.i (hc7 0 (by show 0 < 1; decide)) ?_
        conv => whnf
        refine AllocR.i fun b8 h8 e8 s8 o8 k8 => ?_
        have z8 := k8.size
        conv => whnf
        refine append_own (e := 9) (sz := 1) (by_ := 16) (new := [.string (ba (47 :: nm))]) rfl rfl rfl rfl rfl rfl rfl (O6.keep k8 (by simp)) rfl (fun j hj => ?_) rfl (by omega) (by decide) (by simp [blocksOf]) ?_
        · have hj0 : j = 0 := by simpa using hj
          subst hj0
          simp only [Heap.cell?, o8]; rfl
        intro a9 c9 h9 O9 k9 n9
        have hVlt : ∀ b ∈ V.blocks, b < h2.size := A2.blt
        have A9 := (A6.on k8).keep k9 (fun b hb hx => by have := n5 b hx; have := hVlt b hb; omega)
        have w9 := k9.obj (k8.obj w6 (by simp)) (fun hx => by have := n5 w hx; omega)
        have z9 := k9.size
        conv => whnf
        first | refine IfR.f rfl ?_ | (refine MeetR.pass ?_; (conv => whnf); refine IfR.f rfl ?_)
        conv => whnf
        refine ⟨n - (i + 1), by omega, ?_⟩
        conv => whnf
        have O9' : Own h9 9 1 a9 (P ++ [nm]).length c9 ((bas (pths (P ++ [nm]))).map fun x => .string x) := by
          have e1 : (bas (pths (P ++ [nm]))).map (fun x => Value.string x) = (bas (pths P)).map (fun x => Value.string x) ++ [.string (ba (47 :: nm))] := by simp [bas, pths]
          rw [e1, List.length_append]; exact O9
        refine ⟨(i + 1, P ++ [nm], a9, c9, X6, S6), rfl, ?_, rfl, by show i + 1 ≤ n; omega, by show i + 1 ≤ 8; omega, (k06.trans k8).nil_of k9 (fun x hx => by have := n5 x hx; omega), by omega, w9, A9, L6, List.mem_append_left _ f5, by rw [List.length_append]; show P.length + 1 ≤ i + 1 + 1; omega, O9', fun b hb => ?_⟩
        · rw [wrapN (x := (i : Int) + 1) (n := i + 1) (by simp) (by omega), List.length_append]; rfl
        · rcases n9 b hb with h | h
          · exact n5 b h
          · omega
    · have hVlt : ∀ b ∈ V.blocks, b < h2.size := A2.blt
      have SQ : Sl h5 aP P.length cP (bas (pths P)) := by
        have hq := O5.sl (α := ByteArray) (xs := bas (pths P)) (reps_strs _ _ (fun z hz => bas_ok L5.short z hz)) rfl (by decide) (by rw [bas_len, pths_len]; omega)
        exact hq
      have hP0 : 0 < P.length := List.length_pos_of_mem f5
      conv => whnf
      refine LoopR.on [1, 5, 6, 9] [] (fun q : Nat × VS × FS × List UInt8 => [(1, .v (.slice a2 n2 c2)), (5, .v (.pointer (some ⟨w, 0, none⟩))), (6, .v (.slice aP P.length cP)), (9, .v (.int .i64 (q.1 : Int)))]) (fun _ => [])
        (fun q h' => q.1 ≤ n2 ∧ q.1 ≤ 12 ∧ Keeps [] h h' ∧ h2.size ≤ h'.size ∧ h'[w]? = some (.cells ⟨[.pointer (some ⟨V.mem.m, 0, none⟩), .pointer (some ⟨V.v, 0, none⟩), .pointer (some ⟨t, 0, none⟩)]⟩ 33 (0, 0)) ∧ At h' V B q.2.1 ∧ LkI q.2.1 q.2.2.1 P q.2.2.2 ∧
          Keeps [V.ob, V.sb, V.mb] h5 h') (fun q => n2 - q.1) (0, X, S, []) ?_ ?_
      · conv => whnf
        exact ⟨(0, X, S, []), rfl, rfl, rfl, Nat.zero_le _, Nat.zero_le _, k5, z5, w5, A5, L5, Keeps.refl _ _⟩
      · rintro ⟨j, X6, S6, s6⟩ h6 ⟨hj, hj12, k6, z6, w6, A6, L6, k56⟩
        simp only at hj hj12 w6 A6 L6
        have nP : ∀ b ∈ blkA aP, b ∉ [V.ob, V.sb, V.mb] := fun b hb hx => by have := n5 b hb; simp at hx; omega
        have SQ6 : Sl h6 aP P.length cP (bas (pths P)) := by
          have hq := (O5.keep k56 nP).sl (α := ByteArray) (xs := bas (pths P)) (reps_strs _ _ (fun z hz => bas_ok L5.short z hz)) rfl (by decide) (by rw [bas_len, pths_len]; omega)
          exact hq
        conv => whnf
        refine IfR.i (fun hd2 => ?_) (fun hd2 => ?_)
        · have hj1 : j < W.length ∧ j < 12 := by simp [bif_and] at hd2; omega
          have hk : j % P.length < P.length := Nat.mod_lt _ hP0
          have hkb : j % P.length < (bas (pths P)).length := by rw [bas_len, pths_len]; exact hk
          obtain ⟨b7, o7, hb7, _, ⟨rfl, _⟩, hc7⟩ := SQ6.at_ (j % P.length) hkb
          rw [pths_get hk] at hc7
          obtain ⟨b8, o8, hb8, _, ⟨rfl, hok8⟩, hc8⟩ := (SW.keep k6).at_ j hj1.1
          have erem : ((j : Int)).tmod (P.length : Int) = ((j % P.length : Nat) : Int) := by
            rw [Int.tmod_eq_emod_of_nonneg (by omega)]
            exact (Int.natCast_emod j P.length).symm
          conv => whnf
          refine LoadR.o w6 rfl ?_
          conv => whnf
          refine Need.i (by omega) ?_
          conv => whnf
          refine IdxS.i (j % P.length) erem (by omega) hb7 ?_
          conv => whnf
          refine LoadR.i (hc7 0 (by show 0 < 1; decide)) ?_
          conv => whnf
          refine IdxS.i j rfl (by omega) hb8 ?_
          conv => whnf
          refine LoadR.i (hc8 4 (by show 4 < 6; decide)) ?_
          conv => whnf
          refine IdxS.i j rfl (by omega) hb8 ?_
          conv => whnf
          refine LoadR.i (hc8 3 (by show 3 < 6; decide)) ?_
          conv => whnf
          refine CallR.m (cwrite_spec A6 L6.fs L6.fc (47 :: P[j % P.length]) (L6.short _ (List.mem_map.2 ⟨_, List.getElem_mem hk, rfl⟩)) W[j].at_ W[j].data) (by simp [blocksOf]) fun v h7 k7 hv => ?_
          obtain ⟨X7, A7, R7⟩ := hv
          obtain ⟨e, rfl, H7⟩ := write_step2 L6 (List.getElem_mem hk) R7
          have w7 := k7.obj w6 (by simp; omega)
          have z7 := k7.size
          have k07 : Keeps [] h h7 := k6.nil_of k7 (fun x hx => by simp at hx; omega)
          by_cases he9 : e = 9
          · subst he9
            conv => whnf
            refine IfR.t rfl ?_
            conv => whnf
            exact ⟨k07, rfl⟩
          · obtain ⟨S7, s7, L7⟩ := H7.resolve_left he9
            conv => whnf
            refine IfR.f (by simp [he9]) ?_
            conv => whnf
            refine ⟨n2 - (j + 1), by omega, ?_⟩
            conv => whnf
            exact ⟨(j + 1, X7, S7, s7), rfl, by rw [wrapN (x := (j : Int) + 1) (n := j + 1) (by simp) (by omega)], rfl, by show j + 1 ≤ n2; omega, by show j + 1 ≤ 12; omega, k07, by omega, w7, A7, L7, k56.trans k7⟩
        · -- all names, one behind the other
          conv => whnf
          refine LoopR.on [5, 6] [] (fun q : List (List UInt8) × Option Addr × Nat × VS × FS => [(5, .v (.pointer (some ⟨w, 0, none⟩))), (6, .v (.slice q.2.1 q.1.length q.2.2.1))]) (fun _ => [])
            (fun q h' => Keeps [] h h' ∧ h2.size ≤ h'.size ∧ h'[w]? = some (.cells ⟨[.pointer (some ⟨V.mem.m, 0, none⟩), .pointer (some ⟨V.v, 0, none⟩), .pointer (some ⟨t, 0, none⟩)]⟩ 33 (0, 0)) ∧ At h' V B q.2.2.2.1 ∧ LkI q.2.2.2.1 q.2.2.2.2 q.1 s6 ∧
              Sl h' q.2.1 q.1.length q.2.2.1 (bas (pths q.1)) ∧ ∀ b ∈ blkA q.2.1, h2.size ≤ b) (fun q => q.1.length) (P, aP, cP, X6, S6) ?_ ?_
          · conv => whnf
            exact ⟨(P, aP, cP, X6, S6), rfl, rfl, rfl, k6, z6, w6, A6, L6, SQ6, n5⟩
          · rintro ⟨P', aQ, cQ, X7, S7⟩ h7 ⟨k7, z7, w7, A7, L7, SQ7, n7⟩
            simp only at w7 A7 L7 SQ7 n7
            have nQ : ∀ b ∈ blkA aQ, b ∉ [V.ob, V.sb, V.mb] := fun b hb hx => by have := n7 b hb; simp at hx; omega
            have nQs : ∀ b ∈ blkA aQ, b ∉ [V.sb] := fun b hb hx => by have := n7 b hb; simp at hx; omega
            conv => whnf
            refine IfR.i (fun hd3 => ?_) (fun hd3 => ?_)
            · obtain ⟨x, r, rfl⟩ : ∃ x r, P' = x :: r := by
                cases P' with
                | nil => simp at hd3
                | cons x r => exact ⟨x, r, rfl⟩
              have hx : x ∈ x :: r := List.mem_cons_self
              have hxl := L7.short _ (List.mem_map.2 ⟨x, hx, rfl⟩)
              have h0l : 0 < (bas (pths (x :: r))).length := by rw [bas_len, pths_len]; simp
              have hcq := SQ7.hcap
              obtain ⟨b8, o8, hb8, _, ⟨rfl, _⟩, hc8⟩ := SQ7.at_ 0 h0l
              have e0 : (bas (pths (x :: r)))[0] = ba (47 :: x) := by simp [bas, pths]
              rw [e0] at hc8
              have hs6 : s6.length ≤ 2688 := by
                obtain ⟨m, F⟩ := (L7.fs.node 2 (by decide) (by decide)).file (.inl (L7.k2' hx))
                rw [← L7.by_ (by simp)]
                exact F.fits
              conv => whnf
              refine LoadR.o w7 rfl ?_
              conv => whnf
              refine IdxS.i 0 rfl (by simp) hb8 ?_
              conv => whnf
              refine LoadR.i (hc8 0 (by show 0 < 1; decide)) ?_
              conv => whnf
              refine CallR.m (cread_spec A7 L7.fs L7.fc (47 :: x) hxl 0 4096) (by simp [blocksOf]) fun v h8 k8 hv => ?_
              obtain ⟨⟨s8, A8⟩, hv⟩ := hv
              rw [L7.pthE hx, if_pos rfl, L7.pthV hx] at hv
              simp only [L7.by_ (List.cons_ne_nil x r)] at hv
              rw [read_all hs6] at hv
              subst hv
              have L8 : LkI { X7 with seen := s8 } S7 (x :: r) s6 := L7.same rfl rfl
              generalize ({ X7 with seen := s8 } : VS) = X8 at A8 L8
              have w8 := k8.obj w7 (by simp; omega)
              have z8 := k8.size
              have k08 : Keeps [] h h8 := k7.nil_of k8 (fun x hx => by simp at hx; omega)
              have SQ8 := SQ7.keepM k8 nQs
              conv => whnf
              refine LoopR.on [5, 6, 10, 11, 12] [] (fun q : Nat × VS => [(5, .v (.pointer (some ⟨w, 0, none⟩))), (6, .v (.slice aQ (x :: r).length cQ)), (10, .v (.string (ba s6))), (11, .v (.int .i64 0)), (12, .v (.int .i64 (q.1 : Int)))]) (fun _ => [])
                (fun q h' => q.1 ≤ (x :: r).length ∧ Keeps [] h h' ∧ h2.size ≤ h'.size ∧ h'[w]? = some (.cells ⟨[.pointer (some ⟨V.mem.m, 0, none⟩), .pointer (some ⟨V.v, 0, none⟩), .pointer (some ⟨t, 0, none⟩)]⟩ 33 (0, 0)) ∧ At h' V B q.2 ∧ LkI q.2 S7 (x :: r) s6 ∧ Sl h' aQ (x :: r).length cQ (bas (pths (x :: r)))) (fun q => (x :: r).length - q.1) (0, X8) ?_ ?_
              · conv => whnf
                exact ⟨(0, X8), rfl, rfl, rfl, Nat.zero_le _, k08, by omega, w8, A8, L8, SQ8⟩
              · rintro ⟨m, X9⟩ h9 ⟨hm, k9, z9, w9, A9, L9, SQ9⟩
                simp only at hm w9 A9 L9
                conv => whnf
                refine IfR.i (fun hd4 => ?_) (fun hd4 => ?_)
                · have hm1 : m < (x :: r).length := by simp at hd4 ⊢; omega
                  have hmb : m < (bas (pths (x :: r))).length := by rw [bas_len, pths_len]; exact hm1
                  have hmP : (x :: r)[m] ∈ x :: r := List.getElem_mem hm1
                  have hml := L9.short _ (List.mem_map.2 ⟨_, hmP, rfl⟩)
                  obtain ⟨b10, o10, hb10, _, ⟨rfl, _⟩, hc10⟩ := SQ9.at_ m hmb
                  rw [pths_get hm1] at hc10
                  conv => whnf
                  refine LoadR.o w9 rfl ?_
                  conv => whnf
                  refine IdxS.i m rfl hm1 hb10 ?_
                  conv => whnf
                  refine LoadR.i (hc10 0 (by show 0 < 1; decide)) ?_
                  have hlk : (S7.C 2).links = ((x :: r).length : Int) := L9.l2 (List.cons_ne_nil x r)
                  have hsz : (S7.C 2).size = (s6.length : Int) := by
                    obtain ⟨mm, F⟩ := (L9.fs.node 2 (by decide) (by decide)).file (.inl (L9.k2' hx))
                    rw [F.size, L9.by_ (List.cons_ne_nil x r)]
                  conv => whnf
                  refine BothR.i ?_ ?_
                  case' refine_1 =>
                    conv => whnf
                    refine CallR.m (cstat_spec A9 L9.fs L9.fc (47 :: (x :: r)[m]) hml) (by simp [blocksOf]) fun v h10 k10 hv => ?_
                    obtain ⟨⟨s10, A10⟩, hv⟩ := hv
                    rw [L9.path hmP false, if_pos rfl] at hv
                    simp only [hlk, hsz] at hv
                    subst hv
                    have L10 : LkI { X9 with seen := s10 } S7 (x :: r) s6 := L9.same rfl rfl
                    generalize ({ X9 with seen := s10 } : VS) = X10 at A10 L10
                    have w10 := k10.obj w9 (by simp; omega)
                    have z10 := k10.size
                    have SQ10 := SQ9.keepM k10 nQs
                    conv => whnf
                    refine AllocR.i fun b11 h11 e11 s11 o11 k11 => ?_
                    conv => whnf
                    refine BoxR.i fun h12 s12 k12 => ?_
                    have k1012 : Keeps [] h10 h12 := k11.new1 k12 (by omega)
                    have z11 := k11.size
                    have A12 := A10.on k1012
                    have w12 := k1012.obj w10 (by simp)
                    have SQ12 := SQ10.keep k1012
                    have k012 : Keeps [] h h12 := (k9.nil_of k10 (fun x hx => by simp at hx; omega)).trans k1012
                    have z12 : h2.size ≤ h12.size := by omega
                    have hb11 : h2.size ≤ b11 ∧ b11 < h12.size := by omega
                    clear k10 k11 k12 k1012 z10 z11 s11 s12 e11
                  case' refine_2 =>
                    conv => whnf
                    refine AllocR.i fun b11 h10 e11 s10 o11 k10 => ?_
                    have z10 := k10.size
                    conv => whnf
                    refine CallR.m (cstat_spec (A9.on k10) L9.fs L9.fc (47 :: (x :: r)[m]) hml) (fun y hy hx2 => by
                        simp [blocksOf, setB] at hy hx2; omega) fun v h11 k11 hv => ?_
                    obtain ⟨⟨s10, A10⟩, hv⟩ := hv
                    rw [L9.path hmP false, if_pos rfl] at hv
                    simp only [hlk, hsz] at hv
                    subst hv
                    have L10 : LkI { X9 with seen := s10 } S7 (x :: r) s6 := L9.same rfl rfl
                    generalize ({ X9 with seen := s10 } : VS) = X10 at A10 L10
                    have w10 := k11.obj (k10.obj w9 (by simp)) (by simp; omega)
                    have z11 := k11.size
                    have SQ10 := (SQ9.keep k10).keepM k11 nQs
                    conv => whnf
                    refine BoxR.i fun h12 s12 k12 => ?_
                    have A12 := A10.keep k12 (fun b hb => by have := A9.blt b hb; simp; omega)
                    have w12 := k12.obj w10 (by simp; omega)
                    have SQ12 := SQ10.keepM k12 (fun b hb => by
                      have hb2 : b < h9.size := by
                        have ha : aQ = some ⟨b10, _, none⟩ := hb10
                        have : b = b10 := by rw [ha] at hb; simpa [blkA] using hb
                        rw [this]; exact cell_lt (hc10 0 (by show 0 < 1; decide))
                      simp; omega)
                    have k012 : Keeps [] h h12 := ((k9.trans k10).nil_of k11 (fun x hx => by simp at hx; omega)).new1 k12 (by have := k9.size; omega)
                    have z12 : h2.size ≤ h12.size := by omega
                    have hb11 : h2.size ≤ b11 ∧ b11 < h12.size := by omega
                    clear k10 k11 k12 z10 z11 s10 s12 e11
                  all_goals
                    obtain ⟨b13, o13, hb13, _, ⟨rfl, _⟩, hc13⟩ := SQ12.at_ m hmb
                    rw [pths_get hm1] at hc13
                    conv => whnf
                    refine LoadR.o w12 rfl ?_
                    conv => whnf
                    refine IdxS.i m rfl hm1 hb13 ?_
                    conv => whnf
                    refine LoadR.i (hc13 0 (by show 0 < 1; decide)) ?_
                    conv => whnf
                    refine CallR.m (cread_spec A12 L10.fs L10.fc (47 :: (x :: r)[m]) hml 0 4096) (fun y hy hx2 => by
                        simp [blocksOf, setB] at hy hx2; omega) fun v h13 k13 hv => ?_
                    obtain ⟨⟨s13, A13⟩, hv⟩ := hv
                    rw [L10.pthE hmP, if_pos rfl, L10.pthV hmP] at hv
                    simp only [L10.by_ (List.cons_ne_nil x r)] at hv
                    rw [read_all hs6] at hv
                    subst hv
                    have L13 : LkI { X10 with seen := s13 } S7 (x :: r) s6 := L10.same rfl rfl
                    generalize ({ X10 with seen := s13 } : VS) = X13 at A13 L13
                    have w13 := k13.obj w12 (by simp; omega)
                    have z13 := k13.size
                    have SQ13 := SQ12.keepM k13 nQs
                    have k013 : Keeps [] h h13 := k012.nil_of k13 (fun x hx => by simp at hx; omega)
                    have hst : ((ba s6).toList == (ba s6).toList) = true := beq_self_eq_true _
                    have hbs : (ba s6).size = s6.length := bs_size s6
                    conv => whnf
                    refine IfR.f (by rw [hst, hbs]; simp) ?_
                    conv => whnf
                    refine ⟨(x :: r).length - (m + 1), by omega, ?_⟩
                    conv => whnf
                    exact ⟨(m + 1, X13), rfl, by rw [wrapN (x := (m : Int) + 1) (n := m + 1) (by simp) (by have := SQ7.hbig; rw [bas_len, pths_len] at this; omega)], rfl, hm1, k013, by omega, w13, A13, L13, SQ13⟩
                · -- the first name is gone
                  obtain ⟨b10, o10, hb10, _, ⟨rfl, _⟩, hc10⟩ := SQ9.at_ 0 h0l
                  rw [e0] at hc10
                  conv => whnf
                  refine LoadR.o w9 rfl ?_
                  conv => whnf
                  refine IdxS.i 0 rfl (by simp) hb10 ?_
                  conv => whnf
                  refine LoadR.i (hc10 0 (by show 0 < 1; decide)) ?_
                  conv => whnf
                  refine CallR.m (cremoveF_spec A9 L9.fs L9.fc L9.ns (47 :: x) hxl) (by simp [blocksOf]) fun v h10 k10 hv => ?_
                  obtain ⟨X10, A10, R10⟩ := hv
                  obtain ⟨rfl, S10, L10⟩ := remove_step2 L9 R10
                  have w10 := k10.obj w9 (by simp; omega)
                  have z10 := k10.size
                  have SQ10 := SQ9.keepM k10 nQ
                  conv => whnf
                  refine IfR.f rfl ?_
                  conv => whnf
                  refine SliceR.i 1 (x :: r).length rfl rfl (by simp) SQ10.hcap ?_
                  have SP := SQ10.part (l := 1) (r := (x :: r).length) (by simp) (Nat.le_refl _)
                  have hbr : ((bas (pths (x :: r))).take (x :: r).length).drop 1 = bas (pths r) := by
                    have : (bas (pths (x :: r))).length = (x :: r).length := by rw [bas_len, pths_len]
                    rw [← this, List.take_length]; simp [bas, pths]
                  rw [hbr] at SP
                  conv => whnf
                  refine ⟨r.length, by simp, ?_⟩
                  conv => whnf
                  exact ⟨(r, slA aQ cQ 1 1, cQ - 1, X10, S10), rfl, rfl, rfl, k9.nil_of k10 (fun x hx => by simp at hx; omega), by omega, w10, A10, L10, SP, fun b hb => n7 b (by rw [← blk_slA aQ cQ 1 1]; exact hb)⟩
            · have hP' : P' = [] := List.eq_nil_of_length_eq_zero (by simp at hd3; simpa using hd3)
              subst hP'
              conv => whnf
              refine LoadR.o w7 rfl ?_
              conv => whnf
              refine CallR.m (cstat_spec A7 L7.fs L7.fc (47 :: frst) (by decide)) (by simp [blocksOf]) fun v h8 k8 hv => ?_
              obtain ⟨⟨s8, A8⟩, hv⟩ := hv
              rw [L7.none_, if_neg (by decide)] at hv
              subst hv
              conv => whnf
              refine AllocR.i fun b9 h9 e9 s9 o9 k9 => ?_
              conv => whnf
              refine BoxR.i fun h10 s10 k10 => ?_
              conv => whnf
              exact ⟨(k7.nil_of k8 (fun x hx => by simp at hx; omega)).trans (k9.new1 k10 (by omega)), rfl⟩
end Go.Proofs.YtkjkdnphikendaaGreatDoor
/-
  Layer 13's law: all names of a file are one file; its arguments.
-/
set_option linter.all false
set_option maxRecDepth 100000
set_option maxHeartbeats 1000000
namespace Go.Proofs.YtkjkdnphikendaaGreatDoor
open Go Go.Eng

theorem bas_of (l : List ByteArray) : ∃ N : List (List UInt8), l = bas N := by
  refine ⟨l.map fun x => x.data.toList, ?_⟩
  unfold bas
  rw [List.map_map]
  conv => lhs; rw [← List.map_id l]
  refine List.map_congr_left fun x _ => ?_
  show x = ba x.data.toList
  rfl

section
variable {H : Type} {enc : TypeId × Value → H} {W : World} {sp : Nat → Bool} {held : Bool}
theorem opens_strs : Opens enc Tryz.prog W sp held 22 (List ByteArray) := opens_slice Tryz.underlying22 (by kernel_rfl) (by decide) (of_decide_eq_true (by kernel_rfl)) (opens_string Tryz.underlying9)
theorem opens_calls : Opens enc Tryz.prog W sp held 23 (List Cal) := opens_slice Tryz.underlying23 (by kernel_rfl) (by decide) (of_decide_eq_true (by kernel_rfl)) opens_call
end

theorem links13_law' {h : Heap} {a : Option Addr} {n c : Nat} {names : List ByteArray} {a2 : Option Addr} {n2 c2 : Nat} {W : List Cal} (SN : Sl h a n c names) (SW : Sl h a2 n2 c2 W) : CallH Tryz.prog 3 [.slice a n c, .slice a2 n2 c2] h (fun v h' => Keeps [] h h' ∧ v = .bool true) := by
  obtain ⟨N, rfl⟩ := bas_of names
  exact links13_law SN SW
end Go.Proofs.YtkjkdnphikendaaGreatDoor
