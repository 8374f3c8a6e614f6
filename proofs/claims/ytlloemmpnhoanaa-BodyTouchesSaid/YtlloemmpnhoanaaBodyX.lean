/-
  The law of maps.
-/
import Derived.Test.YtlloemmpnhoanaaBodyW
set_option linter.all false
set_option maxRecDepth 100000
set_option maxHeartbeats 1000000
namespace Go.Proofs.Ytlloemmpnhoanaa
open Go Go.Eng

theorem mapOf_in {now : Int → UInt64} {c : Crd} (hc : c.ok) {m : List Int} (h : mapOf now c = some m) : ∀ x ∈ m, inI64 x := by
  intro x hx
  unfold mapOf at h
  split at h
  · have h' := Option.some.inj h
    subst h'
    rcases List.mem_append.1 hx with hx | hx
    · exact hc.2.2.2.1 x hx
    · rw [(List.mem_replicate.1 hx).2]; exact ⟨by decide, by decide⟩
  · split at h
    · rename_i hp
      have h' := Option.some.inj h
      subst h'
      rcases List.mem_append.1 hx with hx | hx
      · exact hc.2.2.2.1 x hx
      · obtain ⟨w, hw, rfl⟩ := List.mem_map.1 hx
        have := List.all_eq_true.1 hp.2.2.1 w hw
        simp at this
        unfold inI64 convW; omega
    · cases h

def fitB (x : Int) : Bool := decide (-1 ≤ x) && decide (x < 96)

theorem fit_all {m : List Int} {p : Bool} (h : (p && m.all fitB) = true) : ∀ x ∈ m, -1 ≤ x ∧ x < 96 := by
  intro x hx
  have h2 : m.all fitB = true := by
    cases p
    · cases h
    · exact h
  have := List.all_eq_true.1 h2 x hx
  simpa [fitB] using this
theorem odd_fit : ∀ m : List Int, m.any oddB = !m.all fitB
  | [] => rfl
  | x :: m => by
    have : oddB x = !fitB x := by
      unfold oddB fitB
      by_cases h1 : -1 ≤ x <;> by_cases h2 : x < 96 <;> simp [h1, h2] <;> omega
    rw [List.any_cons, List.all_cons, odd_fit m, this, Bool.not_and]
theorem keep_not (B : Int → UInt64) (X : VS) {m : List Int} {n : Nat} (hl : m.length = n) (h : (decide (n = 21) && m.all fitB) = false) : (keepP B X 2 (freshC 1 1) m).2.1 = 1 := by
  unfold keepP
  rw [if_neg]
  rintro ⟨_, h1, h2⟩
  rw [odd_fit] at h2
  rw [← hl, h1] at h
  cases hx : m.all fitB <;> rw [hx] at h h2 <;> simp at h h2

theorem _root_.Go.Eng.Sl.lt {h : Heap} {a : Option Addr} {n c : Nat} {m : List Int} (T : Sl h a n c m) (hn : 0 < n) : ∀ b ∈ blkA a, b < h.size := by
  have hl := T.hlen
  obtain ⟨b, o, hb, _, hc⟩ := T.at1 0 (by omega)
  intro x hx
  rw [hb] at hx
  simp [blkA] at hx
  subst hx
  exact cell_lt hc

theorem maps_law {h : Heap} {a : Option Addr} {n0 c0 : Nat} {l : List Chg} (S : Sl h a n0 c0 l) (c : Crd) (hc : c.ok) {sa : Option Addr} {n cap : Nat} {m : List Int} (T : Sl h sa n cap m) :
    CallH Try.prog 3 [.slice a n0 c0, .agg ⟨c.cells⟩, .slice sa n cap] h (fun v h' => Keeps [] h h' ∧ v = .bool true) := by
  have hl := T.hlen
  refine call_of hmix Try.func3 rfl ok3 (by simp [Try.f3]) ?_
  conv => whnf
  refine AllocR.i fun b1 h1 e1 s1 o1 k1 => ?_
  conv => whnf
  refine CallR.i (lives_spec h1) fun v h2 k2 hv => ?_
  subst hv
  conv => whnf
  first | refine IfR.f rfl ?_ | (refine MeetR.pass ?_; (conv => whnf); refine IfR.f rfl ?_)
  conv => whnf
  refine CallR.i (right_spec c h2) fun v h3 k3 hv => ?_
  subst hv
  have k03 := k1.trans (k2.trans k3)
  conv => whnf
  first | refine IfR.i (fun hq => ?_) (fun hq => ?_) | (refine MeetR.pass ?_; (conv => whnf); refine IfR.i (fun hq => ?_) (fun hq => ?_))
  · conv => whnf
    exact ⟨k03, rfl⟩
  · have hr : rightC c = true := by simpa using hq
    have hmore := right_more hr
    conv => whnf
    refine CallR.i (newView_spec _ l (S.keep k03)) fun v h4 k4 hv => ?_
    obtain ⟨b, rfl, q1, q2, S4⟩ := hv
    conv => whnf
    refine CallR.i (load_spec S4 (by decide)) fun v h5 k5 hv => ?_
    obtain ⟨L, rfl, A5, n5⟩ := hv
    conv => whnf
    refine CallR.i (new_spec A5) fun v h6 k6 hv => ?_
    have hsz : (⟨imgW l, [], [], 0, -1⟩ : MemS).sure.length = 2824 := imgW_len l
    rw [if_pos hsz] at hv
    obtain ⟨V, rfl, rfl, ab, anb, n6, A6⟩ := hv
    conv => whnf
    refine CallR.i (refNew_spec (S4.keep (k5.trans k6)) (by decide)) fun v h7 k7 hv => ?_
    obtain ⟨p, rfl, R7⟩ := hv
    have k07 : Keeps [] h h7 := k03.trans (k4.trans (k5.trans (k6.trans k7)))
    conv => whnf
    refine CallR.i (map_spec (A6.on k7) c hc) fun v h8 k8 hv => ?_
    have hMr := rd_load (imgW l)
    have hX : (⟨(⟨imgW l, [], [], 0, -1⟩ : MemS).read, [], [], [], []⟩ : VS).now = rdR (imgW l) := hMr
    rw [hX] at hv
    have hMap := map_ref (imgW l) c hmore
    obtain ⟨a8, n8, c8, e8, rfl, H8⟩ : ∃ a8 n8 c8 e8, v = .tuple #[.slice a8 n8 c8, .int .i64 e8] ∧ ((∃ m', mapOf (rdR (imgW l)) c = some m' ∧ e8 = 0 ∧ Sl h8 a8 n8 c8 m' ∧ m'.length = 21) ∨ (mapOf (rdR (imgW l)) c = none ∧ e8 = 15 ∧ n8 = 0)) := by
      cases hm : mapOf (rdR (imgW l)) c with
      | none =>
        rw [hm] at hv
        exact ⟨_, _, _, _, hv, .inr ⟨rfl, rfl, rfl⟩⟩
      | some m' =>
        rw [hm] at hv
        obtain ⟨b8, cap8, sp8, rfl, I8, n8, c8⟩ := hv
        have h21 := mapOf_length hm
        exact ⟨_, _, _, _, rfl, .inl ⟨m', rfl, rfl, I8.sl (mapOf_in hc hm) h21.symm c8 (by omega), h21⟩⟩
    conv => whnf
    refine CallR.i (refMap_spec (R7.on k8) c hc (by omega)) fun v h9 k9 hv => ?_
    obtain ⟨a9, n9, c9, ok9, rfl, H9⟩ : ∃ a9 n9 c9 ok9, v = .tuple #[.slice a9 n9 c9, .bool ok9] ∧ ((∃ m', mapOf (rdR (imgW l)) c = some m' ∧ ok9 = true ∧ Sl h9 a9 n9 c9 m') ∨ (mapOf (rdR (imgW l)) c = none ∧ ok9 = false)) := by
      rcases hMap with ⟨m', h1, h2⟩ | ⟨h2, h1 | ⟨m', h1⟩⟩
      · rw [h1] at hv
        obtain ⟨a9, n9, c9, rfl, S9⟩ := hv
        exact ⟨_, _, _, _, rfl, .inl ⟨m', h2, rfl, S9⟩⟩
      · rw [h1] at hv
        exact ⟨_, _, _, _, hv, .inr ⟨h2, rfl⟩⟩
      · rw [h1] at hv
        obtain ⟨a9, n9, c9, rfl, S9⟩ := hv
        exact ⟨_, _, _, _, rfl, .inr ⟨h2, rfl⟩⟩
    have A9 := (A6.on k7).on (k8.trans k9)
    have k09 := k07.trans (k8.trans k9)
    conv => whnf
    refine IfR.i (fun hd => ?c1) (fun hd => ?c2)
    case' c1 =>
      obtain ⟨rfl, rfl, _⟩ : e8 = 0 ∧ ok9 = true ∧ True := by
        rcases H9 with ⟨m', h1, h2, _⟩ | ⟨h1, h2⟩
        · rcases H8 with ⟨m2, g1, g2, _⟩ | ⟨g1, _⟩
          · exact ⟨g2, h2, trivial⟩
          · rw [h1] at g1; cases g1
        · subst h2; simp at hd
      obtain ⟨m', h1, S8, S9, l8⟩ : ∃ m', mapOf (rdR (imgW l)) c = some m' ∧ Sl h8 a8 n8 c8 m' ∧ Sl h9 a9 n9 c9 m' ∧ m'.length = 21 := by
        rcases H8 with ⟨m', h1, _, S8, l8⟩ | ⟨_, h2, _⟩
        · rcases H9 with ⟨m2, g1, _, S9⟩ | ⟨_, g2⟩
          · rw [h1] at g1
            obtain rfl := Option.some.inj g1
            exact ⟨m', h1, S8, S9, l8⟩
          · cases g2
        · cases h2
      conv => whnf
      refine CallR.i (sameInts_spec (S8.keep k9) S9 (by have := S8.hlen; omega)) fun v h10 k10 hv => ?_
      subst hv
      have A10 := A9.on k10
      have k010 := k09.trans k10
      conv => whnf
      first | refine IfR.f (by simp) ?_ | (refine MeetR.pass ?_; (conv => whnf); refine IfR.f (by simp) ?_)
    case' c2 =>
      obtain ⟨h10, rfl⟩ : ∃ x, x = h9 := ⟨_, rfl⟩
      have A10 := A9
      have k010 := k09
      have hcond : e8 = 15 ∧ ok9 = false ∧ n8 = 0 := by
        rcases H8 with ⟨m', h1, g1, S8, l8⟩ | ⟨g0, rfl, rfl⟩
        · rcases H9 with ⟨m2, g3, g4, S9⟩ | ⟨g3, g4⟩
          · subst g1 g4; simp at hd
          · rw [h1] at g3; cases g3
        · rcases H9 with ⟨m2, g3, g4, S9⟩ | ⟨g3, rfl⟩
          · rw [g0] at g3; cases g3
          · exact ⟨rfl, rfl, rfl⟩
      obtain ⟨rfl, rfl, rfl⟩ := hcond
      conv => whnf
      first | refine IfR.f rfl ?_ | (refine MeetR.pass ?_; (conv => whnf); refine IfR.f rfl ?_)
    all_goals
      conv => whnf
      refine CallR.i (refFresh_spec 1 1 h10) fun v h11 k11 hv => ?_
      rw [if_pos (by decide)] at hv
      subst hv
      conv => whnf
      refine AllocR.i fun b12 h12 e12 s12 o12 k12 => ?_
      conv => whnf
      refine BoxR.i fun h13 s13 k13 => ?_
      have z11 := k11.size
      have z10 := k010.size
      have k013 : Keeps [] h h13 := k010.trans (k11.trans (k12.new1 k13 (by omega)))
      have A13 := A10.on (k11.trans (k12.new1 k13 (by omega)))
      have z4 := (k03.trans k4).size
      have z1 := (k2.trans (k3.trans k4)).size
      have z5 := k5.size
      have z6 := k6.size
      have hnob : h5.size ≤ V.ob := n6 V.ob (by simp)
      have hob : V.ob < h10.size := A10.blt V.ob (by simp [VL.blocks])
      conv => whnf
      refine CallR.m (keep_spec A13 2 (freshC 1 1) (T.keep k013) (fun h21 hx => by have := T.lt (by omega) _ hx; omega)) (by intro y hy hx; have hy2 : y ∈ [b1, b12] := hy; simp at hy2 hx; omega) fun v h14 k14 hv => ?_
      obtain ⟨rfl, A14⟩ := hv
      have k014 : Keeps [] h h14 := k013.nil_of k14 (by intro y hy; simp at hy; omega)
      have z14 := k014.size
      conv => whnf
      refine AllocR.i fun b15 h15 e15 s15 o15 k15 => ?_
      conv => whnf
      refine BoxR.i fun h16 s16 k16 => ?_
      have k1416 : Keeps [] h14 h16 := k15.new1 k16 (by omega)
      have A16 := A14.on k1416
      have k016 := k014.trans k1416
      conv => whnf
      refine LoopR.on [2, 8, 16, 17, 18, 19] [16] (fun i : Nat => [(2, .v (.slice sa n cap)), (8, .v (.pointer (some ⟨V.v, 0, none⟩))), (16, .lp 16 0), (17, .v (.int .i64 (keepP (⟨imgW l, [], [], 0, -1⟩ : MemS).read ⟨(⟨imgW l, [], [], 0, -1⟩ : MemS).read, [], [], [], []⟩ 2 (freshC 1 1) m).2.1)), (18, .v (.bool (decide (n = 21) && (m.take i).all fitB))), (19, .v (.int .i64 (i : Int)))]) (fun _ => [(16, b15, (keepP (⟨imgW l, [], [], 0, -1⟩ : MemS).read ⟨(⟨imgW l, [], [], 0, -1⟩ : MemS).read, [], [], [], []⟩ 2 (freshC 1 1) m).1.cells)]) (fun i h' => i ≤ n ∧ Keeps [] h16 h') (fun i => n - i) 0 ?_ ?_
      · conv => whnf
        refine ⟨0, rfl, ?_, rfl, Nat.zero_le _, Keeps.refl _ _⟩
        have : ((n : Int) == 21) = (decide (n = 21) && (m.take 0).all fitB) := by
          rw [List.take_zero, List.all_nil, Bool.and_true]
          show decide ((n : Int) = 21) = decide (n = 21)
          exact decide_eq_decide.2 (by omega)
        rw [← this]; rfl
      · rintro i h17 ⟨hi, k17⟩
        have hbig := T.hbig
        conv => whnf
        refine IfR.i (fun he => ?_) (fun he => ?_)
        · have hi1 : i < m.length := by simp at he; omega
          obtain ⟨b3, o3, hb3, _, hc3⟩ := (T.keep (k016.trans k17)).at1 i hi1
          conv => whnf
          refine IdxS.i i rfl (by omega) hb3 ?_
          conv => whnf
          refine LoadR.i hc3 ?_
          conv => whnf
          refine IdxS.i i rfl (by omega) hb3 ?_
          conv => whnf
          refine LoadR.i hc3 ?_
          conv => whnf
          refine ⟨n - (i + 1), by omega, ?_⟩
          conv => whnf
          refine ⟨i + 1, rfl, ?_, rfl, by omega, k17⟩
          rw [wrapN (n := i + 1) (by simp) (by omega), List.take_succ_eq_append_getElem hi1, List.all_append]
          have : (bif bif decide (n = 21) && (List.take i m).all fitB then decide (m[i] ≥ -1) else false then decide (m[i] < 96) else false) = (decide (n = 21) && ((List.take i m).all fitB && [m[i]].all fitB)) := by
            simp only [List.all_cons, List.all_nil, Bool.and_true, fitB, bif_and, Bool.and_assoc]
          rw [this]
        · have hi1 : i = n := by simp at he; omega
          subst hi1
          rw [List.take_of_length_le (by omega)]
          have k017 := k016.trans k17
          conv => whnf
          refine IfR.i (fun hf => ?_) (fun hf => ?_)
          · conv => whnf
            refine ⟨k017, ?_⟩
            congr 1
            by_cases hfit : decide (i = 21) && m.all fitB
            · rw [hfit] at hf ⊢
              rcases keep_back (⟨imgW l, [], [], 0, -1⟩ : MemS).read ⟨(⟨imgW l, [], [], 0, -1⟩ : MemS).read, [], [], [], []⟩ (m := m) (by simp at hfit; omega) (fit_all hfit) with g | ⟨g, _⟩
              · rw [g]; rfl
              · rw [g] at hf; cases hf
            · have hfit' : (decide (i = 21) && m.all fitB) = false := by simpa using hfit
              rw [hfit', keep_not _ _ hl.symm hfit']; rfl
          · have hfit : (decide (i = 21) && m.all fitB) = true := by
              rw [← Bool.not_eq_false]; intro x; rw [x] at hf; cases hf
            have hg : (keepP (⟨imgW l, [], [], 0, -1⟩ : MemS).read ⟨(⟨imgW l, [], [], 0, -1⟩ : MemS).read, [], [], [], []⟩ 2 (freshC 1 1) m).2.1 = 0 := by
              rw [hfit] at hf; simpa using hf
            have h21 : i = 21 := by simp at hfit; omega
            rcases keep_back (⟨imgW l, [], [], 0, -1⟩ : MemS).read ⟨(⟨imgW l, [], [], 0, -1⟩ : MemS).read, [], [], [], []⟩ (m := m) (by omega) (fit_all hfit) with g | ⟨_, okx, hback, hmr⟩
            · rw [hg] at g; cases g
            conv => whnf
            refine CallR.i (map_spec (A16.on k17) _ okx) fun v h18 k18 hv => ?_
            rw [hback] at hv
            obtain ⟨b18, cap18, sp18, rfl, I18, n18, c18⟩ := hv
            have T18 := T.keep (k017.trans k18)
            have S18 := I18.sl (mapOf_in okx hback) (n := 21) (by omega) c18 (by omega)
            conv => whnf
            first | refine IfR.t rfl ?_ | (refine MeetR.pass ?_; (conv => whnf); refine IfR.t rfl ?_)
            conv => whnf
            refine CallR.i (sameInts_spec S18 T18 (by decide)) fun v h19 k19 hv => ?_
            subst hv
            have T19 := T18.keep k19
            have hcap := T.hcap
            subst h21
            have Tp := T19.part (l := 5) (r := 21) (by decide) (Nat.le_refl _)
            rw [List.take_of_length_le (by omega)] at Tp
            conv => whnf
            refine SliceR.i 5 21 rfl rfl (by decide) hcap ?_
            conv => whnf
            refine IfR.t (by simp) ?_
            conv => whnf
            refine CallR.i (some_spec Tp (by decide)) fun v h20 k20 hv => ?_
            subst hv
            conv => whnf
            refine ⟨k017.trans (k18.trans (k19.trans k20)), ?_⟩
            congr 1
            rw [show decide (m = m) = true from decide_eq_true rfl]
            exact beq_iff_eq.2 hmr
end Go.Proofs.Ytlloemmpnhoanaa
