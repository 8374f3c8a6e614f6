/-
  Joined texts: FolQ.
-/
import Derived.Test.YteambknhlbiajaaGreatDoorJLawFOddh
/-
  Layer 11's law: whatever lies there, each call ends.
-/
set_option linter.all false
set_option maxRecDepth 100000
set_option maxHeartbeats 1000000
namespace Go.Proofs.YteambknhlbiajaaGreatDoor
open Go Go.Eng

/-! ### What a list that is told has -/

def entGood (e : Ent) : Prop := 1 ≤ e.node ∧ e.node ≤ 23 ∧ nameB e.name = true

theorem slotE_good {ws : List UInt64} {place k : Nat} (h : slotOk ws place k = true) : ∀ e ∈ slotE ws k, entGood e ∧ bucketL e.name = place % 8 := by
  intro e he
  unfold slotE at he
  split at he
  · cases he
  · rename_i hx
    simp only [List.mem_cons, List.not_mem_nil, or_false] at he
    subst he
    unfold slotOk at h
    have hx2 : emptyB ws k = false := by simpa using hx
    rw [hx2, Bool.false_or] at h
    unfold entB at h
    simp only [Bool.and_eq_true, decide_eq_true_eq] at h
    obtain ⟨_, h1, h2, h3, h4⟩ := h
    refine ⟨⟨?_, ?_, h1⟩, h2⟩
    · simp only [entE, entV]
      rw [wrapI (by omega) (by omega)]; omega
    · simp only [entE, entV]
      rw [wrapI (by omega) (by omega)]; omega
theorem placeE_good {now : Int → UInt64} {m : List Int} {i : Nat} (h : placeOk now m i = true) : ∀ e ∈ placeE now m i, entGood e ∧ bucketL e.name = i % 8 := by
  intro e he
  unfold placeE at he
  split at he
  · cases he
  · rename_i hx
    unfold placeOk blkOkB at h
    rw [decide_eq_false hx, Bool.false_or] at h
    simp only [Bool.and_eq_true] at h
    obtain ⟨k, hk, hk2⟩ := List.mem_flatMap.1 he
    exact slotE_good (List.all_eq_true.1 h.2.2 k hk) e hk2

theorem openP_is {now : Int → UInt64} {c : Crd} (h : (openP now c).1 = 0) : ∃ m, mapOf now c = some m ∧ c.kind = 2 ∧ (List.range 21).all (placeOk now m) = true ∧ ((rawE now m).map (·.name)).Nodup ∧ ((rawE now m).length : Int) = c.size ∧ openP now c = (0, m, sortE (rawE now m)) := by
  have h0 := h
  unfold openP at h
  split at h
  · simp at h
  · rename_i hk
    split at h
    · simp at h
    · rename_i m hm
      split at h
      · rename_i hc
        refine ⟨m, hm, by omega, hc.1, hc.2.1, hc.2.2, ?_⟩
        unfold openP
        rw [if_neg hk, hm]
        simp only
        rw [if_pos hc]
      · simp at h
theorem openP_err {now : Int → UInt64} {c : Crd} (h : (openP now c).1 ≠ 0) : ((openP now c).1 = 6 ∧ c.kind ≠ 2) ∨ ((openP now c).1 = 15 ∧ c.kind = 2) := by
  unfold openP at h ⊢
  split
  · rename_i hk; exact .inl ⟨rfl, hk⟩
  · rename_i hk
    rw [if_neg hk] at h
    right
    refine ⟨?_, by omega⟩
    split
    · rfl
    · rename_i m hm
      rw [hm] at h
      simp only at h
      split
      · rename_i hc; rw [if_pos hc] at h; exact absurd rfl h
      · rfl

def strict (l : List Ent) : Prop := l.Pairwise fun x y => blt x.name y.name = true
theorem strict_of {l : List Ent} (hs : l.Pairwise (fun x y => leE x y = true)) (hn : (l.map (·.name)).Nodup) : strict l := by
  rw [List.nodup_iff_pairwise_ne, List.pairwise_map] at hn
  refine List.Pairwise.imp₂ (fun x y h1 h2 => ?_) hs hn
  unfold leE at h1
  rw [Bool.not_eq_true'] at h1
  rcases blt_tri x.name y.name with h | h | h
  · exact h
  · exact absurd h h2
  · rw [h] at h1; cases h1
theorem openP_good {now : Int → UInt64} {c : Crd} (h : (openP now c).1 = 0) : strict (openP now c).2.2 ∧ ∀ e ∈ (openP now c).2.2, entGood e := by
  obtain ⟨m, hm, hk, ha, hn, hl, e⟩ := openP_is h
  rw [e]
  simp only
  have hp := sortE_perm (rawE now m)
  refine ⟨strict_of (sortE_sorted _) ((hp.map _).nodup_iff.2 hn), fun x hx => ?_⟩
  have := hp.mem_iff.1 hx
  obtain ⟨i, hi, hxi⟩ := List.mem_flatMap.1 this
  exact (placeE_good (List.all_eq_true.1 ha i hi) x hxi).1

/-- in a list in order a name is found where it would stand -/
theorem find_place {name : List UInt8} : ∀ {l : List Ent}, strict l → (findR l name).2 = plT l name
  | [], _ => rfl
  | x :: l, hs => by
    obtain ⟨h1, h2⟩ := List.pairwise_cons.1 hs
    have ih := find_place (name := name) h2
    by_cases hx : blt x.name name = true
    · have e1 : plK (x :: l) name = plK l name + 1 := by unfold plK; rw [List.takeWhile_cons, if_pos hx]; rfl
      have e2 : plT (x :: l) name = plT l name := by unfold plT; rw [e1]; rfl
      have hne : ¬ x.name = name := by rintro rfl; rw [blt_irr] at hx; cases hx
      rw [e2, ← ih]
      unfold findR findE
      rw [List.find?_cons, decide_eq_false hne]
    · have e1 : plK (x :: l) name = 0 := by unfold plK; rw [List.takeWhile_cons, if_neg hx]; rfl
      have e2 : plT (x :: l) name = decide (x.name = name) := by unfold plT; rw [e1]; rfl
      rw [e2]
      unfold findR findE
      rw [List.find?_cons]
      by_cases hne : x.name = name
      · rw [decide_eq_true hne]
      · rw [decide_eq_false hne]
        have hgt : blt name x.name = true := by
          rcases blt_tri x.name name with g | g | g
          · exact absurd g hx
          · exact absurd g hne
          · exact g
        have : l.find? (fun e => decide (e.name = name)) = none := by
          rw [List.find?_eq_none]
          intro y hy
          have := blt_trans hgt (h1 y hy)
          simp only [decide_eq_true_eq]
          rintro rfl
          rw [blt_irr] at this; cases this
        simp only [this]

theorem odd_law {h : Heap} (c : Crd) (hc : c.ok) {a : Option Addr} {n cc : Nat} {l : List Chg} (S : Sl h a n cc l) (name : List UInt8) (hnl : name.length ≤ 140737488351232) :
    CallH Tryz.prog 3 [.agg ⟨c.cells⟩, .slice a n cc, .string ⟨name.toArray⟩] h (fun v h' => Keeps [] h h' ∧ v = .bool true) := by
  have hl := S.hlen
  have hbig := S.hbig
  refine call_of hmix Tryz.func3 rfl ok3 (by simp [Tryz.f3]) ?_
  conv => whnf
  refine AllocR.i fun b0 h0 e0 s0 o0 k0 => ?_
  conv => whnf
  refine CallR.i (lives11_spec h0) fun v hh kh hv => ?_
  subst hv
  have k00 := k0.trans kh
  have z00 := k00.size
  conv => whnf
  refine IfR.f rfl ?_
  conv => whnf
  refine SemR.make (n := 2824) rfl rfl rfl rfl rfl (by decide) (by decide) fun b1 h1 e1 s1 o1 k1 => ?_
  conv => whnf
  refine CallR.i (head_spec h1) fun v h2 k2 hv => ?_
  obtain ⟨b2, rfl, q1, q2, o2⟩ := hv
  have o12 := k2.obj o1 (by simp)
  have z2 := k2.size
  have S2 := Sl.of1' (α := UInt64) (n := 8) o2 (by simp [One.ok]) rfl (by decide)
  have zk := kh.size
  conv => whnf
  refine SemR.copy (sz := 1) (new := ([7021221306412823411, 2824, 0, 0, 0, 0, 0, 0] : List UInt64).map wv) rfl rfl rfl o12 rfl S2.cells1 (allOne_wv _) (by simp) (by simp [blocksOf, setB]; omega) fun h3 s3 o3 k3 => ?_
  rw [img0_copy] at o3
  have k03 : Keeps [] h h3 := (k00.trans (k1.trans k2)).new1 k3 (by omega)
  conv => whnf
  refine LoopR.on [1, 2, 3, 7, 8] [3] (fun i : Nat => [(1, .v (.slice a n cc)), (2, .v (.string ⟨name.toArray⟩)), (3, .lp 3 0), (7, .v (.slice (some ⟨b1, 0, none⟩) 2824 2824)), (8, .v (.int .i64 (i : Int)))]) (fun _ => [(3, b0, c.cells)])
    (fun i h' => i ≤ n ∧ i ≤ 100 ∧ Keeps [] h h' ∧ h3.size ≤ h'.size ∧ h'[b1]? = some (.cells ⟨((l.take i).foldl (fun ws c => ws.set (idxC c.at_) c.v) img0).map wv⟩ 22 (0, 0))) (fun i => n - i) 0 ?_ ?_
  · conv => whnf
    exact ⟨0, rfl, rfl, rfl, Nat.zero_le _, Nat.zero_le _, k03, Nat.le_refl _, o3⟩
  · rintro i h4 ⟨hi, hi100, k4, z4, o4⟩
    conv => whnf
    refine IfR.i (fun hd => ?_) (fun hd => ?_)
    · have hi1 : i < l.length ∧ i < 100 := by simp [bif_and] at hd; omega
      obtain ⟨b5, o5, hb5, _, ⟨rfl, hok⟩, hc5⟩ := (S.keep k4).at_ i hi1.1
      have hlen : ((l.take i).foldl (fun ws c => ws.set (idxC c.at_) c.v) img0).length = 2824 := by rw [foldl_set_len]; simp [img0]
      have hidx := idxC_lt l[i].at_
      conv => whnf
      refine IdxS.i i rfl (by omega) hb5 ?_
      conv => whnf
      refine LoadR.i (hc5 0 (by simp)) ?_
      conv => whnf
      refine Need.i (by decide) ?_
      conv => whnf
      refine IdxS.i i rfl (by omega) hb5 ?_
      conv => whnf
      refine LoadR.i (hc5 1 (by simp)) ?_
      conv => whnf
      refine IdxS.i (idxC l[i].at_) ?_ hidx rfl ?_
      · have e1 : IntKind.u64.wrap ((2824 : Nat) : Int) = 2824 := by rw [wrap_u64']; rfl
        rw [e1, wrap_u64', Int.tmod_eq_emod_of_nonneg (by omega), wrapN (n := idxC l[i].at_) (by unfold idxC; omega) (by omega)]
      conv => whnf
      refine StoreR.i o4 ?_ (by simp [blocksOf]; omega) fun h6 s6 o6 k6 => ?_
      · show 0 + idxC l[i].at_ * 1 + 1 ≤ _
        rw [List.length_map, hlen]; omega
      conv => whnf
      refine ⟨n - (i + 1), by omega, ?_⟩
      conv => whnf
      refine ⟨i + 1, rfl, by rw [wrapN (x := (i : Int) + 1) (n := i + 1) (by simp) (by omega)], rfl, by omega, by omega, k4.new1 k6 (by omega), by omega, ?_⟩
      have e6 := setW_splice (w := l[i].v) (i := idxC l[i].at_) (show idxC l[i].at_ < _ by rw [hlen]; exact hidx)
      rw [List.take_succ_eq_append_getElem hi1.1, List.foldl_append]
      simp only [List.foldl_cons, List.foldl_nil]
      rw [← e6]; exact o6
    · have hfin : (l.take i).foldl (fun ws c => ws.set (idxC c.at_) c.v) img0 = imgW l := by
        have : l.take i = l.take 100 := by
          have hx : i = n ∨ i = 100 := by simp [bif_and] at hd; omega
          rcases hx with rfl | rfl
          · rw [List.take_of_length_le (by omega), List.take_of_length_le (by omega)]
          · rfl
        rw [this]; rfl
      rw [hfin] at o4
      conv => whnf
      refine CallR.i (right_spec c h4) fun v h5 k5 hv => ?_
      subst hv
      conv => whnf
      refine IfR.i (fun hr => ?_) (fun hr => ?_)
      · conv => whnf
        exact ⟨k4.trans k5, rfl⟩
      have S5 : Sl h5 (some ⟨b1, 0, none⟩) 2824 2824 (imgW l) := Sl.of1' (α := UInt64) (n := 2824) (k5.obj o4 (by simp)) (by simp [One.ok]) (imgW_len l).symm (by rw [imgW_len]; decide)
      conv => whnf
      refine CallR.i (load_spec S5 (by decide)) fun v h6 k6 hv => ?_
      obtain ⟨L, rfl, A6, n6⟩ := hv
      conv => whnf
      refine CallR.i (new_spec A6) fun v h7 k7 hv => ?_
      rw [if_pos (imgW_len l)] at hv
      obtain ⟨V, rfl, rfl, ab, anb, n7, A7⟩ := hv
      have hopl := openP_len (⟨imgW l, [], [], 0, -1⟩ : MemS).read c
      have LS := list_spec A7 c hc
      have FS : ∀ {hx : Heap}, Keeps [] h7 hx → CallH Tryz.prog 14 [.pointer (some ⟨V.v, 0, none⟩), .agg ⟨c.cells⟩, .string ⟨name.toArray⟩] hx (fun v h' => Keeps [] hx h' ∧ v = .tuple #[.int .i64 (findP (⟨imgW l, [], [], 0, -1⟩ : MemS).read c name).1, .bool (findP (⟨imgW l, [], [], 0, -1⟩ : MemS).read c name).2.1, .int .i64 (findP (⟨imgW l, [], [], 0, -1⟩ : MemS).read c name).2.2]) := fun k => ffind_spec (A7.on k) c hc name
      have hgood := openP_good (now := (⟨imgW l, [], [], 0, -1⟩ : MemS).read) (c := c)
      have hrng := openP_rng (now := (⟨imgW l, [], [], 0, -1⟩ : MemS).read) (c := c)
      have herr := openP_err (now := (⟨imgW l, [], [], 0, -1⟩ : MemS).read) (c := c)
      simp only at LS
      unfold findP at FS
      generalize (⟨imgW l, [], [], 0, -1⟩ : MemS).read = now at LS FS hgood hrng hopl herr
      generalize openP now c = r at LS FS hgood hrng hopl herr
      have k57 := (k5.trans k6).trans k7
      conv => whnf
      refine CallR.i LS fun v h8 k8 hv => ?_
      unfold ListR at hv
      by_cases hr0 : r.1 = 0
      · rw [if_pos hr0] at hv
        obtain ⟨la, lc, rfl, O8, nO, ok⟩ := hv
        obtain ⟨hst, hgd⟩ := hgood hr0
        obtain ⟨mR, hsz⟩ := hrng hr0
        conv => whnf
        refine CallR.i (FS k8) fun v h9 k9 hv => ?_
        simp only [if_pos hr0] at hv
        subst hv
        have SE := (own_ents O8 ok (by omega)).keep k9
        have k49 := (k57.trans k8).trans k9
        conv => whnf
        refine IfR.f rfl ?_
        conv => whnf
        refine LoopR.on [2, 3, 10, 13, 14, 15] [3] (fun i : Nat => [(2, .v (.string ⟨name.toArray⟩)), (3, .lp 3 0), (10, .v (.slice la r.2.2.length lc)), (13, .v (.bool (findR r.2.2 name).2)), (14, .v (.int .i64 0)), (15, .v (.int .i64 (i : Int)))]) (fun _ => [(3, b0, c.cells)])
          (fun i h' => i ≤ r.2.2.length ∧ Keeps [] h9 h') (fun i => r.2.2.length - i) 0 ?_ ?_
        · conv => whnf
          exact ⟨0, rfl, rfl, rfl, Nat.zero_le _, Keeps.refl _ _⟩
        · rintro i h10 ⟨hil, k10⟩
          conv => whnf
          refine IfR.i (fun hd2 => ?_) (fun hd2 => ?_)
          · have hlt : i < r.2.2.length := by simp at hd2; omega
            obtain ⟨g1, g2, g3⟩ := hgd _ (List.getElem_mem hlt)
            have hokn := (ok _ (List.getElem_mem hlt)).1
            have SE10 := SE.keep k10
            obtain ⟨bb, oo, hbb, cs, ⟨hcs, hoke⟩, hcell⟩ := SE10.at_ i hlt
            subst hcs
            have d1 : decide ((r.2.2[i]).node < 1) = false := decide_eq_false (by omega)
            have d2 : decide ((r.2.2[i]).node > 23) = false := decide_eq_false (by omega)
            conv => whnf
            refine IdxS.i i rfl hlt hbb ?_
            conv => whnf
            refine LoadR.i (v := .int .i64 (r.2.2[i]).node) (hcell 1 (by simp [Ent.cells])) ?_
            conv => whnf
            refine IdxS.i i rfl hlt hbb ?_
            conv => whnf
            refine LoadR.i (v := .int .i64 (r.2.2[i]).node) (hcell 1 (by simp [Ent.cells])) ?_
            conv => whnf
            refine IdxS.i i rfl hlt hbb ?_
            conv => whnf
            refine LoadR.i (v := .string ⟨(r.2.2[i]).name.toArray⟩) (hcell 0 (by simp [Ent.cells])) ?_
            conv => whnf
            refine IfR.t (by rw [d1, d2]; rfl) ?_
            conv => whnf
            refine CallR.i (refRight_spec _ hokn h10) fun v h11 k11 hv => ?_
            subst hv
            have SE11 := SE10.keep k11
            rw [g3]
            rcases Nat.eq_zero_or_pos i with hi0 | hi0
            · subst hi0
              conv => whnf
              refine IdxS.u 0 0 0 (fun hx => by simp [d1, d2] at hx) ?_
              conv => whnf
              refine LoadR.u (.string ⟨#[]⟩) (fun hx => by simp [d1, d2] at hx) ?_
              conv => whnf
              refine IdxS.u 0 0 0 (fun hx => by simp [d1, d2] at hx) ?_
              conv => whnf
              refine LoadR.u (.string ⟨#[]⟩) (fun hx => by simp [d1, d2] at hx) ?_
              conv => whnf
              refine IfR.f (by rw [d1, d2]; rfl) ?_
              conv => whnf
              refine IfR.f (by rw [d1, d2]; rfl) ?_
              conv => whnf
              refine ⟨r.2.2.length - 1, by omega, ?_⟩
              conv => whnf
              exact ⟨1, rfl, by rw [wrapN (n := 1) (by simp) (by omega)], rfl, hlt, k10.trans k11⟩
            · have hlt2 : i - 1 < r.2.2.length := by omega
              obtain ⟨bb2, oo2, hbb2, cs2, ⟨hcs2, hok2⟩, hcell2⟩ := SE11.at_ (i - 1) hlt2
              obtain ⟨bb3, oo3, hbb3, cs3, ⟨hcs3, hok3⟩, hcell3⟩ := SE11.at_ i hlt
              subst hcs2
              subst hcs3
              have hah : blt (r.2.2[i - 1]).name (r.2.2[i]).name = true := List.pairwise_iff_getElem.1 hst (i - 1) i hlt2 hlt (by omega)
              conv => whnf
              refine IdxS.i (i - 1) (by rw [wrapI (by omega) (by omega)]; omega) hlt2 hbb2 ?_
              conv => whnf
              refine LoadR.i (v := .string ⟨(r.2.2[i - 1]).name.toArray⟩) (hcell2 0 (by simp [Ent.cells])) ?_
              conv => whnf
              refine IdxS.i i rfl hlt hbb3 ?_
              conv => whnf
              refine LoadR.i (v := .string ⟨(r.2.2[i]).name.toArray⟩) (hcell3 0 (by simp [Ent.cells])) ?_
              conv => whnf
              refine IfR.t (by simp [d1, d2]; omega) ?_
              conv => whnf
              refine CallR.i (ahead_spec _ _ hok2.1 hok3.1 h11) fun v h12 k12 hv => ?_
              subst hv
              rw [hah]
              conv => whnf
              refine IfR.f (by simp [d1, d2]) ?_
              conv => whnf
              refine ⟨r.2.2.length - (i + 1), by omega, ?_⟩
              conv => whnf
              exact ⟨i + 1, rfl, by rw [wrapN (n := i + 1) (by simp) (by omega)], rfl, hlt, (k10.trans k11).trans k12⟩
          · have hfin : i = r.2.2.length := by simp at hd2; omega
            conv => whnf
            refine CallR.i (place_spec (SE.keep k10) (by omega) name hnl) fun v h11 k11 hv => ?_
            subst hv
            conv => whnf
            refine ⟨k4.trans (k49.trans (k10.trans k11)), ?_⟩
            rw [find_place hst, ← hsz]
            simp
      · rw [if_neg hr0] at hv
        subst hv
        conv => whnf
        refine CallR.i (FS k8) fun v h9 k9 hv => ?_
        simp only [if_neg hr0] at hv
        subst hv
        conv => whnf
        refine IfR.t (by simpa using hr0) ?_
        conv => whnf
        refine ⟨k4.trans ((k57.trans k8).trans k9), ?_⟩
        rcases herr hr0 with ⟨g1, g2⟩ | ⟨g1, g2⟩
        · rw [g1]
          have : (c.kind != 2) = true := by simpa using g2
          rw [this]; rfl
        · rw [g1, g2]; rfl
end Go.Proofs.YteambknhlbiajaaGreatDoor
