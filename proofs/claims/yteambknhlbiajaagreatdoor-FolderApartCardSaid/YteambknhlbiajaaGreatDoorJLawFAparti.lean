/-
  Joined texts: FolQ, FolR, FolT, FolU, FolV, FolW, FolX, FomA, FomB.
-/
import Derived.Test.YteambknhlbiajaaGreatDoorJLawFAparth
/-
  Layer 11's law: whatever lies there, each call ends.
-/
set_option linter.all false
set_option maxRecDepth 100000
set_option maxHeartbeats 1000000
namespace Go.Proofs.YteambknhlbiajaaGreatDoor
open Go Go.Eng

/-! ### What a list that is told has -/

def entGood (e : Ent) : Prop := 1 ≤ e.node ∧ e.node ≤ 23 ∧ nameB e.name = true

theorem slotE_good {ws : List UInt64} {place k : Nat} (h : slotOk ws place k = true) : ∀ e ∈ slotE ws k, entGood e ∧ bucketL e.name = place % 8 := by
  intro e he
  unfold slotE at he
  split at he
  · cases he
  · rename_i hx
    simp only [List.mem_cons, List.not_mem_nil, or_false] at he
    subst he
    unfold slotOk at h
    have hx2 : emptyB ws k = false := by simpa using hx
    rw [hx2, Bool.false_or] at h
    unfold entB at h
    simp only [Bool.and_eq_true, decide_eq_true_eq] at h
    obtain ⟨_, h1, h2, h3, h4⟩ := h
    refine ⟨⟨?_, ?_, h1⟩, h2⟩
    · simp only [entE, entV]
      rw [wrapI (by omega) (by omega)]; omega
    · simp only [entE, entV]
      rw [wrapI (by omega) (by omega)]; omega
theorem placeE_good {now : Int → UInt64} {m : List Int} {i : Nat} (h : placeOk now m i = true) : ∀ e ∈ placeE now m i, entGood e ∧ bucketL e.name = i % 8 := by
  intro e he
  unfold placeE at he
  split at he
  · cases he
  · rename_i hx
    unfold placeOk blkOkB at h
    rw [decide_eq_false hx, Bool.false_or] at h
    simp only [Bool.and_eq_true] at h
    obtain ⟨k, hk, hk2⟩ := List.mem_flatMap.1 he
    exact slotE_good (List.all_eq_true.1 h.2.2 k hk) e hk2

theorem openP_is {now : Int → UInt64} {c : Crd} (h : (openP now c).1 = 0) : ∃ m, mapOf now c = some m ∧ c.kind = 2 ∧ (List.range 21).all (placeOk now m) = true ∧ ((rawE now m).map (·.name)).Nodup ∧ ((rawE now m).length : Int) = c.size ∧ openP now c = (0, m, sortE (rawE now m)) := by
  have h0 := h
  unfold openP at h
  split at h
  · simp at h
  · rename_i hk
    split at h
    · simp at h
    · rename_i m hm
      split at h
      · rename_i hc
        refine ⟨m, hm, by omega, hc.1, hc.2.1, hc.2.2, ?_⟩
        unfold openP
        rw [if_neg hk, hm]
        simp only
        rw [if_pos hc]
      · simp at h
theorem openP_err {now : Int → UInt64} {c : Crd} (h : (openP now c).1 ≠ 0) : ((openP now c).1 = 6 ∧ c.kind ≠ 2) ∨ ((openP now c).1 = 15 ∧ c.kind = 2) := by
  unfold openP at h ⊢
  split
  · rename_i hk; exact .inl ⟨rfl, hk⟩
  · rename_i hk
    rw [if_neg hk] at h
    right
    refine ⟨?_, by omega⟩
    split
    · rfl
    · rename_i m hm
      rw [hm] at h
      simp only at h
      split
      · rename_i hc; rw [if_pos hc] at h; exact absurd rfl h
      · rfl

def strict (l : List Ent) : Prop := l.Pairwise fun x y => blt x.name y.name = true
theorem strict_of {l : List Ent} (hs : l.Pairwise (fun x y => leE x y = true)) (hn : (l.map (·.name)).Nodup) : strict l := by
  rw [List.nodup_iff_pairwise_ne, List.pairwise_map] at hn
  refine List.Pairwise.imp₂ (fun x y h1 h2 => ?_) hs hn
  unfold leE at h1
  rw [Bool.not_eq_true'] at h1
  rcases blt_tri x.name y.name with h | h | h
  · exact h
  · exact absurd h h2
  · rw [h] at h1; cases h1
theorem openP_good {now : Int → UInt64} {c : Crd} (h : (openP now c).1 = 0) : strict (openP now c).2.2 ∧ ∀ e ∈ (openP now c).2.2, entGood e := by
  obtain ⟨m, hm, hk, ha, hn, hl, e⟩ := openP_is h
  rw [e]
  simp only
  have hp := sortE_perm (rawE now m)
  refine ⟨strict_of (sortE_sorted _) ((hp.map _).nodup_iff.2 hn), fun x hx => ?_⟩
  have := hp.mem_iff.1 hx
  obtain ⟨i, hi, hxi⟩ := List.mem_flatMap.1 this
  exact (placeE_good (List.all_eq_true.1 ha i hi) x hxi).1

/-- in a list in order a name is found where it would stand -/
theorem find_place {name : List UInt8} : ∀ {l : List Ent}, strict l → (findR l name).2 = plT l name
  | [], _ => rfl
  | x :: l, hs => by
    obtain ⟨h1, h2⟩ := List.pairwise_cons.1 hs
    have ih := find_place (name := name) h2
    by_cases hx : blt x.name name = true
    · have e1 : plK (x :: l) name = plK l name + 1 := by unfold plK; rw [List.takeWhile_cons, if_pos hx]; rfl
      have e2 : plT (x :: l) name = plT l name := by unfold plT; rw [e1]; rfl
      have hne : ¬ x.name = name := by rintro rfl; rw [blt_irr] at hx; cases hx
      rw [e2, ← ih]
      unfold findR findE
      rw [List.find?_cons, decide_eq_false hne]
    · have e1 : plK (x :: l) name = 0 := by unfold plK; rw [List.takeWhile_cons, if_neg hx]; rfl
      have e2 : plT (x :: l) name = decide (x.name = name) := by unfold plT; rw [e1]; rfl
      rw [e2]
      unfold findR findE
      rw [List.find?_cons]
      by_cases hne : x.name = name
      · rw [decide_eq_true hne]
      · rw [decide_eq_false hne]
        have hgt : blt name x.name = true := by
          rcases blt_tri x.name name with g | g | g
          · exact absurd g hx
          · exact absurd g hne
          · exact g
        have : l.find? (fun e => decide (e.name = name)) = none := by
          rw [List.find?_eq_none]
          intro y hy
          have := blt_trans hgt (h1 y hy)
          simp only [decide_eq_true_eq]
          rintro rfl
          rw [blt_irr] at this; cases this
        simp only [this]

theorem odd_law {h : Heap} (c : Crd) (hc : c.ok) {a : Option Addr} {n cc : Nat} {l : List Chg} (S : Sl h a n cc l) (name : List UInt8) (hnl : name.length ≤ 140737488351232) :
    CallH Tryz.prog 3 [.agg ⟨c.cells⟩, .slice a n cc, .string ⟨name.toArray⟩] h (fun v h' => Keeps [] h h' ∧ v = .bool true) := by
  have hl := S.hlen
  have hbig := S.hbig
  refine call_of hmix Tryz.func3 rfl ok3 (by simp [Tryz.f3]) ?_
  conv => whnf
  refine AllocR.i fun b0 h0 e0 s0 o0 k0 => ?_
  conv => whnf
  refine CallR.i (lives11_spec h0) fun v hh kh hv => ?_
  subst hv
  have k00 := k0.trans kh
  have z00 := k00.size
  conv => whnf
  refine IfR.f rfl ?_
  conv => whnf
  refine SemR.make (n := 2824) rfl rfl rfl rfl rfl (by decide) (by decide) fun b1 h1 e1 s1 o1 k1 => ?_
  conv => whnf
  refine CallR.i (head_spec h1) fun v h2 k2 hv => ?_
  obtain ⟨b2, rfl, q1, q2, o2⟩ := hv
  have o12 := k2.obj o1 (by simp)
  have z2 := k2.size
  have S2 := Sl.of1' (α := UInt64) (n := 8) o2 (by simp [One.ok]) rfl (by decide)
  have zk := kh.size
  conv => whnf
  refine SemR.copy (sz := 1) (new := ([7021221306412823411, 2824, 0, 0, 0, 0, 0, 0] : List UInt64).map wv) rfl rfl rfl o12 rfl S2.cells1 (allOne_wv _) (by simp) (by simp [blocksOf, setB]; omega) fun h3 s3 o3 k3 => ?_
  rw [img0_copy] at o3
  have k03 : Keeps [] h h3 := (k00.trans (k1.trans k2)).new1 k3 (by omega)
  conv => whnf
  refine LoopR.on [1, 2, 3, 7, 8] [3] (fun i : Nat => [(1, .v (.slice a n cc)), (2, .v (.string ⟨name.toArray⟩)), (3, .lp 3 0), (7, .v (.slice (some ⟨b1, 0, none⟩) 2824 2824)), (8, .v (.int .i64 (i : Int)))]) (fun _ => [(3, b0, c.cells)])
    (fun i h' => i ≤ n ∧ i ≤ 100 ∧ Keeps [] h h' ∧ h3.size ≤ h'.size ∧ h'[b1]? = some (.cells ⟨((l.take i).foldl (fun ws c => ws.set (idxC c.at_) c.v) img0).map wv⟩ 22 (0, 0))) (fun i => n - i) 0 ?_ ?_
  · conv => whnf
    exact ⟨0, rfl, rfl, rfl, Nat.zero_le _, Nat.zero_le _, k03, Nat.le_refl _, o3⟩
  · rintro i h4 ⟨hi, hi100, k4, z4, o4⟩
    conv => whnf
    refine IfR.i (fun hd => ?_) (fun hd => ?_)
    · have hi1 : i < l.length ∧ i < 100 := by simp [bif_and] at hd; omega
      obtain ⟨b5, o5, hb5, _, ⟨rfl, hok⟩, hc5⟩ := (S.keep k4).at_ i hi1.1
      have hlen : ((l.take i).foldl (fun ws c => ws.set (idxC c.at_) c.v) img0).length = 2824 := by rw [foldl_set_len]; simp [img0]
      have hidx := idxC_lt l[i].at_
      conv => whnf
      refine IdxS.i i rfl (by omega) hb5 ?_
      conv => whnf
      refine LoadR.i (hc5 0 (by simp)) ?_
      conv => whnf
      refine Need.i (by decide) ?_
      conv => whnf
      refine IdxS.i i rfl (by omega) hb5 ?_
      conv => whnf
      refine LoadR.i (hc5 1 (by simp)) ?_
      conv => whnf
      refine IdxS.i (idxC l[i].at_) ?_ hidx rfl ?_
      · have e1 : IntKind.u64.wrap ((2824 : Nat) : Int) = 2824 := by rw [wrap_u64']; rfl
        rw [e1, wrap_u64', Int.tmod_eq_emod_of_nonneg (by omega), wrapN (n := idxC l[i].at_) (by unfold idxC; omega) (by omega)]
      conv => whnf
      refine StoreR.i o4 ?_ (by simp [blocksOf]; omega) fun h6 s6 o6 k6 => ?_
      · show 0 + idxC l[i].at_ * 1 + 1 ≤ _
        rw [List.length_map, hlen]; omega
      conv => whnf
      refine ⟨n - (i + 1), by omega, ?_⟩
      conv => whnf
      refine ⟨i + 1, rfl, by rw [wrapN (x := (i : Int) + 1) (n := i + 1) (by simp) (by omega)], rfl, by omega, by omega, k4.new1 k6 (by omega), by omega, ?_⟩
      have e6 := setW_splice (w := l[i].v) (i := idxC l[i].at_) (show idxC l[i].at_ < _ by rw [hlen]; exact hidx)
      rw [List.take_succ_eq_append_getElem hi1.1, List.foldl_append]
      simp only [List.foldl_cons, List.foldl_nil]
      rw [← e6]; exact o6
    · have hfin : (l.take i).foldl (fun ws c => ws.set (idxC c.at_) c.v) img0 = imgW l := by
        have : l.take i = l.take 100 := by
          have hx : i = n ∨ i = 100 := by simp [bif_and] at hd; omega
          rcases hx with rfl | rfl
          · rw [List.take_of_length_le (by omega), List.take_of_length_le (by omega)]
          · rfl
        rw [this]; rfl
      rw [hfin] at o4
      conv => whnf
      refine CallR.i (right_spec c h4) fun v h5 k5 hv => ?_
      subst hv
      conv => whnf
      refine IfR.i (fun hr => ?_) (fun hr => ?_)
      · conv => whnf
        exact ⟨k4.trans k5, rfl⟩
      have S5 : Sl h5 (some ⟨b1, 0, none⟩) 2824 2824 (imgW l) := Sl.of1' (α := UInt64) (n := 2824) (k5.obj o4 (by simp)) (by simp [One.ok]) (imgW_len l).symm (by rw [imgW_len]; decide)
      conv => whnf
      refine CallR.i (load_spec S5 (by decide)) fun v h6 k6 hv => ?_
      obtain ⟨L, rfl, A6, n6⟩ := hv
      conv => whnf
      refine CallR.i (new_spec A6) fun v h7 k7 hv => ?_
      rw [if_pos (imgW_len l)] at hv
      obtain ⟨V, rfl, rfl, ab, anb, n7, A7⟩ := hv
      have hopl := openP_len (⟨imgW l, [], [], 0, -1⟩ : MemS).read c
      have LS := list_spec A7 c hc
      have FS : ∀ {hx : Heap}, Keeps [] h7 hx → CallH Tryz.prog 14 [.pointer (some ⟨V.v, 0, none⟩), .agg ⟨c.cells⟩, .string ⟨name.toArray⟩] hx (fun v h' => Keeps [] hx h' ∧ v = .tuple #[.int .i64 (findP (⟨imgW l, [], [], 0, -1⟩ : MemS).read c name).1, .bool (findP (⟨imgW l, [], [], 0, -1⟩ : MemS).read c name).2.1, .int .i64 (findP (⟨imgW l, [], [], 0, -1⟩ : MemS).read c name).2.2]) := fun k => ffind_spec (A7.on k) c hc name
      have hgood := openP_good (now := (⟨imgW l, [], [], 0, -1⟩ : MemS).read) (c := c)
      have hrng := openP_rng (now := (⟨imgW l, [], [], 0, -1⟩ : MemS).read) (c := c)
      have herr := openP_err (now := (⟨imgW l, [], [], 0, -1⟩ : MemS).read) (c := c)
      simp only at LS
      unfold findP at FS
      generalize (⟨imgW l, [], [], 0, -1⟩ : MemS).read = now at LS FS hgood hrng hopl herr
      generalize openP now c = r at LS FS hgood hrng hopl herr
      have k57 := (k5.trans k6).trans k7
      conv => whnf
      refine CallR.i LS fun v h8 k8 hv => ?_
      unfold ListR at hv
      by_cases hr0 : r.1 = 0
      · rw [if_pos hr0] at hv
        obtain ⟨la, lc, rfl, O8, nO, ok⟩ := hv
        obtain ⟨hst, hgd⟩ := hgood hr0
        obtain ⟨mR, hsz⟩ := hrng hr0
        conv => whnf
        refine CallR.i (FS k8) fun v h9 k9 hv => ?_
        simp only [if_pos hr0] at hv
        subst hv
        have SE := (own_ents O8 ok (by omega)).keep k9
        have k49 := (k57.trans k8).trans k9
        conv => whnf
        refine IfR.f rfl ?_
        conv => whnf
        refine LoopR.on [2, 3, 10, 13, 14, 15] [3] (fun i : Nat => [(2, .v (.string ⟨name.toArray⟩)), (3, .lp 3 0), (10, .v (.slice la r.2.2.length lc)), (13, .v (.bool (findR r.2.2 name).2)), (14, .v (.int .i64 0)), (15, .v (.int .i64 (i : Int)))]) (fun _ => [(3, b0, c.cells)])
          (fun i h' => i ≤ r.2.2.length ∧ Keeps [] h9 h') (fun i => r.2.2.length - i) 0 ?_ ?_
        · conv => whnf
          exact ⟨0, rfl, rfl, rfl, Nat.zero_le _, Keeps.refl _ _⟩
        · rintro i h10 ⟨hil, k10⟩
          conv => whnf
          refine IfR.i (fun hd2 => ?_) (fun hd2 => ?_)
          · have hlt : i < r.2.2.length := by simp at hd2; omega
            obtain ⟨g1, g2, g3⟩ := hgd _ (List.getElem_mem hlt)
            have hokn := (ok _ (List.getElem_mem hlt)).1
            have SE10 := SE.keep k10
            obtain ⟨bb, oo, hbb, cs, ⟨hcs, hoke⟩, hcell⟩ := SE10.at_ i hlt
            subst hcs
            have d1 : decide ((r.2.2[i]).node < 1) = false := decide_eq_false (by omega)
            have d2 : decide ((r.2.2[i]).node > 23) = false := decide_eq_false (by omega)
            conv => whnf
            refine IdxS.i i rfl hlt hbb ?_
            conv => whnf
            refine LoadR.i (v := .int .i64 (r.2.2[i]).node) (hcell 1 (by simp [Ent.cells])) ?_
            conv => whnf
            refine IdxS.i i rfl hlt hbb ?_
            conv => whnf
            refine LoadR.i (v := .int .i64 (r.2.2[i]).node) (hcell 1 (by simp [Ent.cells])) ?_
            conv => whnf
            refine IdxS.i i rfl hlt hbb ?_
            conv => whnf
            refine LoadR.i (v := .string ⟨(r.2.2[i]).name.toArray⟩) (hcell 0 (by simp [Ent.cells])) ?_
            conv => whnf
            refine IfR.t (by rw [d1, d2]; rfl) ?_
            conv => whnf
            refine CallR.i (refRight_spec _ hokn h10) fun v h11 k11 hv => ?_
            subst hv
            have SE11 := SE10.keep k11
            rw [g3]
            rcases Nat.eq_zero_or_pos i with hi0 | hi0
            · subst hi0
              conv => whnf
              refine IdxS.u 0 0 0 (fun hx => by simp [d1, d2] at hx) ?_
              conv => whnf
              refine LoadR.u (.string ⟨#[]⟩) (fun hx => by simp [d1, d2] at hx) ?_
              conv => whnf
              refine IdxS.u 0 0 0 (fun hx => by simp [d1, d2] at hx) ?_
              conv => whnf
              refine LoadR.u (.string ⟨#[]⟩) (fun hx => by simp [d1, d2] at hx) ?_
              conv => whnf
              refine IfR.f (by rw [d1, d2]; rfl) ?_
              conv => whnf
              refine IfR.f (by rw [d1, d2]; rfl) ?_
              conv => whnf
              refine ⟨r.2.2.length - 1, by omega, ?_⟩
              conv => whnf
              exact ⟨1, rfl, by rw [wrapN (n := 1) (by simp) (by omega)], rfl, hlt, k10.trans k11⟩
            · have hlt2 : i - 1 < r.2.2.length := by omega
              obtain ⟨bb2, oo2, hbb2, cs2, ⟨hcs2, hok2⟩, hcell2⟩ := SE11.at_ (i - 1) hlt2
              obtain ⟨bb3, oo3, hbb3, cs3, ⟨hcs3, hok3⟩, hcell3⟩ := SE11.at_ i hlt
              subst hcs2
              subst hcs3
              have hah : blt (r.2.2[i - 1]).name (r.2.2[i]).name = true := List.pairwise_iff_getElem.1 hst (i - 1) i hlt2 hlt (by omega)
              conv => whnf
              refine IdxS.i (i - 1) (by rw [wrapI (by omega) (by omega)]; omega) hlt2 hbb2 ?_
              conv => whnf
              refine LoadR.i (v := .string ⟨(r.2.2[i - 1]).name.toArray⟩) (hcell2 0 (by simp [Ent.cells])) ?_
              conv => whnf
              refine IdxS.i i rfl hlt hbb3 ?_
              conv => whnf
              refine LoadR.i (v := .string ⟨(r.2.2[i]).name.toArray⟩) (hcell3 0 (by simp [Ent.cells])) ?_
              conv => whnf
              refine IfR.t (by simp [d1, d2]; omega) ?_
              conv => whnf
              refine CallR.i (ahead_spec _ _ hok2.1 hok3.1 h11) fun v h12 k12 hv => ?_
              subst hv
              rw [hah]
              conv => whnf
              refine IfR.f (by simp [d1, d2]) ?_
              conv => whnf
              refine ⟨r.2.2.length - (i + 1), by omega, ?_⟩
              conv => whnf
              exact ⟨i + 1, rfl, by rw [wrapN (n := i + 1) (by simp) (by omega)], rfl, hlt, (k10.trans k11).trans k12⟩
          · have hfin : i = r.2.2.length := by simp at hd2; omega
            conv => whnf
            refine CallR.i (place_spec (SE.keep k10) (by omega) name hnl) fun v h11 k11 hv => ?_
            subst hv
            conv => whnf
            refine ⟨k4.trans (k49.trans (k10.trans k11)), ?_⟩
            rw [find_place hst, ← hsz]
            simp
      · rw [if_neg hr0] at hv
        subst hv
        conv => whnf
        refine CallR.i (FS k8) fun v h9 k9 hv => ?_
        simp only [if_neg hr0] at hv
        subst hv
        conv => whnf
        refine IfR.t (by simpa using hr0) ?_
        conv => whnf
        refine ⟨k4.trans ((k57.trans k8).trans k9), ?_⟩
        rcases herr hr0 with ⟨g1, g2⟩ | ⟨g1, g2⟩
        · rw [g1]
          have : (c.kind != 2) = true := by simpa using g2
          rw [this]; rfl
        · rw [g1, g2]; rfl
end Go.Proofs.YteambknhlbiajaaGreatDoor
/-
  Layer 11's plain law: what an entry that is put, or struck, does to a block's entries.
-/
set_option linter.all false
set_option maxRecDepth 100000
set_option maxHeartbeats 1000000
namespace Go.Proofs.YteambknhlbiajaaGreatDoor
open Go Go.Eng

/-! ### Bytes and words -/

theorem byteW_toNat (w : UInt64) (i : Nat) : (byteW w i).toNat = w.toNat / 2 ^ (8 * (i % 8)) % 256 := by
  unfold byteW
  simp [UInt8.toNat_ofNat]

theorem pack_bytes (w : UInt64) (j : Nat) : packN ((List.range 8).map fun i => byteW w (8 * j + i)) = w.toNat := by
  have hw := w.toNat_lt
  have h : ∀ i, i < 8 → (byteW w (8 * j + i)).toNat = w.toNat / 2 ^ (8 * i) % 256 := by
    intro i hi
    rw [byteW_toNat]
    congr 4
    omega
  have e : (List.range 8) = [0, 1, 2, 3, 4, 5, 6, 7] := rfl
  rw [e]
  simp only [List.map_cons, List.map_nil, packN]
  rw [h 0 (by decide), h 1 (by decide), h 2 (by decide), h 3 (by decide), h 4 (by decide), h 5 (by decide), h 6 (by decide), h 7 (by decide)]
  simp only [Nat.mul_zero, Nat.pow_zero, Nat.div_one, Nat.reduceMul, Nat.reducePow]
  omega

theorem untext_inj {ws vs : List UInt64} (hl : ws.length = vs.length) (h : untextL ws (8 * ws.length) = untextL vs (8 * ws.length)) : ws = vs := by
  apply List.ext_getElem hl
  intro j h1 h2
  have key : ∀ (us : List UInt64) (hj : j < us.length), ((untextL us (8 * us.length)).drop (8 * j)).take 8 = (List.range 8).map fun i => byteW us[j] (8 * j + i) := by
    intro us hj
    apply List.ext_getElem
    · simp [untextL]; omega
    · intro i i1 i2
      have hi : i < 8 := by simpa using i2
      simp only [untextL, List.getElem_take, List.getElem_drop, List.getElem_map, List.getElem_range]
      have : (8 * j + i) / 8 = j := by omega
      rw [this, List.getElem?_eq_getElem hj]; rfl
  have k1 := key ws h1
  have k2 := key vs h2
  rw [h, hl, k2] at k1
  apply UInt64.toNat_inj.1
  rw [← pack_bytes ws[j] j, ← pack_bytes vs[j] j, k1]

/-! ### A slot that is set -/

theorem wAt_set {ws new : List UInt64} {k i : Nat} (hl : ws.length = 16) (hk : k < 5) (hn : new.length = 3) : wAt (setSlot ws k new) i = if 3 * k ≤ i ∧ i < 3 * k + 3 then wAt new (i - 3 * k) else wAt ws i := by
  unfold wAt setSlot
  have h1 : (ws.take (3 * k)).length = 3 * k := by simp; omega
  by_cases ha : i < 3 * k
  · rw [if_neg (by omega), List.append_assoc, List.getElem?_append_left (by omega), List.getElem?_take, if_pos ha]
  · by_cases hb : i < 3 * k + 3
    · rw [if_pos ⟨by omega, hb⟩, List.append_assoc, List.getElem?_append_right (by omega), h1, List.getElem?_append_left (by omega)]
    · rw [if_neg (by omega), List.getElem?_append_right (by simp; omega)]
      have h2 : (ws.take (3 * k) ++ new).length = 3 * k + 3 := by simp; omega
      rw [h2, List.getElem?_drop]
      congr 2
      omega

theorem slot_same {ws vs : List UInt64} {k place : Nat} (h0 : wAt vs (3 * k) = wAt ws (3 * k)) (h1 : wAt vs (3 * k + 1) = wAt ws (3 * k + 1)) (h2 : wAt vs (3 * k + 2) = wAt ws (3 * k + 2)) : slotOk vs place k = slotOk ws place k ∧ slotE vs k = slotE ws k := by
  have e1 : emptyB vs k = emptyB ws k := by unfold emptyB; rw [h0, h1, h2]
  have e2 : entT vs k = entT ws k := by unfold entT; rw [h1, h2]
  have e3 : entE vs k = entE ws k := by unfold entE entN entV; rw [e2, h0]
  have e4 : entB vs k place = entB ws k place := by unfold entB entN; rw [e2, h0]
  constructor
  · unfold slotOk; rw [e1, e4]
  · unfold slotE; rw [e1, e3]

theorem set_other {ws new : List UInt64} {k j place : Nat} (hl : ws.length = 16) (hk : k < 5) (hn : new.length = 3) (hj : j ≠ k) : slotOk (setSlot ws k new) place j = slotOk ws place j ∧ slotE (setSlot ws k new) j = slotE ws j := by
  refine slot_same ?_ ?_ ?_ <;> rw [wAt_set hl hk hn, if_neg (by omega)]

/-- an entry's words -/
def entWs (e : Ent) : List UInt64 := w64 e.node :: textL e.name 2
theorem entWs_len (e : Ent) : (entWs e).length = 3 := by simp [entWs, textL_len]

theorem sign_nz {c : UInt8} (h : signB c = true) : c ≠ 0 := by
  rintro rfl
  revert h; decide
theorem takeW_zeros : ∀ (l : List UInt8) (n : Nat), l.all nz = true → (l ++ zeros n).takeWhile nz = l ∧ ((l ++ zeros n).dropWhile nz).all ez = true
  | [], n, _ => by
    cases n with
    | zero => exact ⟨rfl, rfl⟩
    | succ n =>
      constructor
      · simp [zeros, List.replicate_succ, nz]
      · simp [zeros, List.replicate_succ, nz, ez]
  | c :: l, n, h => by
    simp only [List.all_cons, Bool.and_eq_true] at h
    obtain ⟨h1, h2⟩ := takeW_zeros l n h.2
    rw [List.cons_append, List.takeWhile_cons, if_pos h.1, List.dropWhile_cons, if_pos h.1, h1]
    exact ⟨rfl, h2⟩
theorem all_drop {p : UInt8 → Bool} {l : List UInt8} {n : Nat} (h : l.all p = true) : (l.drop n).all p = true := by
  rw [List.all_eq_true] at h ⊢
  exact fun x hx => h x (List.mem_of_mem_drop hx)

theorem entWs_text {e : Ent} (hn : nameB e.name = true) : untextL [wordT e.name 0, wordT e.name 1] 16 = e.name ++ zeros (16 - e.name.length) := by
  have hlen : e.name.length ≤ 14 := by
    unfold nameB at hn
    simp only [Bool.and_eq_true, decide_eq_true_eq] at hn
    exact hn.2.1.1.2
  apply List.ext_getElem
  · simp [untextL, zeros]; omega
  · intro i h1 h2
    have hi : i < 16 := by simpa [untextL] using h1
    simp only [untextL, List.getElem_map, List.getElem_range]
    have hw : ([wordT e.name 0, wordT e.name 1] : List UInt64)[i / 8]?.getD 0 = wordT e.name (i / 8) := by
      have : i / 8 = 0 ∨ i / 8 = 1 := by omega
      rcases this with h | h <;> rw [h] <;> rfl
    rw [hw, byte_word]
    rcases Nat.lt_or_ge i e.name.length with h | h
    · rw [List.getElem_append_left h, List.getElem?_eq_getElem h]; rfl
    · rw [List.getElem_append_right h, List.getElem?_eq_none h]
      simp [zeros]

/-- an entry that is put stands there -/
theorem set_here {ws : List UInt64} {k place : Nat} {e : Ent} (hl : ws.length = 16) (hk : k < 5) (hn : nameB e.name = true) (h1 : 1 ≤ e.node) (h2 : e.node < 24) (hb : bucketL e.name = place % 8) : slotOk (setSlot ws k (entWs e)) place k = true ∧ slotE (setSlot ws k (entWs e)) k = [e] := by
  have hlen := entWs_len e
  have w0 : wAt (setSlot ws k (entWs e)) (3 * k) = w64 e.node := by rw [wAt_set hl hk hlen, if_pos ⟨by omega, by omega⟩, Nat.sub_self]; rfl
  have w1 : wAt (setSlot ws k (entWs e)) (3 * k + 1) = wordT e.name 0 := by rw [wAt_set hl hk hlen, if_pos ⟨by omega, by omega⟩, show 3 * k + 1 - 3 * k = 1 by omega]; rfl
  have w2 : wAt (setSlot ws k (entWs e)) (3 * k + 2) = wordT e.name 1 := by rw [wAt_set hl hk hlen, if_pos ⟨by omega, by omega⟩, show 3 * k + 2 - 3 * k = 2 by omega]; rfl
  have hw : ((w64 e.node).toNat : Int) = e.node := by rw [w64_toNat]; omega
  have hall : e.name.all nz = true := by
    unfold nameB at hn
    simp only [Bool.and_eq_true] at hn
    rw [List.all_eq_true] at hn ⊢
    intro c hc
    have := sign_nz (hn.1 c hc)
    simpa [nz] using this
  have hT : entT (setSlot ws k (entWs e)) k = e.name ++ zeros (16 - e.name.length) := by
    unfold entT
    rw [w1, w2, entWs_text hn]
  obtain ⟨t1, t2⟩ := takeW_zeros e.name (16 - e.name.length) hall
  have hN : entN (setSlot ws k (entWs e)) k = e.name := by unfold entN cutA; rw [hT, t1]
  have hV : entV (setSlot ws k (entWs e)) k = e.node := by unfold entV; rw [w0, hw, wrapI (by omega) (by omega)]
  have hE : emptyB (setSlot ws k (entWs e)) k = false := by
    unfold emptyB
    rw [w0, decide_eq_false (fun h => by rw [h] at hw; simp at hw; omega)]
    rfl
  have hB : entB (setSlot ws k (entWs e)) k place = true := by
    unfold entB
    rw [hN, w0, hn, hT]
    unfold cutB
    rw [all_drop t2, hb]
    have g1 : 1 ≤ (w64 e.node).toNat := by omega
    have g2 : (w64 e.node).toNat < 24 := by omega
    simp [g1, g2]
  constructor
  · unfold slotOk; rw [hB, Bool.or_true]
  · unfold slotE
    rw [hE]
    simp only [Bool.false_eq_true, if_false]
    unfold entE
    rw [hN, hV]

/-- an entry that is struck is none -/
theorem set_none {ws : List UInt64} {k place : Nat} (hl : ws.length = 16) (hk : k < 5) : slotOk (setSlot ws k [0, 0, 0]) place k = true ∧ slotE (setSlot ws k [0, 0, 0]) k = [] := by
  have hE : emptyB (setSlot ws k [0, 0, 0]) k = true := by
    unfold emptyB
    rw [wAt_set hl hk rfl, wAt_set hl hk rfl, wAt_set hl hk rfl, if_pos ⟨by omega, by omega⟩, if_pos ⟨by omega, by omega⟩, if_pos ⟨by omega, by omega⟩, Nat.sub_self, show 3 * k + 1 - 3 * k = 1 by omega, show 3 * k + 2 - 3 * k = 2 by omega]
    rfl
  constructor
  · unfold slotOk; rw [hE]; rfl
  · unfold slotE; rw [if_pos hE]

/-! ### Blocks -/

/-- a block's entries, by its words -/
def wsOk (ws : List UInt64) (place : Nat) : Bool := decide (wAt ws 15 = 0) && (List.range 5).all (slotOk ws place)
def wsE (ws : List UInt64) : List Ent := (List.range 5).flatMap (slotE ws)

theorem flat_one {α β : Type} {f g : α → List β} {a : α} : ∀ {l : List α}, l.Nodup → a ∈ l → (∀ x ∈ l, x ≠ a → f x = g x) → (l.flatMap f ++ g a).Perm (l.flatMap g ++ f a)
  | [], _, h, _ => by cases h
  | x :: l, hn, ha, he => by
    obtain ⟨h1, h2⟩ := List.nodup_cons.1 hn
    rw [List.flatMap_cons, List.flatMap_cons]
    by_cases e : x = a
    · subst e
      have hfg : l.flatMap f = l.flatMap g := by
        have : ∀ y ∈ l, f y = g y := fun y hy => he y (by simp [hy]) (fun h => h1 (h ▸ hy))
        clear ha he hn h1 h2
        induction l with
        | nil => rfl
        | cons z l ih =>
          rw [List.flatMap_cons, List.flatMap_cons, this z (by simp), ih (fun y hy => this y (by simp [hy]))]
      rw [hfg]
      have p1 : (f x ++ l.flatMap g ++ g x).Perm (g x ++ (f x ++ l.flatMap g)) := List.perm_append_comm
      refine p1.trans ?_
      rw [List.append_assoc]
      exact List.Perm.append_left _ List.perm_append_comm
    · have ha2 : a ∈ l := by
        rcases List.mem_cons.1 ha with h | h
        · exact absurd h.symm e
        · exact h
      have ih := flat_one h2 ha2 (fun y hy hne => he y (by simp [hy]) hne)
      rw [he x (by simp) e, List.append_assoc, List.append_assoc]
      exact List.Perm.append_left _ ih

theorem ws_put {ws : List UInt64} {k place : Nat} {e : Ent} (hl : ws.length = 16) (hk : k < 5) (hn : nameB e.name = true) (h1 : 1 ≤ e.node) (h2 : e.node < 24) (hb : bucketL e.name = place % 8) (ho : wsOk ws place = true) (he : emptyB ws k = true) : wsOk (setSlot ws k (entWs e)) place = true ∧ (wsE (setSlot ws k (entWs e))).Perm (e :: wsE ws) := by
  obtain ⟨g1, g2⟩ := set_here (place := place) hl hk hn h1 h2 hb
  have hlen := entWs_len e
  unfold wsOk at ho ⊢
  simp only [Bool.and_eq_true] at ho
  constructor
  · rw [wAt_set hl hk hlen, if_neg (by omega), ho.1, Bool.true_and, List.all_eq_true]
    intro j hj
    by_cases e : j = k
    · subst e; exact g1
    · rw [(set_other hl hk hlen e).1]; exact List.all_eq_true.1 ho.2 j hj
  · have hse : slotE ws k = [] := by unfold slotE; rw [if_pos he]
    have p := flat_one (f := slotE (setSlot ws k (entWs e))) (g := slotE ws) (a := k) (l := List.range 5) List.nodup_range (by simpa using hk) (fun j _ hne => (set_other (place := place) hl hk hlen hne).2)
    rw [hse, g2, List.append_nil] at p
    exact p.trans (List.perm_append_comm (l₂ := [e]))

theorem ws_strike {ws : List UInt64} {k place : Nat} (hl : ws.length = 16) (hk : k < 5) (ho : wsOk ws place = true) (he : emptyB ws k = false) : wsOk (setSlot ws k [0, 0, 0]) place = true ∧ (entE ws k :: wsE (setSlot ws k [0, 0, 0])).Perm (wsE ws) := by
  obtain ⟨g1, g2⟩ := set_none (place := place) hl hk
  unfold wsOk at ho ⊢
  simp only [Bool.and_eq_true] at ho
  constructor
  · rw [wAt_set hl hk rfl, if_neg (by omega), ho.1, Bool.true_and, List.all_eq_true]
    intro j hj
    by_cases e : j = k
    · subst e; exact g1
    · rw [(set_other hl hk rfl e).1]; exact List.all_eq_true.1 ho.2 j hj
  · have hse : slotE ws k = [entE ws k] := by unfold slotE; rw [if_neg (by rw [he]; decide)]
    have p := flat_one (f := slotE (setSlot ws k [0, 0, 0])) (g := slotE ws) (a := k) (l := List.range 5) List.nodup_range (by simpa using hk) (fun j _ hne => (set_other (place := place) hl hk rfl hne).2)
    rw [hse, g2, List.append_nil] at p
    exact (List.perm_append_comm (l₁ := [entE ws k])).trans p

/-- words of noughts have no entries -/
theorem ws_zero (place : Nat) : wsOk (List.replicate 16 0) place = true ∧ wsE (List.replicate 16 0) = [] := by
  have h : ∀ k, k < 5 → emptyB (List.replicate 16 0) k = true := by decide
  constructor
  · unfold wsOk
    rw [show wAt (List.replicate 16 0) 15 = 0 from rfl, decide_eq_true rfl, Bool.true_and, List.all_eq_true]
    intro k hk
    unfold slotOk
    rw [h k (by simpa using hk)]; rfl
  · unfold wsE
    rw [List.flatMap_eq_nil_iff]
    intro k hk
    unfold slotE
    rw [if_pos (h k (by simpa using hk))]
end Go.Proofs.YteambknhlbiajaaGreatDoor
/-
  Layer 11's plain law: a directory's names, and its map; a name more.
-/
set_option linter.all false
set_option maxRecDepth 100000
set_option maxHeartbeats 1000000
namespace Go.Proofs.YteambknhlbiajaaGreatDoor
open Go Go.Eng

/-- a directory: its map, its blocks' entries, its names in order -/
structure DirI (now : Int → UInt64) (node : Int) (c : Crd) (m : List Int) (l : List Ent) : Prop where
  map : mapOf now c = some m
  wk : Wk now node c.more m
  kind : c.kind = 2 ∧ c.links = 1
  size : c.size = (l.length : Int)
  ok : ∀ i, i < 21 → plc m i ≠ -1 → wsOk (blkW now (plc m i)) i = true
  ents : (rawE now m).Perm l
  str : strict l
  mor : c.more = -1 ↔ (m.drop 5).any usedB = false

theorem Wk.rngP {now : Int → UInt64} {node more : Int} {m : List Int} (W : Wk now node more m) : mapRng m := ⟨W.len, fun x hx => W.rng x (List.mem_cons_of_mem _ hx)⟩

theorem strict_nodup {l : List Ent} (h : strict l) : (l.map (·.name)).Nodup := by
  rw [List.nodup_iff_pairwise_ne, List.pairwise_map]
  refine h.imp fun {x y} hxy e => ?_
  rw [e, blt_irr] at hxy; cases hxy
theorem strict_le {l : List Ent} (h : strict l) : l.Pairwise (fun x y => leE x y = true) := h.imp fun {x y} hxy => by unfold leE; rw [blt_asym hxy]; rfl

theorem placeOk_of {now : Int → UInt64} {m : List Int} (R : mapRng m) {i : Nat} (h : plc m i ≠ -1 → wsOk (blkW now (plc m i)) i = true) : placeOk now m i = true := by
  unfold placeOk
  by_cases e : plc m i = -1
  · rw [decide_eq_true e]; rfl
  · rw [decide_eq_false e, Bool.false_or]
    unfold blkOkB
    rw [decide_eq_true ((R.plc i).resolve_left e), Bool.true_and]
    exact h e

theorem DirI.all {now : Int → UInt64} {node : Int} {c : Crd} {m : List Int} {l : List Ent} (D : DirI now node c m l) : (List.range 21).all (placeOk now m) = true :=
  List.all_eq_true.2 fun i hi => placeOk_of D.wk.rngP (D.ok i (by simpa using hi))
theorem DirI.open_ {now : Int → UInt64} {node : Int} {c : Crd} {m : List Int} {l : List Ent} (D : DirI now node c m l) : openP now c = (0, m, l) := by
  unfold openP
  rw [if_neg (by rw [D.kind.1]; simp), D.map]
  simp only
  have hnd : ((rawE now m).map (·.name)).Nodup := (D.ents.map _).nodup_iff.2 (strict_nodup D.str)
  rw [if_pos ⟨D.all, hnd, by rw [D.ents.length_eq, D.size]⟩]
  congr 2
  exact sorted_unique ((sortE_perm _).trans D.ents) (((sortE_perm _).map _).nodup_iff.2 hnd) (sortE_sorted _) (strict_le D.str)
theorem DirI.few {now : Int → UInt64} {node : Int} {c : Crd} {m : List Int} {l : List Ent} (D : DirI now node c m l) : l.length ≤ 105 := by
  rw [← D.ents.length_eq]; exact rawE_len _ _
theorem DirI.good {now : Int → UInt64} {node : Int} {c : Crd} {m : List Int} {l : List Ent} (D : DirI now node c m l) : ∀ e ∈ l, entGood e := by
  have h : (openP now c).1 = 0 := by rw [D.open_]
  have := (openP_good h).2
  rwa [D.open_] at this
theorem DirI.okE {now : Int → UInt64} {node : Int} {c : Crd} {m : List Int} {l : List Ent} (D : DirI now node c m l) : ∀ e ∈ l, e.ok := fun e he => rawE_ok e (D.ents.mem_iff.2 he)
theorem DirI.right {now : Int → UInt64} {node : Int} {c : Crd} {m : List Int} {l : List Ent} (D : DirI now node c m l) : rightC c = true ∧ c.ok := by
  have hd := mapOf_direct D.map
  have hs := D.few
  have hz := D.size
  have hm := D.wk.rng c.more List.mem_cons_self
  have hk := D.kind
  have hr : ∀ x ∈ c.direct, -1 ≤ x ∧ x < 96 := by
    intro x hx
    have := D.wk.rng x (List.mem_cons_of_mem _ (hd x hx))
    unfold blkOk at this; omega
  unfold blkOk at hm
  constructor
  · unfold rightC
    rw [hk.1, hk.2]
    have h1 : c.direct.all blockC = true := by
      rw [List.all_eq_true]
      intro x hx
      have := hr x hx
      unfold blockC
      simp; omega
    rw [h1]
    unfold blockC
    simp; omega
  · refine ⟨by rw [hk.1]; exact ⟨by decide, by decide⟩, by rw [hk.2]; exact ⟨by decide, by decide⟩, ?_, fun x hx => ?_, ?_⟩
    · unfold inI64; omega
    · have := hr x hx; unfold inI64; omega
    · unfold inI64; omega

/-! ### Words that are kept -/

theorem fb_blk {f g : Int → UInt64} {m : List Int} (h : ∀ p, p < 2688 → fb g m p = fb f m p) {i : Nat} (hi : i < 21) (hu : plc m i ≠ -1) : blkW g (plc m i) = blkW f (plc m i) := by
  have hb : ∀ now : Int → UInt64, bytesB now (plc m i) = untextL (blkW now (plc m i)) 128 := by
    intro now
    unfold bytesB
    rw [if_neg hu]; rfl
  have hq : bytesB g (plc m i) = bytesB f (plc m i) := by
    apply List.ext_getElem?
    intro q
    rcases Nat.lt_or_ge q 128 with hq | hq
    · have := h (128 * i + q) (by omega)
      unfold fb at this
      have e1 : (128 * i + q) / 128 = i := by omega
      have e2 : (128 * i + q) % 128 = q := by omega
      rw [e1, e2] at this
      have l1 := bytesB_len g (plc m i)
      have l2 := bytesB_len f (plc m i)
      have hp : m[i]?.getD (-1) = plc m i := rfl
      rw [hp] at this
      rw [List.getElem?_eq_getElem (by omega), List.getElem?_eq_getElem (by omega)] at this ⊢
      simpa using this
    · rw [List.getElem?_eq_none (by rw [bytesB_len]; exact hq), List.getElem?_eq_none (by rw [bytesB_len]; exact hq)]
  rw [hb, hb] at hq
  refine untext_inj (by rw [blkW_len, blkW_len]) ?_
  rw [blkW_len]; exact hq

theorem Wk.putW {now : Int → UInt64} {node more : Int} {m : List Int} (W : Wk now node more m) {i : Nat} (hi : i < 21) (hu : plc m i ≠ -1) {ws : List UInt64} (hw : ws.length = 16) :
    Wk (putBlk now (plc m i) ws) node more m ∧ Fr node now (putBlk now (plc m i) ws) ∧ blkW (putBlk now (plc m i) ws) (plc m i) = ws ∧ (∀ j, j < 21 → j ≠ i → plc m j ≠ -1 → blkW (putBlk now (plc m i) ws) (plc m j) = blkW now (plc m j)) := by
  have hl := W.len
  have hm : plc m i ∈ m := by
    unfold plc
    rw [List.getElem?_eq_getElem (by omega)]
    exact List.getElem_mem _
  have hk : 0 ≤ plc m i ∧ plc m i < 96 := (W.rngP.plc i).resolve_left hu
  have ho : ∀ k, 0 ≤ k → k < 96 → putBlk now (plc m i) ws (200 + k) = now (200 + k) := fun k _ h => put_owner (by omega) hk.1 h
  have hown : now (200 + plc m i) = w64 (node + 1) := (W.own _ hk.1 hk.2).1 (usedL_mem.2 ⟨.inr hm, hu⟩)
  refine ⟨⟨W.len, W.rng, W.nod, fun k h0 h1 => by rw [ho k h0 h1]; exact W.own k h0 h1⟩, ⟨fun k h0 h1 hf => ⟨.inl (ho k h0 h1), fun _ => ?_⟩, fun k h0 h1 hf => .inl (by rw [ho k h0 h1]; exact hf)⟩, ?_, fun j hj hne hju => ?_⟩
  · refine put_rd_ne (by omega) ?_
    rintro rfl
    exact hf hown
  · unfold blkW
    rw [put_rd (by omega)]
    unfold fullB
    rw [hw]; simp
  · unfold blkW
    refine put_rd_ne (by omega) fun e => hne ?_
    exact W.inj hj hi e.symm hju

/-! ### Raw entries -/

theorem rawE_one {f g : Int → UInt64} {m m' : List Int} {i : Nat} (hi : i < 21) (h : ∀ j, j < 21 → j ≠ i → placeE f m j = placeE g m' j) : (rawE f m ++ placeE g m' i).Perm (rawE g m' ++ placeE f m i) :=
  flat_one List.nodup_range (by simpa using hi) fun j hj hne => h j (by simpa using hj) hne
theorem placeE_ws {now : Int → UInt64} {m : List Int} {i : Nat} (h : plc m i ≠ -1) : placeE now m i = wsE (blkW now (plc m i)) := by
  unfold placeE
  rw [if_neg h]; rfl
theorem placeE_hole {now : Int → UInt64} {m : List Int} {i : Nat} (h : plc m i = -1) : placeE now m i = [] := by
  unfold placeE
  rw [if_pos h]
theorem rawE_same {f g : Int → UInt64} {m : List Int} (h : ∀ i, i < 21 → plc m i ≠ -1 → blkW f (plc m i) = blkW g (plc m i)) : rawE f m = rawE g m := by
  unfold rawE
  have : ∀ i ∈ List.range 21, placeE f m i = placeE g m i := by
    intro i hi
    by_cases e : plc m i = -1
    · rw [placeE_hole e, placeE_hole e]
    · rw [placeE_ws e, placeE_ws e, h i (by simpa using hi) e]
  revert this
  generalize List.range 21 = L
  intro this
  induction L with
  | nil => rfl
  | cons x L ih => rw [List.flatMap_cons, List.flatMap_cons, this x (by simp), ih (fun i hi => this i (by simp [hi]))]

/-! ### The document's list -/

def insL (l : List Ent) (e : Ent) : List Ent := l.take (plK l e.name) ++ e :: l.drop (plK l e.name)
theorem insL_perm (l : List Ent) (e : Ent) : (insL l e).Perm (e :: l) := by
  unfold insL
  refine List.perm_middle.trans ?_
  rw [List.take_append_drop]
theorem plT_false {l : List Ent} {name : List UInt8} (hs : strict l) : plT l name = false → ∀ e ∈ l.drop (plK l name), blt name e.name = true := by
  intro ht e he
  obtain ⟨j, hj, rfl⟩ := List.mem_iff_getElem.1 he
  rw [List.getElem_drop]
  have hl : plK l name + j < l.length := by simp at hj; omega
  have h0 : plK l name < l.length := by omega
  have hx : blt (l[plK l name]).name name = false := by
    rw [← Bool.not_eq_true]
    intro h
    have := plK_more (Nat.le_refl _) h0 h
    omega
  have hne : (l[plK l name]).name ≠ name := by
    unfold plT at ht
    rw [List.getElem?_eq_getElem h0] at ht
    simpa using ht
  have hgt : blt name (l[plK l name]).name = true := by
    rcases blt_tri (l[plK l name]).name name with g | g | g
    · rw [g] at hx; cases hx
    · exact absurd g hne
    · exact g
  rcases Nat.eq_zero_or_pos j with rfl | hj0
  · exact hgt
  · exact blt_trans hgt (List.pairwise_iff_getElem.1 hs (plK l name) (plK l name + j) h0 hl (by omega))
theorem insL_strict {l : List Ent} {e : Ent} (hs : strict l) (ht : plT l e.name = false) : strict (insL l e) := by
  unfold insL strict
  rw [List.pairwise_append]
  have hsplit : l.take (plK l e.name) ++ l.drop (plK l e.name) = l := List.take_append_drop _ _
  have hs2 : strict (l.take (plK l e.name) ++ l.drop (plK l e.name)) := by rw [hsplit]; exact hs
  unfold strict at hs2
  rw [List.pairwise_append] at hs2
  have hafter := plT_false hs ht
  have hbefore : ∀ x ∈ l.take (plK l e.name), blt x.name e.name = true := by
    intro x hx
    obtain ⟨j, hj, rfl⟩ := List.mem_iff_getElem.1 hx
    rw [List.getElem_take]
    exact (plK_lt (by simp at hj; omega)).2
  refine ⟨hs2.1, List.pairwise_cons.2 ⟨hafter, hs2.2.1⟩, fun x hx y hy => ?_⟩
  rcases List.mem_cons.1 hy with rfl | hy
  · exact hbefore x hx
  · exact hs2.2.2 x hx y hy
end Go.Proofs.YteambknhlbiajaaGreatDoor
/-
  Layer 11's plain law: a name more.
-/
set_option linter.all false
set_option maxRecDepth 100000
set_option maxHeartbeats 2000000
namespace Go.Proofs.YteambknhlbiajaaGreatDoor
open Go Go.Eng

/-! ### Free blocks -/

theorem freeN_pos {B : Int → UInt64} {X : VS} (h : 1 ≤ freeN B X 96) : firstF B X 96 0 ≠ none := by
  intro hf
  have := firstF_none hf
  unfold freeN at h
  have : ((List.range 96).filter fun (i : Nat) => freshB B X (i : Int)) = [] := by
    rw [List.filter_eq_nil_iff]
    intro k hk
    rw [this k (Nat.zero_le _) (by simpa using hk)]; simp
  rw [this] at h
  simp at h

theorem count_one {p q : Nat → Bool} {k : Nat} (hp : p k = true) (hq : q k = false) : ∀ {n : Nat}, k < n → (∀ j, j < n → j ≠ k → p j = q j) → ((List.range n).filter p).length = ((List.range n).filter q).length + 1
  | 0, h, _ => by omega
  | n + 1, h, hs => by
    rw [List.range_succ, List.filter_append, List.filter_append, List.length_append, List.length_append]
    by_cases e : k = n
    · subst e
      have : (List.range k).filter p = (List.range k).filter q := List.filter_congr fun j hj => hs j (by have := List.mem_range.1 hj; omega) (by have := List.mem_range.1 hj; omega)
      rw [this]
      simp [hp, hq]
    · have ih := count_one hp hq (n := n) (by omega) fun j hj hne => hs j (by omega) hne
      rw [ih]
      have : p n = q n := hs n (by omega) (fun x => e x.symm)
      simp only [List.filter_cons, this, List.filter_nil]
      omega

theorem free_take {B : Int → UInt64} {X : VS} {node : Int} (hn : 0 ≤ node ∧ node < 24) (h : (takeP B X node).2.1 = 0) : freeN B X 96 = freeN B (takeP B X node).2.2 96 + 1 := by
  unfold takeP at h ⊢
  rw [if_pos hn] at h ⊢
  cases hf : firstF B X 96 0 with
  | none => rw [hf] at h; simp at h
  | some k =>
    simp only
    have hk := firstF_is hf
    unfold freeN
    have hk2 : 0 ≤ (k : Int) ∧ (k : Int) < 96 := by omega
    have how : ∀ j : Nat, j < 96 → (putBlk (upd X.now (200 + (k : Int)) (w64 (node + 1))) (k : Int) []) (200 + (j : Int)) = if (j : Int) = (k : Int) then w64 (node + 1) else X.now (200 + (j : Int)) := fun j hj => takeW_owner (now := X.now) (node := node) hk2 (by omega) (by omega)
    refine count_one (k := k) hk.1 ?_ (by omega) fun j hj hne => ?_
    · have e := how k (by omega)
      rw [if_pos rfl] at e
      unfold freshB
      have h3 : decide ((putBlk (upd X.now (200 + (k : Int)) (w64 (node + 1))) (k : Int) []) (200 + (k : Int)) = 0) = false := decide_eq_false (by rw [e]; exact w64_ne hn)
      simp only [h3, Bool.false_and, Bool.and_false]
    · have e := how j hj
      rw [if_neg (by omega)] at e
      unfold freshB
      simp only [e]

theorem keepP_room {B : Int → UInt64} {node : Int} (hn : 0 ≤ node ∧ node < 24) {X : VS} {c : Crd} {m : List Int} (W : Wk X.now node c.more m) (h : 1 ≤ freeN B X 96) : Kep node X c m (keepP B X node c m) := by
  rcases keepP_plain (B := B) hn W with ⟨h9, _, hm, hu⟩ | K
  · exfalso
    unfold keepP at h9
    rw [if_pos ⟨hn, W.len, W.drops⟩, if_neg (by rw [hu]; decide), if_pos hm] at h9
    rcases take_facts (B := B) (X := X) hn with ⟨e0, k0, k1, kn, kx⟩ | ⟨e9, kx, kf⟩
    · simp only [e0, if_true, if_pos (show 0 ≤ (takeP B X node).1 ∧ (takeP B X node).1 < 96 from ⟨k0, k1⟩)] at h9
      cases h9
    · exact freeN_pos h kf
  · exact K

/-! ### How many stand in a bucket -/

theorem firstK_none {p : List UInt64 → Nat → Bool} {ws : List UInt64} : ∀ {f k : Nat}, firstK p ws f k = none → ∀ q, k ≤ q → q < k + f → p ws q = false
  | 0, _, _, q, _, _ => by omega
  | f + 1, k, h, q, h1, h2 => by
    unfold firstK at h
    split at h
    · cases h
    · rename_i hp
      by_cases e : q = k
      · subst e; simpa using hp
      · exact firstK_none h q (by omega) (by omega)
theorem spotF_none {W : Int → List UInt64} {m : List Int} {p : List UInt64 → Nat → Bool} : ∀ {f pl : Nat}, spotF W m p f pl = none → ∀ j, j < f → pl + 8 * j < 21 → plc m (pl + 8 * j) = -1 ∨ firstK p (W ((pl + 8 * j : Nat) : Int)) 5 0 = none
  | 0, _, _, j, hj, _ => by omega
  | f + 1, pl, h, j, hj, hl => by
    unfold spotF at h
    rw [if_pos (by omega)] at h
    cases j with
    | zero =>
      split at h
      · left; assumption
      · split at h
        · cases h
        · right; assumption
    | succ j =>
      have ih : spotF W m p f (pl + 8) = none → _ := fun g => spotF_none g j (by omega) (by omega)
      have e : pl + 8 + 8 * j = pl + 8 * (j + 1) := by omega
      rw [e] at ih
      split at h
      · exact ih h
      · split at h
        · cases h
        · exact ih h
theorem growF_none {m : List Int} : ∀ {f pl : Nat}, growF m f pl = none → ∀ j, j < f → pl + 8 * j < 21 → plc m (pl + 8 * j) ≠ -1
  | 0, _, _, j, hj, _ => by omega
  | f + 1, pl, h, j, hj, hl => by
    unfold growF at h
    rw [if_pos (by omega)] at h
    split at h
    · cases h
    · rename_i hp
      cases j with
      | zero => exact hp
      | succ j =>
        have := growF_none h j (by omega) (by omega)
        rwa [show pl + 8 + 8 * j = pl + 8 * (j + 1) by omega] at this

def hadL (l : List Ent) (name : List UInt8) : Nat := (l.filter fun e => decide (bucketL e.name = bucketL name)).length
def roomN (bk : Nat) : Nat := if bk < 5 then 15 else 10

theorem had_sum (now : Int → UInt64) (m : List Int) (bk : Nat) (hok : (List.range 21).all (placeOk now m) = true) : ((rawE now m).filter fun e => decide (bucketL e.name = bk)).length = ((List.range 21).map fun i => if i % 8 = bk then (placeE now m i).length else 0).sum := by
  have hk : ∀ i ∈ List.range 21, placeOk now m i = true := fun i hi => List.all_eq_true.1 hok i hi
  unfold rawE
  revert hk
  generalize List.range 21 = L
  intro hk
  induction L with
  | nil => rfl
  | cons i L ih =>
    rw [List.flatMap_cons, List.filter_append, List.length_append, ih (fun j hj => hk j (by simp [hj])), List.map_cons, List.sum_cons]
    congr 1
    have hg := placeE_good (hk i (by simp))
    by_cases e : i % 8 = bk
    · rw [if_pos e, List.filter_eq_self.2]
      intro x hx
      rw [(hg x hx).2]; exact decide_eq_true e
    · rw [if_neg e, List.filter_eq_nil_iff.2]
      · rfl
      · intro x hx
        rw [(hg x hx).2]; simpa using e

theorem sum_bucket (f : Nat → Nat) (bk : Nat) (h : bk < 8) : ((List.range 21).map fun i => if i % 8 = bk then f i else 0).sum = f bk + f (bk + 8) + (if bk < 5 then f (bk + 16) else 0) := by
  have : bk = 0 ∨ bk = 1 ∨ bk = 2 ∨ bk = 3 ∨ bk = 4 ∨ bk = 5 ∨ bk = 6 ∨ bk = 7 := by omega
  rcases this with rfl | rfl | rfl | rfl | rfl | rfl | rfl | rfl <;> simp [List.range_succ] <;> omega

theorem slot_full {ws : List UInt64} (h : ∀ k, k < 5 → emptyB ws k = false) : (wsE ws).length = 5 := by
  unfold wsE
  have e : List.range 5 = [0, 1, 2, 3, 4] := rfl
  have g : ∀ k, k < 5 → slotE ws k = [entE ws k] := fun k hk => by unfold slotE; rw [if_neg (by rw [h k hk]; decide)]
  rw [e]
  simp [g 0 (by decide), g 1 (by decide), g 2 (by decide), g 3 (by decide), g 4 (by decide)]
theorem slot_less {ws : List UInt64} {k : Nat} (hk : k < 5) (h : emptyB ws k = true) : (wsE ws).length ≤ 4 := by
  unfold wsE
  have e : List.range 5 = [0, 1, 2, 3, 4] := rfl
  have g : slotE ws k = [] := by unfold slotE; rw [if_pos h]
  have l0 := slotE_len ws 0
  have l1 := slotE_len ws 1
  have l2 := slotE_len ws 2
  have l3 := slotE_len ws 3
  have l4 := slotE_len ws 4
  rw [e]
  simp only [List.flatMap_cons, List.flatMap_nil, List.length_append, List.length_nil]
  have : k = 0 ∨ k = 1 ∨ k = 2 ∨ k = 3 ∨ k = 4 := by omega
  rcases this with rfl | rfl | rfl | rfl | rfl <;> rw [g] <;> simp <;> omega

theorem DirI.had {now : Int → UInt64} {node : Int} {c : Crd} {m : List Int} {l : List Ent} (D : DirI now node c m l) (name : List UInt8) : hadL l name = (placeE now m (bucketL name)).length + (placeE now m (bucketL name + 8)).length + (if bucketL name < 5 then (placeE now m (bucketL name + 16)).length else 0) := by
  unfold hadL
  rw [← ((D.ents.filter _).length_eq), had_sum now m _ D.all, sum_bucket _ _ (bucketL_lt name)]

/-- where there is an empty entry the bucket isn't full -/
theorem DirI.notfull {now : Int → UInt64} {node : Int} {c : Crd} {m : List Int} {l : List Ent} (D : DirI now node c m l) (name : List UInt8) {pl : Nat} (hp : pl < 21) (hb : pl % 8 = bucketL name) (hl : (placeE now m pl).length ≤ 4) : hadL l name < roomN (bucketL name) := by
  have hbk := bucketL_lt name
  rw [D.had]
  have h0 := placeE_len now m (bucketL name)
  have h1 := placeE_len now m (bucketL name + 8)
  have h2 := placeE_len now m (bucketL name + 16)
  have hc : pl = bucketL name ∨ pl = bucketL name + 8 ∨ (pl = bucketL name + 16 ∧ bucketL name < 5) := by omega
  unfold roomN
  rcases hc with rfl | rfl | ⟨rfl, hc⟩
  · split <;> omega
  · split <;> omega
  · rw [if_pos hc, if_pos hc]; omega

theorem DirI.full {now : Int → UInt64} {node : Int} {c : Crd} {m : List Int} {l : List Ent} (D : DirI now node c m l) (name : List UInt8) (h1 : spotF (wordsAt now m) m emptyB 4 (bucketL name) = none) (h2 : growF m 4 (bucketL name) = none) : roomN (bucketL name) ≤ hadL l name := by
  have hbk := bucketL_lt name
  rw [D.had]
  have key : ∀ j, j < 4 → bucketL name + 8 * j < 21 → (placeE now m (bucketL name + 8 * j)).length = 5 := by
    intro j hj hl
    have g1 := growF_none h2 j hj hl
    have g2 := (spotF_none h1 j hj hl).resolve_left g1
    rw [placeE_ws g1]
    have e : wordsAt now m ((bucketL name + 8 * j : Nat) : Int) = blkW now (plc m (bucketL name + 8 * j)) := by unfold wordsAt; rw [Int.toNat_natCast]
    rw [e] at g2
    exact slot_full fun k hk => firstK_none g2 k (Nat.zero_le _) (by omega)
  have k0 := key 0 (by decide) (by omega)
  have k1 := key 1 (by decide) (by omega)
  simp only [Nat.mul_zero, Nat.add_zero, Nat.mul_one] at k0 k1
  rw [k0, k1]
  unfold roomN
  by_cases h : bucketL name < 5
  · rw [if_pos h, if_pos h]
    have k2 := key 2 (by decide) (by omega)
    simp only [Nat.reduceMul] at k2
    rw [k2]; omega
  · rw [if_neg h, if_neg h]; omega
end Go.Proofs.YteambknhlbiajaaGreatDoor
/-
  Layer 11's plain law: a name more, answered as the document does.
-/
set_option linter.all false
set_option maxRecDepth 100000
set_option maxHeartbeats 2000000
namespace Go.Proofs.YteambknhlbiajaaGreatDoor
open Go Go.Eng

/-- the document's answer: a name more -/
def refAdd (l : List Ent) (name : List UInt8) (target : Int) : List Ent × Int :=
  if target < 1 ∨ 24 ≤ target then ([], 1)
  else if nameB name = false then ([], 3)
  else if plT l name = true then ([], 5)
  else (insL l ⟨name, target⟩, 0)

theorem wordsAt_nat (now : Int → UInt64) (m : List Int) (p : Nat) : wordsAt now m (p : Int) = blkW now (plc m p) := by unfold wordsAt; rw [Int.toNat_natCast]

theorem slot_some {ws : List UInt64} {k : Nat} (hk : k < 5) (h : emptyB ws k = true) : (wsE ws).length ≤ 4 := slot_less hk h

/-- blocks are kept: what is free stays -/
theorem freeN_put {B : Int → UInt64} {X : VS} {k : Int} {ws : List UInt64} (hk : 0 ≤ k) (hw : ws.length ≤ 16) : freeN B { X with now := putBlk X.now k ws } 96 = freeN B X 96 := by
  unfold freeN
  congr 1
  refine List.filter_congr fun j hj => ?_
  have hj' : j < 96 := by simpa using hj
  unfold freshB
  have : (putBlk X.now k ws) (200 + (j : Int)) = X.now (200 + (j : Int)) := put_owner hw hk (by omega)
  simp only [this]

/-- an entry is put: what there is then -/
theorem put_dir {B : Int → UInt64} {node : Int} (hn : 0 ≤ node ∧ node < 24) {X : VS} {c : Crd} {m : List Int} {l : List Ent} {name : List UInt8} {target : Int} {pl k : Nat}
    (W : Wk X.now node c.more m) (ok : ∀ i, i < 21 → plc m i ≠ -1 → wsOk (blkW X.now (plc m i)) i = true) (ents : (rawE X.now m).Perm l) (str : strict l) (kind : c.kind = 2 ∧ c.links = 1) (size : c.size = (l.length : Int))
    (hpl : pl < 21) (hpu : plc m pl ≠ -1) (hk : k < 5) (he : emptyB (blkW X.now (plc m pl)) k = true) (hb : pl % 8 = bucketL name) (hname : nameB name = true) (ht : 1 ≤ target ∧ target < 24) (hnt : plT l name = false)
    {Y : VS} (hY : Y = { X with now := putBlk X.now (plc m pl) (setSlot (blkW X.now (plc m pl)) k (entWs ⟨name, target⟩)) }) :
    Wk Y.now node c.more m ∧ Fr node X.now Y.now ∧ freeN B Y 96 = freeN B X 96 ∧ (∀ r, Kep node Y { c with size := c.size + 1 } m r → DirI r.2.2.now node r.1 m (insL l ⟨name, target⟩) ∧ Fr node X.now r.2.2.now) := by
  have hlen := blkW_len X.now (plc m pl)
  have hsl : (setSlot (blkW X.now (plc m pl)) k (entWs ⟨name, target⟩)).length = 16 := by
    unfold setSlot
    simp [entWs_len, hlen]; omega
  obtain ⟨W2, F2, b1, b2⟩ := W.putW hpl hpu hsl
  have hk0 : 0 ≤ plc m pl := by have := (W.rngP.plc pl).resolve_left hpu; omega
  have hp := ws_put (place := pl) (e := ⟨name, target⟩) hlen hk hname ht.1 ht.2 hb.symm (ok pl hpl hpu) he
  subst hY
  refine ⟨W2, F2, freeN_put hk0 (by omega), fun r K => ?_⟩
  have hby : ∀ i, i < 21 → plc m i ≠ -1 → blkW r.2.2.now (plc m i) = blkW (putBlk X.now (plc m pl) (setSlot (blkW X.now (plc m pl)) k (entWs ⟨name, target⟩))) (plc m i) := fun i hi hu => fb_blk K.by_ hi hu
  refine ⟨⟨K.map, K.wk, ?_, ?_, fun i hi hu => ?_, ?_, insL_strict str hnt, K.mor⟩, F2.trans K.fr (w64_ne hn)⟩
  · rw [K.c_]; exact kind
  · rw [K.c_]
    show c.size + 1 = _
    rw [size, (insL_perm l _).length_eq]
    simp
  · rw [hby i hi hu]
    by_cases e : i = pl
    · subst e; rw [b1]; exact hp.1
    · rw [b2 i hi e hu]; exact ok i hi hu
  · rw [rawE_same hby]
    refine List.Perm.trans ?_ (insL_perm l _).symm
    have p := rawE_one (f := X.now) (g := putBlk X.now (plc m pl) (setSlot (blkW X.now (plc m pl)) k (entWs ⟨name, target⟩))) (m := m) (m' := m) hpl fun j hj hne => by
      by_cases e : plc m j = -1
      · rw [placeE_hole e, placeE_hole e]
      · rw [placeE_ws e, placeE_ws e, b2 j hj hne e]
    rw [placeE_ws hpu, placeE_ws hpu, b1] at p
    have p2 : (rawE X.now m ++ wsE (setSlot (blkW X.now (plc m pl)) k (entWs ⟨name, target⟩))).Perm ((⟨name, target⟩ :: l) ++ wsE (blkW X.now (plc m pl))) := by
      refine (ents.append hp.2).trans ?_
      rw [List.cons_append]
      exact List.perm_middle
    exact (List.perm_append_right_iff _).1 (p.symm.trans p2)

theorem addP_plain {B : Int → UInt64} {X : VS} {node : Int} (hn : 0 ≤ node ∧ node < 24) {c : Crd} {m : List Int} {l : List Ent} (D : DirI X.now node c m l) (name : List UInt8) (target : Int) :
    ((addP B X node c name target).2.1 = (refAdd l name target).2 ∧ (refAdd l name target).2 ≠ 0 ∧ (refAdd l name target).2 ≠ 9) ∨
    ((refAdd l name target).2 = 0 ∧ (addP B X node c name target).2.1 = 9 ∧ (roomN (bucketL name) ≤ hadL l name ∨ freeN B X 96 < 2)) ∨
    ((refAdd l name target) = (insL l ⟨name, target⟩, 0) ∧ (addP B X node c name target).2.1 = 0 ∧ hadL l name < roomN (bucketL name) ∧ ∃ m', DirI (addP B X node c name target).2.2.now node (addP B X node c name target).1 m' (insL l ⟨name, target⟩) ∧ Fr node X.now (addP B X node c name target).2.2.now) := by
  have hbk := bucketL_lt name
  unfold addP refAdd
  by_cases ht : target < 1 ∨ 24 ≤ target
  · left
    rw [if_pos (.inr ht), if_pos ht]
    exact ⟨rfl, by simp, by simp⟩
  rw [if_neg (show ¬ (¬ (0 ≤ node ∧ node < 24) ∨ target < 1 ∨ 24 ≤ target) from fun h => h.elim (fun h => h hn) ht), if_neg ht, D.open_]
  simp only [ne_eq, not_true_eq_false, if_false]
  rw [find_place D.str]
  by_cases hr : nameB name = false
  · left
    have hnp : plT l name = false := by
      rw [← Bool.not_eq_true]
      intro h
      rw [← find_place D.str] at h
      unfold findR at h
      cases hf : findE l name with
      | none => rw [hf] at h; cases h
      | some e =>
        unfold findE at hf
        have h1 := List.find?_some hf
        have h2 := D.good e (List.mem_of_find?_eq_some hf)
        have h3 : e.name = name := by simpa using h1
        have := h2.2.2
        rw [h3, hr] at this
        cases this
    rw [if_neg (by rw [hnp]; simp), if_pos hr, if_pos hr]
    exact ⟨rfl, by simp, by simp⟩
  rw [if_neg hr, if_neg hr]
  have hrt : nameB name = true := by simpa using hr
  by_cases hp : plT l name = true
  · left
    rw [if_pos hp, if_pos hp]
    exact ⟨rfl, by simp, by simp⟩
  rw [if_neg hp, if_neg hp]
  have hpf : plT l name = false := by simpa using hp
  right
  have htr : 1 ≤ target ∧ target < 24 := by omega
  unfold firstR
  cases hs : spotF (wordsAt X.now m) m emptyB 4 (bucketL name) with
  | some q =>
    obtain ⟨pl, k⟩ := q
    obtain ⟨q1, q2, q3, q4, q5⟩ := spotF_is hs
    simp only at q1 q2 q3 q4 q5 ⊢
    rw [wordsAt_nat] at q4
    simp only [not_true_eq_false, if_false, Int.toNat_natCast, wordsAt_nat]
    have hlt := D.notfull name q1 (by omega) (by rw [placeE_ws q2]; exact slot_less q3 q4)
    obtain ⟨W2, F2, fr2, HK⟩ := put_dir (B := B) (name := name) (target := target) hn D.wk D.ok D.ents D.str D.kind D.size q1 q2 q3 q4 (by omega) hrt htr hpf (Y := _) rfl
    by_cases hfree : 1 ≤ freeN B X 96
    · right
      have K := keepP_room (B := B) (c := { c with size := c.size + 1 }) hn W2 (by rw [fr2]; exact hfree)
      obtain ⟨R1, R2⟩ := HK _ K
      exact ⟨trivial, K.e, hlt, m, R1, R2⟩
    · rcases keepP_plain (B := B) (c := { c with size := c.size + 1 }) hn W2 with ⟨p9, _⟩ | K
      · left
        exact ⟨trivial, p9, .inr (by omega)⟩
      · right
        obtain ⟨R1, R2⟩ := HK _ K
        exact ⟨trivial, K.e, hlt, m, R1, R2⟩
  | none =>
    simp only
    unfold growP
    cases hg : growF m 4 (bucketL name) with
    | none =>
      left
      simp only
      exact ⟨trivial, rfl, .inl (D.full name hs hg)⟩
    | some pl =>
      obtain ⟨q1, q2, q3, q4⟩ := growF_is hg
      simp only
      rcases take_facts (B := B) (X := X) hn with ⟨e0, k0, k1, kn, kx⟩ | ⟨e9, kx, kf⟩
      · have hft := free_take hn e0
        simp only [e0, if_true, not_true_eq_false, if_false, Int.toNat_natCast]
        rw [kx] at hft ⊢
        generalize (takeP B X node).1 = blk at k0 k1 kn hft
        obtain ⟨W1, F1, _, hfb⟩ := D.wk.take_at hn ⟨k0, k1⟩ kn q1 q2
        have hml := D.wk.len
        have hset : ∀ i, plc (m.set pl blk) i = if i = pl then blk else plc m i := fun i => plc_set (by omega)
        have hnew : blkW (takeW X.now node blk) blk = List.replicate 16 0 := by
          unfold blkW takeW
          rw [put_rd (by simp)]; rfl
        have hold : ∀ i, i < 21 → i ≠ pl → plc m i ≠ -1 → blkW (takeW X.now node blk) (plc m i) = blkW X.now (plc m i) := by
          intro i hi hne hu
          have hr := (D.wk.rngP.plc i).resolve_left hu
          refine takeW_rd ⟨k0, k1⟩ hr.1 fun e => ?_
          have hm : plc m i ∈ m := by
            unfold plc
            rw [List.getElem?_eq_getElem (by omega)]
            exact List.getElem_mem _
          have := (D.wk.own _ hr.1 hr.2).1 (usedL_mem.2 ⟨.inr hm, hu⟩)
          rw [e, kn] at this
          exact w64_ne hn this.symm
        have hat : plc (m.set pl blk) pl = blk := by rw [hset, if_pos rfl]
        have hents : rawE (takeW X.now node blk) (m.set pl blk) = rawE X.now m := by
          unfold rawE
          have : ∀ i ∈ List.range 21, placeE (takeW X.now node blk) (m.set pl blk) i = placeE X.now m i := by
            intro i hi
            have hi : i < 21 := by simpa using hi
            by_cases e : i = pl
            · subst e
              rw [placeE_ws (by rw [hat]; omega), hat, hnew, placeE_hole q2]
              exact (ws_zero 0).2
            · by_cases e2 : plc m i = -1
              · rw [placeE_hole e2, placeE_hole (by rw [hset, if_neg e]; exact e2)]
              · rw [placeE_ws e2, placeE_ws (by rw [hset, if_neg e]; exact e2), hset, if_neg e, hold i hi e e2]
          revert this
          generalize List.range 21 = L
          intro this
          induction L with
          | nil => rfl
          | cons x L ih => rw [List.flatMap_cons, List.flatMap_cons, this x (by simp), ih (fun i hi => this i (by simp [hi]))]
        have hlt := D.notfull name q1 (by omega) (by rw [placeE_hole q2]; simp)
        have hW : growW (wordsAt X.now m) pl (pl : Int) = blkW (takeW X.now node blk) (plc (m.set pl blk) pl) := by
          unfold growW
          rw [if_pos rfl, hat, hnew]
        obtain ⟨W2, F2, fr2, HK⟩ := put_dir (B := B) (X := { X with now := takeW X.now node blk }) (m := m.set pl blk) (pl := pl) (k := 0) (name := name) (target := target) hn W1 (fun i hi hu => by
            by_cases e : i = pl
            · subst e
              rw [hat]; show wsOk (blkW (takeW X.now node blk) blk) i = true
              rw [hnew]; exact (ws_zero i).1
            · rw [hset, if_neg e] at hu ⊢
              show wsOk (blkW (takeW X.now node blk) (plc m i)) i = true
              rw [hold i hi e hu]; exact D.ok i hi hu) (by show (rawE (takeW X.now node blk) (m.set pl blk)).Perm l; rw [hents]; exact D.ents) D.str D.kind D.size q1 (by rw [hat]; omega) (by decide) (by show emptyB (blkW (takeW X.now node blk) _) 0 = true; rw [hat, hnew]; rfl) (by omega) hrt htr hpf (Y := _) rfl
        rw [hW]
        by_cases hfree : 1 ≤ freeN B { X with now := takeW X.now node blk } 96
        · right
          have K := keepP_room (B := B) (c := { c with size := c.size + 1 }) hn W2 (by rw [fr2]; exact hfree)
          obtain ⟨R1, R2⟩ := HK _ K
          exact ⟨trivial, K.e, hlt, _, R1, F1.trans R2 (w64_ne hn)⟩
        · rcases keepP_plain (B := B) (c := { c with size := c.size + 1 }) hn W2 with ⟨p9, _⟩ | K
          · left
            exact ⟨trivial, p9, .inr (by omega)⟩
          · right
            obtain ⟨R1, R2⟩ := HK _ K
            exact ⟨trivial, K.e, hlt, _, R1, F1.trans R2 (w64_ne hn)⟩
      · left
        simp only [e9]
        refine ⟨trivial, rfl, .inr ?_⟩
        rcases Nat.lt_or_ge (freeN B X 96) 1 with h | h
        · omega
        · exact absurd kf (freeN_pos h)
end Go.Proofs.YteambknhlbiajaaGreatDoor
/-
  Layer 11's plain law: a name less.
-/
set_option linter.all false
set_option maxRecDepth 100000
set_option maxHeartbeats 2000000
namespace Go.Proofs.YteambknhlbiajaaGreatDoor
open Go Go.Eng

/-- the document's answer: a name less -/
def refDrop (l : List Ent) (name : List UInt8) : List Ent × Int × Int :=
  if plT l name = true then (l.eraseIdx (plK l name), (l[plK l name]?.getD ⟨[], 0⟩).node, 0) else ([], 0, 4)

theorem plT_at {l : List Ent} {name : List UInt8} (h : plT l name = true) : ∃ hk : plK l name < l.length, (l[plK l name]'hk).name = name := by
  unfold plT at h
  cases he : l[plK l name]? with
  | none => rw [he] at h; cases h
  | some e =>
    rw [he] at h
    obtain ⟨hk, hh⟩ := List.getElem?_eq_some_iff.1 he
    exact ⟨hk, by rw [hh]; simpa using h⟩

theorem strict_one {l : List Ent} (hs : strict l) {x y : Ent} (hx : x ∈ l) (hy : y ∈ l) (e : x.name = y.name) : x = y := by
  obtain ⟨i, hi, rfl⟩ := List.mem_iff_getElem.1 hx
  obtain ⟨j, hj, rfl⟩ := List.mem_iff_getElem.1 hy
  rcases Nat.lt_trichotomy i j with h | h | h
  · have := List.pairwise_iff_getElem.1 hs i j hi hj h
    rw [e, blt_irr] at this; cases this
  · subst h; rfl
  · have := List.pairwise_iff_getElem.1 hs j i hj hi h
    rw [e, blt_irr] at this; cases this

theorem findR_at {l : List Ent} {name : List UInt8} (hs : strict l) (h : plT l name = true) : (findR l name).1 = (l[plK l name]?.getD ⟨[], 0⟩).node := by
  obtain ⟨hk, hn⟩ := plT_at h
  rw [← find_place hs] at h
  unfold findR at h ⊢
  cases hf : findE l name with
  | none => rw [hf] at h; cases h
  | some e =>
    unfold findE at hf
    have h1 : e.name = name := by simpa using List.find?_some hf
    have h2 := List.mem_of_find?_eq_some hf
    rw [List.getElem?_eq_getElem hk]
    show e.node = (l[plK l name]'hk).node
    rw [strict_one hs h2 (List.getElem_mem hk) (by rw [h1, hn])]

theorem isB_good {name : List UInt8} {ws : List UInt64} {k : Nat} (h : isB name ws k = true) : entN ws k = name ∧ emptyB ws k = false := by
  unfold isB entB at h
  simp only [Bool.and_eq_true, decide_eq_true_eq] at h
  refine ⟨h.2, ?_⟩
  have h1 := h.1.2.2.2.1
  unfold emptyB
  rw [decide_eq_false (fun e => by rw [e] at h1; simp at h1)]
  rfl

theorem spot_there {now : Int → UInt64} {node : Int} {c : Crd} {m : List Int} {l : List Ent} (D : DirI now node c m l) {name : List UInt8} (h : plT l name = true) :
    ∃ pl k, spotF (wordsAt now m) m (isB name) 4 (bucketL name) = some (pl, k) ∧ pl < 21 ∧ plc m pl ≠ -1 ∧ k < 5 ∧ emptyB (blkW now (plc m pl)) k = false ∧ entE (blkW now (plc m pl)) k = l[plK l name]?.getD ⟨[], 0⟩ := by
  have hbk := bucketL_lt name
  obtain ⟨hk, hn⟩ := plT_at h
  have hm : l[plK l name] ∈ rawE now m := D.ents.mem_iff.2 (List.getElem_mem hk)
  cases hs : spotF (wordsAt now m) m (isB name) 4 (bucketL name) with
  | some q =>
    obtain ⟨pl, k⟩ := q
    obtain ⟨q1, q2, q3, q4, q5⟩ := spotF_is hs
    simp only at q1 q2 q3 q4 q5
    rw [wordsAt_nat] at q4
    obtain ⟨g1, g2⟩ := isB_good q4
    refine ⟨pl, k, rfl, q1, q2, q3, g2, ?_⟩
    rw [List.getElem?_eq_getElem hk]
    refine strict_one D.str (D.ents.mem_iff.1 ?_) (List.getElem_mem hk) (g1.trans hn.symm)
    unfold rawE
    rw [List.mem_flatMap]
    refine ⟨pl, by simpa using q1, ?_⟩
    rw [placeE_ws q2]
    unfold wsE
    rw [List.mem_flatMap]
    refine ⟨k, by simpa using q3, ?_⟩
    unfold slotE
    rw [if_neg (by rw [g2]; decide)]
    simp
  | none =>
    exfalso
    unfold rawE at hm
    rw [List.mem_flatMap] at hm
    obtain ⟨i, hi, he⟩ := hm
    have hi : i < 21 := by simpa using hi
    have hu : plc m i ≠ -1 := fun e => by rw [placeE_hole e] at he; cases he
    rw [placeE_ws hu] at he
    unfold wsE at he
    rw [List.mem_flatMap] at he
    obtain ⟨k, hk5, hse⟩ := he
    have hk5 : k < 5 := by simpa using hk5
    have ho := D.ok i hi hu
    unfold wsOk at ho
    simp only [Bool.and_eq_true] at ho
    have hso := List.all_eq_true.1 ho.2 k (by simpa using hk5)
    unfold slotE at hse
    by_cases hem : emptyB (blkW now (plc m i)) k = true
    · rw [if_pos hem] at hse; cases hse
    rw [if_neg hem, List.mem_singleton] at hse
    unfold slotOk at hso
    have hem2 : emptyB (blkW now (plc m i)) k = false := by simpa using hem
    rw [hem2, Bool.false_or] at hso
    have hnm : entN (blkW now (plc m i)) k = name := by rw [← hn, hse]; rfl
    have hb : bucketL name = i % 8 := by
      have := hso
      unfold entB at this
      simp only [Bool.and_eq_true, decide_eq_true_eq] at this
      rw [← hnm]; exact this.2.2.1
    have hj := spotF_none hs (i / 8) (by omega) (by omega)
    have e : bucketL name + 8 * (i / 8) = i := by omega
    rw [e, wordsAt_nat] at hj
    have := firstK_none (hj.resolve_left hu) k (Nat.zero_le _) (by omega)
    have hib : isB name (blkW now (plc m i)) k = true := by
      unfold isB
      rw [decide_eq_true hnm, Bool.and_true]
      unfold entB at hso ⊢
      rw [hb, Nat.mod_mod]; exact hso
    rw [hib] at this
    cases this

theorem strike_dir {node : Int} (hn : 0 ≤ node ∧ node < 24) {now : Int → UInt64} {c : Crd} {m : List Int} {l : List Ent} (D : DirI now node c m l) {name : List UInt8} (ht : plT l name = true) {pl k : Nat}
    (hpl : pl < 21) (hpu : plc m pl ≠ -1) (hk : k < 5) (he : emptyB (blkW now (plc m pl)) k = false) (hee : entE (blkW now (plc m pl)) k = l[plK l name]?.getD ⟨[], 0⟩) :
    DirI (putBlk now (plc m pl) (setSlot (blkW now (plc m pl)) k [0, 0, 0])) node { c with size := c.size - 1 } m (l.eraseIdx (plK l name)) ∧ Fr node now (putBlk now (plc m pl) (setSlot (blkW now (plc m pl)) k [0, 0, 0])) := by
  obtain ⟨hkl, hnm⟩ := plT_at ht
  have hlen := blkW_len now (plc m pl)
  have hsl : (setSlot (blkW now (plc m pl)) k [0, 0, 0]).length = 16 := by
    unfold setSlot
    simp [hlen]; omega
  obtain ⟨W2, F2, b1, b2⟩ := D.wk.putW hpl hpu hsl
  have hp := ws_strike (place := pl) hlen hk (D.ok pl hpl hpu) he
  have hml := D.wk.len
  have hxm : plc m pl ∈ m := by
    unfold plc
    rw [List.getElem?_eq_getElem (by omega)]
    exact List.getElem_mem _
  refine ⟨⟨?_, W2, D.kind, ?_, fun i hi hu => ?_, ?_, ?_, D.mor⟩, F2⟩
  · have hm := D.map
    unfold mapOf at hm ⊢
    by_cases e : c.more = -1
    · rw [if_pos e] at hm ⊢; exact hm
    · rw [if_neg e] at hm ⊢
      have e2 : moreL (putBlk now (plc m pl) (setSlot (blkW now (plc m pl)) k [0, 0, 0])) c.more = moreL now c.more := more_put_ne (by omega) (D.wk.ne_more hxm hpu)
      simp only [e2]
      exact hm
  · show c.size - 1 = _
    rw [D.size, List.length_eraseIdx_of_lt hkl]
    omega
  · by_cases e : i = pl
    · subst e; rw [b1]; exact hp.1
    · rw [b2 i hi e hu]; exact D.ok i hi hu
  · have p := rawE_one (f := now) (g := putBlk now (plc m pl) (setSlot (blkW now (plc m pl)) k [0, 0, 0])) (m := m) (m' := m) hpl fun j hj hne => by
      by_cases e : plc m j = -1
      · rw [placeE_hole e, placeE_hole e]
      · rw [placeE_ws e, placeE_ws e, b2 j hj hne e]
    rw [placeE_ws hpu, placeE_ws hpu, b1] at p
    have hE : entE (blkW now (plc m pl)) k = l[plK l name] := by rw [hee, List.getElem?_eq_getElem hkl]; rfl
    have hq := hp.2
    rw [hE] at hq
    have pl1 : (l[plK l name] :: l.eraseIdx (plK l name)).Perm l := by
      rw [List.eraseIdx_eq_take_drop_succ]
      refine List.perm_middle.symm.trans ?_
      rw [List.getElem_cons_drop, List.take_append_drop]
    -- raw' ++ old ~ raw ++ new ~ l ++ new ~ (x :: erase) ++ new ~ erase ++ old
    have s1 : (rawE (putBlk now (plc m pl) (setSlot (blkW now (plc m pl)) k [0, 0, 0])) m ++ wsE (blkW now (plc m pl))).Perm (l.eraseIdx (plK l name) ++ wsE (blkW now (plc m pl))) := by
      refine p.symm.trans ?_
      refine (List.Perm.append_right _ (D.ents.trans pl1.symm)).trans ?_
      rw [List.cons_append]
      refine List.perm_middle.symm.trans ?_
      exact List.Perm.append_left _ hq
    exact (List.perm_append_right_iff _).1 s1
  · exact List.Pairwise.sublist (List.eraseIdx_sublist _ _) D.str
end Go.Proofs.YteambknhlbiajaaGreatDoor
/-
  Layer 11: a directory with a name less.
-/
set_option linter.all false
set_option maxRecDepth 100000
set_option maxHeartbeats 1000000
namespace Go.Proofs.YteambknhlbiajaaGreatDoor
open Go Go.Eng

theorem drop_spec' {h : Heap} {V : VL} {M : MemS} {X : VS} (A : At h V M X) {node : Int} (hn : 0 ≤ node ∧ node < 24) {c : Crd} {m : List Int} {l : List Ent} (D : DirI X.now node c m l) (name : List UInt8) (hnl : name.length ≤ 140737488351232) :
    CallH Tryz.prog 19 [.pointer (some ⟨V.v, 0, none⟩), .int .i64 node, .agg ⟨c.cells⟩, .string ⟨name.toArray⟩] h (fun v h' => Keeps [V.ob] h h' ∧ ∃ c' X', v = .tuple #[.agg ⟨c'.cells⟩, .int .i64 (refDrop l name).2.1, .int .i64 (refDrop l name).2.2] ∧ At h' V M X' ∧ X'.away = X.away ∧ X'.awayN = X.awayN ∧
      ((refDrop l name).2.2 = 0 → DirI X'.now node c' m (refDrop l name).1 ∧ Fr node X.now X'.now)) := by
  have hvb := A.blt
  have hob := hvb V.ob (by simp [VL.blocks])
  obtain ⟨_, hc⟩ := D.right
  have hop := D.open_
  refine call_of hmix Tryz.func19 rfl ok19 (by simp [Tryz.f19]) ?_
  conv => whnf
  refine AllocR.i fun b1 h1 e1 s1 o1 k1 => ?_
  conv => whnf
  refine AllocR.i fun b2 h2 e2 s2 o2 k2 => ?_
  conv => whnf
  refine AllocR.i fun b3 h3 e3 s3 o3 k3 => ?_
  conv => whnf
  refine CallR.i (fmay_spec node h3) fun v h4 k4 hv => ?_
  subst hv
  rw [if_pos hn]
  have k04 := ((k1.trans k2).trans k3).trans k4
  conv => whnf
  refine IfR.f rfl ?_
  conv => whnf
  refine CallR.i (fopen_spec (A.on k04) c hc) fun v h5 k5 hv => ?_
  have k05 := k04.trans k5
  unfold OpenR at hv
  rw [hop, if_pos rfl] at hv
  obtain ⟨b, L, a, cc, rfl, B5, nB, O5, nO, ok⟩ := hv
  have hlf := D.few
  have z1 := k1.size
  have z2 := k2.size
  have z3 := k3.size
  have z4 := k4.size
  have z5 := k5.size
  have hdis : ∀ x ∈ BL.blocks b L, x ∉ V.blocks := fun x hx hx2 => by have := nB x hx; have := hvb x hx2; omega
  conv => whnf
  refine IfR.f rfl ?_
  simp only at B5 O5 ok ⊢
  have hSl := own_ents O5 ok (by omega)
  have o25 : h5[b2]? = some (.cells ⟨[.string ⟨name.toArray⟩]⟩ 9 (0, 0)) := ((k3.trans k4).trans k5).obj o2 (by simp)
  conv => whnf
  refine LoadR.o o25 rfl ?_
  conv => whnf
  refine CallR.i (find_spec hSl (by omega) name) fun v h6 k6 hv => ?_
  subst hv
  have k06 := k05.trans k6
  have z6 := k6.size
  rw [find_place D.str]
  conv => whnf
  refine IfR.i (fun hth => ?_) (fun hth => ?_)
  · have ht : plT l name = false := by simpa using hth
    conv => whnf
    refine BoxR.i fun h7 s7 k7 => ?_
    conv => whnf
    have kk : Keeps [] h h7 := k06.new1 k7 (by omega)
    unfold refDrop
    rw [if_neg (by rw [ht]; decide)]
    exact ⟨kk.mono (by simp), Crd.zero, X, rfl, A.on kk, rfl, rfl, fun e => by cases e⟩
  · have ht : plT l name = true := by simpa using hth
    obtain ⟨pl, k, hsp, hpl, hpu, hk5, hem, hee⟩ := spot_there D ht
    have B6 := B5.keep k6 (by simp)
    have o26 : h6[b2]? = some (.cells ⟨[.string ⟨name.toArray⟩]⟩ 9 (0, 0)) := k6.obj o25 (by simp)
    have SP := spotD_spec B6 name hnl o26
    rw [hsp] at SP
    conv => whnf
    refine LoadR.o o26 rfl ?_
    conv => whnf
    refine CallR.i SP fun v h7 k7 hv => ?_
    subst hv
    conv => whnf
    refine SemR.make (n := 3) rfl rfl rfl rfl rfl (by decide) (by decide) fun b8 h8 e8 s8 o8 k8 => ?_
    have S8 : Sl h8 (some ⟨b8, 0, none⟩) 3 3 ([0, 0, 0] : List UInt64) := Sl.of1' (α := UInt64) (n := 3) o8 (by simp [One.ok]) rfl (by simp)
    have k78 := k7.trans k8
    have A8 := A.on (k06.trans k78)
    have B8 := B6.keep k78 (by simp)
    have hrp := (D.wk.rngP.plc pl).resolve_left hpu
    have PS := put_spec' A8 B8 hdis hpl hpu hrp hk5 S8
    have z78 := k78.size
    conv => whnf
    refine CallR.m PS ?_ fun v h9 k9 hv => ?_
    · intro y hy hx2
      have hy2 : y = b1 ∨ y = b3 := by simpa [blocksOf, setB, or_comm] using hy
      simp only [List.mem_cons] at hx2
      rcases hx2 with rfl | hx2
      · omega
      · have := nB y hx2
        omega
    obtain ⟨rfl, A9, _, _⟩ := hv
    have kk9 : Keeps [V.ob] h h9 := ((k06.trans k78).mono (by simp)).trans_new k9 (fun y hy => by
      simp only [List.mem_cons] at hy
      rcases hy with rfl | hy
      · exact .inl (by simp)
      · have := nB y hy; right; omega)
    rw [wordsAt_nat] at A9
    obtain ⟨D9, F9⟩ := strike_dir hn D ht hpl hpu hk5 hem hee
    conv => whnf
    refine IfR.f rfl ?_
    conv => whnf
    refine BoxR.i fun h10 s10 k10 => ?_
    conv => whnf
    refine BoxR.i fun h11 s11 k11 => ?_
    conv => whnf
    have z9 := k9.size
    have kk11 : Keeps [V.ob] h h11 := (kk9.trans_new k10 (fun y hy => by simp at hy; right; omega)).trans_new k11 (fun y hy => by simp at hy; right; omega)
    have A11 := (A9.keep k10 (fun y hy => by have := hvb y hy; simp; omega)).keep k11 (fun y hy => by have := hvb y hy; simp; omega)
    have hwr : IntKind.i64.wrap (c.size - 1) = c.size - 1 := by rw [D.size]; exact wrapI (by omega) (by omega)
    have er : refDrop l name = (l.eraseIdx (plK l name), (l[plK l name]?.getD ⟨[], 0⟩).node, 0) := by unfold refDrop; rw [if_pos ht]
    rw [er]
    refine ⟨kk11, { c with size := c.size - 1 }, _, ?_, A11, rfl, rfl, fun _ => ⟨D9, F9⟩⟩
    rw [findR_at D.str ht]
    have hcok : ({ c with size := c.size - 1 } : Crd).cells = spliceL (0 + 2) (cellsOf (.int .i64 (IntKind.i64.wrap (c.size - 1)))) c.cells := by rw [hwr]; rfl
    rw [hcok]
    rfl
end Go.Proofs.YteambknhlbiajaaGreatDoor
/-
  Layer 11's document: Hash, Bucket, Room; names added, dropped, compared.
-/
set_option linter.all false
set_option maxRecDepth 100000
set_option maxHeartbeats 1000000
namespace Go.Proofs.YteambknhlbiajaaGreatDoor
open Go Go.Eng

theorem refHash_spec (l : List UInt8) (hl : l.length ≤ 140737488351232) (h : Heap) : CallH Tryz.prog 116 [.string ⟨l.toArray⟩] h (fun v h' => Keeps [] h h' ∧ v = wv (hashL l)) := by
  refine call_of hmix Tryz.func116 rfl ok116 (by simp [Tryz.f116]) ?_
  conv => whnf
  refine LoopR.on [0, 3, 4] [] (fun i : Nat => [(0, .v (.string ⟨l.toArray⟩)), (3, .v (wv (hashL (l.take i)))), (4, .v (.int .i64 (i : Int)))]) (fun _ => []) (fun i h' => i ≤ l.length ∧ Keeps [] h h') (fun i => l.length - i) 0 ?_ ?_
  · exact ⟨0, rfl, rfl, rfl, Nat.zero_le _, Keeps.refl _ _⟩
  · rintro i h1 ⟨hi, k1⟩
    conv => whnf
    refine IfR.i (fun hd => ?_) (fun hd => ?_)
    · have hi1 : i < l.length := by rw [bs_size] at hd; simp at hd; omega
      conv => whnf
      refine IdxR.i i rfl (by rw [bs_size]; exact hi1) ?_
      conv => whnf
      refine ⟨l.length - (i + 1), by omega, ?_⟩
      conv => whnf
      refine ⟨i + 1, rfl, ?_, rfl, by omega, k1⟩
      rw [bs_get, List.getElem?_eq_getElem hi1, Option.getD_some]
      rw [wrapN (n := i + 1) (by simp) (by omega), hash_val]
      have e : hashL (l.take (i + 1)) = (hashL (l.take i) ^^^ l[i].toUInt64) * 1099511628211 := by
        unfold hashL
        rw [List.take_succ_eq_append_getElem hi1, List.foldl_append]; rfl
      rw [e]
    · have hi1 : i = l.length := by rw [bs_size] at hd; simp at hd; omega
      subst hi1
      conv => whnf
      rw [List.take_length]
      exact ⟨k1, rfl⟩

theorem refBucket_spec (l : List UInt8) (hl : l.length ≤ 140737488351232) (h : Heap) : CallH Tryz.prog 87 [.string ⟨l.toArray⟩, .int .i64 8] h (fun v h' => Keeps [] h h' ∧ v = .int .i64 (bucketL l : Int)) := by
  refine call_of hmix Tryz.func87 rfl ok87 (by simp [Tryz.f87]) ?_
  conv => whnf
  refine IfR.f (by decide) ?_
  conv => whnf
  refine CallR.i (refHash_spec l hl h) fun v h1 k1 hv => ?_
  subst hv
  conv => whnf
  refine Need.i (by decide) ?_
  conv => whnf
  refine ⟨k1, ?_⟩
  have hlt := (hashL l).toNat_lt
  have e8 : IntKind.u64.wrap 8 = 8 := by decide
  rw [e8, Int.tmod_eq_emod_of_nonneg (by omega)]
  unfold bucketL
  congr 1
  rw [wrapI (by omega) (by omega)]
  omega

theorem refRoom_spec (l : List UInt8) (hl : l.length ≤ 140737488351232) (h : Heap) : CallH Tryz.prog 51 [.string ⟨l.toArray⟩] h (fun v h' => Keeps [] h h' ∧ v = .int .i64 (roomN (bucketL l) : Int)) := by
  refine call_of hmix Tryz.func51 rfl ok51 (by simp [Tryz.f51]) ?_
  conv => whnf
  refine CallR.i (refBucket_spec l hl h) fun v h1 k1 hv => ?_
  subst hv
  unfold roomN
  conv => whnf
  refine IfR.i (fun hd => ?_) (fun hd => ?_)
  · have : bucketL l < 5 := by simp at hd; omega
    conv => whnf
    rw [if_pos this]
    exact ⟨k1, rfl⟩
  · have : ¬ bucketL l < 5 := by simp at hd; omega
    conv => whnf
    rw [if_neg this]
    exact ⟨k1, rfl⟩

/-! ### Lists of entries -/

theorem ents_cells {h : Heap} {b o m xc : Nat} {l : List Ent} (S : Sl h (some ⟨b, o, none⟩) m xc l) : ∀ j, j < (entC l).length → Heap.cell? h b (o + j) = (entC l)[j]? := by
  intro j hj
  have hl := entC_len l
  obtain ⟨b', o', hb, cs, ⟨rfl, _⟩, hc⟩ := S.at_ (j / 2) (by omega)
  cases hb
  have := hc (j % 2) (by simp [Ent.cells]; omega)
  rw [entC_get l j (by omega), ← this]
  congr 1
  show _ = o + j / 2 * 2 + j % 2
  omega

theorem ents_app {h : Heap} {a : Option Addr} {n c : Nat} {l1 l2 : List Ent} (O : Own h 45 2 a n c (entC l1)) {x : Option Addr} {m xc : Nat} (S : Sl h x m xc l2) (hb : n + m ≤ 100000) {bs : List Nat} (hbs : ∀ b ∈ blkA a, b ∉ bs) {ty : TypeId} {K : Value → Heap → Prop}
    (H : ∀ a' c' h', Own h' 45 2 a' (n + m) c' (entC (l1 ++ l2)) → Keeps (blkA a) h h' → (∀ b ∈ blkA a', b ∈ blkA a ∨ h.size ≤ b) → K (.slice a' (n + m) c') h') :
    SemR Tryz.prog (Builtin.append_ #[38, 38] ty ⟨[.slice a n c, .slice x m xc]⟩) bs h K := by
  have hm := S.hlen
  rcases Nat.eq_zero_or_pos m with h0 | h0
  · subst h0
    have : l2 = [] := List.eq_nil_of_length_eq_zero hm.symm
    subst this
    have hnc : n ≤ c := by
      rcases O with ⟨_, rfl, rfl, _⟩ | ⟨b, cs, _, _, _, _, _, h2⟩
      · exact Nat.le_refl _
      · exact h2
    refine SemR.append0 rfl rfl rfl hnc ?_
    have := H a c h (by rw [List.append_nil]; exact O) (Keeps.refl _ _) (fun b hb => .inl hb)
    exact this
  · obtain ⟨b, o, rfl⟩ := S.nonnil h0
    refine append_own (e := 45) (sz := 2) (by_ := 24) (new := entC l2) rfl rfl rfl rfl rfl rfl rfl O (by rw [entC_len]; omega) (ents_cells S) (allOne_ent l2) (by omega) (by omega) hbs ?_
    intro a' c' h5 O5 k5 n5
    exact H a' c' h5 (by rw [show entC (l1 ++ l2) = entC l1 ++ entC l2 from List.flatMap_append]; exact O5) k5 n5

theorem own_nil (h : Heap) : Own h 45 2 none 0 0 (entC []) := .inl ⟨rfl, rfl, rfl, rfl⟩

theorem refAdd_spec {h : Heap} {a : Option Addr} {n c : Nat} {l : List Ent} (S : Sl h a n c l) (hn : n ≤ 10000) (name : List UInt8) (hnl : name.length ≤ 140737488351232) (target : Int) (ht : inI64 target) (hok : ∀ e ∈ l, e.ok) :
    CallH Tryz.prog 50 [.slice a n c, .string ⟨name.toArray⟩, .int .i64 target] h (fun v h' => Keeps [] h h' ∧ ∃ a' c', v = .tuple #[.slice a' (refAdd l name target).1.length c', .int .i64 (refAdd l name target).2] ∧ Own h' 45 2 a' (refAdd l name target).1.length c' (entC (refAdd l name target).1) ∧ (∀ b ∈ blkA a', h.size ≤ b)) := by
  have hl := S.hlen
  have hcap := S.hcap
  unfold refAdd
  refine call_of hmix Tryz.func50 rfl ok50 (by simp [Tryz.f50]) ?_
  conv => whnf
  refine IfR.i (fun hd => ?_) (fun hd => ?_)
  · have h1 : target < 1 ∨ 24 ≤ target := by simp [bif_or] at hd; omega
    conv => whnf
    rw [if_pos h1]
    exact ⟨Keeps.refl _ _, none, 0, rfl, own_nil h, by simp [blkA]⟩
  have h1 : ¬ (target < 1 ∨ 24 ≤ target) := by simp [bif_or] at hd; omega
  rw [if_neg h1]
  conv => whnf
  refine CallR.i (refRight_spec name hnl h) fun v h1 k1 hv => ?_
  subst hv
  conv => whnf
  refine IfR.i (fun hr => ?_) (fun hr => ?_)
  · have h2 : nameB name = false := by simpa using hr
    conv => whnf
    rw [if_pos h2]
    exact ⟨k1, none, 0, rfl, own_nil h1, by simp [blkA]⟩
  have h2 : ¬ nameB name = false := by simpa using hr
  rw [if_neg h2]
  conv => whnf
  refine CallR.i (place_spec (S.keep k1) (by omega) name hnl) fun v h2 k2 hv => ?_
  subst hv
  have k02 := k1.trans k2
  conv => whnf
  refine IfR.i (fun hp => ?_) (fun hp => ?_)
  · conv => whnf
    rw [if_pos hp]
    exact ⟨k02, none, 0, rfl, own_nil h2, by simp [blkA]⟩
  rw [if_neg (by rw [hp]; decide)]
  have hkl := plK_le l name
  conv => whnf
  refine SliceR.i 0 (plK l name) rfl rfl (Nat.zero_le _) (by omega) ?_
  conv => whnf
  refine SliceR.i (plK l name) n rfl rfl (by omega) (by omega) ?_
  have P1 := (S.keep k02).part (l := 0) (r := plK l name) (Nat.zero_le _) (by omega)
  rw [List.drop_zero] at P1
  have P2 := (S.keep k02).part (l := plK l name) (r := n) (by omega) (Nat.le_refl _)
  rw [List.take_of_length_le (by omega : l.length ≤ n)] at P2
  have one : ∀ {hx : Heap} {b : Nat}, hx[b]? = some (.cells ⟨cellsOf (.agg ⟨[.string ⟨name.toArray⟩, .int .i64 target]⟩)⟩ 45 (0, 0)) → Sl hx (some ⟨b, 0, none⟩) 1 1 [(⟨name, target⟩ : Ent)] := by
    intro hx b o
    refine ⟨rfl, Nat.le_refl _, by simp, fun i hi => ?_⟩
    have : i = 0 := by simpa using hi
    subst this
    refine ⟨b, 0, rfl, Ent.cells ⟨name, target⟩, ⟨rfl, hnl, ht⟩, fun j hj => ?_⟩
    · unfold Heap.cell?
      rw [o]
      have : j = 0 ∨ j = 1 := by simp [Ent.cells] at hj; omega
      rcases this with rfl | rfl <;> rfl
  conv => whnf
  refine BothR.i ?c1 ?c2
  case' c1 =>
    conv => whnf
    refine ents_app (own_nil h2) P1 (by omega) (by simp [blkA]) fun a5 c5 h5 O5 k5 n5 => ?_
    have k25 : Keeps [] h2 h5 := k5.mono (by simp [blkA])
    rw [List.nil_append] at O5
    conv => whnf
    refine AllocR.i fun b6 h6 e6 s6 o6 k6 => ?_
    have O6 := O5.keep k6 (by simp)
    have S6 := one o6
    have k26 := k25.trans k6
    have z5 := k25.size
    have hb6 : h2.size ≤ b6 := by omega
    have n6 : ∀ b ∈ blkA a5, h2.size ≤ b := fun b hb => by
      rcases n5 b hb with h | h
      · simp [blkA] at h
      · exact h
  case' c2 =>
    conv => whnf
    refine AllocR.i fun b6 h5 e6 s5 o5 k5 => ?_
    conv => whnf
    refine ents_app (own_nil h5) (P1.keep k5) (by omega) (by simp [blkA]) fun a5 c5 h6 O6 k6 n5 => ?_
    have k56 : Keeps [] h5 h6 := k6.mono (by simp [blkA])
    rw [List.nil_append] at O6
    have S6 := (one o5).keep k56
    have k26 := k5.trans k56
    have z5 := k5.size
    have hb6 : h2.size ≤ b6 := by omega
    have n6 : ∀ b ∈ blkA a5, h2.size ≤ b := fun b hb => by
      rcases n5 b hb with h | h
      · simp [blkA] at h
      · omega
  all_goals
    conv => whnf
    refine ents_app O6 S6 (by omega) (by simp [blocksOf]) fun a7 c7 h7 O7 k7 n7 => ?_
    have z7 := k7.size
    have z6 := k26.size
    have n7' : ∀ b ∈ blkA a7, h2.size ≤ b := fun b hb => by
      rcases n7 b hb with h | h
      · exact n6 b h
      · omega
    have k27 : Keeps [] h2 h7 := k26.nil_of k7 (fun b hb => n6 b hb)
    conv => whnf
    refine ents_app O7 (P2.keep k27) (by omega) (by simp [blocksOf]) fun a8 c8 h8 O8 k8 n8 => ?_
    have k28 : Keeps [] h2 h8 := k27.nil_of k8 (fun b hb => n7' b hb)
    conv => whnf
    have hlen : (insL l ⟨name, target⟩).length = 0 + (plK l name - 0) + 1 + (n - plK l name) := by
      rw [(insL_perm l _).length_eq, List.length_cons]; omega
    refine ⟨k02.trans k28, a8, c8, ?_, ?_, fun b hb => ?_⟩
    · simp only; rw [hlen]
    · simp only; rw [hlen]
      have : List.take (plK l name) l ++ [(⟨name, target⟩ : Ent)] ++ List.drop (plK l name) l = insL l ⟨name, target⟩ := by unfold insL; simp
      rw [← this]; exact O8
    · have z02 := k02.size
      rcases n8 b hb with h | h
      · have := n7' b h; omega
      · have := k27.size; omega

theorem eqT_ent (x y : Ent) : eqT Tryz.prog 10000 45 (.agg ⟨x.cells⟩) (.agg ⟨y.cells⟩) = some (decide (x = y)) := by
  have h : eqT Tryz.prog 10000 45 (.agg ⟨x.cells⟩) (.agg ⟨y.cells⟩) = some (((⟨x.name.toArray⟩ : ByteArray).toList == (⟨y.name.toArray⟩ : ByteArray).toList) && ((x.node == y.node) && true)) := by kernel_rfl
  rw [h]
  congr 1
  rw [bs_eq, Bool.eq_iff_iff]
  obtain ⟨a, b⟩ := x
  obtain ⟨c, d⟩ := y
  simp

theorem refDrop_spec {h : Heap} {a : Option Addr} {n c : Nat} {l : List Ent} (S : Sl h a n c l) (hn : n ≤ 10000) (name : List UInt8) (hnl : name.length ≤ 140737488351232) :
    CallH Tryz.prog 48 [.slice a n c, .string ⟨name.toArray⟩] h (fun v h' => Keeps [] h h' ∧ ∃ a' c', v = .tuple #[.slice a' (refDrop l name).1.length c', .int .i64 (refDrop l name).2.1, .int .i64 (refDrop l name).2.2] ∧ Own h' 45 2 a' (refDrop l name).1.length c' (entC (refDrop l name).1) ∧ (∀ b ∈ blkA a', h.size ≤ b)) := by
  have hl := S.hlen
  have hcap := S.hcap
  unfold refDrop
  refine call_of hmix Tryz.func48 rfl ok48 (by simp [Tryz.f48]) ?_
  conv => whnf
  refine CallR.i (place_spec S (by omega) name hnl) fun v h2 k2 hv => ?_
  subst hv
  conv => whnf
  refine IfR.i (fun hp => ?_) (fun hp => ?_)
  · have hp' : ¬ plT l name = true := by simpa using hp
    conv => whnf
    rw [if_neg hp']
    exact ⟨k2, none, 0, rfl, own_nil h2, by simp [blkA]⟩
  have hp' : plT l name = true := by simpa using hp
  rw [if_pos hp']
  obtain ⟨hkl, hnm⟩ := plT_at hp'
  have P1 := (S.keep k2).part (l := 0) (r := plK l name) (Nat.zero_le _) (by omega)
  rw [List.drop_zero] at P1
  have P2 := (S.keep k2).part (l := plK l name + 1) (r := n) (by omega) (Nat.le_refl _)
  rw [List.take_of_length_le (by omega : l.length ≤ n)] at P2
  have hw : IntKind.i64.wrap ((plK l name : Int) + 1) = ((plK l name + 1 : Nat) : Int) := wrapN (by simp) (by omega)
  obtain ⟨b3, o3, hb3, cs, ⟨rfl, hok⟩, hc3⟩ := (S.keep k2).at_ (plK l name) hkl
  conv => whnf
  refine SliceR.i 0 (plK l name) rfl rfl (Nat.zero_le _) (by omega) ?_
  conv => whnf
  refine SliceR.i (plK l name + 1) n hw rfl (by omega) (by omega) ?_
  conv => whnf
  refine IdxS.i (plK l name) rfl (by omega) hb3 ?_
  have nd : ∀ {hx : Heap}, Keeps [] h2 hx → Heap.cell? hx b3 (o3 + plK l name * 2 + 1) = some (.int .i64 (l[plK l name].node)) := fun k => (hc3.keep k) 1 (by simp [Ent.cells])
  have hlen : (l.eraseIdx (plK l name)).length = 0 + (plK l name - 0) + (n - (plK l name + 1)) := by
    rw [List.length_eraseIdx_of_lt hkl]; omega
  have her : l.take (plK l name) ++ l.drop (plK l name + 1) = l.eraseIdx (plK l name) := (List.eraseIdx_eq_take_drop_succ _ _).symm
  have hnode : (l[plK l name]?.getD ⟨[], 0⟩).node = l[plK l name].node := by rw [List.getElem?_eq_getElem hkl]; rfl
  conv => whnf
  refine BothR.i ?c1 ?c2
  case' c1 =>
    conv => whnf
    refine ents_app (own_nil h2) P1 (by omega) (by simp [blkA]) fun a5 c5 h5 O5 k5 n5 => ?_
    have k25 : Keeps [] h2 h5 := k5.mono (by simp [blkA])
    rw [List.nil_append] at O5
    have n5' : ∀ b ∈ blkA a5, h2.size ≤ b := fun b hb => by
      rcases n5 b hb with h | h
      · simp [blkA] at h
      · exact h
    conv => whnf
    refine BothR.i ?d1 ?d2
    case' d1 =>
      conv => whnf
      refine ents_app O5 (P2.keep k25) (by omega) (by simp [blocksOf]) fun a6 c6 h6 O6 k6 n6 => ?_
      have k26 : Keeps [] h2 h6 := k25.nil_of k6 (fun b hb => n5' b hb)
      conv => whnf
      refine LoadR.i (nd k26) ?_
      conv => whnf
      refine ⟨k2.trans k26, a6, c6, ?_, ?_, fun b hb => ?_⟩
      · simp only; rw [hlen, hnode]
      · simp only; rw [hlen, ← her]; exact O6
      · have z2 := k2.size
        have z5 := k25.size
        rcases n6 b hb with h | h
        · have := n5' b h; omega
        · omega
    case' d2 =>
      conv => whnf
      refine LoadR.i (nd k25) ?_
      conv => whnf
      refine ents_app O5 (P2.keep k25) (by omega) (by simp [blocksOf]) fun a6 c6 h6 O6 k6 n6 => ?_
      have k26 : Keeps [] h2 h6 := k25.nil_of k6 (fun b hb => n5' b hb)
      conv => whnf
      refine ⟨k2.trans k26, a6, c6, ?_, ?_, fun b hb => ?_⟩
      · simp only; rw [hlen, hnode]
      · simp only; rw [hlen, ← her]; exact O6
      · have z2 := k2.size
        have z5 := k25.size
        rcases n6 b hb with h | h
        · have := n5' b h; omega
        · omega
  case' c2 =>
    conv => whnf
    refine LoadR.i (nd (Keeps.refl _ _)) ?_
    conv => whnf
    refine ents_app (own_nil h2) P1 (by omega) (by simp [blkA]) fun a5 c5 h5 O5 k5 n5 => ?_
    have k25 : Keeps [] h2 h5 := k5.mono (by simp [blkA])
    rw [List.nil_append] at O5
    have n5' : ∀ b ∈ blkA a5, h2.size ≤ b := fun b hb => by
      rcases n5 b hb with h | h
      · simp [blkA] at h
      · exact h
    conv => whnf
    refine ents_app O5 (P2.keep k25) (by omega) (by simp [blocksOf]) fun a6 c6 h6 O6 k6 n6 => ?_
    have k26 : Keeps [] h2 h6 := k25.nil_of k6 (fun b hb => n5' b hb)
    conv => whnf
    refine ⟨k2.trans k26, a6, c6, ?_, ?_, fun b hb => ?_⟩
    · simp only; rw [hlen, hnode]
    · simp only; rw [hlen, ← her]; exact O6
    · have z2 := k2.size
      have z5 := k25.size
      rcases n6 b hb with h | h
      · have := n5' b h; omega
      · omega

theorem PureR.neAgg {P : Program} {c : Option Bool} {t : TypeId} {x y : Operand} {xs ys : List Value} {r : Bool} {K : Value → Prop} (hm : P.eqGuardType P.depth t = false) (he : eqT P 10000 t (.agg ⟨xs⟩) (.agg ⟨ys⟩) = some r) (hK : K (.bool (!r))) :
    PureR c P (do eqGuard .neq t x y (.agg ⟨xs⟩) (.agg ⟨ys⟩); binOp .neq t (.agg ⟨xs⟩) (.agg ⟨ys⟩) : Sem Value) K := by
  refine PureR.i (fun w => ?_) hK
  rw [Sem.run_bind, run_eqGuard_agg _ _ _ _ _ _ _ hm]
  simp only [Result.andThen_ok]
  rw [run_neq_struct, eqT_run _ _ _ _ _ w he]
  rfl

theorem same_spec {h : Heap} {a a2 : Option Addr} {n n2 c c2 : Nat} {l l2 : List Ent} (S : Sl h a n c l) (S2 : Sl h a2 n2 c2 l2) (hn : n ≤ 100000) : CallH Tryz.prog 26 [.slice a n c, .slice a2 n2 c2] h (fun v h' => Keeps [] h h' ∧ v = .bool (decide (l = l2))) := by
  have hl := S.hlen
  have hl2 := S2.hlen
  refine call_of hmix Tryz.func26 rfl ok26 (by simp [Tryz.f26]) ?_
  conv => whnf
  refine IfR.i (fun hd => ?_) (fun hd => ?_)
  · have hne : n ≠ n2 := by simp at hd; omega
    conv => whnf
    refine ⟨Keeps.refl _ _, ?_⟩
    rw [decide_eq_false (fun e => hne (by rw [hl, hl2, e]))]
  have he : n = n2 := by simp at hd; omega
  conv => whnf
  refine LoopR.on [0, 1, 5] [] (fun i : Nat => [(0, .v (.slice a n c)), (1, .v (.slice a2 n2 c2)), (5, .v (.int .i64 (i : Int)))]) (fun _ => []) (fun i h' => i ≤ n ∧ Keeps [] h h' ∧ l.take i = l2.take i) (fun i => n - i) 0 ?_ ?_
  · conv => whnf
    exact ⟨0, rfl, rfl, rfl, Nat.zero_le _, Keeps.refl _ _, by simp⟩
  · rintro i h1 ⟨hi, k1, ht⟩
    conv => whnf
    refine IfR.i (fun hd => ?_) (fun hd => ?_)
    · have hi1 : i < l.length := by simp at hd; omega
      have hi2 : i < l2.length := by omega
      obtain ⟨b1, o1, hb1, _, ⟨rfl, _⟩, hc1⟩ := (S.keep k1).at_ i hi1
      obtain ⟨b2, o2, hb2, _, ⟨rfl, _⟩, hc2⟩ := (S2.keep k1).at_ i hi2
      conv => whnf
      refine IdxS.i i rfl (by omega) hb1 ?_
      conv => whnf
      refine LoadN.i (vs := l[i].cells) rfl (fun j hj => hc1 j hj) ?_
      conv => whnf
      refine IdxS.i i rfl (by omega) hb2 ?_
      conv => whnf
      refine LoadN.i (vs := l2[i].cells) rfl (fun j hj => hc2 j hj) ?_
      conv => whnf
      refine PureR.neAgg (by kernel_rfl) (eqT_ent l[i] l2[i]) ?_
      conv => whnf
      refine IfR.i (fun hq => ?_) (fun hq => ?_)
      · conv => whnf
        have hne : l[i] ≠ l2[i] := by simpa using hq
        refine ⟨k1, ?_⟩
        rw [decide_eq_false (fun e => hne (by subst e; rfl))]
      · have heq : l[i] = l2[i] := by simpa using hq
        conv => whnf
        refine ⟨n - (i + 1), by omega, ?_⟩
        conv => whnf
        refine ⟨i + 1, rfl, by rw [wrapN (n := i + 1) (by simp) (by omega)], rfl, by omega, k1, ?_⟩
        rw [List.take_succ_eq_append_getElem hi1, List.take_succ_eq_append_getElem hi2, ht, heq]
    · have hi1 : i = n := by simp at hd; omega
      subst hi1
      conv => whnf
      refine ⟨k1, ?_⟩
      rw [List.take_of_length_le (by omega), List.take_of_length_le (by omega)] at ht
      rw [decide_eq_true ht]
end Go.Proofs.YteambknhlbiajaaGreatDoor
/-
  Layer 11's laws: how many stand in a bucket; a step's end; a directory is whole.
-/
set_option linter.all false
set_option maxRecDepth 100000
set_option maxHeartbeats 1000000
namespace Go.Proofs.YteambknhlbiajaaGreatDoor
open Go Go.Eng

theorem bend_spec {h : Heap} {V : VL} {M : MemS} {X : VS} (A : At h V M X) (hab : V.ab = none) (hanb : V.anb = none) (hu : M.until_ = -1) (hs : M.sure.length = 2824) {f : Nat} {node : Int} {c0 : Crd} {a0 : Option Addr} {m0 q0 : Nat}
    (hf : h[f]? = some (.cells ⟨bookC V node c0 a0 m0 q0⟩ 63 (0, 0))) (hd : f ∉ V.blocks) (c1 : Crd) (a1 : Option Addr) (m1 q1 : Nat) (e g : Int) :
    CallH Tryz.prog 27 [.pointer (some ⟨f, 0, none⟩), .agg ⟨c1.cells⟩, .slice a1 m1 q1, .int .i64 e, .int .i64 g] h (fun v h' => Keeps [f, V.v, V.mem.m, V.mem.lb] h h' ∧ v = .bool (decide (e = g) || (decide (e = 9) && decide (g = 0))) ∧
      ∃ ob sb mb M', h.size ≤ ob ∧ h.size ≤ sb ∧ h.size ≤ mb ∧ M'.until_ = -1 ∧ M'.sure.length = 2824 ∧ M'.read = (if e = 0 ∧ g = 0 then X.now else M.read) ∧ At h' { V with ob := ob, sb := sb, mb := mb } M' { X with now := M'.read, seen := [], mine := [] } ∧
        h'[f]? = some (.cells ⟨if e = 0 ∧ g = 0 then bookC V node c1 a1 m1 q1 else bookC V node c0 a0 m0 q0⟩ 63 (0, 0))) := by
  have hfl := obj_lt hf
  have hfv : ∀ b ∈ V.blocks, b ≠ f := fun b hb e => hd (e ▸ hb)
  refine call_of hmix Tryz.func27 rfl ok27 (by simp [Tryz.f27]) ?_
  conv => whnf
  refine AllocR.i fun b1 h1 e1 s1' o1 k1 => ?_
  have A1 := A.on k1
  have hf1 := k1.obj hf (by simp)
  conv => whnf
  first | refine IfR.i (fun hc => ?_) (fun hc => ?_) | (refine MeetR.pass ?_; (conv => whnf); refine IfR.i (fun hc => ?_) (fun hc => ?_))
  · have hok : e = 0 ∧ g = 0 := by simp [bif_and] at hc; omega
    conv => whnf
    refine LoadR.o hf1 rfl ?_
    conv => whnf
    refine CallR.i (changes_spec sort_spec A1) fun v h2 k2 hv => ?_
    obtain ⟨a, ca, rfl, n2, O2⟩ := hv
    have A2 := A1.on k2
    have z1 := k1.size
    have z2 := k2.size
    have hin : ∀ p ∈ chgL X.now M.read, inI64 p.1 := fun p hp => by have := (chgL_mem hp).1; unfold inI64; omega
    have hcl : (chgL X.now M.read).length ≤ 2824 := by
      unfold chgL
      rw [List.length_map]
      exact Nat.le_trans (List.length_filter_le _ _) (by simp)
    have S2 : Sl h2 a (chgL X.now M.read).length ca ((chgL X.now M.read).map fun p => (⟨p.1, p.2⟩ : Chg)) := O2.sl (reps_chg h2 _ hin) rfl (by decide) (by rw [List.length_map]; omega)
    obtain ⟨N1, N2, N3⟩ := storeL_now A hu hs
    generalize hL : chgL X.now M.read = L at *
    conv => whnf
    refine LoopR.on [0, 2, 3, 4, 6, 11, 12] [6] (fun i : Nat => [(0, .v (.pointer (some ⟨f, 0, none⟩))), (2, .v (.slice a1 m1 q1)), (3, .v (.int .i64 e)), (4, .v (.int .i64 g)), (6, .lp 6 0), (11, .v (.slice a L.length ca)), (12, .v (.int .i64 (i : Int)))]) (fun _ => [(6, b1, c1.cells)])
      (fun i h' => i ≤ L.length ∧ Keeps [V.mem.m, V.mem.lb] h2 h' ∧ ∃ now, At h' V (storeL M (L.take i)) { X with now := now }) (fun i => L.length - i) 0 ?_ ?_
    · conv => whnf
      exact ⟨0, rfl, rfl, rfl, Nat.zero_le _, Keeps.refl _ _, X.now, A2⟩
    · rintro i h3 ⟨hi, k3, nw, A3⟩
      have hml : V.mem.m < h.size ∧ V.mem.lb < h.size := ⟨A.blt _ (by simp [VL.blocks, ML.blocks]), A.blt _ (by simp [VL.blocks, ML.blocks])⟩
      have hf3 := k3.obj (k2.obj hf1 (by simp)) (by simp; exact ⟨fun e => hfv _ (by simp [VL.blocks, ML.blocks]) e.symm, fun e => hfv _ (by simp [VL.blocks, ML.blocks]) e.symm⟩)
      conv => whnf
      refine IfR.i (fun hd => ?_) (fun hd => ?_)
      · have hi1 : i < L.length := by simp at hd; omega
        have S3 := S2.keepM k3 (fun b hb hx => by have := n2 b hb; simp at hx; omega)
        obtain ⟨b4, o4, hb4, cs, ⟨rfl, _⟩, hc4⟩ := S3.at_ i (by simpa using hi1)
        simp only [List.getElem_map] at hc4
        conv => whnf
        refine LoadR.o hf3 rfl ?_
        conv => whnf
        refine IdxS.i i rfl (by omega) hb4 ?_
        conv => whnf
        refine LoadR.i (hc4 0 (by simp)) ?_
        conv => whnf
        refine IdxS.i i rfl (by omega) hb4 ?_
        conv => whnf
        refine LoadR.i (hc4 1 (by simp)) ?_
        conv => whnf
        refine CallR.m (store_spec A3.mem L[i].1 L[i].2) ?_ fun v h4 k4 hv => ?_
        · intro y hy hx
          have hy2 : y ∈ [b1] := hy
          simp at hy2 hx; omega
        obtain ⟨rfl, R4⟩ := hv
        conv => whnf
        refine ⟨L.length - (i + 1), by omega, ?_⟩
        conv => whnf
        obtain ⟨nw', A4⟩ := A3.store hab hanb k4 R4
        refine ⟨i + 1, rfl, by rw [wrapN (n := i + 1) (by simp) (by omega)], rfl, by omega, k3.trans k4, nw', ?_⟩
        rw [storeL_take M L i hi1]; exact A4
      · have hi1 : i = L.length := by simp at hd; omega
        subst hi1
        rw [List.take_length] at A3
        have hz3 := k3.size
        have nbf : ∀ b ∈ V.blocks, b ∉ [f] := fun b hb => by simpa using hfv b hb
        conv => whnf
        refine StoreR.i hf3 (Nat.le_of_ble_eq_true rfl) (by simp [blocksOf, setB]; omega) fun h4 s4 o4 k4 => ?_
        conv => whnf
        refine StoreR.i o4 (Nat.le_of_ble_eq_true rfl) (by simp [blocksOf, setB]; omega) fun h5 s5 o5 k5 => ?_
        have o5' : h5[f]? = some (.cells ⟨bookC V node c1 a1 m1 q1⟩ 63 (0, 0)) := o5
        have A5 := (A3.keep k4 nbf).keep k5 nbf
        conv => whnf
        refine LoadR.o o5' rfl ?_
        conv => whnf
        refine CallR.m (reset_spec A5) (by intro y hy hx; have hy2 : y ∈ [b1] := hy; have := A.blt V.v (by simp [VL.blocks]); simp at hy2 hx; omega) fun v h6 k6 hv => ?_
        obtain ⟨ob, sb, mb, g1, g2, g3, A6⟩ := hv
        conv => whnf
        have kk : Keeps [f, V.v, V.mem.m, V.mem.lb] h h6 := ((k1.trans k2).mono (by simp)).trans ((k3.mono (by simp)).trans ((k4.mono (by simp)).trans ((k5.mono (by simp)).trans (k6.mono (by simp)))))
        refine ⟨kk, ?_, ob, sb, mb, storeL M L, by omega, by omega, by omega, N1, N2, by rw [if_pos hok, N3], A6, ?_⟩
        · rw [hok.1, hok.2]; rfl
        · rw [if_pos hok]
          exact k6.obj o5' (by simp; exact fun e => hfv V.v (by simp [VL.blocks]) e.symm)
  · have hno : ¬ (e = 0 ∧ g = 0) := by simp [bif_and] at hc; omega
    conv => whnf
    refine LoadR.o hf1 rfl ?_
    conv => whnf
    refine CallR.m (reset_spec A1) (by intro y hy hx; have hy2 : y ∈ [b1] := hy; have := A.blt V.v (by simp [VL.blocks]); simp at hy2 hx; omega) fun v h6 k6 hv => ?_
    obtain ⟨ob, sb, mb, g1, g2, g3, A6⟩ := hv
    conv => whnf
    refine ⟨(k1.mono (by simp)).trans (k6.mono (by simp)), ?_, ob, sb, mb, M, by omega, by omega, by omega, hu, hs, by rw [if_neg hno], A6, ?_⟩
    · congr 1
      rw [Bool.eq_iff_iff]
      simp [bif_and, bif_or]
    · rw [if_neg hno]
      exact k6.obj hf1 (by simp; exact fun e => hfv V.v (by simp [VL.blocks]) e.symm)

theorem had_take (l : List Ent) (name : List UInt8) (i : Nat) (hi : i < l.length) : hadL (l.take (i + 1)) name = hadL (l.take i) name + (if bucketL l[i].name = bucketL name then 1 else 0) := by
  unfold hadL
  rw [List.take_succ_eq_append_getElem hi, List.filter_append, List.length_append]
  congr 1
  by_cases h : bucketL l[i].name = bucketL name <;> simp [h]
theorem had_le (l : List Ent) (name : List UInt8) : hadL l name ≤ l.length := List.length_filter_le _ _

theorem bbucket_spec {h : Heap} {V : VL} {f : Nat} {node : Int} {c : Crd} {a : Option Addr} {n cc : Nat} {l : List Ent} (hf : DirO h f V node c a n cc) (S : Sl h a n cc l) (hn : n ≤ 100000) (name : List UInt8) (hnl : name.length ≤ 140737488351232) :
    CallH Tryz.prog 49 [.pointer (some ⟨f, 0, none⟩), .string ⟨name.toArray⟩] h (fun v h' => Keeps [] h h' ∧ v = .int .i64 (hadL l name : Int)) := by
  have hl := S.hlen
  unfold DirO at hf
  rw [dir_cells] at hf
  refine call_of hmix Tryz.func49 rfl ok49 (by simp [Tryz.f49]) ?_
  conv => whnf
  refine LoopR.on [0, 1, 5, 6] [] (fun i : Nat => [(0, .v (.pointer (some ⟨f, 0, none⟩))), (1, .v (.string ⟨name.toArray⟩)), (5, .v (.int .i64 (hadL (l.take i) name : Int))), (6, .v (.int .i64 (i : Int)))]) (fun _ => []) (fun i h' => i ≤ n ∧ Keeps [] h h') (fun i => n - i) 0 ?_ ?_
  · exact ⟨0, rfl, rfl, rfl, Nat.zero_le _, Keeps.refl _ _⟩
  · rintro i h1 ⟨hi, k1⟩
    have hf1 := k1.obj hf (by simp)
    conv => whnf
    refine LoadR.o hf1 rfl ?_
    conv => whnf
    refine IfR.i (fun hd => ?_) (fun hd => ?_)
    · have hi1 : i < l.length := by simp at hd; omega
      obtain ⟨b1, o1, hb1, _, ⟨rfl, hok⟩, hc1⟩ := (S.keep k1).at_ i hi1
      conv => whnf
      first | refine LoadR.o hf1 rfl ?_ | (refine MeetR.pass ?_; (conv => whnf); refine LoadR.o hf1 rfl ?_)
      conv => whnf
      refine IdxS.i i rfl (by omega) hb1 ?_
      conv => whnf
      refine LoadR.i (v := .string ⟨l[i].name.toArray⟩) (hc1 0 (by simp [Ent.cells])) ?_
      conv => whnf
      refine CallR.i (refBucket_spec l[i].name hok.1 h1) fun v h2 k2 hv => ?_
      subst hv
      conv => whnf
      refine CallR.i (refBucket_spec name hnl h2) fun v h3 k3 hv => ?_
      subst hv
      have ht := had_take l name i hi1
      have hle := had_le (l.take i) name
      rw [List.length_take] at hle
      conv => whnf
      refine IfR.i (fun he => ?_) (fun he => ?_)
      · have heq : bucketL l[i].name = bucketL name := by simp at he; omega
        rw [if_pos heq] at ht
        conv => whnf
        refine ⟨n - (i + 1), by omega, ?_⟩
        conv => whnf
        refine ⟨i + 1, rfl, ?_, rfl, by omega, (k1.trans k2).trans k3⟩
        rw [wrapN (x := (i : Int) + 1) (n := i + 1) (by simp) (by omega), wrapN (x := (hadL (l.take i) name : Int) + 1) (n := hadL (l.take i) name + 1) (by simp) (by omega), ht]
      · have heq : ¬ bucketL l[i].name = bucketL name := by simp at he; omega
        rw [if_neg heq] at ht
        conv => whnf
        refine ⟨n - (i + 1), by omega, ?_⟩
        conv => whnf
        refine ⟨i + 1, rfl, ?_, rfl, by omega, (k1.trans k2).trans k3⟩
        rw [wrapN (n := i + 1) (by simp) (by omega), ht]; rfl
    · have hi1 : i = n := by simp at hd; omega
      subst hi1
      conv => whnf
      refine ⟨k1, ?_⟩
      rw [List.take_of_length_le (by omega)]

theorem bwhole_spec {h : Heap} {V : VL} {M : MemS} (I : Idle h V M) {f : Nat} {node : Int} {c : Crd} {m : List Int} {a : Option Addr} {n cc : Nat} {l : List Ent} (hf : DirO h f V node c a n cc) (S : Sl h a n cc l) (D : DirI M.read node c m l) :
    CallH Tryz.prog 24 [.pointer (some ⟨f, 0, none⟩)] h (fun v h' => Keeps [] h h' ∧ v = .bool true) := by
  have hl := S.hlen
  have hfew := D.few
  have hsz := D.size
  obtain ⟨hr, hc⟩ := D.right
  unfold DirO at hf
  rw [dir_cells] at hf
  refine call_of hmix Tryz.func24 rfl ok24 (by simp [Tryz.f24]) ?_
  conv => whnf
  refine LoadR.o hf rfl ?_
  conv => whnf
  refine LoadN.o hf rfl ?_
  conv => whnf
  refine CallR.i (list_spec I.at_ c hc) fun v h1 k1 hv => ?_
  unfold ListR at hv
  have hop : openP M.read c = (0, m, l) := D.open_
  rw [hop, if_pos rfl] at hv
  obtain ⟨a1, cc1, rfl, O1, n1, ok1⟩ := hv
  simp only at O1 ok1 ⊢
  have S1 := own_ents O1 ok1 (by omega)
  have hf1 := k1.obj hf (by simp)
  conv => whnf
  refine LoadR.o hf1 rfl ?_
  conv => whnf
  refine IfR.t rfl ?_
  conv => whnf
  refine CallR.i (same_spec S1 (S.keep k1) (by omega)) fun v h2 k2 hv => ?_
  subst hv
  have hf2 := k2.obj hf1 (by simp)
  conv => whnf
  refine LoadR.o hf2 rfl ?_
  conv => whnf
  refine LoadR.o hf2 rfl ?_
  conv => whnf
  refine LoadN.o hf2 rfl ?_
  conv => whnf
  refine IfR.t (by simp [hsz]; omega) ?_
  conv => whnf
  refine CallR.i (right_spec c h2) fun v h3 k3 hv => ?_
  subst hv
  conv => whnf
  refine ⟨(k1.trans k2).trans k3, ?_⟩
  rw [hr]
  simp [hsz]; omega
end Go.Proofs.YteambknhlbiajaaGreatDoor
