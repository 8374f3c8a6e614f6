/-
  Layer 10's laws: a file's bytes, in whatever row; a file that is cut to nothing (FileR's and this text's own, joined).
-/
import Derived.Test.YtlloemmpnhoanaaGreatFileQ
set_option linter.all false
set_option maxRecDepth 100000
set_option maxHeartbeats 1000000
namespace Go.Proofs.YtlloemmpnhoanaaGreat
open Go Go.Eng

/-- a step of a script -/
structure Opn where
  k : Int
  a : Int
  n : Int
  d : ByteArray
instance : Rp Opn where
  n := 4
  rep _ vs x := vs = [.int .i64 x.k, .int .i64 x.a, .int .i64 x.n, .string x.d] ∧ inI64 x.k ∧ inI64 x.a ∧ inI64 x.n ∧ okStr x.d
  len h := by rw [h.1]; rfl
  keep _ h := h
instance : Flat Opn := ⟨fun h => h⟩

theorem _root_.Go.Eng.Sl.lt4 {h : Heap} {a : Option Addr} {n c : Nat} {xs : List Opn} (S : Sl h a n c xs) (hn : 0 < n) : ∀ b ∈ blkA a, b < h.size := by
  have hl := S.hlen
  obtain ⟨b, o, hb, cs, ⟨rfl, _⟩, hc⟩ := S.at_ 0 (by omega)
  intro x hx
  rw [hb] at hx
  simp [blkA] at hx
  subst hx
  exact cell_lt (hc 0 (by simp))

theorem early_spec {h : Heap} {a : Option Addr} {n c : Nat} {xs : List Opn} (S : Sl h a n c xs) : CallH Tryz.prog 8 [.slice a n c] h (fun v h' => Keeps [] h h' ∧ ∃ c', v = .slice a (min n 50) c' ∧ Sl h' a (min n 50) c' (xs.take 50)) := by
  have hl := S.hlen
  have hc := S.hcap
  refine call_of hmix Tryz.func8 rfl ok8 (by simp [Tryz.f8]) ?_
  conv => whnf
  refine SliceR.i 0 (min n 50) rfl (by split <;> omega) (Nat.zero_le _) (by omega) ?_
  conv => whnf
  have P := S.part (l := 0) (r := min n 50) (Nat.zero_le _) (by omega)
  rw [List.drop_zero] at P
  have e : xs.take (min n 50) = xs.take 50 := by
    rw [hl, ← List.take_take]
    exact List.take_of_length_le (by rw [List.length_take]; omega)
  rw [e, slA_zero] at P
  refine ⟨Keeps.refl _ _, _, ?_, P⟩
  rw [slA_zero]; rfl

/-- a run of a file's: what holds between steps -/
structure RunI (h0 h : Heap) (f : Nat) (node : Int) (V : VL) (M : MemS) (c : Crd) (m : List Int) (s : List UInt8) : Prop where
  k : Keeps [] h0 h
  idle : Idle h V M
  file : FileO h f V node c s
  good : FileI M.read node c m s
  out : f ∉ V.blocks
  newf : h0.size ≤ f
  new : ∀ b ∈ V.blocks, h0.size ≤ b

theorem RunI.on {h0 h h' : Heap} {f : Nat} {node : Int} {V : VL} {M : MemS} {c : Crd} {m : List Int} {s : List UInt8} (R : RunI h0 h f node V M c m s) (k : Keeps [] h h') : RunI h0 h' f node V M c m s :=
  ⟨R.k.trans k, R.idle.on k, k.obj R.file (by simp), R.good, R.out, R.newf, R.new⟩

theorem RunI.step {h0 h h' : Heap} {f : Nat} {node : Int} {V : VL} {M : MemS} {c : Crd} {m : List Int} {s : List UInt8} (R : RunI h0 h f node V M c m s) (k : Keeps [f, V.v, V.mem.m, V.mem.lb, V.ob] h h') {cut : Option Int} {V' : VL} {M' : MemS} {c' : Crd} {m' : List Int} {s' : List UInt8} (L : Left h h' f V M node m s cut V' M' c' m' s') : RunI h0 h' f node V' M' c' m' s' := by
  refine ⟨R.k.nil_of k ?_, L.idle, L.file, L.good, L.out, R.newf, fun b hb => ?_⟩
  · intro y hy
    have q0 := R.newf
    have q1 := R.new V.ob (by simp [VL.blocks])
    have q2 := R.new V.v (by simp [VL.blocks])
    have q3 := R.new V.mem.m (by simp [VL.blocks, ML.blocks])
    have q4 := R.new V.mem.lb (by simp [VL.blocks, ML.blocks])
    simp only [List.mem_cons, List.not_mem_nil, or_false] at hy
    omega
  · have hz := R.k.size
    rcases L.new b hb with h | h
    · exact R.new b h
    · omega

theorem plays_law {h : Heap} {a : Option Addr} {n c : Nat} {xs : List Opn} (S : Sl h a n c xs) : CallH Tryz.prog 3 [.slice a n c] h (fun v h' => Keeps [] h h' ∧ v = .bool true) := by
  refine call_of hmix Tryz.func3 rfl ok3 (by simp [Tryz.f3]) ?_
  conv => whnf
  refine CallR.i (lives_spec h) fun v h1 k1 hv => ?_
  subst hv
  conv => whnf
  first | refine IfR.f rfl ?_ | (refine MeetR.pass ?_; (conv => whnf); refine IfR.f rfl ?_)
  conv => whnf
  refine CallR.i (two_spec h1) fun v h2 k2 hv => ?_
  obtain ⟨V, f, g, rfl, I2, f2, g2, n1, n2, n3, n4, n5, n6⟩ := hv
  have z1 := k1.size
  have R2 : RunI h h2 f 2 V M0 (freshC 1 1) m0 [] := ⟨k1.trans k2, I2, f2, fresh_file (by decide) (fun x h0 h1 => by rw [read_img0, b0_owner h0 h1]; decide), n2, by omega, fun b hb => by have := n6 b hb; omega⟩
  conv => whnf
  refine IdxR.i 0 rfl (by decide) ?_
  conv => whnf
  refine NthR.i rfl ?_
  conv => whnf
  refine CallR.i (early_spec (S.keep R2.k)) fun v h3 k3 hv => ?_
  obtain ⟨c3, rfl, S3⟩ := hv
  have R3 := R2.on k3
  have hl3 := S3.hlen
  conv => whnf
  refine LoopR.on [0, 3, 4] [] (fun i : Nat => [(0, .v (.slice a (min n 50) c3)), (3, .v (.pointer (some ⟨f, 0, none⟩))), (4, .v (.int .i64 (i : Int)))]) (fun _ => []) (fun i h' => i ≤ min n 50 ∧ Sl h' a (min n 50) c3 (xs.take 50) ∧ ∃ V M c m s, RunI h h' f 2 V M c m s) (fun i => min n 50 - i) 0 ?_ ?_
  · conv => whnf
    exact ⟨0, rfl, rfl, rfl, Nat.zero_le _, S3, _, _, _, _, _, R3⟩
  · rintro i h4 ⟨hi, S4, V4, M4, c4, m4, s4, R4⟩
    conv => whnf
    refine IfR.i (fun hd => ?_) (fun hd => ?_)
    · have hi1 : i < (xs.take 50).length := by simp at hd; omega
      obtain ⟨b5, o5, hb5, cs, ⟨rfl, y1, y2, y3, y4⟩, hc5⟩ := S4.at_ i hi1
      generalize (xs.take 50)[i] = op at hc5 y1 y2 y3 y4
      obtain ⟨ok, oa, on_, od⟩ := op
      obtain ⟨data, rfl⟩ : ∃ l : List UInt8, od = ⟨l.toArray⟩ := ⟨od.data.toList, rfl⟩
      simp only at hc5 y1 y2 y3 y4
      have hdl : data.length ≤ 140737488351232 := by rw [← ba_size]; exact y4
      conv => whnf
      first | refine IdxS.i i rfl (by omega) hb5 ?_ | (refine MeetR.pass ?_; (conv => whnf); refine IdxS.i i rfl (by omega) hb5 ?_)
      conv => whnf
      refine LoadN.i (vs := [.int .i64 ok, .int .i64 oa, .int .i64 on_, .string ⟨data.toArray⟩]) rfl hc5 ?_
      conv => whnf
      refine CallR.m (step_spec R4.idle (by decide) R4.file R4.good R4.out ok oa on_ data hdl) (by simp [blocksOf]) fun v h6 k6 hv => ?_
      obtain ⟨rfl, V6, M6, c6, m6, s6, L6⟩ := hv
      conv => whnf
      refine IfR.f rfl ?_
      conv => whnf
      refine ⟨min n 50 - (i + 1), by omega, ?_⟩
      conv => whnf
      refine ⟨i + 1, rfl, by rw [wrapN (n := i + 1) (by simp) (by omega)], rfl, by omega, ?_, _, _, _, _, _, R4.step k6 L6⟩
      refine S4.keepM k6 fun b hb hx => ?_
      have hlt : b < h.size := S.lt4 (by have := S.hlen; rw [List.length_take] at hi1; omega) b hb
      have q0 := R4.newf
      have q1 := R4.new V4.ob (by simp [VL.blocks])
      have q2 := R4.new V4.v (by simp [VL.blocks])
      have q3 := R4.new V4.mem.m (by simp [VL.blocks, ML.blocks])
      have q4 := R4.new V4.mem.lb (by simp [VL.blocks, ML.blocks])
      simp only [List.mem_cons, List.not_mem_nil, or_false] at hx
      omega
    · conv => whnf
      refine CallR.i (whole_spec R4.idle R4.file R4.good) fun v h6 k6 hv => ?_
      subst hv
      conv => whnf
      exact ⟨R4.k.trans k6, rfl⟩

/-- nobody else has a block -/
def Only (now : Int → UInt64) (node : Int) : Prop := ∀ k, 0 ≤ k → k < 96 → now (200 + k) = 0 ∨ now (200 + k) = w64 (node + 1)
theorem Only.on {f g : Int → UInt64} {node : Int} (O : Only f node) (R : Fr node f g) (hn : 0 ≤ node ∧ node < 24) : Only g node := by
  intro k h0 h1
  rcases O k h0 h1 with h | h
  · rcases (R.oth k h0 h1 (by rw [h]; exact fun e => w64_ne hn e.symm)).1 with r | ⟨_, r⟩
    · left; rw [r, h]
    · exact .inr r
  · exact (R.mine k h0 h1 h).symm

theorem FileI.none_ {now : Int → UInt64} {node : Int} {c : Crd} {m : List Int} {s : List UInt8} (F : FileI now node c m s) (h : ∀ j : Nat, j < 21 → m[j]?.getD (-1) = -1) : usedL c.more m = [] := by
  have hl := F.wk.len
  have hall : ∀ x ∈ m, x = -1 := by
    intro x hx
    obtain ⟨j, hj, rfl⟩ := List.mem_iff_getElem.1 hx
    have := h j (by omega)
    rwa [F.wk.at_ (by omega)] at this
  have hmo : c.more = -1 := F.mor.2 (List.any_eq_false.2 fun x hx => by rw [hall x (List.mem_of_mem_drop hx)]; decide)
  rw [usedL_cons, if_pos hmo, List.filter_eq_nil_iff]
  intro x hx
  rw [hall x hx]; decide

theorem free_all {now : Int → UInt64} {node : Int} {c : Crd} {m : List Int} {s : List UInt8} (F : FileI now node c m s) (O : Only now node) (h : usedL c.more m = []) : freeN now ⟨now, [], [], [], []⟩ 96 = 96 := by
  unfold freeN
  rw [List.filter_eq_self.2, List.length_range]
  intro k hk
  have hk' : k < 96 := by simpa using hk
  have h0 : now (200 + (k : Int)) = 0 := by
    rcases O (k : Int) (by omega) (by omega) with e | e
    · exact e
    · have := (F.wk.own (k : Int) (by omega) (by omega)).2 e
      rw [h] at this; cases this
  unfold freshB
  simp [h0]; omega

/-- the loop over a script: plays_law's, with what others own -/
theorem none_law {h : Heap} {a : Option Addr} {n c : Nat} {xs : List Opn} (S : Sl h a n c xs) (size : Int) (hs : inI64 size) : CallH Tryz.prog 5 [.slice a n c, .int .i64 size] h (fun v h' => Keeps [] h h' ∧ v = .bool true) := by
  refine call_of hmix Tryz.func5 rfl ok5 (by simp [Tryz.f5]) ?_
  conv => whnf
  refine CallR.i (lives_spec h) fun v h1 k1 hv => ?_
  subst hv
  conv => whnf
  first | refine IfR.f rfl ?_ | (refine MeetR.pass ?_; (conv => whnf); refine IfR.f rfl ?_)
  conv => whnf
  refine CallR.i (two_spec h1) fun v h2 k2 hv => ?_
  obtain ⟨V, f, g, rfl, I2, f2, g2, n1, n2, n3, n4, n5, n6⟩ := hv
  have z1 := k1.size
  have R2 : RunI h h2 f 2 V M0 (freshC 1 1) m0 [] := ⟨k1.trans k2, I2, f2, fresh_file (by decide) (fun x h0 h1 => by rw [read_img0, b0_owner h0 h1]; decide), n2, by omega, fun b hb => by have := n6 b hb; omega⟩
  have O2 : Only M0.read 2 := fun k h0 h1 => .inl (by rw [read_img0]; exact b0_owner h0 h1)
  conv => whnf
  refine IdxR.i 0 rfl (by decide) ?_
  conv => whnf
  refine NthR.i rfl ?_
  conv => whnf
  refine CallR.i (early_spec (S.keep R2.k)) fun v h3 k3 hv => ?_
  obtain ⟨c3, rfl, S3⟩ := hv
  have R3 := R2.on k3
  have hl3 := S3.hlen
  conv => whnf
  refine LoopR.on [0, 1, 5, 6] [] (fun i : Nat => [(0, .v (.slice a (min n 50) c3)), (1, .v (.int .i64 size)), (5, .v (.pointer (some ⟨f, 0, none⟩))), (6, .v (.int .i64 (i : Int)))]) (fun _ => []) (fun i h' => i ≤ min n 50 ∧ Sl h' a (min n 50) c3 (xs.take 50) ∧ ∃ V M c m s, RunI h h' f 2 V M c m s ∧ Only M.read 2) (fun i => min n 50 - i) 0 ?_ ?_
  · conv => whnf
    exact ⟨0, rfl, rfl, rfl, Nat.zero_le _, S3, _, _, _, _, _, R3, O2⟩
  · rintro i h4 ⟨hi, S4, V4, M4, c4, m4, s4, R4, O4⟩
    conv => whnf
    refine IfR.i (fun hd => ?_) (fun hd => ?_)
    · have hi1 : i < (xs.take 50).length := by simp at hd; omega
      obtain ⟨b5, o5, hb5, cs, ⟨rfl, y1, y2, y3, y4⟩, hc5⟩ := S4.at_ i hi1
      generalize (xs.take 50)[i] = op at hc5 y1 y2 y3 y4
      obtain ⟨ok, oa, on_, od⟩ := op
      obtain ⟨data, rfl⟩ : ∃ l : List UInt8, od = ⟨l.toArray⟩ := ⟨od.data.toList, rfl⟩
      simp only at hc5 y1 y2 y3 y4
      have hdl : data.length ≤ 140737488351232 := by rw [← ba_size]; exact y4
      conv => whnf
      first | refine IdxS.i i rfl (by omega) hb5 ?_ | (refine MeetR.pass ?_; (conv => whnf); refine IdxS.i i rfl (by omega) hb5 ?_)
      conv => whnf
      refine LoadN.i (vs := [.int .i64 ok, .int .i64 oa, .int .i64 on_, .string ⟨data.toArray⟩]) rfl hc5 ?_
      conv => whnf
      refine CallR.m (step_spec R4.idle (by decide) R4.file R4.good R4.out ok oa on_ data hdl) (by simp [blocksOf]) fun v h6 k6 hv => ?_
      obtain ⟨rfl, V6, M6, c6, m6, s6, L6⟩ := hv
      conv => whnf
      refine IfR.f rfl ?_
      conv => whnf
      refine ⟨min n 50 - (i + 1), by omega, ?_⟩
      conv => whnf
      refine ⟨i + 1, rfl, by rw [wrapN (n := i + 1) (by simp) (by omega)], rfl, by omega, ?_, _, _, _, _, _, R4.step k6 L6, O4.on L6.fr (by decide)⟩
      refine S4.keepM k6 fun b hb hx => ?_
      have hlt : b < h.size := S.lt4 (by have := S.hlen; rw [List.length_take] at hi1; omega) b hb
      have q0 := R4.newf
      have q1 := R4.new V4.ob (by simp [VL.blocks])
      have q2 := R4.new V4.v (by simp [VL.blocks])
      have q3 := R4.new V4.mem.m (by simp [VL.blocks, ML.blocks])
      have q4 := R4.new V4.mem.lb (by simp [VL.blocks, ML.blocks])
      simp only [List.mem_cons, List.not_mem_nil, or_false] at hx
      omega
    · have hrem : IntKind.i64.wrap ((IntKind.u64.wrap size).tmod 2689) = (((size % 18446744073709551616) % 2689).toNat : Int) := by
        rw [wrap_u64', Int.tmod_eq_emod_of_nonneg (by omega), wrapI (by omega) (by omega)]; omega
      obtain ⟨z, hz⟩ : ∃ z : Nat, z = ((size % 18446744073709551616) % 2689).toNat := ⟨_, rfl⟩
      have hz2 : z ≤ 2688 := by omega
      conv => whnf
      refine Need.i (by decide) ?_
      have hk1 : kindP 1 = 1 := by decide
      conv => whnf
      refine CallR.m (step_spec R4.idle (by decide) R4.file R4.good R4.out 1 0 0 [] (by simp)) (by simp [blocksOf]) fun v h6 k6 hv => ?_
      rw [if_pos ⟨hk1, by decide, by decide⟩] at hv
      obtain ⟨rfl, V6, M6, c6, m6, s6, L6⟩ := hv
      have R6 := R4.step k6 L6
      have O6 := O4.on L6.fr (by decide)
      obtain ⟨hs6, _⟩ := L6.cut_ 0 rfl
      have hs6' : s6 = [] := by
        rw [hs6]; unfold refCutL
        rw [if_neg (by decide), if_neg (by decide), if_pos (by omega)]
        rfl
      subst hs6'
      have hol6 : ∀ j : Nat, j < 21 → m6[j]?.getD (-1) = -1 := fun j hj => R6.good.hol j hj (by simp)
      have hu6 := R6.good.none_ hol6
      conv => whnf
      refine IfR.t rfl ?_
      conv => whnf
      refine CallR.i (own_spec R6.idle (by decide) R6.file R6.good) fun v h7 k7 hv => ?_
      rw [hu6] at hv
      subst hv
      have R7 := R6.on k7
      have F7 := R7.file
      unfold FileO at F7
      rw [own_cells] at F7
      conv => whnf
      refine LoadR.o F7 rfl ?_
      conv => whnf
      refine IfR.t rfl ?_
      conv => whnf
      refine CallR.i (free_spec R7.idle.at_) fun v h8 k8 hv => ?_
      rw [free_all R6.good O6 hu6] at hv
      subst hv
      have R8 := R7.on k8
      conv => whnf
      refine IfR.t rfl ?_
      conv => whnf
      rw [hrem, ← hz]
      refine CallR.m (step_spec R8.idle (by decide) R8.file R8.good R8.out 1 (z : Int) 0 [] (by simp)) (by simp [blocksOf]) fun v h9 k9 hv => ?_
      rw [if_pos ⟨hk1, by omega, by omega⟩] at hv
      obtain ⟨rfl, V9, M9, c9, m9, s9, L9⟩ := hv
      have R9 := R8.step k9 L9
      obtain ⟨hs9, hh9⟩ := L9.cut_ z rfl
      have hs9' : s9 = zeros z := by
        rw [hs9]; unfold refCutL
        rw [if_neg (by omega), if_neg (by omega)]
        split
        · have : z = 0 := by simp at *; omega
          subst this; rfl
        · simp
      subst hs9'
      have hu9 := R9.good.none_ (fun j hj => hh9 j hj (hol6 j hj))
      conv => whnf
      refine IfR.f rfl ?_
      have F9 := R9.file
      unfold FileO at F9
      rw [own_cells] at F9
      conv => whnf
      refine LoadR.o F9 rfl ?_
      conv => whnf
      refine LoadN.o F9 rfl ?_
      conv => whnf
      refine CallR.i (fread_spec R9.idle R9.good 0 4096) fun v h10 k10 hv => ?_
      rw [ref_whole R9.good.fits] at hv
      subst hv
      have R10 := R9.on k10
      have hbz := ba_size (zeros z)
      have hzl : (zeros z).length = z := by simp [zeros]
      conv => whnf
      refine LoopR.on [1, 5, 7, 8, 9] [] (fun i : Nat => [(1, .v (.int .i64 (z : Int))), (5, .v (.pointer (some ⟨f, 0, none⟩))), (7, .v (.string ⟨(zeros z).toArray⟩)), (8, .v (.int .i64 0)), (9, .v (.int .i64 (i : Int)))]) (fun _ => []) (fun i h' => i ≤ z ∧ Keeps [] h10 h') (fun i => z - i) 0 ?_ ?_
      · conv => whnf
        refine ⟨0, rfl, ?_, rfl, Nat.zero_le _, Keeps.refl _ _⟩
        first | rfl | (rw [hrem, ← hz]; rfl)
      · rintro i h11 ⟨hi, k11⟩
        conv => whnf
        refine IfR.i (fun he => ?_) (fun he => ?_)
        · have hi1 : i < z := by
            have : (i : Int) < ((ByteArray.mk (zeros z).toArray).size : Int) := by simpa using he
            rw [hbz, hzl] at this; omega
          conv => whnf
          refine IdxR.i i rfl (by rw [hbz, hzl]; exact hi1) ?_
          have hb0 : byteN ⟨(zeros z).toArray⟩ i = 0 := by
            simp [byteN, zeros, hi1]
          conv => whnf
          refine IfR.f (by rw [hb0]; rfl) ?_
          conv => whnf
          refine ⟨z - (i + 1), by omega, ?_⟩
          conv => whnf
          exact ⟨i + 1, rfl, by rw [wrapN (n := i + 1) (by simp) (by omega)], rfl, by omega, k11⟩
        · have hi1 : i = z := by
            have : ¬ (i : Int) < ((ByteArray.mk (zeros z).toArray).size : Int) := by simpa using he
            rw [hbz, hzl] at this; omega
          conv => whnf
          refine IfR.t (by rw [hbz, hzl]; simp) ?_
          conv => whnf
          refine CallR.i (own_spec (R10.on k11).idle (by decide) (R10.on k11).file R9.good) fun v h12 k12 hv => ?_
          rw [hu9] at hv
          subst hv
          conv => whnf
          refine ⟨((R10.on k11).on k12).k, ?_⟩
          rw [hbz, hzl]; simp
end Go.Proofs.YtlloemmpnhoanaaGreat
