/-
  Layer 10's law: a file's own blocks; whole.
-/
import Derived.Test.YtlloemmpnhoanaaGreatFileG
set_option linter.all false
set_option maxRecDepth 100000
set_option maxHeartbeats 1000000
namespace Go.Proofs.YtlloemmpnhoanaaGreat
open Go Go.Eng

theorem own_cells {V : VL} {node : Int} {c : Crd} {s : ByteArray} : fileC V node c s = [.pointer (some ⟨V.v, 0, none⟩), .pointer (some ⟨V.mem.m, 0, none⟩), .int .i64 node, .int .i64 c.kind, .int .i64 c.links, .int .i64 c.size, wv c.ver, .int .i64 c.d0, .int .i64 c.d1, .int .i64 c.d2, .int .i64 c.d3, .int .i64 c.d4, .int .i64 c.more, .string s] := rfl

/-- a file's map, and its block behind -/
def ownL (c : Crd) (m : List Int) : List Int := if 0 ≤ c.more then m ++ [c.more] else m

theorem ownL_used {now : Int → UInt64} {node : Int} {c : Crd} {m : List Int} {s : List UInt8} (F : FileI now node c m s) : ((ownL c m).filter usedB).Perm (usedL c.more m) := by
  unfold ownL
  rw [usedL_cons]
  have hr := F.wk.rng c.more List.mem_cons_self
  unfold blkOk at hr
  by_cases h : c.more = -1
  · rw [if_neg (by omega), if_pos h]
  · rw [if_pos (by omega), if_neg h, List.filter_append, List.filter_cons, if_pos (usedB_t.2 h), List.filter_nil]
    exact List.perm_append_comm

theorem nodup_filter_before : ∀ {l : List Int} {i : Nat} (hi : i < l.length), (l.filter usedB).Nodup → l[i] ≠ -1 → l[i] ∉ l.take i
  | [], i, hi, _, _ => by simp at hi
  | x :: l, 0, _, _, _ => by simp
  | x :: l, i + 1, hi, h, hu => by
    simp only [List.getElem_cons_succ] at hu ⊢
    have h' : (l.filter usedB).Nodup := by
      rw [List.filter_cons] at h
      split at h
      · exact (List.nodup_cons.1 h).2
      · exact h
    rw [List.take_succ_cons, List.mem_cons]
    rintro (e | e)
    · rw [List.filter_cons, if_pos (usedB_t.2 (by rw [← e]; exact hu))] at h
      exact (List.nodup_cons.1 h).1 (List.mem_filter.2 ⟨by rw [← e]; exact List.getElem_mem _, usedB_t.2 (by rw [← e]; exact hu)⟩)
    · exact nodup_filter_before (by simpa using hi) h' hu e

theorem own_spec {h : Heap} {V : VL} {M : MemS} (I : Idle h V M) {f : Nat} {node : Int} (hn : 0 ≤ node ∧ node < 24) {c : Crd} {m : List Int} {s s0 : List UInt8} (hf : FileO h f V node c s0) (F : FileI M.read node c m s) :
    CallH Tryz.prog 11 [.pointer (some ⟨f, 0, none⟩)] h (fun v h' => Keeps [] h h' ∧ v = .int .i64 (((usedL c.more m).length : Nat) : Int)) := by
  have hrng : ∀ x ∈ ownL c m, blkOk x := by
    intro x hx
    unfold ownL at hx
    split at hx
    · rcases List.mem_append.1 hx with h | h
      · exact F.wk.rng x (List.mem_cons_of_mem _ h)
      · exact F.wk.rng x (by rw [List.mem_singleton.1 h]; exact List.mem_cons_self)
    · exact F.wk.rng x (List.mem_cons_of_mem _ hx)
  have hper := ownL_used F
  have hnd : ((ownL c m).filter usedB).Nodup := hper.symm.nodup F.wk.nod
  have hown : ∀ x ∈ ownL c m, x ≠ -1 → M.read (200 + x) = w64 (node + 1) := by
    intro x hx hu
    have hb := hrng x hx
    unfold blkOk at hb
    exact (F.wk.own x (by omega) (by omega)).1 (hper.mem_iff.1 (List.mem_filter.2 ⟨hx, usedB_t.2 hu⟩))
  have hl := F.wk.len
  have hol : (ownL c m).length = if 0 ≤ c.more then 22 else 21 := by
    unfold ownL; split <;> simp [hl]
  have hole : (ownL c m).length ≤ 22 := by rw [hol]; split <;> omega
  have hint : ∀ x ∈ ownL c m, inI64 x := fun x hx => by have := hrng x hx; unfold blkOk at this; unfold inI64; omega
  refine call_of hmix Tryz.func11 rfl ok11 (by simp [Tryz.f11]) ?_
  conv => whnf
  unfold FileO at hf
  rw [own_cells] at hf
  refine LoadR.o hf rfl ?_
  conv => whnf
  refine LoadN.o hf rfl ?_
  conv => whnf
  refine CallR.i (map_full I.at_ c F.ok) fun v h1 k1 hv => ?_
  rw [F.map] at hv
  obtain ⟨b, cap, sp, rfl, I1, n1, c1, hcap⟩ := hv
  have hf1 := k1.obj hf (by simp)
  have hinm : ∀ x ∈ m, inI64 x := fun x hx => by have := F.wk.rng x (List.mem_cons_of_mem _ hx); unfold blkOk at this; unfold inI64; omega
  have O1 : Own h1 3 1 (some ⟨b, 0, none⟩) 21 cap (m.map fun x => .int .i64 x) := .inr ⟨b, _, rfl, I1, by simp, by simp [hl]; omega, by simp [hl], c1⟩
  conv => whnf
  refine IfR.f rfl ?_
  conv => whnf
  refine MeetR.pass ?_
  conv => whnf
  refine LoadR.o hf1 rfl ?_
  conv => whnf
  refine IfR.i (fun hd => ?c1) (fun hd => ?c2)
  case' c1 =>
    have hm : 0 ≤ c.more := by simpa using hd
    have hoe : ownL c m = m ++ [c.more] := by unfold ownL; rw [if_pos hm]
    conv => whnf
    refine LoadR.o hf1 rfl ?_
    conv => whnf
    refine AllocR.i fun b2 h2 e2 s2 o2 k2 => ?_
    conv => whnf
    refine one_append (O1.keep k2 (by simp)) (by simp [hl]) (by omega) o2 (by simp [blocksOf]) fun aa cc h3 O3 k3 n3 => ?_
    have hz1 := k1.size
    have k03 : Keeps [] h h3 := (k1.trans k2).nil_of k3 (by intro x hx; simp [blkA] at hx; omega)
    rw [← hoe] at O3
    obtain ⟨nn, hnn⟩ : ∃ x, x = 21 + 1 := ⟨_, rfl⟩
    rw [← hnn] at O3 ⊢
    have hn3 : nn = (ownL c m).length := by rw [hnn, hol, if_pos hm]
  case' c2 =>
    have hm : ¬ 0 ≤ c.more := by simpa using hd
    have hoe : ownL c m = m := by unfold ownL; rw [if_neg hm]
    obtain ⟨h3, rfl⟩ : ∃ x, x = h1 := ⟨_, rfl⟩
    have k03 := k1
    obtain ⟨aa, haa⟩ : ∃ x, x = (some ⟨b, 0, none⟩ : Option Addr) := ⟨_, rfl⟩
    obtain ⟨nn, hnn⟩ : ∃ x, x = 21 := ⟨_, rfl⟩
    obtain ⟨cc, hcc⟩ : ∃ x, x = cap := ⟨_, rfl⟩
    have O3 : Own h3 3 1 aa nn cc ((ownL c m).map fun x => .int .i64 x) := by rw [haa, hnn, hcc, hoe]; exact O1
    have hsl : Value.slice (some ⟨b, 0, none⟩) 21 cap = .slice aa nn cc := by rw [haa, hnn, hcc]
    rw [hsl]
    have hn3 : nn = (ownL c m).length := by rw [hnn, hol, if_neg hm]
  all_goals
    have hf3 := k03.obj hf (by simp)
    have S3 : Sl h3 aa nn cc (ownL c m) := O3.sl (reps_ints h3 _ hint) rfl (by decide) (by omega)
    have I3 := I.on k03
    conv => whnf
    refine LoopR.on [0, 3, 5, 6] [] (fun i : Nat => [(0, .v (.pointer (some ⟨f, 0, none⟩))), (3, .v (.slice aa nn cc)), (5, .v (.int .i64 ((((ownL c m).take i).filter usedB).length : Nat))), (6, .v (.int .i64 (i : Int)))]) (fun _ => []) (fun i h' => i ≤ (ownL c m).length ∧ Keeps [] h3 h') (fun i => (ownL c m).length - i) 0 ?_ ?_
    · conv => whnf
      exact ⟨0, rfl, rfl, rfl, Nat.zero_le _, Keeps.refl _ _⟩
    · rintro i h4 ⟨hi, k4⟩
      have hf4 := k4.obj hf3 (by simp)
      conv => whnf
      refine IfR.i (fun hd => ?_) (fun hd => ?_)
      · have hi1 : i < (ownL c m).length := by simp at hd; omega
        obtain ⟨b5, o5, hb5, _, hc5⟩ := (S3.keep k4).at1 i hi1
        have hb := hrng _ (List.getElem_mem hi1)
        unfold blkOk at hb
        have htk := List.take_succ_eq_append_getElem hi1
        conv => whnf
        first | refine IdxS.i i rfl (by omega) hb5 ?_ | (refine MeetR.pass ?_; (conv => whnf); refine IdxS.i i rfl (by omega) hb5 ?_)
        conv => whnf
        refine LoadR.i hc5 ?_
        conv => whnf
        refine IfR.i (fun he => ?_) (fun he => ?_)
        · have hx : (ownL c m)[i] = -1 := by simp at he; omega
          conv => whnf
          refine ⟨(ownL c m).length - (i + 1), by omega, ?_⟩
          conv => whnf
          refine ⟨i + 1, rfl, ?_, rfl, by omega, k4⟩
          rw [wrapN (n := i + 1) (by simp) (by omega), htk, List.filter_append, List.filter_cons, if_neg (by rw [hx]; decide), List.filter_nil, List.append_nil]
        · have hx : (ownL c m)[i] ≠ -1 := by simp at he; omega
          have hox := hown _ (List.getElem_mem hi1) hx
          have hnin := nodup_filter_before hi1 hnd hx
          have hop : ownerP ⟨M.read, [], [], [], []⟩ (ownL c m)[i] = (node, 0) := by
            have hw := w64_toNat (node + 1)
            unfold ownerP
            simp only [hox]
            rw [if_pos (by omega), if_neg (by omega)]
            refine Prod.ext ?_ rfl
            show ((w64 (node + 1)).toNat : Int) - 1 = node
            omega
          conv => whnf
          refine LoadR.o hf4 rfl ?_
          conv => whnf
          refine IdxS.i i rfl (by omega) hb5 ?_
          conv => whnf
          refine LoadR.i hc5 ?_
          conv => whnf
          refine CallR.i (owner_spec (I3.on k4).at_ _) fun v h6 k6 hv => ?_
          rw [hop] at hv
          subst hv
          have k36 := k4.trans k6
          have hf6 := k6.obj hf4 (by simp)
          have S6 := S3.keep k36
          obtain ⟨b7, o7, hb7, _, hc7⟩ := S6.at1 i hi1
          conv => whnf
          refine LoadR.o hf6 rfl ?_
          have hcp := S3.hcap
          have hln := S3.hlen
          conv => whnf
          refine SliceR.i 0 i rfl rfl (Nat.zero_le _) (by omega) ?_
          conv => whnf
          refine IdxS.i i rfl (by omega) hb7 ?_
          conv => whnf
          refine LoadR.i hc7 ?_
          conv => whnf
          refine IfR.t (by simp) ?_
          have S7 := S6.part (l := 0) (r := i) (Nat.zero_le _) (by omega)
          rw [List.drop_zero] at S7
          conv => whnf
          refine CallR.i (has_spec S7 (by omega) _) fun v h8 k8 hv => ?_
          rw [decide_eq_false hnin] at hv
          subst hv
          conv => whnf
          first | refine IfR.f (by simp) ?_ | (refine MeetR.pass ?_; (conv => whnf); refine IfR.f (by simp) ?_)
          conv => whnf
          refine ⟨(ownL c m).length - (i + 1), by omega, ?_⟩
          conv => whnf
          refine ⟨i + 1, rfl, ?_, rfl, by omega, k36.trans k8⟩
          have hle : ((ownL c m).take i |>.filter usedB).length ≤ 22 := Nat.le_trans (List.length_filter_le _ _) (Nat.le_trans (by rw [List.length_take]; exact Nat.min_le_right _ _) hole)
          have hfl : ((ownL c m).take (i + 1) |>.filter usedB).length = ((ownL c m).take i |>.filter usedB).length + 1 := by
            rw [htk, List.filter_append, List.filter_cons, if_pos (usedB_t.2 hx), List.filter_nil, List.length_append]; rfl
          rw [wrapN (x := (i : Int) + 1) (n := i + 1) (by simp) (by omega), hfl, wrapN (x := ((((ownL c m).take i |>.filter usedB).length : Nat) : Int) + 1) (n := ((ownL c m).take i |>.filter usedB).length + 1) (by simp) (by omega)]
      · have hi1 : i = (ownL c m).length := by simp at hd; omega
        subst hi1
        conv => whnf
        refine ⟨k03.trans k4, ?_⟩
        rw [List.take_length, hper.length_eq]
end Go.Proofs.YtlloemmpnhoanaaGreat
