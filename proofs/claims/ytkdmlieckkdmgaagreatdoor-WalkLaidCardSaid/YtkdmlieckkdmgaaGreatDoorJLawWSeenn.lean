/-
  Joined texts: MemC, LayA, LayB, BegA, BegB, LivA, LivB, SrtL, SrtK, SrtM, SeeA, LaiA.
-/
import Derived.Test.YtkdmlieckkdmgaaGreatDoorJLawWSeenm
import Derived.Test.YtkdmlieckkdmgaaGreatDoorJLawWSeeni
import Derived.Test.YtkdmlieckkdmgaaGreatDoorJLawWSeeng
import Derived.Test.YtkdmlieckkdmgaaGreatDoorJLawWSeenj
import Derived.Shelf.SlLaysZI
import Derived.Shelf.SlLaysM
import Derived.Test.YtkdmlieckkdmgaaGreatDoorProg
import Derived.Shelf.SlIterI.Nil
import Derived.Test.YtkdmlieckkdmgaaGreatDoorJLawWSeend
import Derived.Shelf.SortM.Plain
import Derived.Shelf.SortM.SortNone
import Derived.Test.YtkdmlieckkdmgaaGreatDoorJLawWSeene
import Derived.Test.YtkdmlieckkdmgaaGreatDoorJLawWSeenh
/-
  Layer 2: what is on its way is made sure.
-/
set_option linter.all false
set_option maxRecDepth 100000
set_option maxHeartbeats 2000000
namespace Go.Proofs.YtkdmlieckkdmgaaGreatDoor
open Go Go.Eng

theorem nodup_mid {a : Int} {l1 l2 : List Int} : (l1 ++ a :: l2).Nodup ↔ (a :: (l1 ++ l2)).Nodup := List.perm_middle.nodup_iff

theorem own_sl {h : Heap} {a : Option Addr} {n c : Nat} {ws : List UInt64} (O : Own h 32 1 a n c (ws.map wv)) (hb : ws.length ≤ 281474976710656) : Sl h a n c ws := by
  exact O.sl (α := UInt64) (reps_w h ws) rfl (by decide) hb

theorem lk_erase {l : List (Int × UInt64)} {j : Nat} {n : Int} (hn : (l.map (·.1)).Nodup) (hj : (l[j]?).map (·.1) = some n) (k : Int) : lk (l.eraseIdx j) k = if k = n then none else lk l k := by
  induction l generalizing j with
  | nil => simp at hj
  | cons p l ih =>
    obtain ⟨a, v⟩ := p
    simp only [List.map_cons, List.nodup_cons] at hn
    cases j with
    | zero =>
      simp at hj
      subst hj
      simp only [List.eraseIdx_cons_zero, lk]
      by_cases e : k = a
      · rw [if_pos e, e]
        cases h : lk l a with
        | none => rfl
        | some w =>
          exfalso
          apply hn.1
          clear ih hn
          induction l with
          | nil => cases h
          | cons q l ih =>
            obtain ⟨b, u⟩ := q
            simp only [lk] at h
            simp only [List.map_cons, List.mem_cons]
            split at h
            · rename_i e; exact .inl e
            · exact .inr (ih h)
      · rw [if_neg e, if_neg e]
    | succ j =>
      have hj' : (l[j]?).map (·.1) = some n := by simpa using hj
      have hna : n ≠ a := by
        rintro rfl
        apply hn.1
        simp only [Option.map_eq_some_iff] at hj'
        obtain ⟨q, hq, rfl⟩ := hj'
        exact List.mem_map.2 ⟨q, List.mem_of_getElem? hq, rfl⟩
      simp only [List.eraseIdx_cons_succ, lk]
      rw [ih hn.2 hj']
      by_cases e : k = a
      · rw [if_pos e, if_pos e, if_neg (fun x => hna (x.symm.trans e))]
      · rw [if_neg e, if_neg e]

theorem mapW_erase (l : List (Int × UInt64)) (j : Nat) : (mapW l).eraseIdx j = mapW (l.eraseIdx j) := by
  unfold mapW
  exact eraseIdx_mp _ l j

theorem keysW {h : Heap} {r : Nat} {l : List (Int × UInt64)} (o : MapL h r (mapW l)) : (l.map (·.1)).Nodup := by
  obtain ⟨es, cl, _, _, g, _⟩ := o
  have : (mapW l).map (·.1) = l.map (·.1) := by simp [mapW]
  rw [this] at g; exact g

theorem lk_key {l : List (Int × UInt64)} {x : Int} {v : UInt64} (h : lk l x = some v) : x ∈ l.map (·.1) := by
  induction l with
  | nil => cases h
  | cons p l ih =>
    obtain ⟨a, w⟩ := p
    simp only [lk] at h
    simp only [List.map_cons, List.mem_cons]
    split at h
    · rename_i e; exact .inl e
    · exact .inr (ih h)
theorem mapW_nil {l : List (Int × UInt64)} (h : mapW l = []) : l = [] := by
  unfold mapW at h
  exact List.map_eq_nil_iff.1 h

theorem fenceL_spec {h : Heap} {L : ML} {M : MemS} (A : MemAt h L M) (O : MemO h L M) (hu : M.until_ = -1) (hs : M.sure.length ≤ 1000000) (hw : ∀ p ∈ M.way, lk M.loose p.1 = some p.2 ∧ M.there p.1 = true) : CallH Tryz.prog 34 [.pointer (some ⟨L.m, 0, none⟩)] h (fun v h' => Keeps L.blocks h h' ∧ v = .int .i64 0 ∧
    ∃ N : MemS, MemAt h' L N ∧ MemO h' L N ∧ N.until_ = -1 ∧ N.sure.length = M.sure.length ∧ N.way = [] ∧ (∀ i, N.read i = M.read i) ∧ (∀ x, lk N.loose x ≠ none → lk M.loose x ≠ none ∧ lk M.way x = none)) := by
  have hc1 : (M.call true).1 = 0 := by
    unfold MemS.call
    rw [hu]
    simp
  have hc2 : (M.call true).2 = { M with calls := IntKind.i64.wrap (M.calls + 1) } := by
    unfold MemS.call
    rw [hu]
    simp
  refine call_of hmix Tryz.func34 rfl ok34 (by simp [Tryz.f34]) ?_
  conv => whnf
  refine CallR.m (call_spec A true) (by simp [blocksOf]) fun v h1 k1 hv => ?_
  obtain ⟨rfl, A1⟩ := hv
  rw [hc1]
  rw [hc2] at A1
  have O1 : MemO h1 L { M with calls := IntKind.i64.wrap (M.calls + 1) } := O.keep k1 (fun b hb => by simp; exact (A.ap2 b hb).1)
  conv => whnf
  refine IfR.f rfl ?_
  conv => whnf
  refine LoadR.o A1.obj rfl ?_
  conv => whnf
  refine SemR.range rfl A1.way fun it hR ei si ki IR => ?_
  have AR := A1.on ki
  have OR : MemO hR L { M with calls := IntKind.i64.wrap (M.calls + 1) } := Own.keep O1 ki (by simp)
  have bl := A1.blt
  have hwn := keysW A1.way
  generalize hM1 : ({ M with calls := IntKind.i64.wrap (M.calls + 1) } : MemS) = M1 at *
  have hread1 : ∀ i, M1.read i = M.read i := fun i => by subst hM1; rfl
  have hsure1 : M1.sure = M.sure := by subst hM1; rfl
  have hway1 : M1.way = M.way := by subst hM1; rfl
  have hloose1 : M1.loose = M.loose := by subst hM1; rfl
  have hunt1 : M1.until_ = -1 := by subst hM1; exact hu
  have itne : ∀ b ∈ L.blocks, b ≠ it := fun b hb => by have := bl b hb; omega
  conv => whnf
  refine LoopR.on [0, 15] [] (fun q : List (Int × UInt64) × MemS => [(0, .v (.pointer (some ⟨L.m, 0, none⟩))), (15, .v (.pointer (some ⟨it, 0, none⟩)))])
    (fun _ => []) (fun q h' => Keeps (it :: L.blocks) hR h' ∧ (∃ last, IterL h' it L.wb (mapW q.1) last) ∧ MemAt h' L q.2 ∧ MemO h' L q.2 ∧ q.2.until_ = -1 ∧ q.2.sure.length = M.sure.length ∧ (∀ i, q.2.read i = M.read i) ∧ (q.1.map (·.1)).Nodup ∧ (∀ p ∈ q.1, lk q.2.loose p.1 = some p.2 ∧ q.2.there p.1 = true) ∧ (∀ x, lk q.2.loose x ≠ none → lk M.loose x ≠ none ∧ (lk M.way x = none ∨ x ∈ q.1.map (·.1)))) (fun q => q.1.length) (M1.way, M1) ?_ ?_
  · conv => whnf
    refine ⟨(M1.way, M1), rfl, rfl, rfl, Keeps.refl _ _, ⟨none, IR⟩, AR, OR, hunt1, by rw [hsure1], hread1, hwn, fun p hp => ?_, fun x hx => ?_⟩
    · rw [hway1] at hp
      have := hw p hp
      rw [hloose1]
      refine ⟨this.1, ?_⟩
      unfold MemS.there
      rw [hsure1]; exact this.2
    · rw [hloose1] at hx
      refine ⟨hx, ?_⟩
      rw [hway1]
      cases hl : lk M.way x with
      | none => exact .inl rfl
      | some v => exact .inr (lk_key hl)
  · rintro ⟨R, N⟩ h2 ⟨k2, ⟨last, I2⟩, A2, O2, u2, s2, r2, n2, w2, y2⟩
    simp only at I2 A2 O2 u2 s2 r2 n2 w2 y2
    have wbit : it ≠ L.wb := fun e => itne L.wb (by simp [ML.blocks]) e.symm
    conv => whnf
    refine SemR.next I2 (by simp [blocksOf]) wbit (fun hR0 => ?_) (fun R1 p R2 h3 hRR s3 k3 I3 => ?_)
    · conv => whnf
      refine IfR.f rfl ?_
      conv => whnf
      refine LoadR.o A2.obj rfl ?_
      conv => whnf
      refine SemR.clearM rfl A2.way (by simp [blocksOf]) fun h3 s3 M3 k3 => ?_
      conv => whnf
      have a3 := A2.ap3
      refine ⟨?_, rfl, { N with way := [] }, ⟨k3.obj A2.obj (by simpa using a3.2), A2.sure.keepM k3 (fun b hb => by simpa using (A2.ap2 b hb).2.2), A2.loose.keep k3 (by simpa using A2.ap1), M3, A2.ap1, A2.ap2, fun b hb => Nat.lt_of_lt_of_le (A2.lt b hb) k3.size⟩, Own.keep O2 k3 (fun b hb => by simpa using (A2.ap2 b hb).2.2), u2, s2, rfl, r2, fun x hx => ?_⟩
      rotate_left
      · obtain ⟨y3, y4⟩ := y2 x hx
        refine ⟨y3, ?_⟩
        rcases y4 with h | h
        · exact h
        · have hR1 : R = [] := mapW_nil hR0
          rw [hR1] at h; simp at h
      have ka : Keeps L.blocks h hR := (k1.mono (by simp [ML.blocks])).trans_nil ki
      have kb : Keeps L.blocks h h2 := ka.trans_new k2 (fun x hx => by
        rcases List.mem_cons.1 hx with rfl | hx
        · right; have := k1.size; omega
        · exact .inl hx)
      exact kb.trans (k3.mono (by simp [ML.blocks]))
    · obtain ⟨m1, q, m2, rfl, rfl, rfl, rfl⟩ := mapW_split hRR
      obtain ⟨ql, qt⟩ := w2 q (by simp)
      conv => whnf
      refine IfR.t rfl ?_
      conv => whnf
      refine SemR.entry I3 ?_
      have A3 := A2.keep k3 (fun b hb => by simp; exact itne b hb)
      have O3 : MemO h3 L N := Own.keep O2 k3 (fun b hb => by simp; exact itne b (by simp [ML.blocks, hb]))
      conv => whnf
      refine LoadR.o A3.obj rfl ?_
      have hq0 : 0 ≤ q.1 ∧ q.1 < N.sure.length := by simpa [MemS.there] using qt
      have hlen := A3.sure.hlen
      have hO := O3
      rcases hO with ⟨_, h0, _⟩ | ⟨b, cs, hb, ob, ht, hcl, hll, hcc⟩
      · omega
      obtain ⟨i, hi⟩ : ∃ i : Nat, q.1 = (i : Int) := ⟨q.1.toNat, by omega⟩
      have hi1 : i < N.sure.length := by omega
      have hbm : b ∈ blkA L.sa := by rw [hb]; simp [blkA]
      have ap := A2.ap2 b hbm
      conv => whnf
      refine IdxS.i i (by exact hi) (by omega) hb ?_
      conv => whnf
      refine StoreR.i ob ?_ (by simp [blocksOf]) fun h4 s4 o4 k4 => ?_
      · show 0 + i * 1 + 1 ≤ cs.length
        omega
      have hset : (cs.set i (wv q.2)).take (N.sure.set i q.2).length = (N.sure.set i q.2).map wv := by
        rw [List.length_set, List.take_set, List.map_set]
        rw [List.length_map] at ht
        rw [ht]
      have o4' : h4[b]? = some (.cells ⟨cs.set i (wv q.2)⟩ 32 (0, 0)) := by
        rw [o4]
        have e : spliceL (0 + i * 1) [wv q.2] cs = cs.set i (wv q.2) := by
          rw [show 0 + i * 1 = i by omega, splice_set1 _ _ _ (by omega)]
        exact congrArg (fun x => some (Obj.cells ⟨x⟩ 32 (0, 0))) e
      have O4 : MemO h4 L { N with sure := N.sure.set i q.2 } := .inr ⟨b, _, hb, o4', by simpa using hset, by rw [List.length_set]; exact hcl, by simpa using hll, hcc⟩
      have kb4 : ∀ x ∈ L.blocks, x ≠ b → x ∉ [b] := fun x _ hx => by simpa using hx
      have A4 : MemAt h4 L { N with sure := N.sure.set i q.2 } := ⟨k4.obj A3.obj (by simpa using fun e => ap.1 e.symm), own_sl O4 (by rw [List.length_set]; omega), A3.loose.keep k4 (by simpa using fun e => ap.2.1 e.symm), A3.way.keep k4 (by simpa using fun e => ap.2.2 e.symm), A3.ap1, A3.ap2, fun x hx => Nat.lt_of_lt_of_le (A3.lt x hx) k4.size⟩
      conv => whnf
      refine LoadR.o A4.obj rfl ?_
      conv => whnf
      refine LookR.is A4.loose (by rw [lookI_mapW, ql]) ?_
      conv => whnf
      first | refine IfR.t (by simp) ?_ | (refine MeetR.pass ?_; (conv => whnf); refine IfR.t (by simp) ?_)
      conv => whnf
      refine LoadR.o A4.obj rfl ?_
      conv => whnf
      refine SemR.del rfl rfl A4.loose (n := q.1) (by rw [lookI_mapW, ql]; simp) (by simp [blocksOf]) fun h5 j hj hjn s5 M5 k5 => ?_
      have hjn' : (N.loose[j]?).map (·.1) = some q.1 := by
        have : ((mapW N.loose)[j]?).map (·.1) = some q.1 := hjn
        unfold mapW at this
        rw [List.getElem?_map, Option.map_map] at this
        exact this
      have hln := keysW A4.loose
      rw [mapW_erase] at M5
      have a3 := A3.ap3
      conv => whnf
      refine ⟨(m1 ++ m2).length, by simp, ?_⟩
      conv => whnf
      have hN5 : ∀ x, lk (N.loose.eraseIdx j) x = if x = q.1 then none else lk N.loose x := fun x => lk_erase hln hjn' x
      refine ⟨(m1 ++ m2, { N with sure := N.sure.set i q.2, loose := N.loose.eraseIdx j }), rfl, rfl, rfl, ?_, ⟨some (q.1, wv q.2), ?_⟩, ⟨k5.obj A4.obj (by simpa using a3.1), A4.sure.keepM k5 (fun x hx => by simpa using (A3.ap2 x hx).2.1), M5, A4.way.keep k5 (by simpa using A3.ap1.symm), A3.ap1, A3.ap2, fun x hx => Nat.lt_of_lt_of_le (A4.lt x hx) k5.size⟩, Own.keep O4 k5 (fun x hx => by simpa using (A3.ap2 x hx).2.1), u2, by simp only [List.length_set]; exact s2, fun x => ?_, ?_, fun p hp => ?_, fun x hx => ?_⟩
      · exact ((k2.trans (k3.mono (by simp))).trans (k4.mono (by simp; right; simp [ML.blocks, hbm]))).trans (k5.mono (by simp [ML.blocks]))
      · have : mapW m1 ++ mapW m2 = mapW (m1 ++ m2) := List.map_append.symm
        have I3' : IterL h3 it L.wb (mapW (m1 ++ m2)) (some (q.1, wv q.2)) := by rw [← this]; exact I3
        refine (I3'.keep k4 ?_ (by simpa using fun e => ap.2.2 e.symm)).keep k5 ?_ (by simpa using A3.ap1.symm)
        · have := itne b (by simp [ML.blocks, hbm])
          simpa using fun e => this e.symm
        · have := itne L.lb (by simp [ML.blocks])
          simpa using fun e => this e.symm
      · rw [← r2 x]
        unfold MemS.read MemS.there
        simp only [List.length_set]
        split
        · rename_i hx
          rw [hN5]
          by_cases e : x = q.1
          · rw [if_pos e, e, ql, hi]
            simp [hi1]
          · rw [if_neg e]
            have hne : x.toNat ≠ i := by
              intro e2
              apply e
              have : 0 ≤ x := by simp at hx; exact hx.1
              omega
            rw [List.getElem?_set_ne (fun e => hne e.symm)]
        · rfl
      · have : (m1 ++ q :: m2).map (·.1) = m1.map (·.1) ++ q.1 :: m2.map (·.1) := by simp
        rw [this] at n2
        rw [List.map_append]
        exact (List.nodup_cons.1 (nodup_mid.1 n2)).2
      · have hp' : p ∈ m1 ++ q :: m2 := by
          simp only [List.mem_append, List.mem_cons] at hp ⊢
          rcases hp with h | h
          · exact .inl h
          · exact .inr (.inr h)
        obtain ⟨p1, p2⟩ := w2 p hp'
        refine ⟨?_, ?_⟩
        · show lk (N.loose.eraseIdx j) p.1 = some p.2
          have hne : p.1 ≠ q.1 := by
            intro e
            have : (m1 ++ q :: m2).map (·.1) = m1.map (·.1) ++ q.1 :: m2.map (·.1) := by simp
            rw [this] at n2
            have hnq := nodup_mid.1 n2
            rw [List.nodup_cons] at hnq
            apply hnq.1
            rw [← e, ← List.map_append]
            exact List.mem_map.2 ⟨p, hp, rfl⟩
          rw [hN5, if_neg hne]; exact p1
        · unfold MemS.there at p2 ⊢
          simp only [List.length_set]
          exact p2
      · have hx : lk (N.loose.eraseIdx j) x ≠ none := hx
        rw [hN5] at hx
        have hne : x ≠ q.1 := by
          intro e
          rw [if_pos e] at hx; exact hx rfl
        rw [if_neg hne] at hx
        obtain ⟨y3, y4⟩ := y2 x hx
        refine ⟨y3, ?_⟩
        rcases y4 with h | h
        · exact .inl h
        · right
          simp only [List.map_append, List.map_cons, List.mem_append, List.mem_cons] at h ⊢
          rcases h with h | h | h
          · exact .inl h
          · exact absurd h hne
          · exact .inr h

theorem fence_spec {h : Heap} {L : ML} {M : MemS} (A : MemAt h L M) (O : MemO h L M) (hu : M.until_ = -1) (hs : M.sure.length ≤ 1000000) (hw : ∀ p ∈ M.way, lk M.loose p.1 = some p.2 ∧ M.there p.1 = true) : CallH Tryz.prog 34 [.pointer (some ⟨L.m, 0, none⟩)] h (fun v h' => Keeps L.blocks h h' ∧ v = .int .i64 0 ∧
    ∃ N : MemS, MemAt h' L N ∧ MemO h' L N ∧ N.until_ = -1 ∧ N.sure.length = M.sure.length ∧ N.way = [] ∧ (∀ i, N.read i = M.read i)) :=
  (fenceL_spec A O hu hs hw).mono fun _ _ ⟨k, e, N, a1, a2, a3, a4, a5, a6, _⟩ => ⟨k, e, N, a1, a2, a3, a4, a5, a6⟩
end Go.Proofs.YtkdmlieckkdmgaaGreatDoor
/-
  Layer 12: a memory is laid out.
-/
set_option linter.all false
set_option maxRecDepth 100000
set_option maxHeartbeats 2000000
namespace Go.Proofs.YtkdmlieckkdmgaaGreatDoor
open Go Go.Eng

/-- the words of a memory that is laid out -/
def laidL : List UInt64 := ([7021221306412823411, 2824, 0, 0, 0, 0, 0, 0] : List UInt64) ++ (List.replicate 8 0 ++ (cardW (freshC 2 1) ++ List.replicate 2800 0))
theorem laidL_len : laidL.length = 2824 := by
  unfold laidL
  simp [cardW]

theorem laid_spec (h : Heap) : CallH Tryz.prog 29 [] h (fun v h' => Keeps [] h h' ∧ ∃ b, v = .slice (some ⟨b, 0, none⟩) 2824 2824 ∧ h.size ≤ b ∧ h'[b]? = some (.cells ⟨laidL.map wv⟩ 32 (0, 0))) := by
  refine call_of hmix Tryz.func29 rfl ok29 (by simp [Tryz.f29]) ?_
  conv => whnf
  refine CallR.i (size_spec h) fun v h1 k1 hv => ?_
  subst hv
  conv => whnf
  refine SemR.make (n := 2824) rfl rfl rfl rfl rfl (by decide) (by decide) fun b2 h2 e2 s2 o2 k2 => ?_
  conv => whnf
  refine CallR.i (head_spec h2) fun v h3 k3 hv => ?_
  obtain ⟨b3, rfl, hb3, _, o3⟩ := hv
  have z1 := k1.size
  have z2 := k2.size
  have z3 := k3.size
  have hhl : (([7021221306412823411, 2824, 0, 0, 0, 0, 0, 0] : List UInt64).map wv).length = 8 := rfl
  conv => whnf
  refine SemR.copy (sz := 1) (new := ([7021221306412823411, 2824, 0, 0, 0, 0, 0, 0] : List UInt64).map wv) rfl rfl rfl (k3.obj o2 (by simp)) rfl (fun j hj => by simp only [Heap.cell?, o3]; simp) (allOne_wv _) (by rw [hhl, List.length_replicate]; decide) (by simp [blocksOf]) fun h4 s4 o4 k4 => ?_
  have hz : List.replicate 2824 (Value.int .u64 0) = List.replicate 8 (.int .u64 0) ++ (List.replicate 8 (.int .u64 0) ++ (List.replicate 8 (.int .u64 0) ++ List.replicate 2800 (.int .u64 0))) := by
    rw [List.replicate_append_replicate, List.replicate_append_replicate, List.replicate_append_replicate]
  have e4 : spliceL 0 (([7021221306412823411, 2824, 0, 0, 0, 0, 0, 0] : List UInt64).map wv) (List.replicate 2824 (.int .u64 0)) = (([7021221306412823411, 2824, 0, 0, 0, 0, 0, 0] : List UInt64).map wv) ++ (List.replicate 8 (.int .u64 0) ++ (List.replicate 8 (.int .u64 0) ++ List.replicate 2800 (.int .u64 0))) := by
    rw [hz]
    have := splice_head (A := ([7021221306412823411, 2824, 0, 0, 0, 0, 0, 0] : List UInt64).map wv) (x := Value.int .u64 0) (B := List.replicate 8 (.int .u64 0) ++ (List.replicate 8 (.int .u64 0) ++ List.replicate 2800 (.int .u64 0)))
    rw [hhl] at this
    exact this
  rw [e4] at o4
  conv => whnf
  refine CallR.i (fresh6_spec 2 1 h4) fun v h5 k5 hv => ?_
  rw [if_pos (by decide)] at hv
  subst hv
  conv => whnf
  refine AllocR.i fun b6 h6 e6 s6 o6 k6 => ?_
  conv => whnf
  refine BoxR.i fun h7 s7 k7 => ?_
  have k47 : Keeps [] h4 h7 := (k5.trans k6).new1 k7 (by have := k5.size; omega)
  obtain ⟨fo, fr⟩ := freshC_ok (kind := 2) (by decide) 1
  conv => whnf
  refine CallR.i (write6_spec (freshC 2 1) fo h7) fun v h8 k8 hv => ?_
  rw [if_pos fr] at hv
  obtain ⟨b8, rfl, hb8, o8⟩ := hv
  conv => whnf
  refine CallR.i (cardAt_spec 1 h8) fun v h9 k9 hv => ?_
  subst hv
  conv => whnf
  refine SliceR.i 16 2824 rfl rfl (by decide) (by decide) ?_
  conv => whnf
  have eA : slA (some ⟨b2, 0, none⟩) 2824 16 1 = some ⟨b2, 0 + 16 * 1, none⟩ := by
    unfold slA
    rw [if_neg (by omega)]
    simp [addr_add]
  have eA' : slA (some ⟨b2, 0, none⟩) 2824 16 Tryz.prog.types[32].size = some ⟨b2, 0 + 16 * 1, none⟩ := eA
  rw [eA']
  have k49 := k47.trans (k8.trans k9)
  have hcw : (cardW (freshC 2 1)).length = 8 := rfl
  refine SemR.copy (sz := 1) (new := (cardW (freshC 2 1)).map wv) rfl rfl rfl (k49.obj o4 (by simp)) (by rw [List.length_map]; rfl) (fun j hj => by simp only [Heap.cell?, k9.obj o8 (by simp)]; simp) (allOne_wv _) (by simp [hcw]) ?_ fun h10 s10 o10 k10 => ?_
  · have := k3.size
    have := k4.size
    have := k5.size
    simp [blocksOf, setB]; omega
  conv => whnf
  have e10 : spliceL (0 + 16 * 1) ((cardW (freshC 2 1)).map wv) (([7021221306412823411, 2824, 0, 0, 0, 0, 0, 0] : List UInt64).map wv ++ (List.replicate 8 (.int .u64 0) ++ (List.replicate 8 (.int .u64 0) ++ List.replicate 2800 (.int .u64 0)))) = laidL.map wv := by
    have h1 : ([7021221306412823411, 2824, 0, 0, 0, 0, 0, 0] : List UInt64).map wv ++ (List.replicate 8 (Value.int .u64 0) ++ (List.replicate 8 (.int .u64 0) ++ List.replicate 2800 (.int .u64 0))) = (([7021221306412823411, 2824, 0, 0, 0, 0, 0, 0] : List UInt64).map wv ++ List.replicate 8 (.int .u64 0)) ++ (List.replicate 8 (.int .u64 0) ++ List.replicate 2800 (.int .u64 0)) := by rw [List.append_assoc]
    rw [h1]
    have h2 := splice_drop (A := ([7021221306412823411, 2824, 0, 0, 0, 0, 0, 0] : List UInt64).map wv ++ List.replicate 8 (.int .u64 0)) (N := (cardW (freshC 2 1)).map wv) (L := List.replicate 8 (.int .u64 0) ++ List.replicate 2800 (.int .u64 0))
    have hl : (([7021221306412823411, 2824, 0, 0, 0, 0, 0, 0] : List UInt64).map wv ++ List.replicate 8 (Value.int .u64 0)).length = 0 + 16 * 1 := by simp
    rw [hl] at h2
    rw [h2]
    have h3 := splice_head (A := (cardW (freshC 2 1)).map wv) (x := Value.int .u64 0) (B := List.replicate 2800 (.int .u64 0))
    rw [List.length_map, hcw] at h3
    rw [h3]
    unfold laidL
    simp only [List.map_append, List.map_replicate, List.append_assoc]
    rfl
  rw [e10] at o10
  refine ⟨?_, b2, rfl, by omega, o10⟩
  exact ((k1.trans (k2.trans k3)).new1 k4 (by omega)).trans k49 |>.new1 k10 (by omega)

def laidR (i : Int) : UInt64 := if 0 ≤ i ∧ i < 2824 then laidL[i.toNat]?.getD 0 else 0
theorem laidR_low {i : Int} : laidR i = if i = 0 then 7021221306412823411 else if i = 1 then 2824 else if 16 ≤ i ∧ i < 24 then (cardW (freshC 2 1))[(i - 16).toNat]?.getD 0 else 0 := by
  unfold laidR
  by_cases h : 0 ≤ i ∧ i < 2824
  · rw [if_pos h]
    obtain ⟨n, rfl⟩ : ∃ n : Nat, i = (n : Int) := ⟨i.toNat, by omega⟩
    rw [Int.toNat_natCast]
    unfold laidL
    have hl0 : ([7021221306412823411, 2824, 0, 0, 0, 0, 0, 0] : List UInt64).length = 8 := rfl
    have hl2 : (cardW (freshC 2 1)).length = 8 := rfl
    by_cases h8 : n < 8
    · rw [List.getElem?_append_left (by rw [hl0]; exact h8)]
      have : n = 0 ∨ n = 1 ∨ n = 2 ∨ n = 3 ∨ n = 4 ∨ n = 5 ∨ n = 6 ∨ n = 7 := by omega
      rcases this with rfl | rfl | rfl | rfl | rfl | rfl | rfl | rfl <;> rfl
    · rw [List.getElem?_append_right (by rw [hl0]; omega), hl0, if_neg (by omega), if_neg (by omega)]
      by_cases h16 : n < 16
      · rw [List.getElem?_append_left (by simp; omega), if_neg (by omega), List.getElem?_replicate, if_pos (by omega)]; rfl
      · rw [List.getElem?_append_right (by simp; omega), List.length_replicate]
        by_cases h24 : n < 24
        · rw [List.getElem?_append_left (by rw [hl2]; omega), if_pos (by omega)]
          congr 2
          omega
        · rw [List.getElem?_append_right (by rw [hl2]; omega), if_neg (by omega), List.getElem?_replicate]
          split <;> rfl
  · rw [if_neg h, if_neg (by omega), if_neg (by omega), if_neg (by omega)]
end Go.Proofs.YtkdmlieckkdmgaaGreatDoor
/-
  Layer 12: a memory is laid out.
-/
set_option linter.all false
set_option maxRecDepth 100000
set_option maxHeartbeats 2000000
namespace Go.Proofs.YtkdmlieckkdmgaaGreatDoor
open Go Go.Eng

/-- a memory that is being laid out: so many words are right -/
structure LayI (B : Int → UInt64) (at_ : Nat) (N : MemS) : Prop where
  u : N.until_ = -1
  len : N.sure.length = 2824
  read : ∀ i, N.read i = if i < at_ then laidR i else B i
  way : ∀ i, lk N.way i = lk N.loose i
  rng : ∀ i, lk N.loose i ≠ none → 0 ≤ i ∧ i < 2824

theorem call_calm {N : MemS} (hu : N.until_ = -1) (t : Bool) : N.call t = (if t then 0 else 1, { N with calls := IntKind.i64.wrap (N.calls + 1) }) := by
  unfold MemS.call
  rw [hu]
  cases t <;> rfl

theorem lineOf_in {i : Int} (hi : 0 ≤ i) : lineOf i ≤ i ∧ i < lineOf i + 8 := by
  unfold lineOf
  rw [Int.tmod_eq_emod_of_nonneg hi]
  omega

theorem LayI.step {B : Int → UInt64} {a : Nat} {N : MemS} (I : LayI B a N) (ha : a < 2824) : ∀ (c1 c2 : Int), LayI B (a + 1) { N with calls := c2, loose := putW N.loose a (laidR a), way := flushN (putW N.loose a (laidR a)) N.way (lineOf a) 8 } := by
  intro c1 c2
  have hl := lineOf_in (i := (a : Int)) (by omega)
  refine ⟨I.u, I.len, fun i => ?_, fun i => ?_, fun i hi => ?_⟩
  · have hr := I.read i
    unfold MemS.read MemS.there at hr ⊢
    simp only at hr ⊢
    rw [lk_put]
    by_cases e : i = (a : Int)
    · rw [if_pos e]
      have h1 : (decide (0 ≤ i) && decide (i < (N.sure.length : Int))) = true := by rw [I.len]; simp; omega
      rw [if_pos h1, if_pos (by omega), e]; rfl
    · rw [if_neg e, hr]
      by_cases h2 : i < (a : Int)
      · rw [if_pos h2, if_pos (by omega)]
      · rw [if_neg h2, if_neg (by omega)]
  · show lk (flushN _ _ _ 8) i = lk (putW _ _ _) i
    rw [lk_flushN, lk_put, I.way i]
    by_cases h1 : lineOf (a : Int) ≤ i ∧ i < lineOf (a : Int) + ((8 : Nat) : Int)
    · rw [if_pos h1]
      by_cases e : i = (a : Int)
      · rw [if_pos e]
      · rw [if_neg e]
        cases lk N.loose i <;> rfl
    · rw [if_neg h1, if_neg (by intro e; apply h1; omega)]
  · have hi' : lk (putW N.loose (a : Int) (laidR (a : Int))) i ≠ none := hi
    rw [lk_put] at hi'
    by_cases e : i = (a : Int)
    · omega
    · rw [if_neg e] at hi'
      exact I.rng i hi'

theorem LayI.skip {B : Int → UInt64} {a : Nat} {N : MemS} (I : LayI B a N) (h : N.read a = laidR a) : LayI B (a + 1) N := by
  refine ⟨I.u, I.len, fun i => ?_, I.way, I.rng⟩
  by_cases e : i = (a : Int)
  · rw [if_pos (by omega), e]; exact h
  · rw [I.read i]
    by_cases h2 : i < (a : Int)
    · rw [if_pos h2, if_pos (by omega)]
    · rw [if_neg h2, if_neg (by omega)]

theorem lk_nil {l : List (Int × UInt64)} (h : ∀ x, lk l x = none) : l = [] := by
  cases l with
  | nil => rfl
  | cons p l =>
    have := h p.1
    simp [lk] at this

theorem layL_spec {h : Heap} {L : ML} {M : MemS} (A : MemAt h L M) (O : MemO h L M) (hu : M.until_ = -1) (hs : M.sure.length = 2824) (hl0 : M.loose = []) (hw0 : M.way = []) : CallH Tryz.prog 13 [.pointer (some ⟨L.m, 0, none⟩)] h (fun v h' => Keeps L.blocks h h' ∧ v = .int .i64 0 ∧
    ∃ N : MemS, MemAt h' L N ∧ N.until_ = -1 ∧ N.sure.length = 2824 ∧ (∀ i, N.read i = laidR i) ∧ N.loose = []) := by
  have bl := A.blt
  refine call_of hmix Tryz.func13 rfl ok13 (by simp [Tryz.f13]) ?_
  conv => whnf
  refine CallR.i (laid_spec h) fun v h1 k1 hv => ?_
  obtain ⟨b1, rfl, hb1, o1⟩ := hv
  conv => whnf
  refine CallR.i (msize_spec (A.on k1)) fun v h2 k2 hv => ?_
  subst hv
  rw [hs]
  conv => whnf
  refine IfR.f rfl ?_
  have I0 : LayI M.read 0 M := ⟨hu, hs, fun i => by
    by_cases h : i < ((0 : Nat) : Int)
    · rw [if_pos h]
      have h1 : laidR i = 0 := by
        unfold laidR
        rw [if_neg (by omega)]
      have h2 : M.there i = false := by
        unfold MemS.there
        rw [decide_eq_false (by omega)]; rfl
      unfold MemS.read
      rw [h1, h2]; rfl
    · rw [if_neg h], fun i => by rw [hl0, hw0], fun i hi => by rw [hl0] at hi; exact absurd rfl hi⟩
  have nb1 : ∀ b ∈ L.blocks, b ≠ b1 := fun b hb => by have := bl b hb; omega
  have k12 := k1.trans k2
  have oll := laidL_len
  conv => whnf
  refine LoopR.on [0, 13, 14, 15] [] (fun q : Nat × MemS => [(0, .v (.pointer (some ⟨L.m, 0, none⟩))), (13, .v (.slice (some ⟨b1, 0, none⟩) 2824 2824)), (14, .v (.int .i64 2824)), (15, .v (.int .i64 (q.1 : Int)))]) (fun _ => [])
    (fun q h' => q.1 ≤ 2824 ∧ Keeps L.blocks h h' ∧ h'[b1]? = some (.cells ⟨laidL.map wv⟩ 32 (0, 0)) ∧ MemAt h' L q.2 ∧ MemO h' L q.2 ∧ LayI M.read q.1 q.2) (fun q => 2824 - q.1) (0, M) ?_ ?_
  · conv => whnf
    exact ⟨(0, M), rfl, rfl, rfl, Nat.zero_le _, k12.mono (by simp), k2.obj o1 (by simp), A.on k12, Own.keep O k12 (by simp), I0⟩
  · rintro ⟨a, N⟩ h3 ⟨ha, k3, o3, A3, O3, I3⟩
    simp only at ha A3 O3 I3
    conv => whnf
    refine IfR.i (fun hc => ?_) (fun hc => ?_)
    · have ha1 : a < 2824 := by
        have : (a : Int) < 2824 := by simpa using hc
        omega
      have hla : (laidL[a]'(by omega)) = laidR (a : Int) := by
        unfold laidR
        rw [if_pos (by omega), Int.toNat_natCast, List.getElem?_eq_getElem (by omega)]; rfl
      have hth : N.there (a : Int) = true := by unfold MemS.there; rw [I3.len]; simp; omega
      conv => whnf
      first | refine IdxS.i a rfl ha1 rfl ?_ | (refine MeetR.pass ?_; (conv => whnf); refine IdxS.i a rfl ha1 rfl ?_)
      conv => whnf
      refine LoadR.o (v := wv (laidL[a]'(by omega))) o3 ?_ ?_
      · rw [nth_eq]
        show (laidL.map wv)[0 + a * 1]? = _
        rw [show 0 + a * 1 = a by omega]
        simp [oll, ha1]
      rw [hla]
      conv => whnf
      refine CallR.i (mread_spec A3 (a : Int)) fun v h4 k4 hv => ?_
      subst hv
      have A4 := A3.on k4
      have O4 : MemO h4 L N := Own.keep O3 k4 (by simp)
      have o4 := k4.obj o3 (by simp)
      conv => whnf
      refine IfR.i (fun hd => ?_) (fun hd => ?_)
      · have he : N.read (a : Int) = laidR (a : Int) := by
          have : (((N.read (a : Int)).toNat : Nat) : Int) = (((laidR (a : Int)).toNat : Nat) : Int) := by simpa using hd
          exact UInt64.toNat_inj.1 (by omega)
        conv => whnf
        refine ⟨2824 - (a + 1), by omega, ?_⟩
        conv => whnf
        exact ⟨(a + 1, N), rfl, by rw [wrapN (x := (a : Int) + 1) (n := a + 1) (by simp) (by omega)], rfl, by simp only; omega, k3.trans_nil k4, o4, A4, O4, I3.skip he⟩
      · have hst : N.store (a : Int) (laidR (a : Int)) = (0, { N with calls := IntKind.i64.wrap (N.calls + 1), loose := putW N.loose (a : Int) (laidR (a : Int)) }) := by
          unfold MemS.store
          rw [call_calm I3.u, hth]
          rfl
        conv => whnf
        refine CallR.m (store_spec A4 (a : Int) (laidR (a : Int))) (by simp [blocksOf]) fun v h5 k5 hv => ?_
        rw [hst] at hv
        obtain ⟨rfl, A5⟩ := hv
        conv => whnf
        first | refine IfR.t rfl ?_ | (refine MeetR.pass ?_; (conv => whnf); refine IfR.t rfl ?_)
        have I5 := I3.step ha1
        generalize hN5 : ({ N with calls := IntKind.i64.wrap (N.calls + 1), loose := putW N.loose (a : Int) (laidR (a : Int)) } : MemS) = N5 at A5
        have hth5 : N5.there (a : Int) = true := by subst hN5; exact hth
        have hu5 : N5.until_ = -1 := by subst hN5; exact I3.u
        have O5 : MemO h5 L N5 := by
          have : MemO h5 L N := Own.keep O4 k5 (fun b hb => by have := A4.ap2 b hb; simp; exact ⟨this.1, this.2.1⟩)
          subst hN5; exact this
        have o5 := k5.obj o4 (by
          have q1 := nb1 L.m (by simp [ML.blocks])
          have q2 := nb1 L.lb (by simp [ML.blocks])
          simp; exact ⟨fun e => q1 e.symm, fun e => q2 e.symm⟩)
        conv => whnf
        refine CallR.m (flush_spec A5 (a : Int) (by omega) (by rw [call_calm hu5, hth5]; rfl)) (by simp [blocksOf]) fun v h6 k6 hv => ?_
        obtain ⟨rfl, A6⟩ := hv
        rw [call_calm hu5] at A6
        conv => whnf
        refine IfR.f rfl ?_
        conv => whnf
        refine ⟨2824 - (a + 1), by omega, ?_⟩
        conv => whnf
        have hN6 : ({ ({ N5 with calls := IntKind.i64.wrap (N5.calls + 1) } : MemS) with way := flushN ({ N5 with calls := IntKind.i64.wrap (N5.calls + 1) } : MemS).loose ({ N5 with calls := IntKind.i64.wrap (N5.calls + 1) } : MemS).way (lineOf (a : Int)) 8 } : MemS) = { N with calls := IntKind.i64.wrap (IntKind.i64.wrap (N.calls + 1) + 1), loose := putW N.loose (a : Int) (laidR (a : Int)), way := flushN (putW N.loose (a : Int) (laidR (a : Int))) N.way (lineOf (a : Int)) 8 } := by subst hN5; rfl
        have A6' : MemAt h6 L { N with calls := IntKind.i64.wrap (IntKind.i64.wrap (N.calls + 1) + 1), loose := putW N.loose (a : Int) (laidR (a : Int)), way := flushN (putW N.loose (a : Int) (laidR (a : Int))) N.way (lineOf (a : Int)) 8 } := by rw [← hN6]; exact A6
        refine ⟨(a + 1, _), rfl, by rw [wrapN (x := (a : Int) + 1) (n := a + 1) (by simp) (by omega)], rfl, by simp only; omega, ?_, ?_, A6', ?_, I5 0 _⟩
        · exact ((k3.trans_nil k4).trans (k5.mono (by simp [ML.blocks]))).trans (k6.mono (by simp [ML.blocks]))
        · refine k6.obj o5 ?_
          have q1 := nb1 L.m (by simp [ML.blocks])
          have q2 := nb1 L.wb (by simp [ML.blocks])
          simp; exact ⟨fun e => q1 e.symm, fun e => q2 e.symm⟩
        · have : MemO h6 L N5 := Own.keep O5 k6 (fun b hb => by have := A5.ap2 b hb; simp; exact ⟨this.1, this.2.2⟩)
          subst hN5; exact this
    · have ha1 : a = 2824 := by
        have : ¬ ((a : Int) < 2824) := by simpa using hc
        omega
      subst ha1
      have hkw := keysW A3.way
      conv => whnf
      refine CallR.m (fenceL_spec A3 O3 I3.u (by rw [I3.len]; decide) (fun p hp => ?_)) (by simp [blocksOf]) fun v h4 k4 hv => ?_
      · have h1 := lk_of_mem hkw hp
        rw [I3.way] at h1
        have h2 := I3.rng p.1 (by rw [h1]; simp)
        refine ⟨h1, ?_⟩
        unfold MemS.there
        rw [I3.len]; simp; omega
      obtain ⟨rfl, N', A4, _, u4, l4, _, r4, y4⟩ := hv
      conv => whnf
      refine ⟨k3.trans k4, rfl, N', A4, u4, by rw [l4, I3.len], fun i => ?_, lk_nil fun x => ?_⟩
      rotate_left
      · apply Classical.byContradiction
        intro hx
        obtain ⟨q1, q2⟩ := y4 x hx
        rw [I3.way] at q2
        exact q1 q2
      rw [r4, I3.read]
      by_cases h : i < ((2824 : Nat) : Int)
      · rw [if_pos h]
      · rw [if_neg h]
        have h1 : laidR i = 0 := by
          unfold laidR
          rw [if_neg (by omega)]
        have h2 : M.there i = false := by
          unfold MemS.there
          rw [hs, decide_eq_false (show ¬ (i < ((2824 : Nat) : Int)) from h)]; simp
        unfold MemS.read
        rw [h1, h2]; rfl
theorem lay_spec {h : Heap} {L : ML} {M : MemS} (A : MemAt h L M) (O : MemO h L M) (hu : M.until_ = -1) (hs : M.sure.length = 2824) (hl0 : M.loose = []) (hw0 : M.way = []) : CallH Tryz.prog 13 [.pointer (some ⟨L.m, 0, none⟩)] h (fun v h' => Keeps L.blocks h h' ∧ v = .int .i64 0 ∧
    ∃ N : MemS, MemAt h' L N ∧ N.until_ = -1 ∧ N.sure.length = 2824 ∧ (∀ i, N.read i = laidR i)) :=
  (layL_spec A O hu hs hl0 hw0).mono fun _ _ ⟨k, e, N, a1, a2, a3, a4, _⟩ => ⟨k, e, N, a1, a2, a3, a4⟩
end Go.Proofs.YtkdmlieckkdmgaaGreatDoor
/-
  Layer 12's statements: a world that is begun, plain; the files that are put into it.
-/
set_option linter.all false
set_option maxRecDepth 100000
set_option maxHeartbeats 1000000
namespace Go.Proofs.YtkdmlieckkdmgaaGreatDoor
open Go Go.Eng

def T0 : List Nod := [⟨0, 0, 0, [], []⟩, ⟨1, 2, 1, [], []⟩]
def S0 : FS := ⟨fun n => if n = 1 then freshC 2 1 else noneC 0, fun _ => [], fun _ => []⟩

theorem laid_own {k : Int} (h0 : 0 ≤ k) : laidR (200 + k) = 0 := by
  rw [laidR_low, if_neg (by omega), if_neg (by omega), if_neg (by omega)]
theorem laid_cards : ∀ n : Fin 24, rdL laidR (8 + (n.val : Int) * 8) 8 = cardW (if (n.val : Int) = 1 then freshC 2 1 else noneC 0) := by decide +kernel

theorem fs0 : FsI laidR S0 := by
  have hno : ∀ n : Int, 0 ≤ n → n < 24 → ∀ x, 0 ≤ x → x < 96 → laidR (200 + x) ≠ w64 (n + 1) := by
    intro n n0 n1 x x0 x1 e
    rw [laid_own x0] at e
    have h1 : (w64 (n + 1)).toNat = (n + 1).toNat := by
      unfold w64
      rw [UInt64.toNat_ofNat']
      omega
    rw [← e] at h1
    have : (0 : UInt64).toNat = 0 := rfl
    omega
  refine ⟨fun n n0 n1 => ?_, fun n n0 n1 => ?_, rfl, fun k k0 k1 => .inl (laid_own k0)⟩
  · have := laid_cards ⟨n.toNat, by omega⟩
    simp only [Int.toNat_of_nonneg n0] at this
    exact this
  · by_cases h : n = 1
    · have : S0.C n = freshC 2 1 := if_pos h
      rw [this]
      exact fresh_node (by decide) 1 (hno n n0 n1)
    · have : S0.C n = noneC 0 := if_neg h
      rw [this]
      exact none_node 0 (hno n n0 n1)

theorem wi0 : WI laidR ⟨laidR, [], [], [], []⟩ S0 T0 [0, 1] := by
  have one : ∀ i, inT T0 i → i = 1 := fun i hi => by have h1 := hi.1; have h2 := hi.2; have : T0.length = 2 := rfl; omega
  refine ⟨fs0, ⟨rfl, by decide, ⟨rfl, rfl⟩, fun i hi => ?_, fun i j hi hj _ => by rw [one i hi, one j hj], fun i hi => ?_, fun i hi _ => ?_, fun i hi _ => ?_, fun i hi _ => ?_⟩, fun n n0 n1 hk => ?_, ?_, rfl⟩
  · rw [one i hi]; decide
  · rw [one i hi]; decide
  · rw [one i hi]
    exact ⟨rfl, (fun e he => nomatch (show e ∈ ([] : List Ent) from he)), List.Pairwise.nil⟩
  · rw [one i hi]; rfl
  · rw [one i hi]; rfl
  · refine ⟨1, ⟨by decide, by decide⟩, ?_⟩
    by_cases h : n = 1
    · rw [h]; rfl
    · have : S0.C n = noneC 0 := if_neg h
      rw [this] at hk
      exact absurd rfl hk
  · have : freeN laidR ⟨laidR, [], [], [], []⟩ 96 = 96 := by
      unfold freeN
      rw [List.filter_eq_self.2 (fun j hj => ?_), List.length_range]
      have hj := List.mem_range.1 hj
      unfold freshB
      have h0 : laidR (200 + (j : Int)) = 0 := laid_own (by omega)
      simp [h0]
      omega
    rw [this]; decide

/-- files that are put, one behind the other -/
inductive RunT : List Fil → List Nod → List Int → Prop
  | nil : RunT [] T0 [0, 1]
  | put {fs : List Fil} {T : List Nod} {num : List Int} {f : Fil} {T' : List Nod} {num' : List Int} : RunT fs T num → PutT T num f T' num' → (PutG T f → T'.length = T.length + 1) → RunT (fs ++ [f]) T' num'

theorem PutT.len {T : List Nod} {num : List Int} {f : Fil} {T' : List Nod} {num' : List Int} (P : PutT T num f T' num') : T'.length ≤ T.length + 1 := by
  rcases P with ⟨rfl, rfl⟩ | ⟨n, _, _, _, _, rfl, rfl⟩
  · omega
  · unfold nset; simp
theorem RunT.len {fs : List Fil} {T : List Nod} {num : List Int} (R : RunT fs T num) : T.length ≤ 2 + fs.length := by
  induction R with
  | nil => decide
  | put _ P _ ih => have := P.len; rw [List.length_append]; show _ ≤ 2 + (_ + 1); omega
end Go.Proofs.YtkdmlieckkdmgaaGreatDoor
/-
  Layer 12's statements: a world is begun.
-/
set_option linter.all false
set_option maxRecDepth 100000
set_option maxHeartbeats 4000000
namespace Go.Proofs.YtkdmlieckkdmgaaGreatDoor
open Go Go.Eng

instance : Rp Fil where
  n := 4
  rep _ vs x := vs = x.cells ∧ x.ok
  len h := by rw [h.1]; rfl
  keep _ h := h
instance : Flat Fil := ⟨fun h => h⟩

section
variable {H : Type} {enc : TypeId × Value → H} {W : World} {sp : Nat → Bool} {held : Bool}
theorem opens_fil : Opens enc Tryz.prog W sp held 68 Fil := by
  intro fuel cs x h hw
  obtain ⟨hl, f', hp⟩ := trod_parts Tryz.underlying68 h hw
  obtain ⟨a, b, c, d, rfl⟩ : ∃ a b c d, cs = [a, b, c, d] := by
    match cs, hl with
    | [a, b, c, d], _ => exact ⟨a, b, c, d, rfl⟩
  obtain ⟨y0, h0, w0⟩ := hp _ (List.mem_cons_self)
  obtain ⟨y1, h1, w1⟩ := hp _ (List.mem_cons_of_mem _ List.mem_cons_self)
  obtain ⟨y2, h2, w2⟩ := hp _ (List.mem_cons_of_mem _ (List.mem_cons_of_mem _ List.mem_cons_self))
  obtain ⟨y3, h3, w3⟩ := hp _ (List.mem_cons_of_mem _ (List.mem_cons_of_mem _ (List.mem_cons_of_mem _ List.mem_cons_self)))
  obtain ⟨n, e0, g0⟩ := opens_int (W := W) Tryz.underlying3 f' _ _ h0 w0
  obtain ⟨m, e1, g1⟩ := opens_int (W := W) Tryz.underlying3 f' _ _ h1 w1
  obtain ⟨s, e2, g2⟩ := opens_string (W := W) Tryz.underlying9 f' _ _ h2 w2
  obtain ⟨t, e3, g3⟩ := opens_string (W := W) Tryz.underlying9 f' _ _ h3 w3
  cases e0; cases e1; cases e2; cases e3
  obtain ⟨l, rfl⟩ : ∃ l : List UInt8, s = ⟨l.toArray⟩ := ⟨s.data.toList, rfl⟩
  obtain ⟨k, rfl⟩ : ∃ l : List UInt8, t = ⟨l.toArray⟩ := ⟨t.data.toList, rfl⟩
  exact ⟨⟨n, m, l, k⟩, rfl, g0, g1, by have := g2; unfold okStr at this; rwa [bs_size] at this, by have := g3; unfold okStr at this; rwa [bs_size] at this⟩
theorem opens_fils : Opens enc Tryz.prog W sp held 22 (List Fil) := opens_slice Tryz.underlying22 (by kernel_rfl) (by decide) (of_decide_eq_true (by kernel_rfl)) opens_fil
end

def L0 : List NodH := [⟨⟨0, 0, 0, [], []⟩, none, 0, 0⟩, ⟨⟨1, 2, 1, [], []⟩, none, 0, 0⟩]

theorem new12_spec (h : Heap) : CallH Tryz.prog 23 [] h (fun v h' => Keeps [] h h' ∧ ∃ bT t, v = .pointer (some ⟨t, 0, none⟩) ∧ h.size ≤ bT ∧ h.size ≤ t ∧ h'[t]? = some (.cells ⟨[.slice (some ⟨bT, 0, none⟩) 2 2]⟩ 71 (0, 0)) ∧ h'[bT]? = some (.cells ⟨nodC L0⟩ 122 (0, 0))) := by
  refine call_of hmix Tryz.func23 rfl ok23 (by simp [Tryz.f23]) ?_
  conv => whnf
  refine AllocR.i fun b1 h1 e1 s1 o1 k1 => ?_
  conv => whnf
  refine AllocR.i fun b2 h2 e2 s2 o2 k2 => ?_
  conv => whnf
  exact ⟨k1.trans k2, b1, b2, rfl, by omega, by omega, o2, k2.obj o1 (by simp)⟩

theorem begin12_spec {h : Heap} {a : Option Addr} {n c : Nat} {fs : List Fil} (S : Sl h a n c fs) : CallH Tryz.prog 7 [.slice a n c] h (fun v h' => Keeps [] h h' ∧ ∃ (z w t : Nat) (V : VL) (aT : Option Addr) (cT : Nat) (L : List NodH) (aN : Option Addr) (cN : Nat) (num : List Int) (M : MemS) (X : VS) (S : FS),
      v = .pointer (some ⟨w, 0, none⟩) ∧ h.size ≤ z ∧ (∀ b ∈ V.blocks, h.size ≤ b) ∧ WorldH h' z w t V aT cT L aN cN num ∧ At h' V M X ∧ WI M.read X S (nds L) num ∧ RunT (fs.take 18) (nds L) num) := by
  have hl := S.hlen
  have hc := S.hcap
  have hn := S.hbig
  refine call_of hmix Tryz.func7 rfl ok7 (by simp [Tryz.f7]) ?_
  conv => whnf
  refine CallR.i (mnew_spec 2824 (by decide) (by decide) h) fun v h1 k1 hv => ?_
  obtain ⟨ML1, rfl, A1, O1, n1⟩ := hv
  have z1 := k1.size
  conv => whnf
  refine CallR.m (lay_spec A1 O1 rfl rfl rfl rfl) (by simp [blocksOf]) fun v h2 k2 hv => ?_
  obtain ⟨rfl, N, A2, hu, hs, hr⟩ := hv
  have z2 := k2.size
  conv => whnf
  refine IfR.f rfl ?_
  conv => whnf
  refine CallR.i (new_spec A2) fun v h3 k3 hv => ?_
  rw [if_pos hs] at hv
  obtain ⟨V, rfl, hVm, hab, hanb, hVn, A3⟩ := hv
  have z3 := k3.size
  have hr2 : N.read = laidR := funext hr
  rw [hr2] at A3
  conv => whnf
  refine CallR.i (new12_spec h3) fun v h4 k4 hv => ?_
  obtain ⟨bT, t, rfl, hbT, ht, o4t, o4b⟩ := hv
  have z4 := k4.size
  conv => whnf
  refine AllocR.i fun b5 h5 e5 s5 o5 k5 => ?_
  conv => whnf
  refine AllocR.i fun w h6 e6 s6 o6 k6 => ?_
  have z5 := k5.size
  have z6 := k6.size
  have k36 : Keeps [] h3 h6 := k4.trans (k5.trans k6)
  have A6 := A3.on k36
  have hVlt : ∀ b ∈ V.blocks, b < h3.size := A3.blt
  have hVge : ∀ b ∈ V.blocks, h.size ≤ b := by
    intro b hb
    have hb2 : b ∈ [V.v, V.ob, V.sb, V.mb] ∨ b ∈ ML1.blocks := by
      unfold VL.blocks at hb
      rw [hVm, hab, hanb] at hb
      simp only [List.mem_cons, List.mem_append, Option.toList, List.not_mem_nil, or_false] at hb ⊢
      rcases hb with h | h | h | h | h <;> simp [h]
    rcases hb2 with h | h
    · have := hVn b h; omega
    · exact n1 b h
  have W6 : WorldH h6 h3.size w t V (some ⟨bT, 0, none⟩) 2 L0 (some ⟨b5, 0, none⟩) 2 [0, 1] := by
    refine ⟨o6, (k5.trans k6).obj o4t (by simp), .inr ⟨bT, _, rfl, (k5.trans k6).obj o4b (by simp), rfl, rfl, rfl, by decide⟩, .inr ⟨b5, _, rfl, k6.obj o5 (by simp), rfl, rfl, rfl, by decide⟩, fun x hx => ?_, ⟨by omega, by omega, fun b hb => ?_, fun b hb => ?_⟩, hVlt⟩
    · have : x = ⟨⟨0, 0, 0, [], []⟩, none, 0, 0⟩ ∨ x = ⟨⟨1, 2, 1, [], []⟩, none, 0, 0⟩ := by simpa [L0] using hx
      rcases this with rfl | rfl
      · exact ⟨rfl, .inl ⟨rfl, rfl, rfl, rfl⟩, by simp [blkA], by simp, by simp⟩
      · exact ⟨rfl, .inl ⟨rfl, rfl, rfl, rfl⟩, by simp [blkA], by simp, by simp⟩
    · have : b = bT := by simpa [blkA] using hb
      omega
    · have : b = b5 := by simpa [blkA] using hb
      omega
  have k06 : Keeps [] h h6 := (k1.nil_of k2 (fun b hb => n1 b hb)).trans (k3.trans k36)
  have R6 : WI N.read ⟨N.read, [], [], [], []⟩ S0 (nds L0) [0, 1] := by rw [hr2]; exact wi0
  rw [← hr2] at A6
  conv => whnf
  refine LoadR.o o6 rfl ?_
  conv => whnf
  refine IfR.f rfl ?_
  conv => whnf
  refine LoopR.on [0, 4, 5] [] (fun i : Nat => [(0, .v (.slice a n c)), (4, .v (.pointer (some ⟨w, 0, none⟩))), (5, .v (.int .i64 (i : Int)))]) (fun _ => []) (fun i h' => i ≤ n ∧ i ≤ 18 ∧ Keeps [] h h' ∧ ∃ (aT : Option Addr) (cT : Nat) (L : List NodH) (aN : Option Addr) (cN : Nat) (num : List Int) (X : VS) (S : FS), WorldH h' h3.size w t V aT cT L aN cN num ∧ At h' V N X ∧ WI N.read X S (nds L) num ∧ RunT (fs.take i) (nds L) num) (fun i => n - i) 0 ?_ ?_
  · conv => whnf
    exact ⟨0, rfl, rfl, rfl, Nat.zero_le _, Nat.zero_le _, k06, _, _, _, _, _, _, _, _, W6, A6, R6, .nil⟩
  · rintro i h7 ⟨hi, hi18, k07, aT, cT, L, aN, cN, num, X, S', W7, A7, I7, R7⟩
    conv => whnf
    refine IfR.i (fun hd => ?_) (fun hd => ?_)
    · have hd1 : i < n ∧ i < 18 := by
        rw [bif_and] at hd
        simp at hd
        omega
      have hi1 : i < fs.length := by omega
      have S7 := S.keep k07
      obtain ⟨b8, o8, hb8, _, ⟨rfl, hok⟩, hc8⟩ := S7.at_ i hi1
      have hlen : L.length ≤ 20 := by
        have := R7.len
        rw [nds_len, List.length_take] at this
        omega
      conv => whnf
      first | refine IdxS.i i rfl (by omega) hb8 ?_ | (refine MeetR.pass ?_; (conv => whnf); refine IdxS.i i rfl (by omega) hb8 ?_)
      conv => whnf
      refine LoadN.i (vs := fs[i].cells) rfl (fun j hj => hc8 j hj) ?_
      conv => whnf
      refine CallR.m (put12_spec' W7 A7 I7 hlen fs[i] hok) (by simp [blocksOf]) fun v h9 k9 hv => ?_
      obtain ⟨aT', cT', L', aN', cN', num', X', S'', W9, A9, I9, P9, G9⟩ := hv
      conv => whnf
      refine ⟨n - (i + 1), by omega, ?_⟩
      conv => whnf
      refine ⟨i + 1, rfl, by rw [wrapN (x := (i : Int) + 1) (n := i + 1) (by simp) (by omega)], rfl, by omega, by omega, k07.nil_of k9 (fun x hx => ?_), aT', cT', L', aN', cN', num', X', S'', W9, A9, I9, ?_⟩
      · rcases putB_in W7 x hx with h | h
        · exact hVge x h
        · omega
      · have : fs.take (i + 1) = fs.take i ++ [fs[i]] := by rw [List.take_succ_eq_append_getElem hi1]
        rw [this]
        exact .put R7 P9 G9
    · have hd1 : ¬ (i < n ∧ i < 18) := by
        rw [bif_and] at hd
        simp at hd
        omega
      conv => whnf
      refine ⟨k07, h3.size, w, t, V, aT, cT, L, aN, cN, num, N, X, S', rfl, by omega, hVge, W7, A7, I7, ?_⟩
      have : fs.take 18 = fs.take i := by
        by_cases h18 : i = 18
        · rw [h18]
        · rw [List.take_of_length_le (by omega), List.take_of_length_le (by omega)]
      rw [this]; exact R7
end Go.Proofs.YtkdmlieckkdmgaaGreatDoor
/-
  Layer 12's statements: a link is lived through.
-/
set_option linter.all false
set_option maxRecDepth 100000
set_option maxHeartbeats 4000000
namespace Go.Proofs.YtkdmlieckkdmgaaGreatDoor
open Go Go.Eng

theorem RunT.inv {fs : List Fil} {f : Fil} {T' : List Nod} {num' : List Int} (R : RunT (fs ++ [f]) T' num') : ∃ T num, RunT fs T num ∧ PutT T num f T' num' ∧ (PutG T f → T'.length = T.length + 1) := by
  generalize he : fs ++ [f] = gs at R
  cases R with
  | nil => simp at he
  | put R P G =>
    obtain ⟨rfl, e2⟩ := List.append_inj' he rfl
    cases e2
    exact ⟨_, _, R, P, G⟩
theorem RunT.inv0 {T' : List Nod} {num' : List Int} (R : RunT [] T' num') : T' = T0 ∧ num' = [0, 1] := by
  generalize he : ([] : List Fil) = gs at R
  cases R with
  | nil => exact ⟨rfl, rfl⟩
  | put R P G => simp at he

/-- the next tree -/
def nextT (T : List Nod) (f : Fil) : List Nod := nset T (dirOf f T.length) (insL (tn T (dirOf f T.length)).names ⟨f.name, (T.length : Int)⟩) ++ [⟨T.length, kindOf f, 1, datOf f, []⟩]

theorem put_next {T : List Nod} {num : List Int} {f : Fil} {T' : List Nod} {num' : List Int} (hid : ∀ i, inT T i → nu num i = i) (h2 : 2 ≤ T.length) (P : PutT T num f T' num') (G : PutG T f → T'.length = T.length + 1) (g : PutG T f) :
    T' = nextT T f ∧ num' = num ++ [(T.length : Int)] := by
  have hl := G g
  rcases P with ⟨rfl, _⟩ | ⟨n, n2, n24, hnew, hleast, rfl, rfl⟩
  · omega
  · have hge : (T.length : Int) ≤ n := by
      apply Classical.byContradiction
      intro h
      have hi : inT T n := ⟨by omega, by omega⟩
      exact hnew n hi (hid n hi)
    have hle : n ≤ (T.length : Int) := by
      apply Classical.byContradiction
      intro h
      obtain ⟨i, hi, he⟩ := hleast (T.length : Int) (by omega) (by omega)
      rw [hid i hi] at he
      have := hi.2
      omega
    have : n = (T.length : Int) := by omega
    subst this
    exact ⟨rfl, rfl⟩

def f1 : Fil := ⟨0, 1, [98], []⟩
def f2 : Fil := ⟨0, 2, [97], [47, 98]⟩
def f3 : Fil := ⟨1, 0, [99], []⟩
def T3 : List Nod := nextT (nextT (nextT T0 f1) f2) f3

theorem run3 {T : List Nod} {num : List Int} (R : RunT [f1, f2, f3] T num) : T = T3 ∧ num = [0, 1, 2, 3, 4] := by
  obtain ⟨U2, m2, R2, P2, G2⟩ := RunT.inv (fs := [f1, f2]) (f := f3) R
  obtain ⟨U1, m1, R1, P1, G1⟩ := RunT.inv (fs := [f1]) (f := f2) R2
  obtain ⟨U0, m0, R0, P0, G0⟩ := RunT.inv (fs := []) (f := f1) R1
  obtain ⟨rfl, rfl⟩ := R0.inv0
  have ids : ∀ (T : List Nod) (num : List Int), (∀ k : Fin T.length, num[k.val]?.getD 0 = (k.val : Int)) → ∀ i, inT T i → nu num i = i := by
    intro T num h i hi
    have h1 := hi.1
    have h2 := hi.2
    have := h ⟨i.toNat, by omega⟩
    unfold nu
    rw [this]
    simp; omega
  obtain ⟨rfl, rfl⟩ := put_next (ids _ _ (by decide +kernel)) (by decide) P0 G0 (by unfold PutG; decide +kernel)
  obtain ⟨rfl, rfl⟩ := put_next (ids _ _ (by decide +kernel)) (by decide +kernel) P1 G1 (by unfold PutG; decide +kernel)
  obtain ⟨rfl, rfl⟩ := put_next (ids _ _ (by decide +kernel)) (by decide +kernel) P2 G2 (by unfold PutG; decide +kernel)
  exact ⟨rfl, by decide +kernel⟩

theorem path_ac : pathP [47, 97, 47, 99] = some [[97], [99]] := by decide +kernel
theorem path_a : pathP [47, 97] = some [[97]] := by decide +kernel
theorem walk_ac : walkA (docFs T3) 1 true 600 1 0 [[97], [99]] = (4, 0) := by decide +kernel
theorem walk_a : walkA (docFs T3) 1 false 600 1 0 [[97]] = (3, 0) := by decide +kernel

/-- a path, in a world -/
theorem WI.path {B : Int → UInt64} {X : VS} {S : FS} {T : List Nod} {num : List Int} (W : WI B X S T num) (path : List UInt8) (follow : Bool) :
    (pathA (viewFs S) path follow).2 = (pathA (docFs T) path follow).2 ∧ ((pathA (docFs T) path follow).2 = 0 → (pathA (viewFs S) path follow).1 = nu num (pathA (docFs T) path follow).1 ∧ inT T (pathA (docFs T) path follow).1) := by
  unfold pathA
  cases pathP path with
  | none => exact ⟨rfl, fun h => by cases h⟩
  | some l =>
    have h1 : inT T 1 := by have := W.w.two; exact ⟨by omega, by omega⟩
    have := walkA_alike W.w.alike (root := 1) (follow := follow) h1 600 1 0 l h1
    rw [W.w.root.1] at this
    exact this
end Go.Proofs.YtkdmlieckkdmgaaGreatDoor
/-
  Layer 12's statements: a link is lived through, walked.
-/
set_option linter.all false
set_option maxRecDepth 100000
set_option maxHeartbeats 4000000
namespace Go.Proofs.YtkdmlieckkdmgaaGreatDoor
open Go Go.Eng

theorem fil_ok (f : Fil) (h : inI64 f.in_ ∧ inI64 f.kind ∧ f.name.length ≤ 100 ∧ f.data.length ≤ 100) : f.ok := ⟨h.1, h.2.1, by omega, by omega⟩

theorem lives12_spec (h : Heap) : CallH Tryz.prog 6 [] h (fun v h' => Keeps [] h h' ∧ v = .bool true) := by
  refine call_of hmix Tryz.func6 rfl ok6 (by simp [Tryz.f6]) ?_
  conv => whnf
  refine AllocR.i fun b1 h1 e1 s1 o1 k1 => ?_
  have S1 : Sl h1 (some ⟨b1, 0, none⟩) 3 3 [f1, f2, f3] := by
    refine ⟨rfl, Nat.le_refl _, by decide, fun i hi => ⟨b1, 0, rfl, ([f1, f2, f3][i]).cells, ⟨rfl, ?_⟩, fun j hj => ?_⟩⟩
    · have hall : ∀ f ∈ [f1, f2, f3], f.ok := by
        intro f hf
        have : f = f1 ∨ f = f2 ∨ f = f3 := by simpa using hf
        rcases this with rfl | rfl | rfl <;> exact fil_ok _ ⟨by unfold inI64; decide, by unfold inI64; decide, by decide, by decide⟩
      exact hall _ (List.getElem_mem hi)
    · unfold Heap.cell?
      rw [o1]
      have h4 : j = 0 ∨ j = 1 ∨ j = 2 ∨ j = 3 := by simp [Fil.cells] at hj; omega
      have : i = 0 ∨ i = 1 ∨ i = 2 := by simp at hi; omega
      rcases this with rfl | rfl | rfl <;> rcases h4 with rfl | rfl | rfl | rfl <;> rfl
  conv => whnf
  refine CallR.i (begin12_spec S1) fun v h2 k2 hv => ?_
  obtain ⟨z, w, t, V, aT, cT, L, aN, cN, num, M, X, S, rfl, hz, hVg, H2, A2, W2, R2⟩ := hv
  have R3 : RunT [f1, f2, f3] (nds L) num := R2
  obtain ⟨hT, hnum⟩ := run3 R3
  have z1 := k1.size
  have z2 := k2.size
  conv => whnf
  refine IfR.f rfl ?_
  conv => whnf
  refine LoadR.o H2.obj rfl ?_
  have hVz := H2.zv
  conv => whnf
  refine CallR.m (vpath_spec A2 W2.fs W2.fc [47, 97, 47, 99] (by decide) true) (by simp [blocksOf]) fun v h3 k3 hv => ?_
  obtain ⟨rfl, s3, A3⟩ := hv
  obtain ⟨p1, p2⟩ := W2.path [47, 97, 47, 99] true
  have pe : pathA (docFs (nds L)) [47, 97, 47, 99] true = (4, 0) := by
    unfold pathA
    rw [path_ac, hT]
    exact walk_ac
  rw [pe] at p1 p2
  obtain ⟨p3, p4⟩ := p2 rfl
  have hn4 : nu num 4 = 4 := by rw [hnum]; rfl
  have hc4 : (S.C 4).kind = 1 := by
    have := (W2.w.kind 4 p4).1
    rw [hn4, hT] at this
    rw [this]
    decide +kernel
  have er : pathA (viewFs S) [47, 97, 47, 99] true = (4, 0) := Prod.ext (by rw [p3]; exact hn4) p1
  rw [er]
  have k03 : Keeps [V.sb] h2 h3 := k3
  have z3 := k3.size
  have hsb : V.sb < z := hVz V.sb (by simp [VL.blocks])
  have H3 := H2.keep k3 (fun x hx => by simp at hx; omega)
  unfold walkV
  rw [if_pos rfl]
  conv => whnf
  refine AllocR.i fun b4 h4 e4 s4 o4 k4 => ?_
  conv => whnf
  refine BoxR.i fun h5 s5 k5 => ?_
  have k35 : Keeps [] h3 h5 := k4.new1 k5 (by omega)
  have A5 := A3.on k35
  have H5 := H3.keep k35 (by simp)
  have z5 := k35.size
  conv => whnf
  refine LoadR.o H5.obj rfl ?_
  conv => whnf
  refine CallR.m (vpath_spec (X := { X with seen := s3 }) A5 W2.fs W2.fc [47, 97] (by decide) false) (fun y hy hx => by
      have hy2 : y = b4 := by simpa [blocksOf, setB] using hy
      have := H2.old
      have h2z : z ≤ h2.size := by have := H2.zw; have := this.1; omega
      simp at hx; omega) fun v h6 k6 hv => ?_
  obtain ⟨rfl, s6, A6⟩ := hv
  have hz2 : z ≤ h2.size := by have := H2.old; have := H2.zw; omega
  have H6 := H5.keep k6 (fun x hx => by simp at hx; omega)
  have z6 := k6.size
  obtain ⟨q1, q2⟩ := W2.path [47, 97] false
  have qe : pathA (docFs (nds L)) [47, 97] false = (3, 0) := by
    unfold pathA
    rw [path_a, hT]
    exact walk_a
  rw [qe] at q1 q2
  obtain ⟨q3, q4⟩ := q2 rfl
  have hn3 : nu num 3 = 3 := by rw [hnum]; rfl
  have er2 : pathA (viewFs S) [47, 97] false = (3, 0) := Prod.ext (by rw [q3]; exact hn3) q1
  rw [er2]
  unfold walkV
  rw [if_pos rfl]
  conv => whnf
  refine AllocR.i fun b7 h7 e7 s7 o7 k7 => ?_
  conv => whnf
  refine BoxR.i fun h8 s8 k8 => ?_
  have k68 : Keeps [] h6 h8 := k7.new1 k8 (by omega)
  have H8 := H6.keep k68 (by simp)
  conv => whnf
  refine LoadR.o H8.obj rfl ?_
  conv => whnf
  refine LoadR.o H8.tr rfl ?_
  conv => whnf
  have hLl : L.length = 5 := by
    have := nds_len L
    rw [hT] at this
    exact this.symm
  have hsbg : h1.size ≤ V.sb := hVg V.sb (by simp [VL.blocks])
  have k0_6 : Keeps [] h h6 := (((k1.trans k2).new1 k3 (by omega)).trans k35).new1 k6 (by omega)
  refine ⟨k0_6.trans k68, ?_⟩
  have e1 : ((S.C (4, (0 : Int)).fst).kind == 1) = true := by
    show ((S.C 4).kind == 1) = true
    rw [hc4]; rfl
  rw [e1, hLl]
  rfl
end Go.Proofs.YtkdmlieckkdmgaaGreatDoor
/-
  The library's maps.Keys, slices.Sorted and slices.Sort at whole numbers, laid at this program (made by wip/tools/laysrt.py).
-/
set_option linter.all false
namespace Go.Proofs.YtkdmlieckkdmgaaGreatDoor
open Go Go.Shelf
def keysA_ren : Go.Shelf.Ren := ⟨fun | 7 => 64 | 10 => 133 | n => n, fun | 23 => 76 | 26 => 3 | 3 => 4 | 28 => 94 | 0 => 0 | 27 => 93 | 33 => 104 | 4 => 4 | n => n, fun n => n⟩
theorem keysA : SlLaysZI.n7 Tryz.prog keysA_ren := {
  mixed := by kernel_rfl,
  f7 := ⟨Tryz.f64.name, by decide, Tryz.func64.trans (congrArg some (by kernel_rfl))⟩,
  f10 := ⟨Tryz.f133.name, by decide, Tryz.func133.trans (congrArg some (by kernel_rfl))⟩,
  t0 := Tryz.underlying0,
  a0 := Tryz.isAgg0,
  z0 := Tryz.sizeOf0,
  v0 := Tryz.zeroValue0,
  t4 := Tryz.underlying4,
  a4 := Tryz.isAgg4,
  z4 := Tryz.sizeOf4,
  v4 := Tryz.zeroValue4,
  t23 := Tryz.underlying76,
  a23 := Tryz.isAgg76,
  z23 := Tryz.sizeOf76,
  v23 := Tryz.zeroValue76,
  t26 := Tryz.underlying3,
  a26 := Tryz.isAgg3,
  z26 := Tryz.sizeOf3,
  v26 := Tryz.zeroValue3,
  t27 := Tryz.underlying93,
  a27 := Tryz.isAgg93,
  z27 := Tryz.sizeOf93,
  v27 := Tryz.zeroValue93,
  t28 := Tryz.underlying94,
  a28 := Tryz.isAgg94,
  z28 := Tryz.sizeOf94,
  v28 := Tryz.zeroValue94,
  t33 := Tryz.underlying104,
  a33 := Tryz.isAgg104,
  z33 := Tryz.sizeOf104,
  v33 := Tryz.zeroValue104 }
def keysB_ren : Go.Shelf.Ren := ⟨fun | 7 => 36 | 10 => 80 | n => n, fun | 23 => 74 | 26 => 3 | 3 => 32 | 28 => 94 | 0 => 0 | 27 => 93 | 33 => 104 | 4 => 4 | n => n, fun n => n⟩
theorem keysB : SlLaysZI.n7 Tryz.prog keysB_ren := {
  mixed := by kernel_rfl,
  f7 := ⟨Tryz.f36.name, by decide, Tryz.func36.trans (congrArg some (by kernel_rfl))⟩,
  f10 := ⟨Tryz.f80.name, by decide, Tryz.func80.trans (congrArg some (by kernel_rfl))⟩,
  t0 := Tryz.underlying0,
  a0 := Tryz.isAgg0,
  z0 := Tryz.sizeOf0,
  v0 := Tryz.zeroValue0,
  t4 := Tryz.underlying4,
  a4 := Tryz.isAgg4,
  z4 := Tryz.sizeOf4,
  v4 := Tryz.zeroValue4,
  t23 := Tryz.underlying74,
  a23 := Tryz.isAgg74,
  z23 := Tryz.sizeOf74,
  v23 := Tryz.zeroValue74,
  t26 := Tryz.underlying3,
  a26 := Tryz.isAgg3,
  z26 := Tryz.sizeOf3,
  v26 := Tryz.zeroValue3,
  t27 := Tryz.underlying93,
  a27 := Tryz.isAgg93,
  z27 := Tryz.sizeOf93,
  v27 := Tryz.zeroValue93,
  t28 := Tryz.underlying94,
  a28 := Tryz.isAgg94,
  z28 := Tryz.sizeOf94,
  v28 := Tryz.zeroValue94,
  t33 := Tryz.underlying104,
  a33 := Tryz.isAgg104,
  z33 := Tryz.sizeOf104,
  v33 := Tryz.zeroValue104 }
def sortedA_ren : Go.Shelf.Ren := ⟨fun | 6 => 35 | 8 => 78 | 9 => 79 | 11 => 141 | 13 => 143 | 12 => 142 | 23 => 189 | 24 => 179 | 14 => 180 | 15 => 181 | 16 => 182 | 17 => 183 | 18 => 184 | 19 => 185 | 20 => 186 | 21 => 187 | 22 => 188 | 25 => 226 | 26 => 227 | 27 => 228 | 28 => 229 | 29 => 230 | 30 => 231 | 31 => 249 | n => n, fun | 26 => 3 | 28 => 94 | 24 => 26 | 0 => 0 | 3 => 3 | 37 => 45 | 48 => 257 | 50 => 32 | 4 => 4 | 40 => 250 | 39 => 249 | 45 => 128 | 5 => 5 | 9 => 9 | 51 => 285 | 55 => 289 | 57 => 303 | 58 => 304 | 33 => 104 | n => n, fun n => n⟩
theorem sortedA : SlLaysZI.n6 Tryz.prog sortedA_ren := {
  mixed := by kernel_rfl,
  f6 := ⟨Tryz.f35.name, by decide, Tryz.func35.trans (congrArg some (by kernel_rfl))⟩,
  f8 := ⟨Tryz.f78.name, by decide, Tryz.func78.trans (congrArg some (by kernel_rfl))⟩,
  f11 := ⟨Tryz.f141.name, by decide, Tryz.func141.trans (congrArg some (by kernel_rfl))⟩,
  t0 := Tryz.underlying0,
  a0 := Tryz.isAgg0,
  z0 := Tryz.sizeOf0,
  v0 := Tryz.zeroValue0,
  t24 := Tryz.underlying26,
  a24 := Tryz.isAgg26,
  z24 := Tryz.sizeOf26,
  v24 := Tryz.zeroValue26,
  t26 := Tryz.underlying3,
  a26 := Tryz.isAgg3,
  z26 := Tryz.sizeOf3,
  v26 := Tryz.zeroValue3,
  t28 := Tryz.underlying94,
  a28 := Tryz.isAgg94,
  z28 := Tryz.sizeOf94,
  v28 := Tryz.zeroValue94,
  i26 := by kernel_rfl }
def srti_ren : Go.Shelf.Ren := ⟨fun | 5 => 79 | 8 => 143 | 7 => 142 | 19 => 189 | 20 => 179 | 10 => 180 | 11 => 181 | 12 => 182 | 13 => 183 | 14 => 184 | 15 => 185 | 16 => 186 | 17 => 187 | 18 => 188 | 30 => 226 | 31 => 227 | 32 => 228 | 33 => 229 | 34 => 230 | 35 => 231 | 40 => 249 | n => n, fun | 23 => 26 | 25 => 3 | 3 => 3 | 32 => 45 | 22 => 26 | 0 => 0 | 44 => 257 | 46 => 32 | 4 => 4 | 36 => 250 | 35 => 249 | 41 => 128 | 5 => 5 | 9 => 9 | 53 => 285 | 57 => 289 | 63 => 303 | 64 => 304 | n => n, fun n => n⟩
theorem srti : SlLaysM.n5 Tryz.prog srti_ren := {
  mixed := by kernel_rfl,
  f5 := ⟨Tryz.f79.name, by decide, Tryz.func79.trans (congrArg some (by kernel_rfl))⟩,
  f7 := ⟨Tryz.f142.name, by decide, Tryz.func142.trans (congrArg some (by kernel_rfl))⟩,
  f8 := Tryz.func143.trans (congrArg some (by kernel_rfl)),
  f10 := ⟨Tryz.f180.name, by decide, Tryz.func180.trans (congrArg some (by kernel_rfl))⟩,
  f11 := ⟨Tryz.f181.name, by decide, Tryz.func181.trans (congrArg some (by kernel_rfl))⟩,
  f12 := ⟨Tryz.f182.name, by decide, Tryz.func182.trans (congrArg some (by kernel_rfl))⟩,
  f13 := ⟨Tryz.f183.name, by decide, Tryz.func183.trans (congrArg some (by kernel_rfl))⟩,
  f14 := ⟨Tryz.f184.name, by decide, Tryz.func184.trans (congrArg some (by kernel_rfl))⟩,
  f15 := ⟨Tryz.f185.name, by decide, Tryz.func185.trans (congrArg some (by kernel_rfl))⟩,
  f16 := ⟨Tryz.f186.name, by decide, Tryz.func186.trans (congrArg some (by kernel_rfl))⟩,
  f17 := ⟨Tryz.f187.name, by decide, Tryz.func187.trans (congrArg some (by kernel_rfl))⟩,
  f18 := ⟨Tryz.f188.name, by decide, Tryz.func188.trans (congrArg some (by kernel_rfl))⟩,
  f19 := Tryz.func189.trans (congrArg some (by kernel_rfl)),
  f20 := Tryz.func179.trans (congrArg some (by kernel_rfl)),
  f30 := ⟨Tryz.f226.name, by decide, Tryz.func226.trans (congrArg some (by kernel_rfl))⟩,
  f31 := Tryz.func227.trans (congrArg some (by kernel_rfl)),
  f32 := Tryz.func228.trans (congrArg some (by kernel_rfl)),
  f33 := ⟨Tryz.f229.name, by decide, Tryz.func229.trans (congrArg some (by kernel_rfl))⟩,
  f34 := ⟨Tryz.f230.name, by decide, Tryz.func230.trans (congrArg some (by kernel_rfl))⟩,
  f35 := ⟨Tryz.f231.name, by decide, Tryz.func231.trans (congrArg some (by kernel_rfl))⟩,
  f40 := ⟨Tryz.f249.name, by decide, Tryz.func249.trans (congrArg some (by kernel_rfl))⟩,
  t0 := Tryz.underlying0,
  a0 := Tryz.isAgg0,
  z0 := Tryz.sizeOf0,
  v0 := Tryz.zeroValue0,
  t3 := Tryz.underlying3,
  a3 := Tryz.isAgg3,
  z3 := Tryz.sizeOf3,
  v3 := Tryz.zeroValue3,
  t4 := Tryz.underlying4,
  a4 := Tryz.isAgg4,
  z4 := Tryz.sizeOf4,
  v4 := Tryz.zeroValue4,
  t5 := Tryz.underlying5,
  a5 := Tryz.isAgg5,
  z5 := Tryz.sizeOf5,
  v5 := Tryz.zeroValue5,
  t9 := Tryz.underlying9,
  a9 := Tryz.isAgg9,
  z9 := Tryz.sizeOf9,
  v9 := Tryz.zeroValue9,
  t22 := Tryz.underlying26,
  a22 := Tryz.isAgg26,
  z22 := Tryz.sizeOf26,
  v22 := Tryz.zeroValue26,
  t23 := Tryz.underlying26,
  a23 := Tryz.isAgg26,
  z23 := Tryz.sizeOf26,
  v23 := Tryz.zeroValue26,
  t25 := Tryz.underlying3,
  a25 := Tryz.isAgg3,
  z25 := Tryz.sizeOf3,
  v25 := Tryz.zeroValue3,
  t32 := Tryz.underlying45,
  a32 := Tryz.isAgg45,
  z32 := Tryz.sizeOf45,
  v32 := Tryz.zeroValue45,
  t35 := Tryz.underlying249,
  a35 := Tryz.isAgg249,
  z35 := Tryz.sizeOf249,
  v35 := Tryz.zeroValue249,
  t36 := Tryz.underlying250,
  a36 := Tryz.isAgg250,
  z36 := Tryz.sizeOf250,
  v36 := Tryz.zeroValue250,
  t41 := Tryz.underlying128,
  a41 := Tryz.isAgg128,
  z41 := Tryz.sizeOf128,
  v41 := Tryz.zeroValue128,
  t44 := Tryz.underlying257,
  a44 := Tryz.isAgg257,
  z44 := Tryz.sizeOf257,
  v44 := Tryz.zeroValue257,
  t46 := Tryz.underlying32,
  a46 := Tryz.isAgg32,
  z46 := Tryz.sizeOf32,
  v46 := Tryz.zeroValue32,
  t53 := Tryz.underlying285,
  a53 := Tryz.isAgg285,
  z53 := Tryz.sizeOf285,
  v53 := Tryz.zeroValue285,
  t57 := Tryz.underlying289,
  a57 := Tryz.isAgg289,
  z57 := Tryz.sizeOf289,
  v57 := Tryz.zeroValue289,
  t63 := Tryz.underlying303,
  a63 := Tryz.isAgg303,
  z63 := Tryz.sizeOf303,
  v63 := Tryz.zeroValue303,
  t64 := Tryz.underlying304,
  a64 := Tryz.isAgg304,
  z64 := Tryz.sizeOf304,
  v64 := Tryz.zeroValue304 }
end Go.Proofs.YtkdmlieckkdmgaaGreatDoor
/-
  A map's keys, sorted: what the library's slices.Sorted and maps.Keys tell of a map that is known.
-/
set_option linter.all false
set_option maxRecDepth 100000
set_option maxHeartbeats 2000000
namespace Go.Proofs.YtkdmlieckkdmgaaGreatDoor
open Go Go.Eng Go.RowKit Go.Maps Go.Sort Go.Shelf Go.WideElems

def anyE (_ : Value) : Option (DataW Unit × List MemPlace) := some (.nil, [])

theorem owns_mapL {P : Program} {k : TypeId} (hk : P.underlying k = some (.int .i64)) {w : World} {r : Nat} {xs : List (Int × Value)} (M : MapL w.heap r xs) (hr : ∀ p ∈ xs, (Lit.int .i64 p.1).wf = true) (hlen : xs.length ≤ 1000000) :
    ∃ D : DataW Unit, w.ownsMap P k anyE r xs.length D ∧ (intKeys D).Perm (xs.map (·.1)) ∧ Maps.size D = xs.length := by
  obtain ⟨es, cl, h1, h2, h3, h4, h5⟩ := M
  have hl : es.size = xs.length := by
    have := congrArg List.length h2
    simpa using this
  have hkeys : es.toList.map (·.key) = xs.map fun p => Value.int .i64 p.1 := by
    have := congrArg (List.map (·.1)) h2
    simpa [List.map_map, Function.comp_def] using this
  have hrg : ∀ e : MapEntry, rg P k anyE e = ((keyOf P k e.key).map fun key => (key, DataW.nil (H := Unit))).getD (.bool false, .nil) := by
    intro e
    unfold rg WideElems.rd anyE
    cases keyOf P k e.key <;> rfl
  have hmap : es.toList.map (rg P k anyE) = xs.map fun (p : Int × Value) => (Lit.int .i64 p.1, DataW.nil (H := Unit)) := by
    have e1 : es.toList.map (rg P k anyE) = (es.toList.map (·.key)).map fun v => ((keyOf P k v).map fun key => (key, DataW.nil (H := Unit))).getD (.bool false, .nil) := by
      rw [List.map_map]
      exact List.map_congr_left fun e _ => hrg e
    rw [e1, hkeys, List.map_map]
    refine List.map_congr_left fun p hp => ?_
    simp only [Function.comp_def]
    rw [keyOf_int_mk hk (hr p hp)]
    rfl
  refine ⟨.map ((es.toList.map (rg P k anyE)).foldr DataW.insert []), ⟨es, cl, h1, ⟨?_, ⟨h5, h4, ?_⟩, fun e he => ?_⟩, by omega, rfl⟩, ?_, ?_⟩
  · have : (1000000 : Nat) ≤ maxLen := by decide
    omega
  · rw [hkeys]
    have h6 : xs.map (fun p => Value.int .i64 p.1) = (xs.map (·.1)).map fun a => Value.int .i64 a := by rw [List.map_map]; rfl
    rw [h6]
    unfold List.Nodup
    rw [List.pairwise_map]
    exact h3.imp fun hne e => hne (by injection e)
  · have hm : e.key ∈ es.toList.map (·.key) := List.mem_map.2 ⟨e, he, rfl⟩
    rw [hkeys] at hm
    obtain ⟨p, hp, hpe⟩ := List.mem_map.1 hm
    refine ⟨(.int .i64 p.1, .nil), ?_⟩
    unfold WideElems.rd anyE
    rw [← hpe, keyOf_int_mk hk (hr p hp)]
    rfl
  · show (List.map (fun p : Lit × DataW Unit => Go.intOf p.1) _).Perm _
    have hp := (WideShapes.sorted_perm (es.toList.map (rg P k anyE))).map fun p : Lit × DataW Unit => Go.intOf p.1
    refine hp.trans ?_
    rw [hmap, List.map_map]
    have : (List.map ((fun p : Lit × DataW Unit => Go.intOf p.1) ∘ fun p : Int × Value => (Lit.int .i64 p.1, DataW.nil)) xs) = xs.map (·.1) := List.map_congr_left fun p _ => rfl
    rw [this]
  · rw [Maps.size_eq, length_sorted, hmap, List.length_map]

theorem row_own {w : World} {base : Nat} {e : TypeId} {v : Value} {n : Nat} {xs : List Value} (h : w.ownsRow base e 1 v n xs) : ∃ a c, v = .slice a n c ∧ Own w.heap e 1 a n c xs ∧ ∀ b ∈ blkA a, base ≤ b := by
  obtain ⟨hx, ⟨rfl, rfl⟩ | ⟨g, cap, cur, rfl, hg, ho, hn, _, hs, ht⟩⟩ := h
  · exact ⟨none, 0, rfl, .inl ⟨rfl, rfl, rfl, List.eq_nil_of_length_eq_zero (by omega)⟩, by simp [blkA]⟩
  · refine ⟨some ⟨g, 0, none⟩, cap, rfl, .inr ⟨g, cur.toList, rfl, ho, by rw [hx]; exact ht, by simpa using hs, hx, hn⟩, ?_⟩
    intro b hb
    have : b = g := by simpa [blkA] using hb
    omega
end Go.Proofs.YtkdmlieckkdmgaaGreatDoor
/-
  What slices.Sorted tells of what maps.Keys hands back: the keys of a map, sorted, in a slice of its own.
-/
set_option linter.all false
set_option maxRecDepth 100000
set_option maxHeartbeats 2000000
namespace Go.Proofs.YtkdmlieckkdmgaaGreatDoor
open Go Go.Eng Go.RowKit Go.Maps Go.Sort Go.Shelf Go.WideElems

theorem sorts_int (ρ : Ren) (hρ : ρ.f 9 = 79) (m : Nat) : AnyZI.SortsIn Tryz.prog ρ Fence.wide m :=
  ⟨fun blk off cap ss W hH hblk hsz => callsIn_wide.2 (by rw [hρ]; exact AnyM.slices_Sort_int srti blk off cap ss W hH hblk hsz),
   fun p cap W => callsIn_wide.2 (by rw [hρ]; exact AnyM.slices_Sort_int_none srti p cap W)⟩

theorem keysA_spec (r : Nat) (h : Heap) : CallH Tryz.prog 64 [.map (some r)] h (fun v h' => v = .func (.func 133) #[] #[.pointer (some ⟨h.size, 0, none⟩)] ∧ h' = h.push (.cells #[.map (some r)] 76 (0, 0))) := by
  intro w hw
  subst hw
  refine (callsIn_wide.1 (AnyZI.keys_in keysA Fence.wide 5 trivial rfl (some r) w)).mono fun e w' ⟨he, hw⟩ => ?_
  subst he hw
  exact ⟨_, rfl, ⟨rfl, rfl, rfl⟩, rfl, rfl⟩
theorem keysB_spec (r : Nat) (h : Heap) : CallH Tryz.prog 36 [.map (some r)] h (fun v h' => v = .func (.func 80) #[] #[.pointer (some ⟨h.size, 0, none⟩)] ∧ h' = h.push (.cells #[.map (some r)] 74 (0, 0))) := by
  intro w hw
  subst hw
  refine (callsIn_wide.1 (AnyZI.keys_in keysB Fence.wide 5 trivial rfl (some r) w)).mono fun e w' ⟨he, hw⟩ => ?_
  subst he hw
  exact ⟨_, rfl, ⟨rfl, rfl, rfl⟩, rfl, rfl⟩

theorem wf_int {x : Int} (h : inI64 x) : (Lit.int .i64 x).wf = true := by
  have h1 : IntKind.i64.min ≤ x := h.1
  have h2 : x ≤ IntKind.i64.max := h.2
  show (decide (IntKind.i64.min ≤ x) && decide (x ≤ IntKind.i64.max)) = true
  rw [decide_eq_true h1, decide_eq_true h2]; rfl

theorem sorted_of {h : Heap} {xs : List (Int × Value)} {f : Nat} {lb : List Value} {w : World} (hw : w.heap = h) {e : TypeId}
    (hr : ∀ p ∈ xs, inI64 p.1) {D : DataW Unit} (hD : (intKeys D).Perm (xs.map (·.1))) (hlen : xs.length ≤ 1000000)
    (c : Calls Tryz.prog f ⟨lb⟩ w fun e' w' => ∃ (v : Value) (ss : List Int), e' = .returned v ∧ ss.Perm (intKeys D) ∧ w'.ownsRow w.heap.size e 1 v ss.length ((ss.mergeSort (fun x y => decide (x ≤ y))).map encZ) ∧ (v = .slice none 0 0 ↔ ss = []) ∧ Below w.heap.size w w') :
    Calls Tryz.prog f ⟨lb⟩ w fun e w' => ∃ v, e = .returned v ∧ SameOut w w' ∧ Keeps [] h w'.heap ∧ ∃ a c l, v = .slice a l.length c ∧ Sl w'.heap a l.length c l ∧ l.Perm (xs.map (·.1)) := by
  subst hw
  refine c.mono ?_
  rintro e' w' ⟨v, ss, rfl, hS, hrow, _, hb⟩
  obtain ⟨a, c, rfl, O, _⟩ := row_own hrow
  have hp := (List.mergeSort_perm ss (fun x y => decide (x ≤ y)))
  have hpx : (ss.mergeSort (fun x y => decide (x ≤ y))).Perm (xs.map (·.1)) := hp.trans (hS.trans hD)
  have hll : ss.length = (ss.mergeSort (fun x y => decide (x ≤ y))).length := hp.length_eq.symm
  have hlx := hpx.length_eq
  rw [List.length_map] at hlx
  rw [hll] at O
  refine ⟨_, rfl, ⟨hb.os, hb.output, hb.tape⟩, ⟨hb.size, fun x hx _ => hb.block x hx⟩, a, c, ss.mergeSort (fun x y => decide (x ≤ y)), by rw [hll], ?_, hpx⟩
  refine O.sl (reps_ints _ _ fun x hx => ?_) rfl (by decide) (by omega)
  obtain ⟨p, hp, rfl⟩ := List.mem_map.1 (hpx.mem_iff.1 hx)
  exact hr p hp

theorem sortedA_spec {h : Heap} {b r : Nat} {T : TypeId} {xs : List (Int × Value)} (o : h[b]? = some (.cells #[.map (some r)] T (0, 0))) (M : MapL h r xs) (hr : ∀ p ∈ xs, inI64 p.1) (hlen : xs.length ≤ 1000000) :
    CallH Tryz.prog 35 [.func (.func 133) #[] #[.pointer (some ⟨b, 0, none⟩)]] h (fun v h' => Keeps [] h h' ∧ ∃ a c l, v = .slice a l.length c ∧ Sl h' a l.length c l ∧ l.Perm (xs.map (·.1))) := by
  intro w hw
  subst hw
  obtain ⟨D, hown, hp, hs⟩ := owns_mapL Tryz.underlying3 M (fun p hp => wf_int (hr p hp)) hlen
  have hbl := obj_lt o
  have hcell : w.cell? ⟨b, 0, none⟩ = some (.map (some r)) := by simp [World.cell?, o]
  have hseq : SeqGives Fence.wide 2 Tryz.prog 133 #[.pointer (some ⟨b, 0, none⟩)] encZ (fun ss => ss.Perm (intKeys D)) (Maps.size D) w :=
    AnyZI.keys_gives (ρ := keysA_ren) { keysA with } Fence.wide _ trivial rfl (by omega) b r xs.length D w hbl hcell hown
  have cS := AnyZI.sorted_in sortedA Fence.wide 5 trivial trivial trivial trivial rfl (by omega) (sorts_int _ rfl _) (enters_of Tryz.func79 (by kernel_rfl) rfl) 133 #[.pointer (some ⟨b, 0, none⟩)] trivial (enters_of Tryz.func133 (by kernel_rfl) rfl) _ _ (by rw [hs]; exact Nat.le_trans hlen (by decide)) (by rw [hs]; omega) w hseq
  exact sorted_of rfl hr hp hlen (callsIn_wide.1 cS)
theorem sortedB_spec {h : Heap} {b r : Nat} {T : TypeId} {xs : List (Int × Value)} (o : h[b]? = some (.cells #[.map (some r)] T (0, 0))) (M : MapL h r xs) (hr : ∀ p ∈ xs, inI64 p.1) (hlen : xs.length ≤ 1000000) :
    CallH Tryz.prog 35 [.func (.func 80) #[] #[.pointer (some ⟨b, 0, none⟩)]] h (fun v h' => Keeps [] h h' ∧ ∃ a c l, v = .slice a l.length c ∧ Sl h' a l.length c l ∧ l.Perm (xs.map (·.1))) := by
  intro w hw
  subst hw
  obtain ⟨D, hown, hp, hs⟩ := owns_mapL Tryz.underlying3 M (fun p hp => wf_int (hr p hp)) hlen
  have hbl := obj_lt o
  have hcell : w.cell? ⟨b, 0, none⟩ = some (.map (some r)) := by simp [World.cell?, o]
  have hseq : SeqGives Fence.wide 2 Tryz.prog 80 #[.pointer (some ⟨b, 0, none⟩)] encZ (fun ss => ss.Perm (intKeys D)) (Maps.size D) w :=
    AnyZI.keys_gives (ρ := keysB_ren) { keysB with } Fence.wide _ trivial rfl (by omega) b r xs.length D w hbl hcell hown
  have cS := AnyZI.sorted_in sortedA Fence.wide 5 trivial trivial trivial trivial rfl (by omega) (sorts_int _ rfl _) (enters_of Tryz.func79 (by kernel_rfl) rfl) 80 #[.pointer (some ⟨b, 0, none⟩)] trivial (enters_of Tryz.func80 (by kernel_rfl) rfl) _ _ (by rw [hs]; exact Nat.le_trans hlen (by decide)) (by rw [hs]; omega) w hseq
  exact sorted_of rfl hr hp hlen (callsIn_wide.1 cS)
end Go.Proofs.YtkdmlieckkdmgaaGreatDoor
/-
  Layers 2, 8: the numbers that were noted; which words aren't sure.
-/
set_option linter.all false
set_option maxRecDepth 100000
set_option maxHeartbeats 4000000
namespace Go.Proofs.YtkdmlieckkdmgaaGreatDoor
open Go Go.Eng

theorem has08_spec {h : Heap} {a : Option Addr} {n c : Nat} {l : List Int} (S : Sl h a n c l) (x : Int) : CallH Tryz.prog 11 [.slice a n c, .int .i64 x] h (fun v h' => Keeps [] h h' ∧ v = .bool (decide (x ∈ l))) := by
  have hl := S.hlen
  have hb := S.hbig
  refine call_of hmix Tryz.func11 rfl ok11 (by simp [Tryz.f11]) ?_
  conv => whnf
  refine LoopR.on [0, 1, 5] [] (fun i : Nat => [(0, .v (.slice a n c)), (1, .v (.int .i64 x)), (5, .v (.int .i64 (i : Int)))]) (fun _ => []) (fun i h' => i ≤ n ∧ Keeps [] h h' ∧ x ∉ l.take i) (fun i => n - i) 0 ?_ ?_
  · conv => whnf
    exact ⟨0, rfl, rfl, rfl, Nat.zero_le _, Keeps.refl _ _, by simp⟩
  · rintro i h1 ⟨hi, k1, hx⟩
    conv => whnf
    refine IfR.i (fun hc => ?_) (fun hc => ?_)
    · have hi1 : i < l.length := by simp at hc; omega
      obtain ⟨b2, o2, hb2, _, ⟨rfl, _⟩, hc2⟩ := (S.keep k1).at_ i hi1
      conv => whnf
      refine IdxS.i i rfl (by omega) hb2 ?_
      conv => whnf
      refine LoadR.i (hc2 0 (by simp)) ?_
      conv => whnf
      refine IfR.i (fun hd => ?_) (fun hd => ?_)
      · conv => whnf
        have e : l[i] = x := by simpa using hd
        have : x ∈ l := e ▸ List.getElem_mem hi1
        exact ⟨k1, by rw [decide_eq_true this]⟩
      · conv => whnf
        refine ⟨n - (i + 1), by omega, ?_⟩
        conv => whnf
        refine ⟨i + 1, rfl, by rw [wrapN (x := (i : Int) + 1) (n := i + 1) (by simp) (by omega)], rfl, by omega, k1, ?_⟩
        rw [List.take_succ_eq_append_getElem hi1, List.mem_append]
        rintro (h | h)
        · exact hx h
        · have e : ¬ l[i] = x := by simpa using hd
          exact e (by simpa using (List.mem_singleton.1 h).symm)
    · conv => whnf
      have hi1 : l.take i = l := List.take_of_length_le (by simp at hc; omega)
      rw [hi1] at hx
      exact ⟨k1, by rw [decide_eq_false hx]⟩

theorem setV_keys (s : List Int) : (setV s).map (·.1) = s := by
  unfold setV
  rw [List.map_map]
  conv => rhs; rw [← List.map_id s]
  rfl

theorem nlist_spec {h : Heap} {r : Nat} {s : List Int} (M : MapL h r (setV s)) (hs : ∀ x ∈ s, 0 ≤ x ∧ x < 24) : CallH Tryz.prog 25 [.map (some r)] h (fun v h' => Keeps [] h h' ∧ ∃ a c l, v = .slice a l.length c ∧ Sl h' a l.length c l ∧ l.Perm s) := by
  have hn : s.Nodup := by
    obtain ⟨es, cl, _, _, g, _⟩ := M
    rw [setV_keys] at g; exact g
  have hlen : s.length ≤ 24 := by
    have h1 : s ⊆ (List.range 24).map fun (i : Nat) => (i : Int) := fun x hx => by
      have := hs x hx
      exact List.mem_map.2 ⟨x.toNat, by simp; omega, by omega⟩
    have := hn.length_le_of_subset h1
    simpa using this
  have hr : ∀ p ∈ setV s, inI64 p.1 := fun p hp => by
    have : p.1 ∈ s := by rw [← setV_keys s]; exact List.mem_map.2 ⟨p, hp, rfl⟩
    have := hs _ this
    unfold inI64; omega
  refine call_of hmix Tryz.func25 rfl ok25 (by simp [Tryz.f25]) ?_
  conv => whnf
  refine CallR.i ((keysA_spec r h).mono (R' := fun v h' => Keeps [] h h' ∧ v = .func (.func 133) #[] #[.pointer (some ⟨h.size, 0, none⟩)] ∧ h' = h.push (.cells #[.map (some r)] 76 (0, 0))) fun v h' ⟨hv, hh⟩ => ⟨by rw [hh]; exact keeps_push _ _, hv, hh⟩) fun v h1 k1 hv => ?_
  obtain ⟨rfl, hh⟩ := hv
  have o1 : h1[h.size]? = some (.cells #[.map (some r)] 76 (0, 0)) := by rw [hh]; simp
  conv => whnf
  refine CallR.i (sortedA_spec o1 (M.keep k1 (by simp)) hr (by unfold setV; rw [List.length_map]; omega)) fun v h2 k2 hv => ?_
  obtain ⟨a, c, l, rfl, S2, p2⟩ := hv
  conv => whnf
  rw [setV_keys] at p2
  exact ⟨k1.trans k2, a, c, l, rfl, S2, p2⟩

theorem seen_spec {h : Heap} {V : VL} {M : MemS} {X : VS} (A : At h V M X) : CallH Tryz.prog 10 [.pointer (some ⟨V.v, 0, none⟩)] h (fun v h' => Keeps [] h h' ∧ ∃ a c l, v = .slice a l.length c ∧ Sl h' a l.length c l ∧ l.Perm X.seen) := by
  refine call_of hmix Tryz.func10 rfl ok10 (by simp [Tryz.f10]) ?_
  conv => whnf
  refine IfR.f rfl ?_
  conv => whnf
  refine LoadR.o A.obj rfl ?_
  conv => whnf
  refine CallR.i (nlist_spec A.seen fun x hx => A.rng x (List.mem_append_left _ hx)) fun v h1 k1 hv => ?_
  conv => whnf
  exact ⟨k1, hv⟩
theorem mine_spec {h : Heap} {V : VL} {M : MemS} {X : VS} (A : At h V M X) : CallH Tryz.prog 8 [.pointer (some ⟨V.v, 0, none⟩)] h (fun v h' => Keeps [] h h' ∧ ∃ a c l, v = .slice a l.length c ∧ Sl h' a l.length c l ∧ l.Perm X.mine) := by
  refine call_of hmix Tryz.func8 rfl ok8 (by simp [Tryz.f8]) ?_
  conv => whnf
  refine IfR.f rfl ?_
  conv => whnf
  refine LoadR.o A.obj rfl ?_
  conv => whnf
  refine CallR.i (nlist_spec A.mine fun x hx => A.rng x (List.mem_append_right _ hx)) fun v h1 k1 hv => ?_
  conv => whnf
  exact ⟨k1, hv⟩

theorem loose0_spec {h : Heap} {L : ML} {M : MemS} (A : MemAt h L M) (h0 : M.loose = []) : CallH Tryz.prog 14 [.pointer (some ⟨L.m, 0, none⟩)] h (fun v h' => Keeps [] h h' ∧ ∃ a c, v = .slice a 0 c) := by
  refine call_of hmix Tryz.func14 rfl ok14 (by simp [Tryz.f14]) ?_
  conv => whnf
  refine IfR.f rfl ?_
  conv => whnf
  refine LoadR.o A.obj rfl ?_
  have ML := A.loose
  rw [h0] at ML
  refine CallR.i ((keysB_spec L.lb h).mono (R' := fun v h' => Keeps [] h h' ∧ v = .func (.func 80) #[] #[.pointer (some ⟨h.size, 0, none⟩)] ∧ h' = h.push (.cells #[.map (some L.lb)] 74 (0, 0))) fun v h' ⟨hv, hh⟩ => ⟨by rw [hh]; exact keeps_push _ _, hv, hh⟩) fun v h1 k1 hv => ?_
  obtain ⟨rfl, hh⟩ := hv
  have o1 : h1[h.size]? = some (.cells #[.map (some L.lb)] 74 (0, 0)) := by rw [hh]; simp
  conv => whnf
  refine CallR.i (sortedB_spec o1 (ML.keep k1 (by simp)) (by simp [mapW]) (by simp [mapW])) fun v h2 k2 hv => ?_
  obtain ⟨a, c, l, rfl, S2, p2⟩ := hv
  conv => whnf
  have : l = [] := by simpa [mapW] using p2
  subst this
  exact ⟨k1.trans k2, a, c, rfl⟩
end Go.Proofs.YtkdmlieckkdmgaaGreatDoor
/-
  Layer 12's laws: a memory that is laid out.
-/
set_option linter.all false
set_option maxRecDepth 100000
set_option maxHeartbeats 4000000
namespace Go.Proofs.YtkdmlieckkdmgaaGreatDoor
open Go Go.Eng

theorem layS_spec {h : Heap} {L : ML} {M : MemS} (A : MemAt h L M) (hs : M.sure.length < 2824) : CallH Tryz.prog 13 [.pointer (some ⟨L.m, 0, none⟩)] h (fun v h' => Keeps [] h h' ∧ v = .int .i64 1) := by
  refine call_of hmix Tryz.func13 rfl ok13 (by simp [Tryz.f13]) ?_
  conv => whnf
  refine CallR.i (laid_spec h) fun v h1 k1 hv => ?_
  obtain ⟨b1, rfl, hb1, o1⟩ := hv
  conv => whnf
  refine CallR.i (msize_spec (A.on k1)) fun v h2 k2 hv => ?_
  subst hv
  conv => whnf
  refine IfR.t (by simp; omega) ?_
  conv => whnf
  exact ⟨k1.trans k2, rfl⟩
theorem nsize_spec (h : Heap) : CallH Tryz.prog 30 [.pointer none] h (fun v h' => Keeps [] h h' ∧ v = .int .i64 0) := by
  refine call_of hmix Tryz.func30 rfl ok30 (by simp [Tryz.f30]) ?_
  conv => whnf
  refine IfR.t rfl ?_
  conv => whnf
  exact ⟨Keeps.refl _ _, rfl⟩
theorem layN_spec (h : Heap) : CallH Tryz.prog 13 [.pointer none] h (fun v h' => Keeps [] h h' ∧ v = .int .i64 1) := by
  refine call_of hmix Tryz.func13 rfl ok13 (by simp [Tryz.f13]) ?_
  conv => whnf
  refine CallR.i (laid_spec h) fun v h1 k1 hv => ?_
  obtain ⟨b1, rfl, hb1, o1⟩ := hv
  conv => whnf
  refine CallR.i (nsize_spec h1) fun v h2 k2 hv => ?_
  subst hv
  conv => whnf
  refine IfR.t rfl ?_
  conv => whnf
  exact ⟨k1.trans k2, rfl⟩

theorem freeN_laid (s m a n : List Int) (ha : a = []) : freeN laidR ⟨laidR, s, m, a, n⟩ 96 = 96 := by
  subst ha
  unfold freeN
  rw [List.filter_eq_self.2 (fun j hj => ?_), List.length_range]
  have hj := List.mem_range.1 hj
  unfold freshB
  have h0 : laidR (200 + (j : Int)) = 0 := laid_own (by omega)
  simp [h0]
  omega

theorem laid_open : openP laidR (freshC 2 1) = (0, mNo, []) :=
  (fresh_dirV (node := 1) 1 (fun x x0 x1 e => by
    rw [laid_own x0] at e
    have : w64 (1 + 1) = 0 := e.symm
    exact absurd this (by decide))).open_

theorem mnewZ_spec (n : Nat) (hn : n ≤ 4096) (h : Heap) : CallH Tryz.prog 19 [.int .i64 (n : Int)] h (fun v h' => Keeps [] h h' ∧ ∃ L : ML, v = .pointer (some ⟨L.m, 0, none⟩) ∧ MemAt h' L ⟨List.replicate n 0, [], [], 0, -1⟩ ∧ MemO h' L ⟨List.replicate n 0, [], [], 0, -1⟩ ∧ ∀ x ∈ L.blocks, h.size ≤ x) := by
  refine call_of hmix Tryz.func19 rfl ok19 (by simp [Tryz.f19]) ?_
  conv => whnf
  have e1 : (if (4096 : Int) < (if (n : Int) < 0 then 0 else (n : Int)) then (4096 : Int) else (if (n : Int) < 0 then 0 else (n : Int))) = (n : Int) := by
    rw [if_neg (show ¬ ((n : Int) < 0) by omega), if_neg (by omega)]
  have e2 : (if (4096 : Int) < (if (0 : Int) > (n : Int) then 0 else (n : Int)) then (4096 : Int) else (if (0 : Int) > (n : Int) then 0 else (n : Int))) = (n : Int) := e1
  rw [e2]
  refine SemR.make (n := n) rfl rfl rfl rfl rfl (by show 8 * n ≤ _; omega) (by omega) fun b1 h1 e3 s1 o1 k1 => ?_
  have o1' : h1[b1]? = some (.cells ⟨(List.replicate n (0 : UInt64)).map wv⟩ 32 (0, 0)) := by
    rw [o1, List.map_replicate]; rfl
  have S1 : Sl h1 (some ⟨b1, 0, none⟩) n n (List.replicate n (0 : UInt64)) := Sl.of1' o1' (by simp [One.ok]) (by simp) (by simp; omega)
  conv => whnf
  refine CallR.i (loadO_spec S1 hn) fun v h2 k2 hv => ?_
  obtain ⟨L, rfl, A2, O2, nb⟩ := hv
  conv => whnf
  exact ⟨k1.trans k2, L, rfl, A2, O2, fun x hx => by have := nb x hx; omega⟩

def zer0 : List UInt64 := List.replicate 2824 0
def stW (l : List Chg) (ws : List UInt64) : List UInt64 := l.foldl (fun ws c => ws.set (idxC c.at_) c.v) ws

theorem laid12_law {h : Heap} {a : Option Addr} {n c : Nat} {l : List Chg} (S : Sl h a n c l) (k : Int) : CallH Tryz.prog 4 [.slice a n c, .int .i64 k] h (fun v h' => Keeps [] h h' ∧ v = .bool true) := by
  have hl := S.hlen
  have hbig := S.hbig
  refine call_of hmix Tryz.func4 rfl ok4 (by simp [Tryz.f4]) ?_
  conv => whnf
  refine CallR.i (lives12_spec h) fun v h1 k1 hv => ?_
  subst hv
  conv => whnf
  refine IfR.f rfl ?_
  conv => whnf
  refine SemR.make (n := 2824) rfl rfl rfl rfl rfl (by decide) (by decide) fun b2 h2 e2 s2 o2 k2 => ?_
  have o2' : h2[b2]? = some (.cells ⟨(stW (l.take 0) zer0).map wv⟩ 32 (0, 0)) := by rw [o2]; unfold zer0 stW; rw [List.take_zero, List.foldl_nil, List.map_replicate]; rfl
  have z1 := k1.size
  have z2 := k2.size
  conv => whnf
  refine LoopR.on [0, 1, 5, 6] [] (fun i : Nat => [(0, .v (.slice a n c)), (1, .v (.int .i64 k)), (5, .v (.slice (some ⟨b2, 0, none⟩) 2824 2824)), (6, .v (.int .i64 (i : Int)))]) (fun _ => [])
    (fun i h' => i ≤ n ∧ i ≤ 100 ∧ Keeps [] h h' ∧ h2.size ≤ h'.size ∧ h'[b2]? = some (.cells ⟨(stW (l.take i) zer0).map wv⟩ 32 (0, 0))) (fun i => n - i) 0 ?_ ?_
  · conv => whnf
    exact ⟨0, rfl, rfl, rfl, Nat.zero_le _, Nat.zero_le _, k1.trans k2, Nat.le_refl _, o2'⟩
  · rintro i h3 ⟨hi, hi100, k3, z3, o3⟩
    have hwl : (stW (l.take i) zer0).length = 2824 := by unfold stW; rw [foldl_set_len]; simp [zer0]
    conv => whnf
    refine IfR.i (fun hd => ?_) (fun hd => ?_)
    · have hi1 : i < l.length ∧ i < 100 := by simp [bif_and] at hd; omega
      obtain ⟨b5, o5, hb5, _, ⟨rfl, hok⟩, hc5⟩ := (S.keep k3).at_ i hi1.1
      have hidx := idxC_lt l[i].at_
      conv => whnf
      refine IdxS.i i rfl (by omega) hb5 ?_
      conv => whnf
      refine LoadR.i (hc5 0 (by simp)) ?_
      conv => whnf
      refine Need.i (by decide) ?_
      conv => whnf
      refine IdxS.i i rfl (by omega) hb5 ?_
      conv => whnf
      refine LoadR.i (hc5 1 (by simp)) ?_
      conv => whnf
      refine IdxS.i (idxC l[i].at_) ?_ hidx rfl ?_
      · rw [wrap_u64', Int.tmod_eq_emod_of_nonneg (by omega), wrapN (n := idxC l[i].at_) (by unfold idxC; omega) (by omega)]
      conv => whnf
      refine StoreR.i o3 ?_ (by simp [blocksOf]) fun h6 s6 o6 k6 => ?_
      · show 0 + idxC l[i].at_ * 1 + 1 ≤ _
        rw [List.length_map, hwl]; omega
      conv => whnf
      refine ⟨n - (i + 1), by omega, ?_⟩
      conv => whnf
      refine ⟨i + 1, rfl, by rw [wrapN (x := (i : Int) + 1) (n := i + 1) (by simp) (by omega)], rfl, by omega, by omega, k3.new1 k6 (by omega), by omega, ?_⟩
      have e6 := setW_splice (w := l[i].v) (i := idxC l[i].at_) (show idxC l[i].at_ < _ by rw [hwl]; exact hidx)
      unfold stW at e6 ⊢
      rw [List.take_succ_eq_append_getElem hi1.1, List.foldl_append]
      simp only [List.foldl_cons, List.foldl_nil]
      rw [← e6]; exact o6
    · generalize stW (l.take i) zer0 = ws at o3 hwl
      have S3 : Sl h3 (some ⟨b2, 0, none⟩) 2824 2824 ws := Sl.of1' o3 (by simp [One.ok]) (by omega) (by omega)
      conv => whnf
      refine CallR.i (loadO_spec S3 (by decide)) fun v h4 k4 hv => ?_
      obtain ⟨L, rfl, A4, O4, n4⟩ := hv
      conv => whnf
      refine CallR.m (layL_spec A4 O4 rfl hwl rfl rfl) (by simp [blocksOf]) fun v h5 k5 hv => ?_
      obtain ⟨rfl, N, A5, hu, hs, hr, hlo⟩ := hv
      conv => whnf
      refine IfR.t rfl ?_
      conv => whnf
      refine CallR.i (loose0_spec A5 hlo) fun v h6 k6 hv => ?_
      obtain ⟨a6, c6, rfl⟩ := hv
      conv => whnf
      refine IfR.f rfl ?_
      have A6 := A5.on k6
      conv => whnf
      refine CallR.i (new_spec A6) fun v h7 k7 hv => ?_
      rw [if_pos hs] at hv
      obtain ⟨V, rfl, hVm, hab, hanb, hVn, A7⟩ := hv
      have hr2 : N.read = laidR := funext hr
      rw [hr2] at A7
      conv => whnf
      refine CallR.m (vcard_spec A7 1) (by simp [blocksOf]) fun v h8 k8 hv => ?_
      rw [if_pos (by decide)] at hv
      obtain ⟨rfl, A8⟩ := hv
      have hc1 : cardR (rdL laidR (8 + 1 * 8) 8) = some (freshC 2 1) := by
        have h1 := laid_cards ⟨1, by decide⟩
        have h2 : rdL laidR (8 + 1 * 8) 8 = cardW (freshC 2 1) := h1
        rw [h2]; exact cardR_W (freshC_ok (by decide) 1).2
      rw [hc1]
      have z4 := k4.size
      have z5 := k5.size
      have z6 := k6.size
      have z7 := k7.size
      have z8 := k8.size
      have hVge : ∀ b ∈ V.blocks, h3.size ≤ b := by
        intro b hb
        have hb2 : b ∈ [V.v, V.ob, V.sb, V.mb] ∨ b ∈ L.blocks := by
          unfold VL.blocks at hb
          rw [hVm, hab, hanb] at hb
          simp only [List.mem_cons, List.mem_append, Option.toList, List.not_mem_nil, or_false] at hb ⊢
          rcases hb with h | h | h | h | h <;> simp [h]
        rcases hb2 with h | h
        · have := hVn b h; omega
        · exact n4 b h
      have hsb : h3.size ≤ V.sb := hVge V.sb (by simp [VL.blocks])
      have k38 : Keeps [] h3 h8 := ((k4.nil_of k5 (fun b hb => n4 b hb)).trans (k6.trans k7)).nil_of k8 (fun b hb => by
        have : b = V.sb := by simpa using hb
        omega)
      conv => whnf
      refine AllocR.i fun b9 h9 e9 s9 o9 k9 => ?_
      conv => whnf
      refine BoxR.i fun h10 s10 k10 => ?_
      have z9 := k9.size
      have k310 : Keeps [] h3 h10 := (k38.trans k9).new1 k10 (by omega)
      have A10 := A8.on (k9.new1 k10 (by omega))
      conv => whnf
      refine CallR.i (list_spec A10 (freshC 2 1) (freshC_ok (by decide) 1).1) fun v h11 k11 hv => ?_
      have hv : ListR h10 h11 (openP laidR (freshC 2 1)) v := hv
      rw [laid_open] at hv
      unfold ListR at hv
      rw [if_pos rfl] at hv
      obtain ⟨a11, c11, rfl, _⟩ := hv
      have A11 := A10.on k11
      conv => whnf
      refine CallR.i (refFresh_spec 2 1 h11) fun v h12 k12 hv => ?_
      rw [if_pos (by decide)] at hv
      subst hv
      have A12 := A11.on k12
      conv => whnf
      refine AllocR.i fun b13 h13 e13 s13 o13 k13 => ?_
      conv => whnf
      refine BoxR.i fun h14 s14 k14 => ?_
      have k1214 : Keeps [] h12 h14 := k13.new1 k14 (by omega)
      have A14 := A12.on k1214
      conv => whnf
      refine Need.i (by decide) ?_
      have ek : IntKind.i64.wrap ((IntKind.u64.wrap k).tmod 2824) = ((idxC k : Nat) : Int) := by
        rw [wrap_u64', Int.tmod_eq_emod_of_nonneg (by omega), wrapN (n := idxC k) (by unfold idxC; omega) (by have := idxC_lt k; omega)]
      have hkl := idxC_lt k
      conv => whnf
      rw [ek]
      refine CallR.i (mnewZ_spec (idxC k) (by omega) h14) fun v h15 k15 hv => ?_
      obtain ⟨L2, rfl, A15, O15, n15⟩ := hv
      have A15v := A14.on k15
      conv => whnf
      refine PureR.eqAgg (by kernel_rfl) (eqT_crd (freshC 2 1) (freshC 2 1)) ?_
      have hfree : freeN N.read (seeS ⟨laidR, [], [], [], []⟩ 1) 96 = 96 := by rw [hr2]; exact freeN_laid _ _ _ _ rfl
      have hcr1 : decide (freshC 2 1 = freshC 2 1) = true := decide_eq_true rfl
      conv => whnf
      refine IfR.t (by rw [hcr1]; rfl) ?_
      conv => whnf
      refine CallR.i (free_spec A15v) fun v h16 k16 hv => ?_
      rw [hfree] at hv
      subst hv
      conv => whnf
      refine IfR.t (by rw [hcr1]; rfl) ?_
      conv => whnf
      refine CallR.i (layS_spec (A15.on k16) (by show (List.replicate (idxC k) (0 : UInt64)).length < 2824; rw [List.length_replicate]; exact hkl)) fun v h17 k17 hv => ?_
      subst hv
      conv => whnf
      refine IfR.t (by rw [hcr1]; rfl) ?_
      conv => whnf
      refine CallR.i (layN_spec h17) fun v h18 k18 hv => ?_
      subst hv
      conv => whnf
      refine ⟨((k3.trans k310).trans (k11.trans (k12.trans k1214))).trans (k15.trans (k16.trans (k17.trans k18))), ?_⟩
      rw [hcr1]
      rfl
end Go.Proofs.YtkdmlieckkdmgaaGreatDoor
