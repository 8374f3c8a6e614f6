/-
  Joined texts: MemB, MemC, LayA, LaiZ, CalH, WldA, NewT, LayB, CalI, CalJ, CalK, CalL, LnkA.
-/
import Derived.Test.YtkjkdnphikendaaGreatDoorJLawCLinksl
import Derived.Test.YtkjkdnphikendaaGreatDoorJLawCLinksi
import Derived.Test.YtkjkdnphikendaaGreatDoorJLawCLinksk
import Derived.Test.YtkjkdnphikendaaGreatDoorJLawCLinksj
import Derived.Test.YtkjkdnphikendaaGreatDoorJLawCLinksf
/-
  Layer 2: a memory's loose words are on their way, and made sure.
-/
set_option linter.all false
set_option maxRecDepth 100000
set_option maxHeartbeats 1000000
namespace Go.Proofs.YtkjkdnphikendaaGreatDoor
open Go Go.Eng

/-- a memory's sure words lie in a block of its own -/
def MemO (h : Heap) (L : ML) (M : MemS) : Prop := Own h 56 1 L.sa L.len L.cap (M.sure.map wv)

theorem cloneO_spec {h : Heap} {b off n c : Nat} {ws : List UInt64} (S : Sl h (some ⟨b, off, none⟩) n c ws) (hn : n ≤ 1099511627776) : CallH Tryz.prog 36 [.slice (some ⟨b, off, none⟩) n c] h (fun v h' => Keeps [] h h' ∧ ∃ a' c', v = .slice a' n c' ∧ Own h' 56 1 a' n c' (ws.map wv) ∧ Sl h' a' n c' ws ∧ ∀ x ∈ blkA a', h.size ≤ x ∧ x < h'.size) := by
  refine call_of hmix Tryz.func36 rfl ok36 (by simp [Tryz.f36]) ?_
  conv => whnf
  refine IfR.f rfl ?_
  conv => whnf
  refine AllocR.i fun b1 h1 e1 s1 o1 k1 => ?_
  conv => whnf
  have hl := S.hlen
  have O : Own h1 56 1 (some ⟨b1, 0, none⟩) 0 0 [] := .inr ⟨b1, [], rfl, o1, rfl, rfl, rfl, Nat.le_refl _⟩
  refine append_own (e := 56) (sz := 1) (by_ := 8) (new := ws.map wv) rfl rfl rfl rfl rfl rfl rfl O (by simp [hl]) ((S.keep k1).cells1) (allOne_wv ws) (by omega) (by decide) (by simp [blocksOf]) ?_
  intro a2 c2 h2 O2 k2 n2
  conv => whnf
  rw [Nat.zero_add] at O2
  have nb : ∀ x ∈ blkA a2, h.size ≤ x ∧ x < h2.size := fun x hx => by
    refine ⟨?_, O2.lt x hx⟩
    rcases n2 x hx with h | h
    · simp [blkA] at h; omega
    · omega
  refine ⟨k1.nil_of k2 (by intro x hx; simp [blkA] at hx; omega), a2, c2, by rw [Nat.zero_add], O2, ?_, nb⟩
  have R : Reps h2 ([] ++ ws.map wv) ws := by
    rw [List.nil_append]
    exact reps_w h2 ws
  exact O2.sl R rfl (by decide) (by omega)

theorem loadO_spec {h : Heap} {b off n c : Nat} {ws : List UInt64} (S : Sl h (some ⟨b, off, none⟩) n c ws) (hn : n ≤ 4096) : CallH Tryz.prog 57 [.slice (some ⟨b, off, none⟩) n c] h (fun v h' => Keeps [] h h' ∧ ∃ L : ML, v = .pointer (some ⟨L.m, 0, none⟩) ∧ MemAt h' L ⟨ws, [], [], 0, -1⟩ ∧ MemO h' L ⟨ws, [], [], 0, -1⟩ ∧ ∀ x ∈ L.blocks, h.size ≤ x) := by
  refine call_of hmix Tryz.func57 rfl ok57 (by simp [Tryz.f57]) ?_
  conv => whnf
  have hm : (if (4096 : Int) < (n : Int) then (4096 : Int) else (n : Int)) = (n : Int) := if_neg (by omega)
  have hl := S.hlen
  refine SliceR.i 0 n rfl hm (Nat.zero_le _) S.hcap ?_
  conv => whnf
  have S1 := S.part (l := 0) (r := n) (Nat.zero_le _) (Nat.le_refl _)
  have e1 : ∀ s, slA (some ⟨b, off, none⟩) c 0 s = some ⟨b, off, none⟩ := fun s => by
    unfold slA; split
    · rfl
    · simp [Addr.add]
  rw [e1, Nat.sub_zero, Nat.sub_zero, List.drop_zero, hl, List.take_length, ← hl] at S1
  rw [e1, Nat.sub_zero, Nat.sub_zero]
  refine CallR.i (cloneO_spec S1 (by omega)) fun v h1 k1 hv => ?_
  obtain ⟨a', c', rfl, O2, S2, nb⟩ := hv
  conv => whnf
  refine AllocR.i fun b2 h2 e2 s2 o2 k2 => ?_
  conv => whnf
  refine AllocR.i fun b3 h3 e3 s3 o3 k3 => ?_
  conv => whnf
  refine AllocR.i fun b4 h4 e4 s4 o4 k4 => ?_
  conv => whnf
  have z1 := k1.size
  refine ⟨k1.trans (k2.trans (k3.trans k4)), ⟨b4, a', n, c', b2, b3⟩, rfl, ⟨o4, S2.keep (k2.trans (k3.trans k4)), (MapL.new o2).keep (k3.trans k4) (by simp), (MapL.new o3).keep k4 (by simp), by show b2 ≠ b3; omega, fun x hx => ?_, fun x hx => by have := nb x hx; omega⟩, O2.keep (k2.trans (k3.trans k4)) (by simp), ?_⟩
  · have := nb x hx
    show x ≠ b4 ∧ x ≠ b2 ∧ x ≠ b3
    omega
  · intro x hx
    simp only [ML.blocks, List.mem_cons] at hx
    rcases hx with hx | hx | hx | hx
    · have hx : x = b4 := hx; omega
    · have hx : x = b2 := hx; omega
    · have hx : x = b3 := hx; omega
    · exact (nb x hx).1

theorem mnew_spec (n : Nat) (hp : 0 < n) (hn : n ≤ 4096) (h : Heap) : CallH Tryz.prog 22 [.int .i64 (n : Int)] h (fun v h' => Keeps [] h h' ∧ ∃ L : ML, v = .pointer (some ⟨L.m, 0, none⟩) ∧ MemAt h' L ⟨List.replicate n 0, [], [], 0, -1⟩ ∧ MemO h' L ⟨List.replicate n 0, [], [], 0, -1⟩ ∧ ∀ x ∈ L.blocks, h.size ≤ x) := by
  refine call_of hmix Tryz.func22 rfl ok22 (by simp [Tryz.f22]) ?_
  conv => whnf
  have e1 : (if (4096 : Int) < (if (n : Int) < 0 then 0 else (n : Int)) then (4096 : Int) else (if (n : Int) < 0 then 0 else (n : Int))) = (n : Int) := by
    rw [if_neg (show ¬ ((n : Int) < 0) by omega), if_neg (by omega)]
  have e2 : (if (4096 : Int) < (if (0 : Int) > (n : Int) then 0 else (n : Int)) then (4096 : Int) else (if (0 : Int) > (n : Int) then 0 else (n : Int))) = (n : Int) := e1
  rw [e2]
  refine SemR.make (n := n) rfl rfl rfl rfl rfl (by show 8 * n ≤ _; omega) (by omega) fun b1 h1 e3 s1 o1 k1 => ?_
  have o1' : h1[b1]? = some (.cells ⟨(List.replicate n (0 : UInt64)).map wv⟩ 56 (0, 0)) := by
    rw [o1, List.map_replicate]; rfl
  have S1 : Sl h1 (some ⟨b1, 0, none⟩) n n (List.replicate n (0 : UInt64)) := Sl.of1' o1' (by simp [One.ok]) (by simp) (by simp; omega)
  conv => whnf
  refine CallR.i (loadO_spec S1 hn) fun v h2 k2 hv => ?_
  obtain ⟨L, rfl, A2, O2, nb⟩ := hv
  conv => whnf
  exact ⟨k1.trans k2, L, rfl, A2, O2, fun x hx => by have := nb x hx; omega⟩

/-! ### On the way -/

def flushN (loose way : List (Int × UInt64)) (first : Int) : Nat → List (Int × UInt64)
  | 0 => way
  | k + 1 => match lk loose (first + (k : Int)) with | some v => putW (flushN loose way first k) (first + (k : Int)) v | none => flushN loose way first k
theorem lk_flushN (loose way : List (Int × UInt64)) (first : Int) : ∀ (k : Nat) (x : Int), lk (flushN loose way first k) x = if first ≤ x ∧ x < first + (k : Int) then (match lk loose x with | some v => some v | none => lk way x) else lk way x
  | 0, x => by rw [if_neg (by omega)]; rfl
  | k + 1, x => by
    have ih := lk_flushN loose way first k x
    unfold flushN
    cases hl : lk loose (first + (k : Int)) with
    | none =>
      simp only
      rw [ih]
      by_cases e : x = first + (k : Int)
      · subst e
        rw [if_neg (by omega), if_pos (by omega), hl]
      · by_cases h2 : first ≤ x ∧ x < first + (k : Int)
        · rw [if_pos h2, if_pos (by omega)]
        · rw [if_neg h2, if_neg (by omega)]
    | some v =>
      simp only
      rw [lk_put]
      by_cases e : x = first + (k : Int)
      · rw [if_pos e, e, if_pos (by omega), hl]
      · rw [if_neg e, ih]
        by_cases h2 : first ≤ x ∧ x < first + (k : Int)
        · rw [if_pos h2, if_pos (by omega)]
        · rw [if_neg h2, if_neg (by omega)]

def lineOf (i : Int) : Int := i - i.tmod 8

theorem flush_spec {h : Heap} {L : ML} {M : MemS} (A : MemAt h L M) (i : Int) (hi : 0 ≤ i ∧ i < 1000000) (h0 : (M.call (M.there i)).1 = 0) : CallH Tryz.prog 62 [.pointer (some ⟨L.m, 0, none⟩), .int .i64 i] h (fun v h' => Keeps [L.m, L.wb] h h' ∧ v = .int .i64 0 ∧ MemAt h' L { (M.call (M.there i)).2 with way := flushN (M.call (M.there i)).2.loose (M.call (M.there i)).2.way (lineOf i) 8 }) := by
  refine call_of hmix Tryz.func62 rfl ok62 (by simp [Tryz.f62]) ?_
  conv => whnf
  refine CallR.i (there_spec A i) fun v h1 k1 hv => ?_
  subst hv
  have A1 := A.on k1
  conv => whnf
  refine CallR.m (call_spec A1 (M.there i)) (by simp [blocksOf]) fun v h2 k2 hv => ?_
  obtain ⟨rfl, A2⟩ := hv
  generalize (M.call (M.there i)).2 = N at A2 ⊢
  rw [h0]
  conv => whnf
  refine IfR.f rfl ?_
  have hm8 : 0 ≤ i.tmod 8 ∧ i.tmod 8 < 8 := by
    rw [Int.tmod_eq_emod_of_nonneg hi.1]; omega
  have ew : IntKind.i64.wrap (i - i.tmod 8) = lineOf i := wrapI (by omega) (by omega)
  have hlo : 0 ≤ lineOf i ∧ lineOf i < 1000000 := by
    unfold lineOf
    have : i.tmod 8 ≤ i := by rw [Int.tmod_eq_emod_of_nonneg hi.1]; omega
    omega
  conv => whnf
  refine Need.i (by decide) ?_
  conv => whnf
  rw [ew]
  generalize lineOf i = q at hlo ⊢
  refine LoopR.on [0, 6, 7] [] (fun k : Nat => [(0, .v (.pointer (some ⟨L.m, 0, none⟩))), (6, .v (.int .i64 q)), (7, .v (.int .i64 (q + (k : Int))))]) (fun _ => [])
    (fun k h' => k ≤ 8 ∧ Keeps [L.m, L.wb] h h' ∧ MemAt h' L { N with way := flushN N.loose N.way q k }) (fun k => 8 - k) 0 ?_ ?_
  · conv => whnf
    refine ⟨0, rfl, by simp, rfl, Nat.zero_le _, ?_, A2⟩
    exact (k1.mono (by simp)).trans (k2.mono (by simp))
  · rintro k h3 ⟨hk, k3, A3⟩
    have e8 : IntKind.i64.wrap (q + 8) = q + 8 := wrapI (by omega) (by omega)
    conv => whnf
    rw [e8]
    refine IfR.i (fun hc => ?_) (fun hc => ?_)
    · have hk1 : k < 8 := by simp at hc; omega
      conv => whnf
      first | refine LoadR.o A3.obj rfl ?_ | (refine MeetR.pass ?_; (conv => whnf); refine LoadR.o A3.obj rfl ?_)
      have en : IntKind.i64.wrap (q + (k : Int) + 1) = q + ((k + 1 : Nat) : Int) := by
        rw [wrapI (by omega) (by omega)]; simp; omega
      cases hl : lk N.loose (q + (k : Int)) with
      | some w =>
        conv => whnf
        refine LookR.is A3.loose (by rw [lookI_mapW, hl]) ?_
        conv => whnf
        first | refine IfR.t rfl ?_ | (refine MeetR.pass ?_; (conv => whnf); refine IfR.t rfl ?_)
        conv => whnf
        refine LoadR.o A3.obj rfl ?_
        conv => whnf
        refine SemR.put rfl rfl A3.way (by simp [blocksOf]) fun h4 s4 M4 k4 => ?_
        conv => whnf
        refine ⟨8 - (k + 1), by omega, ?_⟩
        conv => whnf
        refine ⟨k + 1, rfl, by rw [en], rfl, by omega, k3.trans (k4.mono (by simp)), ?_⟩
        have hfl : flushN N.loose N.way q (k + 1) = putW (flushN N.loose N.way q k) (q + (k : Int)) w := by
          conv => lhs; unfold flushN
          rw [hl]
        rw [hfl]
        have a3 := A3.ap3
        exact ⟨k4.obj A3.obj (by simpa using a3.2), A3.sure.keepM k4 (fun b hb => by simpa using (A3.ap2 b hb).2.2), A3.loose.keep k4 (by simpa using A3.ap1), by rw [← putI_mapW]; exact M4, A3.ap1, A3.ap2, fun b hb => Nat.lt_of_lt_of_le (A3.lt b hb) k4.size⟩
      | none =>
        conv => whnf
        refine LookR.is A3.loose (by rw [lookI_mapW, hl]) ?_
        conv => whnf
        first | refine IfR.f rfl ?_ | (refine MeetR.pass ?_; (conv => whnf); refine IfR.f rfl ?_)
        conv => whnf
        refine ⟨8 - (k + 1), by omega, ?_⟩
        conv => whnf
        refine ⟨k + 1, rfl, by rw [en], rfl, by omega, k3, ?_⟩
        have hfl : flushN N.loose N.way q (k + 1) = flushN N.loose N.way q k := by
          conv => lhs; unfold flushN
          rw [hl]
        rw [hfl]; exact A3
    · have hk1 : k = 8 := by simp at hc; omega
      subst hk1
      conv => whnf
      exact ⟨k3, rfl, A3⟩
end Go.Proofs.YtkjkdnphikendaaGreatDoor
/-
  Layer 2: what is on its way is made sure.
-/
set_option linter.all false
set_option maxRecDepth 100000
set_option maxHeartbeats 2000000
namespace Go.Proofs.YtkjkdnphikendaaGreatDoor
open Go Go.Eng

theorem nodup_mid {a : Int} {l1 l2 : List Int} : (l1 ++ a :: l2).Nodup ↔ (a :: (l1 ++ l2)).Nodup := List.perm_middle.nodup_iff

theorem own_sl {h : Heap} {a : Option Addr} {n c : Nat} {ws : List UInt64} (O : Own h 56 1 a n c (ws.map wv)) (hb : ws.length ≤ 281474976710656) : Sl h a n c ws := by
  exact O.sl (α := UInt64) (reps_w h ws) rfl (by decide) hb

theorem lk_erase {l : List (Int × UInt64)} {j : Nat} {n : Int} (hn : (l.map (·.1)).Nodup) (hj : (l[j]?).map (·.1) = some n) (k : Int) : lk (l.eraseIdx j) k = if k = n then none else lk l k := by
  induction l generalizing j with
  | nil => simp at hj
  | cons p l ih =>
    obtain ⟨a, v⟩ := p
    simp only [List.map_cons, List.nodup_cons] at hn
    cases j with
    | zero =>
      simp at hj
      subst hj
      simp only [List.eraseIdx_cons_zero, lk]
      by_cases e : k = a
      · rw [if_pos e, e]
        cases h : lk l a with
        | none => rfl
        | some w =>
          exfalso
          apply hn.1
          clear ih hn
          induction l with
          | nil => cases h
          | cons q l ih =>
            obtain ⟨b, u⟩ := q
            simp only [lk] at h
            simp only [List.map_cons, List.mem_cons]
            split at h
            · rename_i e; exact .inl e
            · exact .inr (ih h)
      · rw [if_neg e, if_neg e]
    | succ j =>
      have hj' : (l[j]?).map (·.1) = some n := by simpa using hj
      have hna : n ≠ a := by
        rintro rfl
        apply hn.1
        simp only [Option.map_eq_some_iff] at hj'
        obtain ⟨q, hq, rfl⟩ := hj'
        exact List.mem_map.2 ⟨q, List.mem_of_getElem? hq, rfl⟩
      simp only [List.eraseIdx_cons_succ, lk]
      rw [ih hn.2 hj']
      by_cases e : k = a
      · rw [if_pos e, if_pos e, if_neg (fun x => hna (x.symm.trans e))]
      · rw [if_neg e, if_neg e]

theorem mapW_erase (l : List (Int × UInt64)) (j : Nat) : (mapW l).eraseIdx j = mapW (l.eraseIdx j) := by
  unfold mapW
  exact eraseIdx_mp _ l j

theorem keysW {h : Heap} {r : Nat} {l : List (Int × UInt64)} (o : MapL h r (mapW l)) : (l.map (·.1)).Nodup := by
  obtain ⟨es, cl, _, _, g, _⟩ := o
  have : (mapW l).map (·.1) = l.map (·.1) := by simp [mapW]
  rw [this] at g; exact g

theorem lk_key {l : List (Int × UInt64)} {x : Int} {v : UInt64} (h : lk l x = some v) : x ∈ l.map (·.1) := by
  induction l with
  | nil => cases h
  | cons p l ih =>
    obtain ⟨a, w⟩ := p
    simp only [lk] at h
    simp only [List.map_cons, List.mem_cons]
    split at h
    · rename_i e; exact .inl e
    · exact .inr (ih h)
theorem mapW_nil {l : List (Int × UInt64)} (h : mapW l = []) : l = [] := by
  unfold mapW at h
  exact List.map_eq_nil_iff.1 h

theorem fenceL_spec {h : Heap} {L : ML} {M : MemS} (A : MemAt h L M) (O : MemO h L M) (hu : M.until_ = -1) (hs : M.sure.length ≤ 1000000) (hw : ∀ p ∈ M.way, lk M.loose p.1 = some p.2 ∧ M.there p.1 = true) : CallH Tryz.prog 63 [.pointer (some ⟨L.m, 0, none⟩)] h (fun v h' => Keeps L.blocks h h' ∧ v = .int .i64 0 ∧
    ∃ N : MemS, MemAt h' L N ∧ MemO h' L N ∧ N.until_ = -1 ∧ N.sure.length = M.sure.length ∧ N.way = [] ∧ (∀ i, N.read i = M.read i) ∧ (∀ x, lk N.loose x ≠ none → lk M.loose x ≠ none ∧ lk M.way x = none)) := by
  have hc1 : (M.call true).1 = 0 := by
    unfold MemS.call
    rw [hu]
    simp
  have hc2 : (M.call true).2 = { M with calls := IntKind.i64.wrap (M.calls + 1) } := by
    unfold MemS.call
    rw [hu]
    simp
  refine call_of hmix Tryz.func63 rfl ok63 (by simp [Tryz.f63]) ?_
  conv => whnf
  refine CallR.m (call_spec A true) (by simp [blocksOf]) fun v h1 k1 hv => ?_
  obtain ⟨rfl, A1⟩ := hv
  rw [hc1]
  rw [hc2] at A1
  have O1 : MemO h1 L { M with calls := IntKind.i64.wrap (M.calls + 1) } := O.keep k1 (fun b hb => by simp; exact (A.ap2 b hb).1)
  conv => whnf
  refine IfR.f rfl ?_
  conv => whnf
  refine LoadR.o A1.obj rfl ?_
  conv => whnf
  refine SemR.range rfl A1.way fun it hR ei si ki IR => ?_
  have AR := A1.on ki
  have OR : MemO hR L { M with calls := IntKind.i64.wrap (M.calls + 1) } := Own.keep O1 ki (by simp)
  have bl := A1.blt
  have hwn := keysW A1.way
  generalize hM1 : ({ M with calls := IntKind.i64.wrap (M.calls + 1) } : MemS) = M1 at *
  have hread1 : ∀ i, M1.read i = M.read i := fun i => by subst hM1; rfl
  have hsure1 : M1.sure = M.sure := by subst hM1; rfl
  have hway1 : M1.way = M.way := by subst hM1; rfl
  have hloose1 : M1.loose = M.loose := by subst hM1; rfl
  have hunt1 : M1.until_ = -1 := by subst hM1; exact hu
  have itne : ∀ b ∈ L.blocks, b ≠ it := fun b hb => by have := bl b hb; omega
  conv => whnf
  refine LoopR.on [0, 15] [] (fun q : List (Int × UInt64) × MemS => [(0, .v (.pointer (some ⟨L.m, 0, none⟩))), (15, .v (.pointer (some ⟨it, 0, none⟩)))])
    (fun _ => []) (fun q h' => Keeps (it :: L.blocks) hR h' ∧ (∃ last, IterL h' it L.wb (mapW q.1) last) ∧ MemAt h' L q.2 ∧ MemO h' L q.2 ∧ q.2.until_ = -1 ∧ q.2.sure.length = M.sure.length ∧ (∀ i, q.2.read i = M.read i) ∧ (q.1.map (·.1)).Nodup ∧ (∀ p ∈ q.1, lk q.2.loose p.1 = some p.2 ∧ q.2.there p.1 = true) ∧ (∀ x, lk q.2.loose x ≠ none → lk M.loose x ≠ none ∧ (lk M.way x = none ∨ x ∈ q.1.map (·.1)))) (fun q => q.1.length) (M1.way, M1) ?_ ?_
  · conv => whnf
    refine ⟨(M1.way, M1), rfl, rfl, rfl, Keeps.refl _ _, ⟨none, IR⟩, AR, OR, hunt1, by rw [hsure1], hread1, hwn, fun p hp => ?_, fun x hx => ?_⟩
    · rw [hway1] at hp
      have := hw p hp
      rw [hloose1]
      refine ⟨this.1, ?_⟩
      unfold MemS.there
      rw [hsure1]; exact this.2
    · rw [hloose1] at hx
      refine ⟨hx, ?_⟩
      rw [hway1]
      cases hl : lk M.way x with
      | none => exact .inl rfl
      | some v => exact .inr (lk_key hl)
  · rintro ⟨R, N⟩ h2 ⟨k2, ⟨last, I2⟩, A2, O2, u2, s2, r2, n2, w2, y2⟩
    simp only at I2 A2 O2 u2 s2 r2 n2 w2 y2
    have wbit : it ≠ L.wb := fun e => itne L.wb (by simp [ML.blocks]) e.symm
    conv => whnf
    refine SemR.next I2 (by simp [blocksOf]) wbit (fun hR0 => ?_) (fun R1 p R2 h3 hRR s3 k3 I3 => ?_)
    · conv => whnf
      refine IfR.f rfl ?_
      conv => whnf
      refine LoadR.o A2.obj rfl ?_
      conv => whnf
      refine SemR.clearM rfl A2.way (by simp [blocksOf]) fun h3 s3 M3 k3 => ?_
      conv => whnf
      have a3 := A2.ap3
      refine ⟨?_, rfl, { N with way := [] }, ⟨k3.obj A2.obj (by simpa using a3.2), A2.sure.keepM k3 (fun b hb => by simpa using (A2.ap2 b hb).2.2), A2.loose.keep k3 (by simpa using A2.ap1), M3, A2.ap1, A2.ap2, fun b hb => Nat.lt_of_lt_of_le (A2.lt b hb) k3.size⟩, Own.keep O2 k3 (fun b hb => by simpa using (A2.ap2 b hb).2.2), u2, s2, rfl, r2, fun x hx => ?_⟩
      rotate_left
      · obtain ⟨y3, y4⟩ := y2 x hx
        refine ⟨y3, ?_⟩
        rcases y4 with h | h
        · exact h
        · have hR1 : R = [] := mapW_nil hR0
          rw [hR1] at h; simp at h
      have ka : Keeps L.blocks h hR := (k1.mono (by simp [ML.blocks])).trans_nil ki
      have kb : Keeps L.blocks h h2 := ka.trans_new k2 (fun x hx => by
        rcases List.mem_cons.1 hx with rfl | hx
        · right; have := k1.size; omega
        · exact .inl hx)
      exact kb.trans (k3.mono (by simp [ML.blocks]))
    · obtain ⟨m1, q, m2, rfl, rfl, rfl, rfl⟩ := mapW_split hRR
      obtain ⟨ql, qt⟩ := w2 q (by simp)
      conv => whnf
      refine IfR.t rfl ?_
      conv => whnf
      refine SemR.entry I3 ?_
      have A3 := A2.keep k3 (fun b hb => by simp; exact itne b hb)
      have O3 : MemO h3 L N := Own.keep O2 k3 (fun b hb => by simp; exact itne b (by simp [ML.blocks, hb]))
      conv => whnf
      refine LoadR.o A3.obj rfl ?_
      have hq0 : 0 ≤ q.1 ∧ q.1 < N.sure.length := by simpa [MemS.there] using qt
      have hlen := A3.sure.hlen
      have hO := O3
      rcases hO with ⟨_, h0, _⟩ | ⟨b, cs, hb, ob, ht, hcl, hll, hcc⟩
      · omega
      obtain ⟨i, hi⟩ : ∃ i : Nat, q.1 = (i : Int) := ⟨q.1.toNat, by omega⟩
      have hi1 : i < N.sure.length := by omega
      have hbm : b ∈ blkA L.sa := by rw [hb]; simp [blkA]
      have ap := A2.ap2 b hbm
      conv => whnf
      refine IdxS.i i (by exact hi) (by omega) hb ?_
      conv => whnf
      refine StoreR.i ob ?_ (by simp [blocksOf]) fun h4 s4 o4 k4 => ?_
      · show 0 + i * 1 + 1 ≤ cs.length
        omega
      have hset : (cs.set i (wv q.2)).take (N.sure.set i q.2).length = (N.sure.set i q.2).map wv := by
        rw [List.length_set, List.take_set, List.map_set]
        rw [List.length_map] at ht
        rw [ht]
      have o4' : h4[b]? = some (.cells ⟨cs.set i (wv q.2)⟩ 56 (0, 0)) := by
        rw [o4]
        have e : spliceL (0 + i * 1) [wv q.2] cs = cs.set i (wv q.2) := by
          rw [show 0 + i * 1 = i by omega, splice_set1 _ _ _ (by omega)]
        exact congrArg (fun x => some (Obj.cells ⟨x⟩ 56 (0, 0))) e
      have O4 : MemO h4 L { N with sure := N.sure.set i q.2 } := .inr ⟨b, _, hb, o4', by simpa using hset, by rw [List.length_set]; exact hcl, by simpa using hll, hcc⟩
      have kb4 : ∀ x ∈ L.blocks, x ≠ b → x ∉ [b] := fun x _ hx => by simpa using hx
      have A4 : MemAt h4 L { N with sure := N.sure.set i q.2 } := ⟨k4.obj A3.obj (by simpa using fun e => ap.1 e.symm), own_sl O4 (by rw [List.length_set]; omega), A3.loose.keep k4 (by simpa using fun e => ap.2.1 e.symm), A3.way.keep k4 (by simpa using fun e => ap.2.2 e.symm), A3.ap1, A3.ap2, fun x hx => Nat.lt_of_lt_of_le (A3.lt x hx) k4.size⟩
      conv => whnf
      refine LoadR.o A4.obj rfl ?_
      conv => whnf
      refine LookR.is A4.loose (by rw [lookI_mapW, ql]) ?_
      conv => whnf
      first | refine IfR.t (by simp) ?_ | (refine MeetR.pass ?_; (conv => whnf); refine IfR.t (by simp) ?_)
      conv => whnf
      refine LoadR.o A4.obj rfl ?_
      conv => whnf
      refine SemR.del rfl rfl A4.loose (n := q.1) (by rw [lookI_mapW, ql]; simp) (by simp [blocksOf]) fun h5 j hj hjn s5 M5 k5 => ?_
      have hjn' : (N.loose[j]?).map (·.1) = some q.1 := by
        have : ((mapW N.loose)[j]?).map (·.1) = some q.1 := hjn
        unfold mapW at this
        rw [List.getElem?_map, Option.map_map] at this
        exact this
      have hln := keysW A4.loose
      rw [mapW_erase] at M5
      have a3 := A3.ap3
      conv => whnf
      refine ⟨(m1 ++ m2).length, by simp, ?_⟩
      conv => whnf
      have hN5 : ∀ x, lk (N.loose.eraseIdx j) x = if x = q.1 then none else lk N.loose x := fun x => lk_erase hln hjn' x
      refine ⟨(m1 ++ m2, { N with sure := N.sure.set i q.2, loose := N.loose.eraseIdx j }), rfl, rfl, rfl, ?_, ⟨some (q.1, wv q.2), ?_⟩, ⟨k5.obj A4.obj (by simpa using a3.1), A4.sure.keepM k5 (fun x hx => by simpa using (A3.ap2 x hx).2.1), M5, A4.way.keep k5 (by simpa using A3.ap1.symm), A3.ap1, A3.ap2, fun x hx => Nat.lt_of_lt_of_le (A4.lt x hx) k5.size⟩, Own.keep O4 k5 (fun x hx => by simpa using (A3.ap2 x hx).2.1), u2, by simp only [List.length_set]; exact s2, fun x => ?_, ?_, fun p hp => ?_, fun x hx => ?_⟩
      · exact ((k2.trans (k3.mono (by simp))).trans (k4.mono (by simp; right; simp [ML.blocks, hbm]))).trans (k5.mono (by simp [ML.blocks]))
      · have : mapW m1 ++ mapW m2 = mapW (m1 ++ m2) := List.map_append.symm
        have I3' : IterL h3 it L.wb (mapW (m1 ++ m2)) (some (q.1, wv q.2)) := by rw [← this]; exact I3
        refine (I3'.keep k4 ?_ (by simpa using fun e => ap.2.2 e.symm)).keep k5 ?_ (by simpa using A3.ap1.symm)
        · have := itne b (by simp [ML.blocks, hbm])
          simpa using fun e => this e.symm
        · have := itne L.lb (by simp [ML.blocks])
          simpa using fun e => this e.symm
      · rw [← r2 x]
        unfold MemS.read MemS.there
        simp only [List.length_set]
        split
        · rename_i hx
          rw [hN5]
          by_cases e : x = q.1
          · rw [if_pos e, e, ql, hi]
            simp [hi1]
          · rw [if_neg e]
            have hne : x.toNat ≠ i := by
              intro e2
              apply e
              have : 0 ≤ x := by simp at hx; exact hx.1
              omega
            rw [List.getElem?_set_ne (fun e => hne e.symm)]
        · rfl
      · have : (m1 ++ q :: m2).map (·.1) = m1.map (·.1) ++ q.1 :: m2.map (·.1) := by simp
        rw [this] at n2
        rw [List.map_append]
        exact (List.nodup_cons.1 (nodup_mid.1 n2)).2
      · have hp' : p ∈ m1 ++ q :: m2 := by
          simp only [List.mem_append, List.mem_cons] at hp ⊢
          rcases hp with h | h
          · exact .inl h
          · exact .inr (.inr h)
        obtain ⟨p1, p2⟩ := w2 p hp'
        refine ⟨?_, ?_⟩
        · show lk (N.loose.eraseIdx j) p.1 = some p.2
          have hne : p.1 ≠ q.1 := by
            intro e
            have : (m1 ++ q :: m2).map (·.1) = m1.map (·.1) ++ q.1 :: m2.map (·.1) := by simp
            rw [this] at n2
            have hnq := nodup_mid.1 n2
            rw [List.nodup_cons] at hnq
            apply hnq.1
            rw [← e, ← List.map_append]
            exact List.mem_map.2 ⟨p, hp, rfl⟩
          rw [hN5, if_neg hne]; exact p1
        · unfold MemS.there at p2 ⊢
          simp only [List.length_set]
          exact p2
      · have hx : lk (N.loose.eraseIdx j) x ≠ none := hx
        rw [hN5] at hx
        have hne : x ≠ q.1 := by
          intro e
          rw [if_pos e] at hx; exact hx rfl
        rw [if_neg hne] at hx
        obtain ⟨y3, y4⟩ := y2 x hx
        refine ⟨y3, ?_⟩
        rcases y4 with h | h
        · exact .inl h
        · right
          simp only [List.map_append, List.map_cons, List.mem_append, List.mem_cons] at h ⊢
          rcases h with h | h | h
          · exact .inl h
          · exact absurd h hne
          · exact .inr h

end Go.Proofs.YtkjkdnphikendaaGreatDoor
/-
  Layer 12: a memory is laid out.
-/
set_option linter.all false
set_option maxRecDepth 100000
set_option maxHeartbeats 2000000
namespace Go.Proofs.YtkjkdnphikendaaGreatDoor
open Go Go.Eng

/-- the words of a memory that is laid out -/
def laidL : List UInt64 := ([7021221306412823411, 2824, 0, 0, 0, 0, 0, 0] : List UInt64) ++ (List.replicate 8 0 ++ (cardW (freshC 2 1) ++ List.replicate 2800 0))
theorem laidL_len : laidL.length = 2824 := by
  unfold laidL
  simp [cardW]

theorem laid_spec (h : Heap) : CallH Tryz.prog 58 [] h (fun v h' => Keeps [] h h' ∧ ∃ b, v = .slice (some ⟨b, 0, none⟩) 2824 2824 ∧ h.size ≤ b ∧ h'[b]? = some (.cells ⟨laidL.map wv⟩ 56 (0, 0))) := by
  refine call_of hmix Tryz.func58 rfl ok58 (by simp [Tryz.f58]) ?_
  conv => whnf
  refine CallR.i (size_spec h) fun v h1 k1 hv => ?_
  subst hv
  conv => whnf
  refine SemR.make (n := 2824) rfl rfl rfl rfl rfl (by decide) (by decide) fun b2 h2 e2 s2 o2 k2 => ?_
  conv => whnf
  refine CallR.i (head_spec h2) fun v h3 k3 hv => ?_
  obtain ⟨b3, rfl, hb3, _, o3⟩ := hv
  have z1 := k1.size
  have z2 := k2.size
  have z3 := k3.size
  have hhl : (([7021221306412823411, 2824, 0, 0, 0, 0, 0, 0] : List UInt64).map wv).length = 8 := rfl
  conv => whnf
  refine SemR.copy (sz := 1) (new := ([7021221306412823411, 2824, 0, 0, 0, 0, 0, 0] : List UInt64).map wv) rfl rfl rfl (k3.obj o2 (by simp)) rfl (fun j hj => by simp only [Heap.cell?, o3]; simp) (allOne_wv _) (by rw [hhl, List.length_replicate]; decide) (by simp [blocksOf]) fun h4 s4 o4 k4 => ?_
  have hz : List.replicate 2824 (Value.int .u64 0) = List.replicate 8 (.int .u64 0) ++ (List.replicate 8 (.int .u64 0) ++ (List.replicate 8 (.int .u64 0) ++ List.replicate 2800 (.int .u64 0))) := by
    rw [List.replicate_append_replicate, List.replicate_append_replicate, List.replicate_append_replicate]
  have e4 : spliceL 0 (([7021221306412823411, 2824, 0, 0, 0, 0, 0, 0] : List UInt64).map wv) (List.replicate 2824 (.int .u64 0)) = (([7021221306412823411, 2824, 0, 0, 0, 0, 0, 0] : List UInt64).map wv) ++ (List.replicate 8 (.int .u64 0) ++ (List.replicate 8 (.int .u64 0) ++ List.replicate 2800 (.int .u64 0))) := by
    rw [hz]
    have := splice_head (A := ([7021221306412823411, 2824, 0, 0, 0, 0, 0, 0] : List UInt64).map wv) (x := Value.int .u64 0) (B := List.replicate 8 (.int .u64 0) ++ (List.replicate 8 (.int .u64 0) ++ List.replicate 2800 (.int .u64 0)))
    rw [hhl] at this
    exact this
  rw [e4] at o4
  conv => whnf
  refine CallR.i (fresh6_spec 2 1 h4) fun v h5 k5 hv => ?_
  rw [if_pos (by decide)] at hv
  subst hv
  conv => whnf
  refine AllocR.i fun b6 h6 e6 s6 o6 k6 => ?_
  conv => whnf
  refine BoxR.i fun h7 s7 k7 => ?_
  have k47 : Keeps [] h4 h7 := (k5.trans k6).new1 k7 (by have := k5.size; omega)
  obtain ⟨fo, fr⟩ := freshC_ok (kind := 2) (by decide) 1
  conv => whnf
  refine CallR.i (write6_spec (freshC 2 1) fo h7) fun v h8 k8 hv => ?_
  rw [if_pos fr] at hv
  obtain ⟨b8, rfl, hb8, o8⟩ := hv
  conv => whnf
  refine CallR.i (cardAt_spec 1 h8) fun v h9 k9 hv => ?_
  subst hv
  conv => whnf
  refine SliceR.i 16 2824 rfl rfl (by decide) (by decide) ?_
  conv => whnf
  have eA : slA (some ⟨b2, 0, none⟩) 2824 16 1 = some ⟨b2, 0 + 16 * 1, none⟩ := by
    unfold slA
    rw [if_neg (by omega)]
    simp [addr_add]
  have eA' : slA (some ⟨b2, 0, none⟩) 2824 16 Tryz.prog.types[56].size = some ⟨b2, 0 + 16 * 1, none⟩ := eA
  rw [eA']
  have k49 := k47.trans (k8.trans k9)
  have hcw : (cardW (freshC 2 1)).length = 8 := rfl
  refine SemR.copy (sz := 1) (new := (cardW (freshC 2 1)).map wv) rfl rfl rfl (k49.obj o4 (by simp)) (by rw [List.length_map]; rfl) (fun j hj => by simp only [Heap.cell?, k9.obj o8 (by simp)]; simp) (allOne_wv _) (by simp [hcw]) ?_ fun h10 s10 o10 k10 => ?_
  · have := k3.size
    have := k4.size
    have := k5.size
    simp [blocksOf, setB]; omega
  conv => whnf
  have e10 : spliceL (0 + 16 * 1) ((cardW (freshC 2 1)).map wv) (([7021221306412823411, 2824, 0, 0, 0, 0, 0, 0] : List UInt64).map wv ++ (List.replicate 8 (.int .u64 0) ++ (List.replicate 8 (.int .u64 0) ++ List.replicate 2800 (.int .u64 0)))) = laidL.map wv := by
    have h1 : ([7021221306412823411, 2824, 0, 0, 0, 0, 0, 0] : List UInt64).map wv ++ (List.replicate 8 (Value.int .u64 0) ++ (List.replicate 8 (.int .u64 0) ++ List.replicate 2800 (.int .u64 0))) = (([7021221306412823411, 2824, 0, 0, 0, 0, 0, 0] : List UInt64).map wv ++ List.replicate 8 (.int .u64 0)) ++ (List.replicate 8 (.int .u64 0) ++ List.replicate 2800 (.int .u64 0)) := by rw [List.append_assoc]
    rw [h1]
    have h2 := splice_drop (A := ([7021221306412823411, 2824, 0, 0, 0, 0, 0, 0] : List UInt64).map wv ++ List.replicate 8 (.int .u64 0)) (N := (cardW (freshC 2 1)).map wv) (L := List.replicate 8 (.int .u64 0) ++ List.replicate 2800 (.int .u64 0))
    have hl : (([7021221306412823411, 2824, 0, 0, 0, 0, 0, 0] : List UInt64).map wv ++ List.replicate 8 (Value.int .u64 0)).length = 0 + 16 * 1 := by simp
    rw [hl] at h2
    rw [h2]
    have h3 := splice_head (A := (cardW (freshC 2 1)).map wv) (x := Value.int .u64 0) (B := List.replicate 2800 (.int .u64 0))
    rw [List.length_map, hcw] at h3
    rw [h3]
    unfold laidL
    simp only [List.map_append, List.map_replicate, List.append_assoc]
    rfl
  rw [e10] at o10
  refine ⟨?_, b2, rfl, by omega, o10⟩
  exact ((k1.trans (k2.trans k3)).new1 k4 (by omega)).trans k49 |>.new1 k10 (by omega)

def laidR (i : Int) : UInt64 := if 0 ≤ i ∧ i < 2824 then laidL[i.toNat]?.getD 0 else 0
theorem laidR_low {i : Int} : laidR i = if i = 0 then 7021221306412823411 else if i = 1 then 2824 else if 16 ≤ i ∧ i < 24 then (cardW (freshC 2 1))[(i - 16).toNat]?.getD 0 else 0 := by
  unfold laidR
  by_cases h : 0 ≤ i ∧ i < 2824
  · rw [if_pos h]
    obtain ⟨n, rfl⟩ : ∃ n : Nat, i = (n : Int) := ⟨i.toNat, by omega⟩
    rw [Int.toNat_natCast]
    unfold laidL
    have hl0 : ([7021221306412823411, 2824, 0, 0, 0, 0, 0, 0] : List UInt64).length = 8 := rfl
    have hl2 : (cardW (freshC 2 1)).length = 8 := rfl
    by_cases h8 : n < 8
    · rw [List.getElem?_append_left (by rw [hl0]; exact h8)]
      have : n = 0 ∨ n = 1 ∨ n = 2 ∨ n = 3 ∨ n = 4 ∨ n = 5 ∨ n = 6 ∨ n = 7 := by omega
      rcases this with rfl | rfl | rfl | rfl | rfl | rfl | rfl | rfl <;> rfl
    · rw [List.getElem?_append_right (by rw [hl0]; omega), hl0, if_neg (by omega), if_neg (by omega)]
      by_cases h16 : n < 16
      · rw [List.getElem?_append_left (by simp; omega), if_neg (by omega), List.getElem?_replicate, if_pos (by omega)]; rfl
      · rw [List.getElem?_append_right (by simp; omega), List.length_replicate]
        by_cases h24 : n < 24
        · rw [List.getElem?_append_left (by rw [hl2]; omega), if_pos (by omega)]
          congr 2
          omega
        · rw [List.getElem?_append_right (by rw [hl2]; omega), if_neg (by omega), List.getElem?_replicate]
          split <;> rfl
  · rw [if_neg h, if_neg (by omega), if_neg (by omega), if_neg (by omega)]
end Go.Proofs.YtkjkdnphikendaaGreatDoor
/-
  Layer 12: a memory that is laid out, plain: its files, its free blocks.
-/
set_option linter.all false
set_option maxRecDepth 100000
set_option maxHeartbeats 1000000
namespace Go.Proofs.YtkjkdnphikendaaGreatDoor
open Go Go.Eng

def S0 : FS := ⟨fun n => if n = 1 then freshC 2 1 else noneC 0, fun _ => [], fun _ => []⟩

theorem laid_own {k : Int} (h0 : 0 ≤ k) : laidR (200 + k) = 0 := by
  rw [laidR_low, if_neg (by omega), if_neg (by omega), if_neg (by omega)]
theorem laid_cards : ∀ n : Fin 24, rdL laidR (8 + (n.val : Int) * 8) 8 = cardW (if (n.val : Int) = 1 then freshC 2 1 else noneC 0) := by decide +kernel

theorem fs0 : FsI laidR S0 := by
  have hno : ∀ n : Int, 0 ≤ n → n < 24 → ∀ x, 0 ≤ x → x < 96 → laidR (200 + x) ≠ w64 (n + 1) := by
    intro n n0 n1 x x0 x1 e
    rw [laid_own x0] at e
    have h1 : (w64 (n + 1)).toNat = (n + 1).toNat := by
      unfold w64
      rw [UInt64.toNat_ofNat']
      omega
    rw [← e] at h1
    have : (0 : UInt64).toNat = 0 := rfl
    omega
  refine ⟨fun n n0 n1 => ?_, fun n n0 n1 => ?_, rfl, fun k k0 k1 => .inl (laid_own k0)⟩
  · have := laid_cards ⟨n.toNat, by omega⟩
    simp only [Int.toNat_of_nonneg n0] at this
    exact this
  · by_cases h : n = 1
    · have : S0.C n = freshC 2 1 := if_pos h
      rw [this]
      exact fresh_node (by decide) 1 (hno n n0 n1)
    · have : S0.C n = noneC 0 := if_neg h
      rw [this]
      exact none_node 0 (hno n n0 n1)

theorem freeN_laid (s m a n : List Int) (ha : a = []) : freeN laidR ⟨laidR, s, m, a, n⟩ 96 = 96 := by
  subst ha
  unfold freeN
  rw [List.filter_eq_self.2 (fun j hj => ?_), List.length_range]
  have hj := List.mem_range.1 hj
  unfold freshB
  have h0 : laidR (200 + (j : Int)) = 0 := laid_own (by omega)
  simp [h0]
  omega

end Go.Proofs.YtkjkdnphikendaaGreatDoor
/-
  Layer 13's plain law: which files stand behind a few calls.
-/
set_option linter.all false
set_option maxRecDepth 100000
set_option maxHeartbeats 4000000
namespace Go.Proofs.YtkjkdnphikendaaGreatDoor
open Go Go.Eng

/-- files as they are told: kinds, names, bytes -/
structure Sim (S : FS) (K : Int → Int) (NM : Int → List Ent) (BY : Int → List UInt8) : Prop where
  k : ∀ i, (S.C i).kind = K i
  n : ∀ i, S.nm i = NM i
  b : ∀ i, S.by_ i = BY i
def vf (K : Int → Int) (NM : Int → List Ent) (BY : Int → List UInt8) : Fs := ⟨K, fun i name => (findE (NM i) name).map (·.node), BY⟩
theorem Sim.view {S : FS} {K : Int → Int} {NM : Int → List Ent} {BY : Int → List UInt8} (Z : Sim S K NM BY) : viewFs S = vf K NM BY := by
  have h1 : (fun i => (S.C i).kind) = K := funext Z.k
  have h2 : S.nm = NM := funext Z.n
  have h3 : S.by_ = BY := funext Z.b
  unfold viewFs vf
  rw [h1, h2, h3]
theorem Sim.fc {S : FS} {K : Int → Int} {NM : Int → List Ent} {BY : Int → List UInt8} (Z : Sim S K NM BY) (h1 : K 1 = 2) (h : ∀ n : Fin 24, K (n.val : Int) = 2 → ∀ e ∈ NM (n.val : Int), 0 ≤ e.node ∧ e.node < 24 ∧ K e.node ≠ 0) : FsC S := by
  refine ⟨(Z.k 1).trans h1, fun n n0 n1 hk e he => ?_⟩
  have := h ⟨n.toNat, by omega⟩
  simp only [Int.toNat_of_nonneg n0] at this
  rw [Z.n] at he
  have := this ((Z.k n).symm.trans hk) e he
  rw [Z.k]; exact this
theorem Sim.ns {S : FS} {K : Int → Int} {NM : Int → List Ent} {BY : Int → List UInt8} (Z : Sim S K NM BY) (h : ∀ n : Fin 24, K (n.val : Int) = 2 → ∀ e ∈ NM (n.val : Int), e.node ≠ (n.val : Int)) : NoSelf S := by
  intro n n0 n1 hk e he
  have := h ⟨n.toNat, by omega⟩
  simp only [Int.toNat_of_nonneg (show 0 ≤ n by omega)] at this
  rw [Z.n] at he
  exact this ((Z.k n).symm.trans hk) e he

theorem fresh_step {B : Int → UInt64} {X X' : VS} {S : FS} {K : Int → Int} {NM : Int → List Ent} {BY : Int → List UInt8} {path data nm : List UInt8} {kind n1 : Int} {v : Value} (Z : Sim S K NM BY) (hp : placeA (vf K NM BY) path = (1, nm, 0, 0))
    (hfree : 8 ≤ freeN B X 96) (hlen : (NM 1).length < 10) (hn : 2 ≤ n1 ∧ n1 < 24 ∧ K n1 = 0) (hl : ∀ k : Fin 24, 2 ≤ (k.val : Int) → (k.val : Int) < n1 → K (k.val : Int) ≠ 0) (R : FreshR B X S path kind data v X') :
    v = .int .i64 0 ∧ X'.away = X.away ∧ X'.awayN = X.awayN ∧ freeN B X 96 ≤ freeN B X' 96 + 8 ∧ ∃ S', FsI X'.now S' ∧
      Sim S' (fun i => if i = 1 then 2 else if i = n1 then kind else K i) (fun i => if i = 1 then insL (NM 1) ⟨nm, n1⟩ else if i = n1 then [] else NM i) (fun i => if i = 1 then BY 1 else if i = n1 then data else BY i) ∧
      (S'.C n1).links = 1 ∧ ∀ i, i ≠ 1 → i ≠ n1 → S'.C i = S.C i := by
  obtain ⟨e1, e2, H⟩ := R
  have hv := Z.view
  rw [hv] at H
  rcases H with ⟨he, _⟩ | ⟨d, nm', nd, P, H⟩
  · rw [hp] at he; exact absurd rfl he
  · have hP := P.is
    rw [hv, hp] at hP
    obtain ⟨t1, t2⟩ := Prod.mk.inj hP
    obtain ⟨t2, t3⟩ := Prod.mk.inj t2
    obtain ⟨t3, _⟩ := Prod.mk.inj t3
    subst t1 t2 t3
    rcases H with ⟨hnd, _⟩ | ⟨_, _, hc⟩ | ⟨_, hv0, hm, hf, n, Mk⟩
    · exact absurd rfl hnd
    · exfalso
      rcases hc with hc | hc | hc
      · omega
      · rw [Z.n] at hc; omega
      · exact hc n1 hn.1 hn.2.1 ((Z.k n1).trans hn.2.2)
    · have hne : n = n1 := by
        have h1 := Mk.was
        rw [Z.k] at h1
        have h2 := Mk.rng
        rcases Int.lt_trichotomy n n1 with h | h | h
        · have := hl ⟨n.toNat, by omega⟩
          simp only [Int.toNat_of_nonneg (show 0 ≤ n by omega)] at this
          exact absurd h1 (this h2.1 h)
        · exact h
        · exact absurd ((Z.k n1).trans hn.2.2) (Mk.least n1 hn.1 h)
      subst hne
      obtain ⟨c2, c1, k1, k2, k3, k4, I⟩ := Mk.fs
      have hn1 : n ≠ 1 := by have := hn.1; omega
      refine ⟨hv0, e1, e2, hf, _, I, ⟨fun i => ?_, fun i => ?_, fun i => ?_⟩, ?_, fun i h1 h2 => ?_⟩
      · show (if i = 1 then c1 else if i = n then c2 else S.C i).kind = _
        by_cases h1 : i = 1
        · rw [if_pos h1, if_pos h1]; exact k3
        · rw [if_neg h1, if_neg h1]
          by_cases h2 : i = n
          · rw [if_pos h2, if_pos h2]; exact k1
          · rw [if_neg h2, if_neg h2]; exact Z.k i
      · show (if i = 1 then insL (S.nm 1) ⟨nm, n⟩ else if i = n then [] else S.nm i) = _
        rw [Z.n 1, Z.n i]
      · show (if i = 1 then S.by_ 1 else if i = n then data else S.by_ i) = _
        rw [Z.b 1, Z.b i]
      · show (if n = 1 then c1 else if n = n then c2 else S.C n).links = 1
        rw [if_neg hn1, if_pos rfl]; exact k2
      · show (if i = 1 then c1 else if i = n then c2 else S.C i) = _
        rw [if_neg h1, if_neg h2]

def K0 (i : Int) : Int := if i = 1 then 2 else 0
def N0 (i : Int) : List Ent := []
def B0 (i : Int) : List UInt8 := []
def K1 (i : Int) : Int := if i = 1 then 2 else if i = 2 then 1 else K0 i
def N1 (i : Int) : List Ent := if i = 1 then insL (N0 1) ⟨[102], 2⟩ else if i = 2 then [] else N0 i
def B1 (i : Int) : List UInt8 := if i = 1 then B0 1 else if i = 2 then [] else B0 i
def K2 (i : Int) : Int := if i = 1 then 2 else if i = 3 then 3 else K1 i
def N2 (i : Int) : List Ent := if i = 1 then insL (N1 1) ⟨[108], 3⟩ else if i = 3 then [] else N1 i
def B2 (i : Int) : List UInt8 := if i = 1 then B1 1 else if i = 3 then [47, 102] else B1 i
def B3 (i : Int) : List UInt8 := if i = 2 then [104, 105] else B2 i
def K4 (i : Int) : Int := if i = 3 then 0 else if i = 1 then 2 else K2 i
def N4 (i : Int) : List Ent := if i = 3 then [] else if i = 1 then (N2 1).eraseIdx (plK (N2 1) [108]) else N2 i
def B4 (i : Int) : List UInt8 := if i = 3 then [] else if i = 1 then B3 1 else B3 i

theorem sim0 : Sim S0 K0 N0 B0 := ⟨fun i => by
  show (if i = 1 then freshC 2 1 else noneC 0).kind = if i = 1 then 2 else 0
  by_cases h : i = 1
  · rw [if_pos h, if_pos h]; rfl
  · rw [if_neg h, if_neg h]; rfl, fun _ => rfl, fun _ => rfl⟩
theorem pl0 : placeA (vf K0 N0 B0) [47, 102] = (1, [102], 0, 0) := by decide +kernel
theorem pl1 : placeA (vf K1 N1 B1) [47, 108] = (1, [108], 0, 0) := by decide +kernel
theorem pa2 : pathA (vf K2 N2 B2) [47, 108] true = (2, 0) := by decide +kernel
theorem pl3 : placeA (vf K2 N2 B3) [47, 108] = (1, [108], 3, 0) := by decide +kernel
theorem pa4 : pathA (vf K4 N4 B4) [47, 102] true = (2, 0) := by decide +kernel
theorem pb4 : pathA (vf K4 N4 B4) [47, 102] false = (2, 0) := by decide +kernel
theorem fc0 : ∀ n : Fin 24, K0 (n.val : Int) = 2 → ∀ e ∈ N0 (n.val : Int), 0 ≤ e.node ∧ e.node < 24 ∧ K0 e.node ≠ 0 := by decide +kernel
theorem fc1 : ∀ n : Fin 24, K1 (n.val : Int) = 2 → ∀ e ∈ N1 (n.val : Int), 0 ≤ e.node ∧ e.node < 24 ∧ K1 e.node ≠ 0 := by decide +kernel
theorem fc2 : ∀ n : Fin 24, K2 (n.val : Int) = 2 → ∀ e ∈ N2 (n.val : Int), 0 ≤ e.node ∧ e.node < 24 ∧ K2 e.node ≠ 0 := by decide +kernel
theorem ns2 : ∀ n : Fin 24, K2 (n.val : Int) = 2 → ∀ e ∈ N2 (n.val : Int), e.node ≠ (n.val : Int) := by decide +kernel
theorem fc4 : ∀ n : Fin 24, K4 (n.val : Int) = 2 → ∀ e ∈ N4 (n.val : Int), 0 ≤ e.node ∧ e.node < 24 ∧ K4 e.node ≠ 0 := by decide +kernel

theorem write_step {B : Int → UInt64} {X X' : VS} {S : FS} {v : Value} (Z : Sim S K2 N2 B2) (hfree : 2 ≤ freeN B X 96) (R : WriteR B X S [47, 108] 0 [104, 105] v X') :
    v = .int .i64 0 ∧ X'.away = X.away ∧ X'.awayN = X.awayN ∧ ∃ S', FsI X'.now S' ∧ Sim S' K2 N2 B3 ∧ (S'.C 2).links = (S.C 2).links ∧ S'.C 3 = S.C 3 := by
  obtain ⟨e1, e2, H⟩ := R
  have hp : pthV S [47, 108] = (2, 0) := by unfold pthV; rw [Z.view]; exact pa2
  have hk : (S.C 2).kind = 1 := by rw [Z.k]; decide +kernel
  have he : pthE S [47, 108] = 0 := by
    unfold pthE
    rw [hp, if_neg (by rintro ⟨_, h⟩; rw [hk] at h; cases h)]
  have hb : S.by_ 2 = [] := by rw [Z.b]; decide +kernel
  rw [he, hp] at H
  simp only [hb] at H
  have hr : refWriteL [] 0 [104, 105] = ([104, 105], 0) := by decide +kernel
  rw [hr] at H
  rcases H with ⟨h, _⟩ | ⟨_, h, _⟩ | ⟨_, _, _, h⟩ | ⟨_, _, hv, _, c', hc1, hc2, I⟩
  · exact absurd rfl h
  · exact absurd rfl h
  · exfalso
    have : ((0 : Int).toNat + [(104 : UInt8), 105].length + 127) / 128 - (0 : Int).toNat / 128 + 1 = 2 := by decide
    omega
  · refine ⟨hv, e1, e2, _, I, ⟨fun i => ?_, fun i => ?_, fun i => ?_⟩, ?_, ?_⟩
    · show (if i = 2 then c' else S.C i).kind = _
      by_cases h : i = 2
      · rw [if_pos h, h, hc1]; exact Z.k 2
      · rw [if_neg h]; exact Z.k i
    · show (if i = 2 then S.nm 2 else S.nm i) = _
      by_cases h : i = 2
      · rw [if_pos h, h]; exact Z.n 2
      · rw [if_neg h]; exact Z.n i
    · show (if i = 2 then [104, 105] else S.by_ i) = _
      unfold B3
      rw [Z.b i]
    · show (if (2 : Int) = 2 then c' else S.C 2).links = _
      rw [if_pos rfl]; exact hc2
    · show (if (3 : Int) = 2 then c' else S.C 3) = _
      rw [if_neg (by decide)]

theorem remove_step {X X' : VS} {S : FS} {v : Value} (Z : Sim S K2 N2 B3) (hl : (S.C 3).links = 1) (R : RemoveR X S [47, 108] mayRm v X') :
    v = .int .i64 0 ∧ X'.away = X.away ∧ X'.awayN = X.awayN ∧ ∃ S', FsI X'.now S' ∧ Sim S' K4 N4 B4 ∧ S'.C 2 = S.C 2 := by
  obtain ⟨e1, e2, H⟩ := R
  have hv := Z.view
  rw [hv] at H
  rcases H with ⟨he, _⟩ | ⟨d, nm', nd, P, H⟩
  · rw [pl3] at he; exact absurd rfl he
  · have hP := P.is
    rw [hv, pl3] at hP
    obtain ⟨t1, t2⟩ := Prod.mk.inj hP
    obtain ⟨t2, t3⟩ := Prod.mk.inj t2
    obtain ⟨t3, _⟩ := Prod.mk.inj t3
    subst t1 t2 t3
    have hk : (S.C 3).kind = 3 := by rw [Z.k]; decide +kernel
    have hm : mayRm (S.C 3) = 0 := by
      unfold mayRm
      rw [hk, if_neg (by decide)]
    rcases H with ⟨h, _⟩ | ⟨_, h, _⟩ | ⟨_, _, hv0, _, c1, k1, _, ⟨h, _⟩ | ⟨_, vv, I⟩⟩
    · cases h
    · exact absurd hm h
    · omega
    · refine ⟨hv0, e1, e2, _, I, ⟨fun i => ?_, fun i => ?_, fun i => ?_⟩, ?_⟩
      · show (if i = 3 then noneC vv else if i = 1 then c1 else S.C i).kind = _
        unfold K4
        by_cases h3 : i = 3
        · rw [if_pos h3, if_pos h3]; rfl
        · rw [if_neg h3, if_neg h3]
          by_cases h1 : i = 1
          · rw [if_pos h1, if_pos h1]; exact k1
          · rw [if_neg h1, if_neg h1]; exact Z.k i
      · show (if i = 3 then [] else if i = 1 then (S.nm 1).eraseIdx (plK (S.nm 1) [108]) else S.nm i) = _
        unfold N4
        rw [Z.n 1, Z.n i]
      · show (if i = 3 then [] else if i = 1 then S.by_ 1 else S.by_ i) = _
        unfold B4
        rw [Z.b 1, Z.b i]
      · show (if (2 : Int) = 3 then noneC vv else if (2 : Int) = 1 then c1 else S.C 2) = _
        rw [if_neg (by decide), if_neg (by decide)]
end Go.Proofs.YtkjkdnphikendaaGreatDoor
/-
  Layer 12's statements: a world lies in the heap.
-/
set_option linter.all false
set_option maxRecDepth 100000
set_option maxHeartbeats 4000000
namespace Go.Proofs.YtkjkdnphikendaaGreatDoor
open Go Go.Eng

structure NodH where
  nd : Nod
  a : Option Addr
  n : Nat
  c : Nat
def NodH.cells (x : NodH) : List Value := [.int .i64 x.nd.id, .int .i64 x.nd.kind, .int .i64 x.nd.links, .string (ba x.nd.data), .slice x.a x.n x.c]
def nodC (L : List NodH) : List Value := L.flatMap NodH.cells

/-- the nodes of a world -/
def nds (L : List NodH) : List Nod := L.map (·.nd)
/-- a file that is put -/
structure Fil where
  in_ : Int
  kind : Int
  name : List UInt8
  data : List UInt8
def Fil.cells (f : Fil) : List Value := [.int .i64 f.in_, .int .i64 f.kind, .string (ba f.name), .string (ba f.data)]
def Fil.ok (f : Fil) : Prop := inI64 f.in_ ∧ inI64 f.kind ∧ f.name.length ≤ 140737488351232 ∧ f.data.length ≤ 140737488351232

def u64N (x : Int) : Nat := (x % 18446744073709551616).toNat
/-- where a file goes, of which kind it is -/
def dirOf (f : Fil) (len : Nat) : Nat := 1 + u64N f.in_ % (len - 1)
def kindOf (f : Fil) : Int := 1 + ((u64N f.kind % 3 : Nat) : Int)
end Go.Proofs.YtkjkdnphikendaaGreatDoor
/-
  Layer 12, the document's: a tree with a root.
-/
set_option linter.all false
set_option maxRecDepth 100000
set_option maxHeartbeats 1000000
namespace Go.Proofs.YtkjkdnphikendaaGreatDoor
open Go Go.Eng

def L0 : List NodH := [⟨⟨0, 0, 0, [], []⟩, none, 0, 0⟩, ⟨⟨1, 2, 1, [], []⟩, none, 0, 0⟩]

theorem new12_spec (h : Heap) : CallH Tryz.prog 25 [] h (fun v h' => Keeps [] h h' ∧ ∃ bT t, v = .pointer (some ⟨t, 0, none⟩) ∧ h.size ≤ bT ∧ h.size ≤ t ∧ h'[t]? = some (.cells ⟨[.slice (some ⟨bT, 0, none⟩) 2 2]⟩ 85 (0, 0)) ∧ h'[bT]? = some (.cells ⟨nodC L0⟩ 87 (0, 0))) := by
  refine call_of hmix Tryz.func25 rfl ok25 (by simp [Tryz.f25]) ?_
  conv => whnf
  refine AllocR.i fun b1 h1 e1 s1 o1 k1 => ?_
  conv => whnf
  refine AllocR.i fun b2 h2 e2 s2 o2 k2 => ?_
  conv => whnf
  exact ⟨k1.trans k2, b1, b2, rfl, by omega, by omega, o2, k2.obj o1 (by simp)⟩

end Go.Proofs.YtkjkdnphikendaaGreatDoor
/-
  Layer 12: a memory is laid out.
-/
set_option linter.all false
set_option maxRecDepth 100000
set_option maxHeartbeats 2000000
namespace Go.Proofs.YtkjkdnphikendaaGreatDoor
open Go Go.Eng

/-- a memory that is being laid out: so many words are right -/
structure LayI (B : Int → UInt64) (at_ : Nat) (N : MemS) : Prop where
  u : N.until_ = -1
  len : N.sure.length = 2824
  read : ∀ i, N.read i = if i < at_ then laidR i else B i
  way : ∀ i, lk N.way i = lk N.loose i
  rng : ∀ i, lk N.loose i ≠ none → 0 ≤ i ∧ i < 2824

theorem call_calm {N : MemS} (hu : N.until_ = -1) (t : Bool) : N.call t = (if t then 0 else 1, { N with calls := IntKind.i64.wrap (N.calls + 1) }) := by
  unfold MemS.call
  rw [hu]
  cases t <;> rfl

theorem lineOf_in {i : Int} (hi : 0 ≤ i) : lineOf i ≤ i ∧ i < lineOf i + 8 := by
  unfold lineOf
  rw [Int.tmod_eq_emod_of_nonneg hi]
  omega

theorem LayI.step {B : Int → UInt64} {a : Nat} {N : MemS} (I : LayI B a N) (ha : a < 2824) : ∀ (c1 c2 : Int), LayI B (a + 1) { N with calls := c2, loose := putW N.loose a (laidR a), way := flushN (putW N.loose a (laidR a)) N.way (lineOf a) 8 } := by
  intro c1 c2
  have hl := lineOf_in (i := (a : Int)) (by omega)
  refine ⟨I.u, I.len, fun i => ?_, fun i => ?_, fun i hi => ?_⟩
  · have hr := I.read i
    unfold MemS.read MemS.there at hr ⊢
    simp only at hr ⊢
    rw [lk_put]
    by_cases e : i = (a : Int)
    · rw [if_pos e]
      have h1 : (decide (0 ≤ i) && decide (i < (N.sure.length : Int))) = true := by rw [I.len]; simp; omega
      rw [if_pos h1, if_pos (by omega), e]; rfl
    · rw [if_neg e, hr]
      by_cases h2 : i < (a : Int)
      · rw [if_pos h2, if_pos (by omega)]
      · rw [if_neg h2, if_neg (by omega)]
  · show lk (flushN _ _ _ 8) i = lk (putW _ _ _) i
    rw [lk_flushN, lk_put, I.way i]
    by_cases h1 : lineOf (a : Int) ≤ i ∧ i < lineOf (a : Int) + ((8 : Nat) : Int)
    · rw [if_pos h1]
      by_cases e : i = (a : Int)
      · rw [if_pos e]
      · rw [if_neg e]
        cases lk N.loose i <;> rfl
    · rw [if_neg h1, if_neg (by intro e; apply h1; omega)]
  · have hi' : lk (putW N.loose (a : Int) (laidR (a : Int))) i ≠ none := hi
    rw [lk_put] at hi'
    by_cases e : i = (a : Int)
    · omega
    · rw [if_neg e] at hi'
      exact I.rng i hi'

theorem LayI.skip {B : Int → UInt64} {a : Nat} {N : MemS} (I : LayI B a N) (h : N.read a = laidR a) : LayI B (a + 1) N := by
  refine ⟨I.u, I.len, fun i => ?_, I.way, I.rng⟩
  by_cases e : i = (a : Int)
  · rw [if_pos (by omega), e]; exact h
  · rw [I.read i]
    by_cases h2 : i < (a : Int)
    · rw [if_pos h2, if_pos (by omega)]
    · rw [if_neg h2, if_neg (by omega)]

theorem lk_nil {l : List (Int × UInt64)} (h : ∀ x, lk l x = none) : l = [] := by
  cases l with
  | nil => rfl
  | cons p l =>
    have := h p.1
    simp [lk] at this

theorem layL_spec {h : Heap} {L : ML} {M : MemS} (A : MemAt h L M) (O : MemO h L M) (hu : M.until_ = -1) (hs : M.sure.length = 2824) (hl0 : M.loose = []) (hw0 : M.way = []) : CallH Tryz.prog 23 [.pointer (some ⟨L.m, 0, none⟩)] h (fun v h' => Keeps L.blocks h h' ∧ v = .int .i64 0 ∧
    ∃ N : MemS, MemAt h' L N ∧ N.until_ = -1 ∧ N.sure.length = 2824 ∧ (∀ i, N.read i = laidR i) ∧ N.loose = []) := by
  have bl := A.blt
  refine call_of hmix Tryz.func23 rfl ok23 (by simp [Tryz.f23]) ?_
  conv => whnf
  refine CallR.i (laid_spec h) fun v h1 k1 hv => ?_
  obtain ⟨b1, rfl, hb1, o1⟩ := hv
  conv => whnf
  refine CallR.i (msize_spec (A.on k1)) fun v h2 k2 hv => ?_
  subst hv
  rw [hs]
  conv => whnf
  refine IfR.f rfl ?_
  have I0 : LayI M.read 0 M := ⟨hu, hs, fun i => by
    by_cases h : i < ((0 : Nat) : Int)
    · rw [if_pos h]
      have h1 : laidR i = 0 := by
        unfold laidR
        rw [if_neg (by omega)]
      have h2 : M.there i = false := by
        unfold MemS.there
        rw [decide_eq_false (by omega)]; rfl
      unfold MemS.read
      rw [h1, h2]; rfl
    · rw [if_neg h], fun i => by rw [hl0, hw0], fun i hi => by rw [hl0] at hi; exact absurd rfl hi⟩
  have nb1 : ∀ b ∈ L.blocks, b ≠ b1 := fun b hb => by have := bl b hb; omega
  have k12 := k1.trans k2
  have oll := laidL_len
  conv => whnf
  refine LoopR.on [0, 13, 14, 15] [] (fun q : Nat × MemS => [(0, .v (.pointer (some ⟨L.m, 0, none⟩))), (13, .v (.slice (some ⟨b1, 0, none⟩) 2824 2824)), (14, .v (.int .i64 2824)), (15, .v (.int .i64 (q.1 : Int)))]) (fun _ => [])
    (fun q h' => q.1 ≤ 2824 ∧ Keeps L.blocks h h' ∧ h'[b1]? = some (.cells ⟨laidL.map wv⟩ 56 (0, 0)) ∧ MemAt h' L q.2 ∧ MemO h' L q.2 ∧ LayI M.read q.1 q.2) (fun q => 2824 - q.1) (0, M) ?_ ?_
  · conv => whnf
    exact ⟨(0, M), rfl, rfl, rfl, Nat.zero_le _, k12.mono (by simp), k2.obj o1 (by simp), A.on k12, Own.keep O k12 (by simp), I0⟩
  · rintro ⟨a, N⟩ h3 ⟨ha, k3, o3, A3, O3, I3⟩
    simp only at ha A3 O3 I3
    conv => whnf
    refine IfR.i (fun hc => ?_) (fun hc => ?_)
    · have ha1 : a < 2824 := by
        have : (a : Int) < 2824 := by simpa using hc
        omega
      have hla : (laidL[a]'(by omega)) = laidR (a : Int) := by
        unfold laidR
        rw [if_pos (by omega), Int.toNat_natCast, List.getElem?_eq_getElem (by omega)]; rfl
      have hth : N.there (a : Int) = true := by unfold MemS.there; rw [I3.len]; simp; omega
      conv => whnf
      first | refine IdxS.i a rfl ha1 rfl ?_ | (refine MeetR.pass ?_; (conv => whnf); refine IdxS.i a rfl ha1 rfl ?_)
      conv => whnf
      refine LoadR.o (v := wv (laidL[a]'(by omega))) o3 ?_ ?_
      · rw [nth_eq]
        show (laidL.map wv)[0 + a * 1]? = _
        rw [show 0 + a * 1 = a by omega]
        simp [oll, ha1]
      rw [hla]
      conv => whnf
      refine CallR.i (mread_spec A3 (a : Int)) fun v h4 k4 hv => ?_
      subst hv
      have A4 := A3.on k4
      have O4 : MemO h4 L N := Own.keep O3 k4 (by simp)
      have o4 := k4.obj o3 (by simp)
      conv => whnf
      refine IfR.i (fun hd => ?_) (fun hd => ?_)
      · have he : N.read (a : Int) = laidR (a : Int) := by
          have : (((N.read (a : Int)).toNat : Nat) : Int) = (((laidR (a : Int)).toNat : Nat) : Int) := by simpa using hd
          exact UInt64.toNat_inj.1 (by omega)
        conv => whnf
        refine ⟨2824 - (a + 1), by omega, ?_⟩
        conv => whnf
        exact ⟨(a + 1, N), rfl, by rw [wrapN (x := (a : Int) + 1) (n := a + 1) (by simp) (by omega)], rfl, by simp only; omega, k3.trans_nil k4, o4, A4, O4, I3.skip he⟩
      · have hst : N.store (a : Int) (laidR (a : Int)) = (0, { N with calls := IntKind.i64.wrap (N.calls + 1), loose := putW N.loose (a : Int) (laidR (a : Int)) }) := by
          unfold MemS.store
          rw [call_calm I3.u, hth]
          rfl
        conv => whnf
        refine CallR.m (store_spec A4 (a : Int) (laidR (a : Int))) (by simp [blocksOf]) fun v h5 k5 hv => ?_
        rw [hst] at hv
        obtain ⟨rfl, A5⟩ := hv
        conv => whnf
        first | refine IfR.t rfl ?_ | (refine MeetR.pass ?_; (conv => whnf); refine IfR.t rfl ?_)
        have I5 := I3.step ha1
        generalize hN5 : ({ N with calls := IntKind.i64.wrap (N.calls + 1), loose := putW N.loose (a : Int) (laidR (a : Int)) } : MemS) = N5 at A5
        have hth5 : N5.there (a : Int) = true := by subst hN5; exact hth
        have hu5 : N5.until_ = -1 := by subst hN5; exact I3.u
        have O5 : MemO h5 L N5 := by
          have : MemO h5 L N := Own.keep O4 k5 (fun b hb => by have := A4.ap2 b hb; simp; exact ⟨this.1, this.2.1⟩)
          subst hN5; exact this
        have o5 := k5.obj o4 (by
          have q1 := nb1 L.m (by simp [ML.blocks])
          have q2 := nb1 L.lb (by simp [ML.blocks])
          simp; exact ⟨fun e => q1 e.symm, fun e => q2 e.symm⟩)
        conv => whnf
        refine CallR.m (flush_spec A5 (a : Int) (by omega) (by rw [call_calm hu5, hth5]; rfl)) (by simp [blocksOf]) fun v h6 k6 hv => ?_
        obtain ⟨rfl, A6⟩ := hv
        rw [call_calm hu5] at A6
        conv => whnf
        refine IfR.f rfl ?_
        conv => whnf
        refine ⟨2824 - (a + 1), by omega, ?_⟩
        conv => whnf
        have hN6 : ({ ({ N5 with calls := IntKind.i64.wrap (N5.calls + 1) } : MemS) with way := flushN ({ N5 with calls := IntKind.i64.wrap (N5.calls + 1) } : MemS).loose ({ N5 with calls := IntKind.i64.wrap (N5.calls + 1) } : MemS).way (lineOf (a : Int)) 8 } : MemS) = { N with calls := IntKind.i64.wrap (IntKind.i64.wrap (N.calls + 1) + 1), loose := putW N.loose (a : Int) (laidR (a : Int)), way := flushN (putW N.loose (a : Int) (laidR (a : Int))) N.way (lineOf (a : Int)) 8 } := by subst hN5; rfl
        have A6' : MemAt h6 L { N with calls := IntKind.i64.wrap (IntKind.i64.wrap (N.calls + 1) + 1), loose := putW N.loose (a : Int) (laidR (a : Int)), way := flushN (putW N.loose (a : Int) (laidR (a : Int))) N.way (lineOf (a : Int)) 8 } := by rw [← hN6]; exact A6
        refine ⟨(a + 1, _), rfl, by rw [wrapN (x := (a : Int) + 1) (n := a + 1) (by simp) (by omega)], rfl, by simp only; omega, ?_, ?_, A6', ?_, I5 0 _⟩
        · exact ((k3.trans_nil k4).trans (k5.mono (by simp [ML.blocks]))).trans (k6.mono (by simp [ML.blocks]))
        · refine k6.obj o5 ?_
          have q1 := nb1 L.m (by simp [ML.blocks])
          have q2 := nb1 L.wb (by simp [ML.blocks])
          simp; exact ⟨fun e => q1 e.symm, fun e => q2 e.symm⟩
        · have : MemO h6 L N5 := Own.keep O5 k6 (fun b hb => by have := A5.ap2 b hb; simp; exact ⟨this.1, this.2.2⟩)
          subst hN5; exact this
    · have ha1 : a = 2824 := by
        have : ¬ ((a : Int) < 2824) := by simpa using hc
        omega
      subst ha1
      have hkw := keysW A3.way
      conv => whnf
      refine CallR.m (fenceL_spec A3 O3 I3.u (by rw [I3.len]; decide) (fun p hp => ?_)) (by simp [blocksOf]) fun v h4 k4 hv => ?_
      · have h1 := lk_of_mem hkw hp
        rw [I3.way] at h1
        have h2 := I3.rng p.1 (by rw [h1]; simp)
        refine ⟨h1, ?_⟩
        unfold MemS.there
        rw [I3.len]; simp; omega
      obtain ⟨rfl, N', A4, _, u4, l4, _, r4, y4⟩ := hv
      conv => whnf
      refine ⟨k3.trans k4, rfl, N', A4, u4, by rw [l4, I3.len], fun i => ?_, lk_nil fun x => ?_⟩
      rotate_left
      · apply Classical.byContradiction
        intro hx
        obtain ⟨q1, q2⟩ := y4 x hx
        rw [I3.way] at q2
        exact q1 q2
      rw [r4, I3.read]
      by_cases h : i < ((2824 : Nat) : Int)
      · rw [if_pos h]
      · rw [if_neg h]
        have h1 : laidR i = 0 := by
          unfold laidR
          rw [if_neg (by omega)]
        have h2 : M.there i = false := by
          unfold MemS.there
          rw [hs, decide_eq_false (show ¬ (i < ((2824 : Nat) : Int)) from h)]; simp
        unfold MemS.read
        rw [h1, h2]; rfl
end Go.Proofs.YtkjkdnphikendaaGreatDoor
/-
  Layer 13's statements: a world is begun; a few calls are lived through.
-/
set_option linter.all false
set_option maxRecDepth 100000
set_option maxHeartbeats 4000000
namespace Go.Proofs.YtkjkdnphikendaaGreatDoor
open Go Go.Eng

theorem begin13_spec (h : Heap) : CallH Tryz.prog 7 [] h (fun v h' => Keeps [] h h' ∧ ∃ (w t bT : Nat) (V : VL) (N : MemS), v = .pointer (some ⟨w, 0, none⟩) ∧
      h'[w]? = some (.cells ⟨[.pointer (some ⟨V.mem.m, 0, none⟩), .pointer (some ⟨V.v, 0, none⟩), .pointer (some ⟨t, 0, none⟩)]⟩ 33 (0, 0)) ∧ h'[t]? = some (.cells ⟨[.slice (some ⟨bT, 0, none⟩) 2 2]⟩ 85 (0, 0)) ∧ h'[bT]? = some (.cells ⟨nodC L0⟩ 87 (0, 0)) ∧
      At h' V N ⟨laidR, [], [], [], []⟩ ∧ N.read = laidR ∧ N.until_ = -1 ∧ N.sure.length = 2824 ∧ N.loose = [] ∧ V.ab = none ∧ V.anb = none ∧ (∀ b ∈ V.blocks, h.size ≤ b ∧ b < bT ∧ b < t ∧ b < w)) := by
  refine call_of hmix Tryz.func7 rfl ok7 (by simp [Tryz.f7]) ?_
  conv => whnf
  refine CallR.i (mnew_spec 2824 (by decide) (by decide) h) fun v h1 k1 hv => ?_
  obtain ⟨ML1, rfl, A1, O1, n1⟩ := hv
  have z1 := k1.size
  conv => whnf
  refine CallR.m (layL_spec A1 O1 rfl rfl rfl rfl) (by simp [blocksOf]) fun v h2 k2 hv => ?_
  obtain ⟨rfl, N, A2, hu, hs, hr, hlo⟩ := hv
  have z2 := k2.size
  conv => whnf
  refine IfR.f rfl ?_
  conv => whnf
  refine CallR.i (new_spec A2) fun v h3 k3 hv => ?_
  rw [if_pos hs] at hv
  obtain ⟨V, rfl, hVm, hab, hanb, hVn, A3⟩ := hv
  have z3 := k3.size
  have hr2 : N.read = laidR := funext hr
  rw [hr2] at A3
  conv => whnf
  refine CallR.i (new12_spec h3) fun v h4 k4 hv => ?_
  obtain ⟨bT, t, rfl, hbT, ht, o4t, o4b⟩ := hv
  have z4 := k4.size
  conv => whnf
  refine AllocR.i fun w h5 e5 s5 o5 k5 => ?_
  have k35 : Keeps [] h3 h5 := k4.trans k5
  have A5 := A3.on k35
  have hVlt : ∀ b ∈ V.blocks, b < h3.size := A3.blt
  have hVge : ∀ b ∈ V.blocks, h.size ≤ b := by
    intro b hb
    have hb2 : b ∈ [V.v, V.ob, V.sb, V.mb] ∨ b ∈ ML1.blocks := by
      unfold VL.blocks at hb
      rw [hVm, hab, hanb] at hb
      simp only [List.mem_cons, List.mem_append, Option.toList, List.not_mem_nil, or_false] at hb ⊢
      rcases hb with h | h | h | h | h <;> simp [h]
    rcases hb2 with h | h
    · have := hVn b h; omega
    · exact n1 b h
  have k05 : Keeps [] h h5 := (k1.nil_of k2 (fun b hb => n1 b hb)).trans (k3.trans k35)
  conv => whnf
  refine LoadR.o o5 rfl ?_
  conv => whnf
  refine IfR.f rfl ?_
  conv => whnf
  refine ⟨k05, w, t, bT, V, N, rfl, ?_, k5.obj o4t (by simp), k5.obj o4b (by simp), A5, hr2, hu, hs, hlo, hab, hanb, fun b hb => ⟨hVge b hb, ?_⟩⟩
  · rw [hVm]; exact o5
  · have := hVlt b hb
    omega

theorem lives13_spec (h : Heap) : CallH Tryz.prog 6 [] h (fun v h' => Keeps [] h h' ∧ v = .bool true) := by
  refine call_of hmix Tryz.func6 rfl ok6 (by simp [Tryz.f6]) ?_
  conv => whnf
  refine CallR.i (begin13_spec h) fun v h1 k1 hv => ?_
  obtain ⟨w, t, bT, V, N, rfl, o1, _, _, A1, hr, hu, hs, hlo, hab, hanb, hV⟩ := hv
  have nob := hV V.ob (by simp [VL.blocks])
  have nsb := hV V.sb (by simp [VL.blocks])
  have nmb := hV V.mb (by simp [VL.blocks])
  have hf0 : freeN N.read ⟨laidR, [], [], [], []⟩ 96 = 96 := by rw [hr]; exact freeN_laid _ _ _ _ rfl
  -- a file
  conv => whnf
  refine LoadR.o o1 rfl ?_
  conv => whnf
  refine IfR.t rfl ?_
  conv => whnf
  refine CallR.m (cmake_spec A1 fs0 (sim0.fc rfl fc0) rfl [47, 102] (by decide) (kind := 1) (.inl rfl)) (by simp [blocksOf]) fun v h2 k2 hv => ?_
  obtain ⟨X2, A2, R2⟩ := hv
  obtain ⟨rfl, a2, n2, f2, S1, I2, Z2, l2, c2⟩ := fresh_step (n1 := 2) sim0 pl0 (by omega) (by decide) (by decide) (by decide +kernel) R2
  have o2 := k2.obj o1 (by simp; omega)
  have Z2 : Sim S1 K1 N1 B1 := Z2
  -- a link
  conv => whnf
  refine LoadR.o o2 rfl ?_
  conv => whnf
  refine IfR.t rfl ?_
  conv => whnf
  refine CallR.m (csym_spec A2 I2 (Z2.fc rfl fc1) n2 [47, 108] [47, 102] (by decide) (by decide)) (by simp [blocksOf]) fun v h3 k3 hv => ?_
  obtain ⟨X3, A3, R3⟩ := hv
  have R3 : FreshR N.read X2 S1 [47, 108] 3 [47, 102] v X3 := by
    rcases R3 with ⟨hpn, _⟩ | ⟨_, R3⟩
    · exact absurd hpn (by decide +kernel)
    · exact R3
  obtain ⟨rfl, a3, n3, f3, S2, I3, Z3, l3, c3⟩ := fresh_step (n1 := 3) Z2 pl1 (by omega) (by decide +kernel) (by decide +kernel) (by decide +kernel) R3
  have o3 := k3.obj o2 (by simp; omega)
  have Z3 : Sim S2 K2 N2 B2 := Z3
  -- bytes, through the link
  conv => whnf
  refine LoadR.o o3 rfl ?_
  conv => whnf
  refine IfR.t rfl ?_
  conv => whnf
  refine CallR.m (cwrite_spec A3 I3 (Z3.fc rfl fc2) [47, 108] (by decide) 0 [104, 105]) (by simp [blocksOf]) fun v h4 k4 hv => ?_
  obtain ⟨X4, A4, R4⟩ := hv
  obtain ⟨rfl, a4, n4, S3, I4, Z4, l4, c4⟩ := write_step Z3 (by omega) R4
  have o4 := k4.obj o3 (by simp; omega)
  -- the link is gone
  conv => whnf
  refine LoadR.o o4 rfl ?_
  conv => whnf
  refine IfR.t rfl ?_
  conv => whnf
  refine CallR.m (cremoveF_spec A4 I4 (Z4.fc rfl fc2) (Z4.ns ns2) [47, 108] (by decide)) (by simp [blocksOf]) fun v h5 k5 hv => ?_
  obtain ⟨X5, A5, R5⟩ := hv
  obtain ⟨rfl, a5, n5, S4, I5, Z5, c5⟩ := remove_step Z4 (by rw [c4]; exact l3) R5
  have o5 := k5.obj o4 (by simp; omega)
  conv => whnf
  refine IfR.f rfl ?_
  -- what is told
  have hp5 : pthV S4 [47, 102] = (2, 0) := by unfold pthV; rw [Z5.view]; exact pa4
  have hk5 : (S4.C 2).kind = 1 := by rw [Z5.k]; decide +kernel
  have he5 : pthE S4 [47, 102] = 0 := by
    unfold pthE
    rw [hp5, if_neg (by rintro ⟨_, h⟩; rw [hk5] at h; cases h)]
  have hb5 : S4.by_ 2 = [104, 105] := by rw [Z5.b]; decide +kernel
  have hr5 : refReadL [104, 105] 0 9 = ([104, 105], 0) := by decide +kernel
  have hq5 : pathA (viewFs S4) [47, 102] false = (2, 0) := by rw [Z5.view]; exact pb4
  have hl5 : (S4.C 2).links = 1 := by rw [c5, l4, c3 2 (by decide) (by decide)]; exact l2
  have hs5 : (S4.C 2).size = 2 := by
    obtain ⟨m, F⟩ := (I5.node 2 (by decide) (by decide)).file (.inl hk5)
    rw [F.size, hb5]; rfl
  conv => whnf
  refine LoadR.o o5 rfl ?_
  conv => whnf
  refine CallR.m (cread_spec A5 I5 (Z5.fc rfl fc4) [47, 102] (by decide) 0 9) (by simp [blocksOf]) fun v h6 k6 hv => ?_
  obtain ⟨⟨s6, A6⟩, hv⟩ := hv
  rw [he5, if_pos rfl, hp5] at hv
  simp only [hb5] at hv
  rw [hr5] at hv
  subst hv
  have o6 := k6.obj o5 (by simp; omega)
  conv => whnf
  refine LoadR.o o6 rfl ?_
  conv => whnf
  refine CallR.m (cstat_spec A6 I5 (Z5.fc rfl fc4) [47, 102] (by decide)) (by simp [blocksOf]) fun v h7 k7 hv => ?_
  obtain ⟨⟨s7, A7⟩, hv⟩ := hv
  rw [hq5, if_pos rfl] at hv
  simp only [hl5, hs5] at hv
  subst hv
  conv => whnf
  refine AllocR.i fun b8 h8 e8 s8 o8 k8 => ?_
  conv => whnf
  refine BoxR.i fun h9 s9 k9 => ?_
  conv => whnf
  have z1 := k1.size
  have z2 := k2.size
  have z3 := k3.size
  have z4 := k4.size
  have z5 := k5.size
  have z6 := k6.size
  have z7 := k7.size
  have sub : ∀ {a b : Heap}, Keeps [V.ob, V.sb, V.mb] a b → ∀ x ∈ [V.ob, V.sb, V.mb], h.size ≤ x := fun _ x hx => by
    simp at hx; omega
  have k05 : Keeps [] h h5 := (((k1.nil_of k2 (sub k2)).nil_of k3 (sub k3)).nil_of k4 (sub k4)).nil_of k5 (sub k5)
  have k07 : Keeps [] h h7 := (k05.nil_of k6 (fun x hx => by simp at hx; omega)).nil_of k7 (fun x hx => by simp at hx; omega)
  refine ⟨k07.trans (k8.new1 k9 (by omega)), ?_⟩
  have hs : ((ba [104, 105]).toList == (ByteArray.mk #[104, 105]).toList) = true := by
    have h1 : ((ba [104, 105]).toList == (ba [104, 105]).toList) = true := beq_self_eq_true _
    exact h1
  rw [hs]
  rfl
end Go.Proofs.YtkjkdnphikendaaGreatDoor
/-
  Layer 13: calls without a view (printed by wip/tools/mkcalj.py).
-/
set_option linter.all false
set_option maxRecDepth 100000
set_option maxHeartbeats 4000000
namespace Go.Proofs.YtkjkdnphikendaaGreatDoor
open Go Go.Eng

def spotN : List Value := [.int .i64 0] ++ Crd.zero.cells ++ [.string ⟨#[]⟩, .int .i64 0]
/-- a call, as a script has it -/
structure Cal where
  kind : Int
  path : List UInt8
  path2 : List UInt8
  data : List UInt8
  at_ : Int
  n : Int
def Cal.cells (c : Cal) : List Value := [.int .i64 c.kind, .string (ba c.path), .string (ba c.path2), .string (ba c.data), .int .i64 c.at_, .int .i64 c.n]
def Cal.ok (c : Cal) : Prop := inI64 c.kind ∧ c.path.length ≤ 140737488351232 ∧ c.path2.length ≤ 140737488351232 ∧ c.data.length ≤ 140737488351232 ∧ inI64 c.at_ ∧ inI64 c.n
/-- what is told where there is an error -/
def toldN : Value := .agg #[.int .i64 1, .int .i64 0, .string ⟨#[]⟩, .int .i64 0, .int .i64 0, .int .i64 0, .int .i64 0, .slice none 0 0]

end Go.Proofs.YtkjkdnphikendaaGreatDoor
/-
  Layer 13's law: without a view nothing can be asked.
-/
set_option linter.all false
set_option maxRecDepth 100000
set_option maxHeartbeats 4000000
namespace Go.Proofs.YtkjkdnphikendaaGreatDoor
open Go Go.Eng

instance : Rp Cal where
  n := 6
  rep _ vs x := vs = x.cells ∧ x.ok
  len h := by rw [h.1]; rfl
  keep _ h := h
instance : Flat Cal := ⟨fun h => h⟩

section
variable {H : Type} {enc : TypeId × Value → H} {W : World} {sp : Nat → Bool} {held : Bool}
theorem opens_call : Opens enc Tryz.prog W sp held 37 Cal := by
  intro fuel cs x h hw
  obtain ⟨hl, f', hp⟩ := trod_parts Tryz.underlying37 h hw
  obtain ⟨a, b, c, d, e, f, rfl⟩ : ∃ a b c d e f, cs = [a, b, c, d, e, f] := by
    match cs, hl with
    | [a, b, c, d, e, f], _ => exact ⟨a, b, c, d, e, f, rfl⟩
  obtain ⟨y0, h0, w0⟩ := hp _ (List.mem_cons_self)
  obtain ⟨y1, h1, w1⟩ := hp _ (List.mem_cons_of_mem _ List.mem_cons_self)
  obtain ⟨y2, h2, w2⟩ := hp _ (List.mem_cons_of_mem _ (List.mem_cons_of_mem _ List.mem_cons_self))
  obtain ⟨y3, h3, w3⟩ := hp _ (List.mem_cons_of_mem _ (List.mem_cons_of_mem _ (List.mem_cons_of_mem _ List.mem_cons_self)))
  obtain ⟨y4, h4, w4⟩ := hp _ (List.mem_cons_of_mem _ (List.mem_cons_of_mem _ (List.mem_cons_of_mem _ (List.mem_cons_of_mem _ List.mem_cons_self))))
  obtain ⟨y5, h5, w5⟩ := hp _ (List.mem_cons_of_mem _ (List.mem_cons_of_mem _ (List.mem_cons_of_mem _ (List.mem_cons_of_mem _ (List.mem_cons_of_mem _ List.mem_cons_self)))))
  obtain ⟨n, e0, g0⟩ := opens_int (W := W) Tryz.underlying3 f' _ _ h0 w0
  obtain ⟨s, e1, g1⟩ := opens_string (W := W) Tryz.underlying9 f' _ _ h1 w1
  obtain ⟨t, e2, g2⟩ := opens_string (W := W) Tryz.underlying9 f' _ _ h2 w2
  obtain ⟨u, e3, g3⟩ := opens_string (W := W) Tryz.underlying9 f' _ _ h3 w3
  obtain ⟨m, e4, g4⟩ := opens_int (W := W) Tryz.underlying3 f' _ _ h4 w4
  obtain ⟨k, e5, g5⟩ := opens_int (W := W) Tryz.underlying3 f' _ _ h5 w5
  cases e0; cases e1; cases e2; cases e3; cases e4; cases e5
  obtain ⟨l1, rfl⟩ : ∃ l : List UInt8, s = ⟨l.toArray⟩ := ⟨s.data.toList, rfl⟩
  obtain ⟨l2, rfl⟩ : ∃ l : List UInt8, t = ⟨l.toArray⟩ := ⟨t.data.toList, rfl⟩
  obtain ⟨l3, rfl⟩ : ∃ l : List UInt8, u = ⟨l.toArray⟩ := ⟨u.data.toList, rfl⟩
  exact ⟨⟨n, l1, l2, l3, m, k⟩, rfl, g0, by have := g1; unfold okStr at this; rwa [bs_size] at this, by have := g2; unfold okStr at this; rwa [bs_size] at this, by have := g3; unfold okStr at this; rwa [bs_size] at this, g4, g5⟩
end

end Go.Proofs.YtkjkdnphikendaaGreatDoor
/-
  Layer 13: one more name for a file.
-/
set_option linter.all false
set_option maxRecDepth 100000
set_option maxHeartbeats 4000000
namespace Go.Proofs.YtkjkdnphikendaaGreatDoor
open Go Go.Eng

def moreC (c : Crd) : Crd := { c with links := c.links + 1 }

/-- what linking tells -/
def LinkR (B : Int → UInt64) (X : VS) (S : FS) (old name : List UInt8) (v : Value) (X' : VS) : Prop := X'.away = X.away ∧ X'.awayN = X.awayN ∧
  (((pathA (viewFs S) old false).2 ≠ 0 ∧ v = .int .i64 (pathA (viewFs S) old false).2 ∧ X'.now = X.now ∧ X'.mine = X.mine) ∨
   ((pathA (viewFs S) old false).2 = 0 ∧ (S.C (pathA (viewFs S) old false).1).kind = 2 ∧ v = .int .i64 7 ∧ X'.now = X.now ∧ X'.mine = X.mine) ∨
   ((pathA (viewFs S) old false).2 = 0 ∧ (S.C (pathA (viewFs S) old false).1).kind ≠ 2 ∧
    (((placeA (viewFs S) name).2.2.2 ≠ 0 ∧ v = .int .i64 (placeA (viewFs S) name).2.2.2 ∧ X'.now = X.now ∧ X'.mine = X.mine) ∨
     ∃ d nm nd, PlaceAt S name d nm nd ∧ ((nd ≠ 0 ∧ v = .int .i64 5 ∧ X'.now = X.now ∧ X'.mine = X.mine) ∨
      (nd = 0 ∧ 255 ≤ (S.C (pathA (viewFs S) old false).1).links ∧ v = .int .i64 10 ∧ X'.now = X.now ∧ X'.mine = X.mine) ∨
      (nd = 0 ∧ (S.C (pathA (viewFs S) old false).1).links < 255 ∧ v = .int .i64 9 ∧ (freeN B X 96 < 2 ∨ 10 ≤ (S.nm d).length)) ∨
      (nd = 0 ∧ (S.C (pathA (viewFs S) old false).1).links < 255 ∧ v = .int .i64 0 ∧ (∀ x ∈ X.mine, x ∈ X'.mine) ∧ freeN B X 96 ≤ freeN B X' 96 + 2 ∧ ∃ c2 c1, c2.kind = (S.C (pathA (viewFs S) old false).1).kind ∧ c2.links = (S.C (pathA (viewFs S) old false).1).links + 1 ∧ c1.kind = 2 ∧ c1.links = 1 ∧
        FsI X'.now ((S.put (pathA (viewFs S) old false).1 c2 (S.nm (pathA (viewFs S) old false).1) (S.by_ (pathA (viewFs S) old false).1)).put d c1 (insL (S.nm d) ⟨nm, (pathA (viewFs S) old false).1⟩) (S.by_ d)))))))

theorem clink_spec {h : Heap} {V : VL} {M : MemS} {X : VS} (A : At h V M X) {S : FS} (I : FsI X.now S) (C : FsC S) (old name : List UInt8) (ho : old.length ≤ 140737488351232) (hp : name.length ≤ 140737488351232) :
    CallH Tryz.prog 9 [.pointer (some ⟨V.v, 0, none⟩), .string (ba old), .string (ba name)] h (fun v h' => Keeps [V.ob, V.sb, V.mb] h h' ∧ ∃ X', At h' V M X' ∧ LinkR M.read X S old name v X') := by
  have bl := A.blt
  have q1 := bl V.ob (by simp [VL.blocks])
  have q2 := bl V.sb (by simp [VL.blocks])
  have q3 := bl V.mb (by simp [VL.blocks])
  refine call_of hmix Tryz.func9 rfl ok9 (by simp [Tryz.f9]) ?_
  conv => whnf
  refine CallR.m (vpath_spec A I C old ho false) (by simp [blocksOf]) fun v h1 k1 hv => ?_
  obtain ⟨rfl, s, A1⟩ := hv
  have z1 := k1.size
  have hin := fun h0 => path_in I C (path := old) (follow := false) h0
  unfold LinkR
  generalize pathA (viewFs S) old false = r at hin
  unfold walkV
  conv => whnf
  refine AllocR.i fun b2 h2 e2 s2 o2 k2 => ?_
  conv => whnf
  refine BoxR.i fun h3 s3 k3 => ?_
  have k13 : Keeps [] h1 h3 := k2.new1 k3 (by omega)
  have z2 := k2.size
  have z3 := k3.size
  have A3 := A1.on k13
  have kk3 : Keeps [V.ob, V.sb, V.mb] h h3 := (k1.mono (by simp)).trans_nil k13
  by_cases h0 : r.2 = 0
  · obtain ⟨n0, n24, hkn⟩ := hin h0
    rw [h0, if_pos rfl]
    generalize r.1 = n at n0 n24 hkn
    have hn0 : 0 ≤ n ∧ n < 24 := ⟨by omega, n24⟩
    generalize hX1 : ({ X with seen := s } : VS) = X1 at A3
    have w1 : X1.now = X.now := by rw [← hX1]
    have w2 : X1.away = X.away := by rw [← hX1]
    have w3 : X1.awayN = X.awayN := by rw [← hX1]
    have w4 : X1.mine = X.mine := by rw [← hX1]
    have w5 : freeN M.read X1 96 = freeN M.read X 96 := by rw [← hX1]; rfl
    have I1 : FsI X1.now S := by rw [w1]; exact I
    have N := I1.node n hn0.1 n24
    conv => whnf
    refine IfR.f rfl ?_
    by_cases hkd : (S.C n).kind = 2
    · conv => whnf
      refine IfR.t (by simp [hkd]) ?_
      conv => whnf
      exact ⟨kk3, X1, A3, w2, w3, .inr (.inl ⟨rfl, hkd, rfl, w1, w4⟩)⟩
    · have hkf : (S.C n).kind = 1 ∨ (S.C n).kind = 3 := by have := N.kind; omega
      obtain ⟨m, F⟩ := N.file hkf
      have hlk := F.kind.2
      conv => whnf
      refine IfR.f (by simp [hkd]) ?_
      conv => whnf
      refine CallR.m (cempty_spec A3 I1 C name hp) (fun y hy hx => by
          simp [blocksOf, setB] at hy hx; omega) fun v h4 k4 hv => ?_
      obtain ⟨⟨s4, A4⟩, d', c', nm', nd', rfl, hq⟩ := hv
      have z4 := k4.size
      conv => whnf
      refine AllocR.i fun b5 h5 e5 s5 o5 k5 => ?_
      conv => whnf
      refine BoxR.i fun h6 s6 k6 => ?_
      have k46 : Keeps [] h4 h6 := k5.new1 k6 (by omega)
      have z5 := k5.size
      have z6 := k6.size
      have A6 := A4.on k46
      have kk6 : Keeps [V.ob, V.sb, V.mb] h h6 := kk3.trans ((k4.mono (by simp)).trans_nil k46)
      by_cases he : (placeA (viewFs S) name).2.2.2 = 0
      · obtain ⟨d, nm, nd, P⟩ := place_at I C he
        rw [P.is] at hq ⊢
        obtain ⟨t1, t2, t3, t4⟩ := hq rfl
        have t1 : d = d' := t1.symm
        have t3 : nm = nm' := t3.symm
        have t4 : nd = nd' := t4.symm
        subst t1 t3 t4
        have t2 : c' = S.C d := t2
        subst t2
        simp only
        by_cases hnd : nd = 0
        · subst hnd
          have hfe := P.new I C
          have hdn : n ≠ d := fun e => hkd (by rw [e]; exact P.kind)
          conv => whnf
          refine IfR.f rfl ?_
          by_cases hlg : 255 ≤ (S.C n).links
          · conv => whnf
            refine IfR.t (by simp [hlg]) ?_
            conv => whnf
            exact ⟨kk6, _, A6, w2, w3, .inr (.inr ⟨trivial, hkd, .inr ⟨d, nm, 0, P, .inr (.inl ⟨rfl, hlg, rfl, w1, w4⟩)⟩⟩)⟩
          · conv => whnf
            refine IfR.f (by simp; omega) ?_
            conv => whnf
            refine BoxR.i fun h7 s7 k7 => ?_
            have A7 := A6.keep k7 (fun b hb => by have := bl b hb; simp; omega)
            have kk7 := kk6.m1 k7 (by omega)
            have z7 := k7.size
            have F7 : FileI X1.now n (moreC (S.C n)) m (S.by_ n) := ⟨F.map, F.wk, ⟨F.kind.1, by show 0 ≤ (S.C n).links + 1; omega, by show (S.C n).links + 1 ≤ 255; omega⟩, F.size, F.fits, F.by_, F.hol, F.mor⟩
            have CS := cset_spec A7 n hn0 (moreC (S.C n)) F7.ok F7.right
            have hcells : (moreC (S.C n)).cells = [.int .i64 (S.C n).kind, .int .i64 (IntKind.i64.wrap ((S.C n).links + 1)), .int .i64 (S.C n).size, wv (S.C n).ver, .int .i64 (S.C n).d0, .int .i64 (S.C n).d1, .int .i64 (S.C n).d2, .int .i64 (S.C n).d3, .int .i64 (S.C n).d4, .int .i64 (S.C n).more] := by
              rw [wrapI (by omega) (by omega)]; rfl
            rw [hcells] at CS
            conv => whnf
            refine CallR.m CS (fun y hy hx => by
                simp [blocksOf, setB] at hy hx; omega) fun v h8 k8 hv => ?_
            obtain ⟨rfl, A8⟩ := hv
            have z8 := k8.size
            conv => whnf
            refine IfR.f rfl ?_
            obtain ⟨vv, ev⟩ := bumpC_is ({ X1 with seen := s4 } : VS) n (moreC (S.C n))
            have N7 : NodeI X1.now n (moreC (S.C n)) (S.nm n) (S.by_ n) := ⟨N.kind, fun h => absurd h hkn, fun h => (by have h : (S.C n).kind = 2 := h; omega), fun _ => ⟨m, F7⟩⟩
            have N8 := N7.ver vv
            have I8 := I1.set (n := n) ⟨n0, n24⟩ (Fr.refl _ _) N8
            rw [← ev] at I8
            have hkd1 : (S.put n (bumpC ({ X1 with seen := s4 } : VS) n (moreC (S.C n))) (S.nm n) (S.by_ n)).C d = S.C d := if_neg (fun e => hdn e.symm)
            have hnm1 : (S.put n (bumpC ({ X1 with seen := s4 } : VS) n (moreC (S.C n))) (S.nm n) (S.by_ n)).nm d = S.nm d := if_neg (fun e => hdn e.symm)
            have hby1 : (S.put n (bumpC ({ X1 with seen := s4 } : VS) n (moreC (S.C n))) (S.nm n) (S.by_ n)).by_ d = S.by_ d := if_neg (fun e => hdn e.symm)
            have I8' : FsI (setS ({ X1 with seen := s4 } : VS) n (bumpC ({ X1 with seen := s4 } : VS) n (moreC (S.C n)))).now (S.put n (bumpC ({ X1 with seen := s4 } : VS) n (moreC (S.C n))) (S.nm n) (S.by_ n)) := I8
            conv => whnf
            refine CallR.m (cadd_spec A8 I8' P.rng (by rw [hkd1]; exact P.kind) P.name P.len (by rw [hnm1]; exact hfe) (S.C d) 0 n ⟨by omega, n24⟩) (fun y hy hx => by
                simp [blocksOf, setB] at hy hx; omega) fun v h9 k9 hv => ?_
            obtain ⟨X9, A9, x1, x2, H⟩ := hv
            conv => whnf
            have hf8 : freeN M.read (setS ({ X1 with seen := s4 } : VS) n (bumpC ({ X1 with seen := s4 } : VS) n (moreC (S.C n)))) 96 = freeN M.read X 96 := by
              rw [freeN_setS n24]; exact w5
            rw [hnm1, hby1, hf8] at H
            refine ⟨(kk7.trans k8).trans k9, X9, A9, x1.trans w2, x2.trans w3, .inr (.inr ⟨trivial, hkd, .inr ⟨d, nm, 0, P, .inr (.inr ?_)⟩⟩)⟩
            rcases H with ⟨rfl, H⟩ | ⟨rfl, g1, g2, c1, g3, g4, g5⟩
            · refine .inl ⟨rfl, by omega, rfl, ?_⟩
              rcases H with H | H
              · exact .inl H
              · right
                have h6 : hadL (S.nm d) nm ≤ (S.nm d).length := List.length_filter_le _ _
                have h7 : 10 ≤ roomN (bucketL nm) := by unfold roomN; split <;> omega
                omega
            · refine .inr ⟨rfl, by omega, rfl, fun x hx => g2 x (addS_sub (by show x ∈ X1.mine; rw [w4]; exact hx)), g1, _, c1, ?_, ?_, g4, g5, g3⟩
              · rw [ev]; rfl
              · rw [ev]; rfl
        · conv => whnf
          refine IfR.t (by simp [hnd]) ?_
          conv => whnf
          refine ⟨kk6, _, A6, w2, w3, .inr (.inr ⟨trivial, hkd, .inr ⟨d, nm, nd, P, .inl ⟨hnd, ?_, w1, w4⟩⟩⟩)⟩
          rw [if_neg (by simp), if_pos hnd]
      · conv => whnf
        refine IfR.t (by simp [he]) ?_
        conv => whnf
        refine ⟨kk6, _, A6, w2, w3, .inr (.inr ⟨rfl, hkd, .inl ⟨he, ?_, w1, w4⟩⟩)⟩
        rw [if_pos he]
  · rw [if_neg h0]
    conv => whnf
    refine IfR.t (by simp [h0]) ?_
    conv => whnf
    exact ⟨kk3, _, A3, rfl, rfl, .inl ⟨h0, rfl, rfl, rfl⟩⟩
end Go.Proofs.YtkjkdnphikendaaGreatDoor
/-
  Layer 13's plain law: all names of one file.
-/
set_option linter.all false
set_option maxRecDepth 100000
set_option maxHeartbeats 4000000
namespace Go.Proofs.YtkjkdnphikendaaGreatDoor
open Go Go.Eng

/-- a root, and one file with so many names -/
structure LkI (X : VS) (S : FS) (P : List (List UInt8)) (s : List UInt8) : Prop where
  fs : FsI X.now S
  aw : X.awayN = []
  k1 : (S.C 1).kind = 2
  k2 : (S.C 2).kind = if P = [] then 0 else 1
  l2 : P ≠ [] → (S.C 2).links = (P.length : Int)
  ks : ∀ i, i ≠ 1 → i ≠ 2 → (S.C i).kind = 0
  nod : ∀ e ∈ S.nm 1, e.node = 2
  pm : P.Perm ((S.nm 1).map (·.name))
  ok : ∀ x ∈ P, pathP (47 :: x) = some [x]
  by_ : P ≠ [] → S.by_ 2 = s

theorem LkI.ne {X : VS} {S : FS} {P : List (List UInt8)} {s : List UInt8} (L : LkI X S P s) {e : Ent} (he : e ∈ S.nm 1) : P ≠ [] := by
  intro h
  have := L.pm.length_eq
  rw [h] at this
  have h2 : S.nm 1 = [] := List.eq_nil_of_length_eq_zero (by simpa using this.symm)
  rw [h2] at he
  cases he
theorem LkI.only1 {X : VS} {S : FS} {P : List (List UInt8)} {s : List UInt8} (L : LkI X S P s) {n : Int} (hk : (S.C n).kind = 2) : n = 1 := by
  apply Classical.byContradiction
  intro h1
  by_cases h2 : n = 2
  · rw [h2, L.k2] at hk
    split at hk <;> cases hk
  · rw [L.ks n h1 h2] at hk; cases hk
theorem LkI.fc {X : VS} {S : FS} {P : List (List UInt8)} {s : List UInt8} (L : LkI X S P s) : FsC S := by
  refine ⟨L.k1, fun n n0 n1 hk e he => ?_⟩
  obtain rfl := L.only1 hk
  have hP := L.ne he
  rw [L.nod e he]
  refine ⟨by decide, by decide, ?_⟩
  rw [L.k2, if_neg hP]; decide
theorem LkI.ns {X : VS} {S : FS} {P : List (List UInt8)} {s : List UInt8} (L : LkI X S P s) : NoSelf S := by
  intro n n0 n1 hk e he
  obtain rfl := L.only1 hk
  rw [L.nod e he]; decide
theorem LkI.find {X : VS} {S : FS} {P : List (List UInt8)} {s : List UInt8} (L : LkI X S P s) {x : List UInt8} (hx : x ∈ P) : ∃ e, findE (S.nm 1) x = some e ∧ e.node = 2 := by
  obtain ⟨e, he, hn⟩ := List.mem_map.1 (L.pm.mem_iff.1 hx)
  cases hf : findE (S.nm 1) x with
  | none =>
    have := List.find?_eq_none.1 hf e he
    exact absurd (decide_eq_true hn) this
  | some e' => exact ⟨e', rfl, L.nod e' (List.mem_of_find?_eq_some hf)⟩
theorem LkI.k2' {X : VS} {S : FS} {P : List (List UInt8)} {s : List UInt8} (L : LkI X S P s) {x : List UInt8} (hx : x ∈ P) : (S.C 2).kind = 1 := by
  rw [L.k2, if_neg (List.ne_nil_of_mem hx)]
theorem LkI.path {X : VS} {S : FS} {P : List (List UInt8)} {s : List UInt8} (L : LkI X S P s) {x : List UInt8} (hx : x ∈ P) (follow : Bool) : pathA (viewFs S) (47 :: x) follow = (2, 0) := by
  obtain ⟨e, hf, he⟩ := L.find hx
  unfold pathA
  rw [L.ok x hx]
  show walkA (viewFs S) 1 follow (599 + 1) 1 0 [x] = (2, 0)
  have h1 : (viewFs S).kind 1 = 2 := L.k1
  have h2 : (viewFs S).find 1 x = some 2 := by
    show (findE (S.nm 1) x).map (·.node) = some 2
    rw [hf]
    show some e.node = some 2
    rw [he]
  have h3 : (viewFs S).kind 2 = 1 := L.k2' hx
  rw [walkA_cons, if_neg (by rw [h1]; decide), h2]
  simp only
  rw [if_pos (.inl (by rw [h3]; decide))]
  rfl
theorem LkI.pthV {X : VS} {S : FS} {P : List (List UInt8)} {s : List UInt8} (L : LkI X S P s) {x : List UInt8} (hx : x ∈ P) : Go.Proofs.YtkjkdnphikendaaGreatDoor.pthV S (47 :: x) = (2, 0) := L.path hx true
theorem LkI.pthE {X : VS} {S : FS} {P : List (List UInt8)} {s : List UInt8} (L : LkI X S P s) {x : List UInt8} (hx : x ∈ P) : Go.Proofs.YtkjkdnphikendaaGreatDoor.pthE S (47 :: x) = 0 := by
  unfold Go.Proofs.YtkjkdnphikendaaGreatDoor.pthE
  rw [L.pthV hx, if_neg (by rintro ⟨_, h⟩; rw [L.k2' hx] at h; cases h)]
theorem LkI.place {X : VS} {S : FS} {P : List (List UInt8)} {s : List UInt8} (L : LkI X S P s) {x : List UInt8} (hx : x ∈ P) : placeA (viewFs S) (47 :: x) = (1, x, 2, 0) := by
  obtain ⟨e, hf, he⟩ := L.find hx
  have h1 : (viewFs S).kind 1 = 2 := L.k1
  have h2 : (viewFs S).find 1 x = some 2 := by
    show (findE (S.nm 1) x).map (·.node) = some 2
    rw [hf]
    show some e.node = some 2
    rw [he]
  unfold placeA
  rw [L.ok x hx]
  simp only
  rw [if_neg (by simp)]
  show (if (0 : Int) ≠ 0 then _ else if (viewFs S).kind 1 ≠ 2 then _ else ((1 : Int), x, ((viewFs S).find 1 x).getD 0, (0 : Int))) = _
  rw [if_neg (by decide), if_neg (by rw [h1]; decide), h2]
  rfl

/-- a place in the root -/
theorem LkI.root {X : VS} {S : FS} {P : List (List UInt8)} {s : List UInt8} (L : LkI X S P s) {name : List UInt8} {d : Int} {nm : List UInt8} {nd : Int} (Q : PlaceAt S name d nm nd) : d = 1 ∧ pathP name = some [nm] ∧ name = 47 :: nm := by
  have hd := L.only1 Q.kind
  have hq := Q.is
  have h1 : (viewFs S).kind 1 = 2 := L.k1
  unfold placeA at hq
  cases hp : pathP name with
  | none => rw [hp] at hq; simp at hq
  | some l =>
    rw [hp] at hq
    simp only at hq
    by_cases hl : l = []
    · rw [if_pos hl] at hq; simp at hq
    · rw [if_neg hl] at hq
      cases hdl : l.dropLast with
      | nil =>
        rw [hdl] at hq
        have hq : (if (0 : Int) ≠ 0 then ((0 : Int), ([] : List UInt8), (0 : Int), (0 : Int)) else if (viewFs S).kind 1 ≠ 2 then (0, [], 0, 6) else ((1 : Int), l.getLast?.getD [], ((viewFs S).find 1 (l.getLast?.getD [])).getD 0, (0 : Int))) = (d, nm, nd, 0) := hq
        rw [if_neg (by decide), if_neg (by rw [h1]; decide)] at hq
        have hnm : l.getLast?.getD [] = nm := (Prod.mk.inj (Prod.mk.inj hq).2).1
        have hl1 : l = [nm] := by
          have h2 : l.dropLast ++ [l.getLast hl] = l := List.dropLast_concat_getLast hl
          rw [hdl, List.nil_append] at h2
          rw [List.getLast?_eq_some_getLast hl] at hnm
          have h3 : l.getLast hl = nm := hnm
          rw [h3] at h2
          exact h2.symm
        subst hl1
        obtain ⟨_, _, _, p4⟩ := pathP_len hp
        refine ⟨hd, rfl, ?_⟩
        rw [if_neg (by simp)] at p4
        rw [← p4]
        simp [joinS]
      | cons a r =>
        exfalso
        rw [hdl] at hq
        have hw : (walkA (viewFs S) 1 true 600 1 0 (a :: r)).2 ≠ 0 ∨ (viewFs S).kind (walkA (viewFs S) 1 true 600 1 0 (a :: r)).1 ≠ 2 := by
          rw [show (600 : Nat) = 599 + 1 from rfl, walkA_cons, if_neg (by rw [h1]; decide)]
          cases hf : (viewFs S).find 1 a with
          | none => left; show (4 : Int) ≠ 0; decide
          | some y =>
            have hf' : (findE (S.nm 1) a).map (·.node) = some y := hf
            cases hfe : findE (S.nm 1) a with
            | none => rw [hfe] at hf'; cases hf'
            | some e =>
              rw [hfe] at hf'
              have hy : e.node = y := by simpa using hf'
              have hm := List.mem_of_find?_eq_some hfe
              rw [L.nod e hm] at hy
              subst hy
              have h3 : (viewFs S).kind 2 = 1 := by
                show (S.C 2).kind = 1
                rw [L.k2, if_neg (L.ne hm)]
              simp only
              rw [if_pos (.inl (by rw [h3]; decide))]
              cases r with
              | nil => right; show (viewFs S).kind 2 ≠ 2; rw [h3]; decide
              | cons b r' =>
                left
                rw [show (599 : Nat) = 598 + 1 from rfl, walkA_cons, if_pos (by rw [h3]; decide)]
                decide
        rcases hw with hw | hw
        · rw [if_pos hw] at hq
          have := (Prod.mk.inj (Prod.mk.inj (Prod.mk.inj hq).2).2).2
          exact hw this
        · by_cases h0 : (walkA (viewFs S) 1 true 600 1 0 (a :: r)).2 = 0
          · rw [if_neg (by simpa using h0), if_pos hw] at hq
            have := (Prod.mk.inj (Prod.mk.inj (Prod.mk.inj hq).2).2).2
            cases this
          · rw [if_pos h0] at hq
            have := (Prod.mk.inj (Prod.mk.inj (Prod.mk.inj hq).2).2).2
            exact h0 this

theorem LkI.same {X X' : VS} {S : FS} {P : List (List UInt8)} {s : List UInt8} (L : LkI X S P s) (h : X'.now = X.now) (ha : X'.awayN = X.awayN) : LkI X' S P s :=
  ⟨by rw [h]; exact L.fs, ha.trans L.aw, L.k1, L.k2, L.l2, L.ks, L.nod, L.pm, L.ok, L.by_⟩

/-- one name more -/
theorem LkI.linked {X X' : VS} {S : FS} {P : List (List UInt8)} {s : List UInt8} (L : LkI X S P s) (hP : P ≠ []) (ha : X'.awayN = X.awayN) {nm : List UInt8} (hp : pathP (47 :: nm) = some [nm]) {c2 c1 : Crd} (e2 : c2.kind = (S.C 2).kind) (el : c2.links = (S.C 2).links + 1) (e1 : c1.kind = 2)
    (I : FsI X'.now ((S.put 2 c2 (S.nm 2) (S.by_ 2)).put 1 c1 (insL (S.nm 1) ⟨nm, 2⟩) (S.by_ 1))) : ∃ S', LkI X' S' (P ++ [nm]) s := by
  refine ⟨_, I, ha.trans L.aw, ?_, ?_, fun _ => ?_, fun i h1 h2 => ?_, fun e he => ?_, ?_, fun x hx => ?_, fun _ => ?_⟩
  · show (if (1 : Int) = 1 then c1 else if (1 : Int) = 2 then c2 else S.C 1).kind = 2
    rw [if_pos rfl]; exact e1
  · show (if (2 : Int) = 1 then c1 else if (2 : Int) = 2 then c2 else S.C 2).kind = _
    rw [if_neg (by decide), if_pos rfl, e2, L.k2, if_neg hP, if_neg (by simp)]
  · show (if (2 : Int) = 1 then c1 else if (2 : Int) = 2 then c2 else S.C 2).links = _
    rw [if_neg (by decide), if_pos rfl, el, L.l2 hP, List.length_append]
    rfl
  · show (if i = 1 then c1 else if i = 2 then c2 else S.C i).kind = 0
    rw [if_neg h1, if_neg h2]; exact L.ks i h1 h2
  · have he : e ∈ (if (1 : Int) = 1 then insL (S.nm 1) ⟨nm, 2⟩ else if (1 : Int) = 2 then S.nm 2 else S.nm 1) := he
    rw [if_pos rfl] at he
    rcases List.mem_cons.1 ((insL_perm _ _).mem_iff.1 he) with rfl | h
    · rfl
    · exact L.nod e h
  · show (P ++ [nm]).Perm ((if (1 : Int) = 1 then insL (S.nm 1) ⟨nm, 2⟩ else if (1 : Int) = 2 then S.nm 2 else S.nm 1).map (·.name))
    rw [if_pos rfl]
    have h1 : ((insL (S.nm 1) ⟨nm, 2⟩).map (·.name)).Perm (nm :: (S.nm 1).map (·.name)) := (insL_perm (S.nm 1) ⟨nm, 2⟩).map (·.name)
    have h2 : (P ++ [nm]).Perm (nm :: P) := List.perm_append_comm
    exact h2.trans ((L.pm.cons nm).trans h1.symm)
  · rcases List.mem_append.1 hx with h | h
    · exact L.ok x h
    · obtain rfl := List.mem_singleton.1 h
      exact hp
  · show (if (2 : Int) = 1 then S.by_ 1 else if (2 : Int) = 2 then S.by_ 2 else S.by_ 2) = s
    rw [if_neg (by decide), if_pos rfl]; exact L.by_ hP

/-- its bytes are written -/
theorem LkI.wrote {X X' : VS} {S : FS} {P : List (List UInt8)} {s s' : List UInt8} (L : LkI X S P s) (ha : X'.awayN = X.awayN) {c' : Crd} (e2 : c'.kind = (S.C 2).kind) (el : c'.links = (S.C 2).links)
    (I : FsI X'.now (S.put 2 c' (S.nm 2) s')) : ∃ S', LkI X' S' P s' := by
  refine ⟨_, I, ha.trans L.aw, ?_, ?_, fun hP => ?_, fun i h1 h2 => ?_, fun e he => ?_, ?_, L.ok, fun _ => ?_⟩
  · show (if (1 : Int) = 2 then c' else S.C 1).kind = 2
    rw [if_neg (by decide)]; exact L.k1
  · show (if (2 : Int) = 2 then c' else S.C 2).kind = _
    rw [if_pos rfl, e2]; exact L.k2
  · show (if (2 : Int) = 2 then c' else S.C 2).links = _
    rw [if_pos rfl, el]; exact L.l2 hP
  · show (if i = 2 then c' else S.C i).kind = 0
    rw [if_neg h2]; exact L.ks i h1 h2
  · have he : e ∈ (if (1 : Int) = 2 then S.nm 2 else S.nm 1) := he
    rw [if_neg (by decide)] at he
    exact L.nod e he
  · show P.Perm ((if (1 : Int) = 2 then S.nm 2 else S.nm 1).map (·.name))
    rw [if_neg (by decide)]; exact L.pm
  · show (if (2 : Int) = 2 then s' else S.by_ 2) = s'
    rw [if_pos rfl]

theorem erase_perm {α : Type} : ∀ {l : List α} {k : Nat} (hk : k < l.length), ((l[k]'hk) :: l.eraseIdx k).Perm l
  | x :: l, 0, _ => List.Perm.refl _
  | x :: l, k + 1, hk => by
    have ih := erase_perm (l := l) (k := k) (by simpa using hk)
    show ((l[k]'(by simpa using hk)) :: x :: l.eraseIdx k).Perm (x :: l)
    exact (List.Perm.swap _ _ _).trans (ih.cons x)

/-- one name less -/
theorem LkI.lost {X X' : VS} {S : FS} {x : List UInt8} {P : List (List UInt8)} {s : List UInt8} (L : LkI X S (x :: P) s) (ha : X'.awayN = X.awayN) (H : Lost X'.now S 1 2 x) : ∃ S', LkI X' S' P s := by
  obtain ⟨m, D⟩ := (L.fs.node 1 (by decide) (by decide)).dir L.k1
  obtain ⟨e, hf, _⟩ := L.find (x := x) List.mem_cons_self
  obtain ⟨_, hk, hek, hen⟩ := find_old D.str hf
  have hl := L.l2 (by simp)
  have hpm : P.Perm (((S.nm 1).eraseIdx (plK (S.nm 1) x)).map (·.name)) := by
    have h1 := (erase_perm hk).map (·.name)
    rw [List.map_cons, hek, hen] at h1
    exact (L.pm.trans h1.symm).cons_inv
  have hsub : ∀ e ∈ (S.nm 1).eraseIdx (plK (S.nm 1) x), e ∈ S.nm 1 := fun e he => List.mem_of_mem_eraseIdx he
  obtain ⟨c1, k1, _, ⟨h, vv, I⟩ | ⟨h, vv, I⟩⟩ := H
  · have hP : P ≠ [] := by
      rintro rfl
      rw [hl] at h
      simp at h
    refine ⟨_, I, ha.trans L.aw, ?_, ?_, fun _ => ?_, fun i h1 h2 => ?_, fun e he => ?_, ?_, fun y hy => L.ok y (List.mem_cons_of_mem _ hy), fun _ => ?_⟩
    · show (if (1 : Int) = 2 then verC (lessC (S.C 2)) vv else if (1 : Int) = 1 then c1 else S.C 1).kind = 2
      rw [if_neg (by decide), if_pos rfl]; exact k1
    · show (if (2 : Int) = 2 then verC (lessC (S.C 2)) vv else if (2 : Int) = 1 then c1 else S.C 2).kind = _
      rw [if_pos rfl, if_neg hP]
      show (S.C 2).kind = 1
      exact L.k2' (x := x) List.mem_cons_self
    · show (if (2 : Int) = 2 then verC (lessC (S.C 2)) vv else if (2 : Int) = 1 then c1 else S.C 2).links = _
      rw [if_pos rfl]
      show (S.C 2).links - 1 = _
      rw [hl, List.length_cons]; omega
    · show (if i = 2 then verC (lessC (S.C 2)) vv else if i = 1 then c1 else S.C i).kind = 0
      rw [if_neg h2, if_neg h1]; exact L.ks i h1 h2
    · have he : e ∈ (if (1 : Int) = 2 then S.nm 2 else if (1 : Int) = 1 then (S.nm 1).eraseIdx (plK (S.nm 1) x) else S.nm 1) := he
      rw [if_neg (by decide), if_pos rfl] at he
      exact L.nod e (hsub e he)
    · show P.Perm ((if (1 : Int) = 2 then S.nm 2 else if (1 : Int) = 1 then (S.nm 1).eraseIdx (plK (S.nm 1) x) else S.nm 1).map (·.name))
      rw [if_neg (by decide), if_pos rfl]; exact hpm
    · show (if (2 : Int) = 2 then S.by_ 2 else if (2 : Int) = 1 then S.by_ 1 else S.by_ 2) = s
      rw [if_pos rfl]; exact L.by_ (by simp)
  · have hP : P = [] := by
      rw [hl, List.length_cons] at h
      exact List.eq_nil_of_length_eq_zero (by omega)
    refine ⟨_, I, ha.trans L.aw, ?_, ?_, fun hn => absurd hP hn, fun i h1 h2 => ?_, fun e he => ?_, ?_, fun y hy => L.ok y (List.mem_cons_of_mem _ hy), fun hn => absurd hP hn⟩
    · show (if (1 : Int) = 2 then noneC vv else if (1 : Int) = 1 then c1 else S.C 1).kind = 2
      rw [if_neg (by decide), if_pos rfl]; exact k1
    · show (if (2 : Int) = 2 then noneC vv else if (2 : Int) = 1 then c1 else S.C 2).kind = _
      rw [if_pos rfl, if_pos hP]; rfl
    · show (if i = 2 then noneC vv else if i = 1 then c1 else S.C i).kind = 0
      rw [if_neg h2, if_neg h1]; exact L.ks i h1 h2
    · have he : e ∈ (if (1 : Int) = 2 then [] else if (1 : Int) = 1 then (S.nm 1).eraseIdx (plK (S.nm 1) x) else S.nm 1) := he
      rw [if_neg (by decide), if_pos rfl] at he
      exact L.nod e (hsub e he)
    · show P.Perm ((if (1 : Int) = 2 then [] else if (1 : Int) = 1 then (S.nm 1).eraseIdx (plK (S.nm 1) x) else S.nm 1).map (·.name))
      rw [if_neg (by decide), if_pos rfl]; exact hpm

def frst : List UInt8 := [102, 105, 114, 115, 116]
def K5 (i : Int) : Int := if i = 1 then 2 else if i = 2 then 1 else K0 i
def N5 (i : Int) : List Ent := if i = 1 then insL (N0 1) ⟨frst, 2⟩ else if i = 2 then [] else N0 i
def B5 (i : Int) : List UInt8 := if i = 1 then B0 1 else if i = 2 then [] else B0 i
theorem pl5 : placeA (vf K0 N0 B0) (47 :: frst) = (1, frst, 0, 0) := by decide +kernel
theorem pp5 : pathP (47 :: frst) = some [frst] := by decide +kernel
theorem LkI.first {X : VS} {S : FS} (I : FsI X.now S) (aw : X.awayN = []) (Z : Sim S K5 N5 B5) (hl : (S.C 2).links = 1) : LkI X S [frst] [] := by
  have hn : S.nm 1 = [⟨frst, 2⟩] := by rw [Z.n]; decide +kernel
  refine ⟨I, aw, ?_, ?_, fun _ => by rw [hl]; rfl, fun i h1 h2 => ?_, fun e he => ?_, ?_, fun x hx => ?_, fun _ => ?_⟩
  · rw [Z.k]; decide +kernel
  · rw [Z.k]; decide +kernel
  · rw [Z.k]
    unfold K5 K0
    rw [if_neg h1, if_neg h2, if_neg h1]
  · rw [hn] at he
    obtain rfl := List.mem_singleton.1 he
    rfl
  · rw [hn]
    exact List.Perm.refl _
  · obtain rfl := List.mem_singleton.1 hx
    exact pp5
  · rw [Z.b]; decide +kernel

theorem read_all {s : List UInt8} (h : s.length ≤ 2688) : refReadL s 0 4096 = (s, 0) := by
  unfold refReadL
  rw [if_neg (by decide)]
  by_cases h0 : (s.length : Int) ≤ 0
  · rw [if_pos h0]
    have : s = [] := List.eq_nil_of_length_eq_zero (by omega)
    rw [this]
  · rw [if_neg h0]
    have e : (min (s.length : Int) (0 + 4096)).toNat = s.length := by omega
    rw [e, List.take_length]
    rfl

/-- nothing is left -/
theorem LkI.none_ {X : VS} {S : FS} {s : List UInt8} (L : LkI X S [] s) : pathA (viewFs S) (47 :: frst) false = (0, 4) := by
  have hn : S.nm 1 = [] := List.eq_nil_of_length_eq_zero (by simpa using L.pm.length_eq.symm)
  unfold pathA
  rw [pp5]
  show walkA (viewFs S) 1 false (599 + 1) 1 0 [frst] = (0, 4)
  have h1 : (viewFs S).kind 1 = 2 := L.k1
  have h2 : (viewFs S).find 1 frst = none := by
    show (findE (S.nm 1) frst).map (·.node) = none
    rw [hn]; rfl
  rw [walkA_cons, if_neg (by rw [h1]; decide), h2]
end Go.Proofs.YtkjkdnphikendaaGreatDoor
