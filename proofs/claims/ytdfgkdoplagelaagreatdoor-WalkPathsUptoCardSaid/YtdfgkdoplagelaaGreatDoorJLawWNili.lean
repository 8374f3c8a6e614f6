/-
  Joined texts: FolN, ChgB, BodyY, ChgA, FileF, FileG, FolO, FolQ, FolR, FolT, FolU, FolV, FolW, FolX, FomA, FomB, FomC, FomD.
-/
import Derived.Test.YtdfgkdoplagelaaGreatDoorJLawWNilh
import Derived.Test.YtdfgkdoplagelaaGreatDoorJLawWNilf
import Derived.Shelf.SlLaysF0
import Derived.Test.YtdfgkdoplagelaaGreatDoorProg
import Derived.Shelf.SlSortCmp.NoneTotal
import Derived.Test.YtdfgkdoplagelaaGreatDoorJLawWNilg
/-
  The document's answers for names: which may be, which is ahead, where one stands.
-/
set_option linter.all false
set_option maxRecDepth 100000
set_option maxHeartbeats 1000000
namespace Go.Proofs.YtdfgkdoplagelaaGreatDoor
open Go Go.Eng

theorem rsign_val (c : UInt8) : (bif (bif (bif (bif !(bif decide ((c.toNat : Int) ≥ 97) then decide ((c.toNat : Int) ≤ 122) else false) then !(bif decide ((c.toNat : Int) ≥ 48) then decide ((c.toNat : Int) ≤ 57) else false) else false) then ((c.toNat : Int) != 46) else false) then ((c.toNat : Int) != 45) else false) then ((c.toNat : Int) != 95) else false) = !signB c := by
  have h1 : (c = 46) ↔ c.toNat = 46 := ⟨fun h => by rw [h]; rfl, fun h => UInt8.toNat_inj.1 h⟩
  have h2 : (c = 45) ↔ c.toNat = 45 := ⟨fun h => by rw [h]; rfl, fun h => UInt8.toNat_inj.1 h⟩
  have h3 : (c = 95) ↔ c.toNat = 95 := ⟨fun h => by rw [h]; rfl, fun h => UInt8.toNat_inj.1 h⟩
  rw [Bool.eq_iff_iff]
  simp only [bif_and]
  unfold signB
  have g1 : decide (c = 46) = decide (c.toNat = 46) := decide_eq_decide.2 h1
  have g2 : decide (c = 45) = decide (c.toNat = 45) := decide_eq_decide.2 h2
  have g3 : decide (c = 95) = decide (c.toNat = 95) := decide_eq_decide.2 h3
  rw [g1, g2, g3]
  simp
  omega

theorem refRight_spec (l : List UInt8) (hl : l.length ≤ 140737488351232) (h : Heap) : CallH Tryz.prog 60 [.string ⟨l.toArray⟩] h (fun v h' => Keeps [] h h' ∧ v = .bool (nameB l)) := by
  refine call_of hmix Tryz.func60 rfl ok60 (by simp [Tryz.f60]) ?_
  conv => whnf
  refine LoopR.on [0, 3] [] (fun i : Nat => [(0, .v (.string ⟨l.toArray⟩)), (3, .v (.int .i64 (i : Int)))]) (fun _ => []) (fun i h' => i ≤ l.length ∧ Keeps [] h h' ∧ (l.take i).all signB = true) (fun i => l.length - i) 0 ?_ ?_
  · exact ⟨0, rfl, rfl, rfl, Nat.zero_le _, Keeps.refl _ _, by simp⟩
  · rintro i h1 ⟨hi, k1, ha⟩
    conv => whnf
    refine IfR.i (fun hd => ?_) (fun hd => ?_)
    · have hi1 : i < l.length := by rw [bs_size] at hd; simp at hd; omega
      conv => whnf
      refine IdxR.i i rfl (by rw [bs_size]; exact hi1) ?_
      have htk : (l.take (i + 1)).all signB = signB l[i] := by
        rw [List.take_succ_eq_append_getElem hi1, List.all_append, ha]; simp
      conv => whnf
      rw [bs_get, List.getElem?_eq_getElem hi1, Option.getD_some, rsign_val]
      refine IfR.i (fun hs => ?_) (fun hs => ?_)
      · conv => whnf
        refine ⟨k1, ?_⟩
        have hf : l.all signB = false := by
          have : signB l[i] = false := by simpa using hs
          rw [← Bool.not_eq_true, List.all_eq_true]
          intro hx
          rw [hx _ (List.getElem_mem hi1)] at this; cases this
        simp [nameB, hf]
      · conv => whnf
        refine ⟨l.length - (i + 1), by omega, ?_⟩
        conv => whnf
        refine ⟨i + 1, rfl, by rw [wrapN (n := i + 1) (by simp) (by omega)], rfl, by omega, k1, ?_⟩
        rw [htk]; simpa using hs
    · have hi1 : i = l.length := by rw [bs_size] at hd; simp at hd; omega
      subst hi1
      rw [List.take_length] at ha
      conv => whnf
      refine ⟨k1, ?_⟩
      unfold nameB
      have hc : decide ((l.length : Int) ≤ 14) = decide (l.length ≤ 14) := decide_eq_decide.2 (by omega)
      have hc0 : decide ((l.length : Int) ≥ 1) = decide (l ≠ []) := decide_eq_decide.2 (by cases l <;> simp; omega)
      have e1 : (ByteArray.mk #[46]) = ⟨([46] : List UInt8).toArray⟩ := rfl
      have e2 : (ByteArray.mk #[46, 46]) = ⟨([46, 46] : List UInt8).toArray⟩ := rfl
      rw [ha, bs_size, hc0, hc, e1, e2, bs_eq, bs_eq]
      simp only [bif_and]
      by_cases h0 : l = [] <;> by_cases h1 : l.length ≤ 14 <;> by_cases h2 : l = [46] <;> by_cases h3 : l = [46, 46] <;> simp_all

theorem blt_pre : ∀ (n : Nat) (a b : List UInt8), n ≤ a.length → n ≤ b.length → a.take n = b.take n → blt a b = blt (a.drop n) (b.drop n)
  | 0, a, b, _, _, _ => rfl
  | n + 1, [], b, h, _, _ => by simp at h
  | n + 1, _ :: _, [], _, h, _ => by simp at h
  | n + 1, x :: a, y :: b, h1, h2, h3 => by
    simp only [List.take_succ_cons, List.cons.injEq] at h3
    obtain ⟨rfl, h3⟩ := h3
    have ih := blt_pre n a b (by simpa using h1) (by simpa using h2) h3
    rw [List.drop_succ_cons, List.drop_succ_cons, ← ih]
    rw [Bool.eq_iff_iff, blt_cons]
    constructor
    · rintro (h | ⟨_, h⟩)
      · exact absurd h (by simp [UInt8.lt_iff_toNat_lt])
      · exact h
    · exact fun h => .inr ⟨rfl, h⟩

theorem ahead_spec (a b : List UInt8) (ha : a.length ≤ 140737488351232) (hb : b.length ≤ 140737488351232) (h : Heap) : CallH Tryz.prog 50 [.string ⟨a.toArray⟩, .string ⟨b.toArray⟩] h (fun v h' => Keeps [] h h' ∧ v = .bool (blt a b)) := by
  refine call_of hmix Tryz.func50 rfl ok50 (by simp [Tryz.f50]) ?_
  conv => whnf
  refine LoopR.on [0, 1, 5] [] (fun i : Nat => [(0, .v (.string ⟨a.toArray⟩)), (1, .v (.string ⟨b.toArray⟩)), (5, .v (.int .i64 (i : Int)))]) (fun _ => []) (fun i h' => i ≤ a.length ∧ i ≤ b.length ∧ Keeps [] h h' ∧ a.take i = b.take i) (fun i => a.length - i) 0 ?_ ?_
  · exact ⟨0, rfl, rfl, rfl, Nat.zero_le _, Nat.zero_le _, Keeps.refl _ _, by simp⟩
  · rintro i h1 ⟨hia, hib, k1, he⟩
    have hpre := blt_pre i a b hia hib he
    conv => whnf
    refine IfR.i (fun hd => ?_) (fun hd => ?_)
    · have hi : i < a.length ∧ i < b.length := by rw [bs_size, bs_size, bif_and] at hd; simp at hd; omega
      have ga : a.drop i = a[i] :: a.drop (i + 1) := List.drop_eq_getElem_cons hi.1
      have gb : b.drop i = b[i] :: b.drop (i + 1) := List.drop_eq_getElem_cons hi.2
      conv => whnf
      refine IdxR.i i rfl (by rw [bs_size]; exact hi.1) ?_
      conv => whnf
      refine IdxR.i i rfl (by rw [bs_size]; exact hi.2) ?_
      conv => whnf
      rw [bs_get, bs_get, List.getElem?_eq_getElem hi.1, List.getElem?_eq_getElem hi.2, Option.getD_some, Option.getD_some]
      refine IfR.i (fun hn => ?_) (fun hn => ?_)
      · have hne : a[i].toNat ≠ b[i].toNat := by simp at hn; omega
        conv => whnf
        refine IdxR.i i rfl (by rw [bs_size]; exact hi.1) ?_
        conv => whnf
        refine IdxR.i i rfl (by rw [bs_size]; exact hi.2) ?_
        conv => whnf
        rw [bs_get, bs_get, List.getElem?_eq_getElem hi.1, List.getElem?_eq_getElem hi.2, Option.getD_some, Option.getD_some]
        refine ⟨k1, ?_⟩
        rw [hpre, ga, gb]
        congr 1
        rw [Bool.eq_iff_iff, blt_cons, UInt8.lt_iff_toNat_lt]
        constructor
        · intro h; exact .inl (by simp at h; omega)
        · rintro (h | ⟨h, _⟩)
          · simp; omega
          · exact absurd (by rw [h]) hne
      · have heq : a[i] = b[i] := UInt8.toNat_inj.1 (by simp at hn; omega)
        conv => whnf
        refine ⟨a.length - (i + 1), by omega, ?_⟩
        conv => whnf
        refine ⟨i + 1, rfl, by rw [wrapN (n := i + 1) (by simp) (by omega)], rfl, by omega, by omega, k1, ?_⟩
        rw [List.take_succ_eq_append_getElem hi.1, List.take_succ_eq_append_getElem hi.2, he, heq]
    · have hi : i = a.length ∨ i = b.length := by rw [bs_size, bs_size, bif_and] at hd; simp at hd; omega
      conv => whnf
      refine ⟨k1, ?_⟩
      rw [hpre, bs_size, bs_size]
      rcases hi with hi | hi
      · rw [show a.drop i = [] from List.drop_eq_nil_of_le (by omega)]
        cases hb2 : b.drop i with
        | nil =>
          have : b.length ≤ i := by
            have := congrArg List.length hb2
            simp at this; omega
          rw [blt_nil]
          congr 1
          exact decide_eq_false (by omega)
        | cons y r =>
          have : i < b.length := by
            have := congrArg List.length hb2
            simp at this; omega
          show _ = Value.bool true
          congr 1
          exact decide_eq_true (by omega)
      · rw [show b.drop i = [] from List.drop_eq_nil_of_le (by omega), blt_nil]
        congr 1
        exact decide_eq_false (by omega)

/-- how many names are ahead -/
def plK (l : List Ent) (name : List UInt8) : Nat := (l.takeWhile fun e => blt e.name name).length
def plT (l : List Ent) (name : List UInt8) : Bool := match l[plK l name]? with | some e => decide (e.name = name) | none => false

theorem plK_le (l : List Ent) (name : List UInt8) : plK l name ≤ l.length := (List.takeWhile_prefix _).length_le
theorem plK_lt {l : List Ent} {name : List UInt8} {i : Nat} (hi : i < plK l name) : ∃ hl : i < l.length, blt (l[i]).name name = true := by
  have hl := plK_le l name
  refine ⟨by omega, ?_⟩
  have hp := List.takeWhile_prefix (p := fun e : Ent => blt e.name name) (l := l)
  have : (l.takeWhile fun e => blt e.name name)[i]'hi = l[i]'(by omega) := hp.getElem hi
  rw [← this]
  exact List.all_eq_true.1 (List.all_takeWhile (p := fun e : Ent => blt e.name name) (l := l)) _ (List.getElem_mem _)
theorem plK_at {l : List Ent} {name : List UInt8} {i : Nat} (hi : i ≤ plK l name) (hl : i < l.length) (h : blt (l[i]).name name = false) : i = plK l name := by
  rcases Nat.lt_or_ge i (plK l name) with h1 | h1
  · obtain ⟨_, h2⟩ := plK_lt h1
    rw [h] at h2; cases h2
  · omega
theorem plK_more : ∀ {l : List Ent} {name : List UInt8} {i : Nat}, i ≤ plK l name → (hl : i < l.length) → blt (l[i]).name name = true → i + 1 ≤ plK l name
  | [], _, _, _, hl, _ => by simp at hl
  | x :: l, name, 0, _, _, h => by
    unfold plK
    have h' : blt x.name name = true := h
    rw [List.takeWhile_cons, if_pos h']; simp
  | x :: l, name, i + 1, hi, hl, h => by
    by_cases hx : blt x.name name = true
    · have e : plK (x :: l) name = plK l name + 1 := by unfold plK; rw [List.takeWhile_cons, if_pos hx]; rfl
      rw [e] at hi ⊢
      have := plK_more (l := l) (name := name) (i := i) (by omega) (by simpa using hl) (by simpa using h)
      omega
    · have e : plK (x :: l) name = 0 := by unfold plK; rw [List.takeWhile_cons, if_neg hx]; rfl
      omega

theorem place_spec {h : Heap} {a : Option Addr} {n c : Nat} {l : List Ent} (S : Sl h a n c l) (hn : n ≤ 1000000000) (name : List UInt8) (hnl : name.length ≤ 140737488351232) :
    CallH Tryz.prog 23 [.slice a n c, .string ⟨name.toArray⟩] h (fun v h' => Keeps [] h h' ∧ v = .tuple #[.int .i64 (plK l name : Int), .bool (plT l name)]) := by
  have hl := S.hlen
  refine call_of hmix Tryz.func23 rfl ok23 (by simp [Tryz.f23]) ?_
  conv => whnf
  refine LoopR.on [0, 1, 6] [] (fun i : Nat => [(0, .v (.slice a n c)), (1, .v (.string ⟨name.toArray⟩)), (6, .v (.int .i64 (i : Int)))]) (fun _ => []) (fun i h' => i ≤ plK l name ∧ Keeps [] h h') (fun i => l.length - i) 0 ?_ ?_
  · exact ⟨0, rfl, rfl, rfl, Nat.zero_le _, Keeps.refl _ _⟩
  · rintro i h1 ⟨hi, k1⟩
    have hple := plK_le l name
    have S1 := S.keep k1
    rcases Nat.lt_or_ge i l.length with hlt | hge
    · obtain ⟨b, off, hb, cs, ⟨hcs, hok⟩, hcell⟩ := S1.at_ i hlt
      subst hcs
      conv => whnf
      refine IdxS.i i rfl (by omega) hb ?_
      conv => whnf
      refine LoadR.i (v := .string ⟨l[i].name.toArray⟩) (hcell 0 (by simp [Ent.cells])) ?_
      conv => whnf
      refine IfR.t (by simp; omega) ?_
      conv => whnf
      refine CallR.i (ahead_spec l[i].name name hok.1 hnl h1) fun v h2 k2 hv => ?_
      subst hv
      conv => whnf
      refine IfR.i (fun hd => ?_) (fun hd => ?_)
      · have hd2 : blt l[i].name name = true := by rw [bif_and] at hd; simpa using (Bool.and_eq_true _ _ ▸ hd).2
        conv => whnf
        refine ⟨l.length - (i + 1), by omega, ?_⟩
        conv => whnf
        exact ⟨i + 1, rfl, by rw [wrapN (n := i + 1) (by simp) (by omega)], rfl, plK_more hi hlt hd2, k1.trans k2⟩
      · have hd2 : blt l[i].name name = false := by
          rw [bif_and] at hd
          have : decide ((i : Int) < (n : Int)) = true := by simp; omega
          rw [this] at hd
          simpa using hd
        have hik := plK_at hi hlt hd2
        obtain ⟨b', off', hb', cs, ⟨hcs, hok'⟩, hcell'⟩ := (S1.keep k2).at_ i hlt
        subst hcs
        conv => whnf
        refine IdxS.i i rfl (by omega) hb' ?_
        conv => whnf
        refine LoadR.i (v := .string ⟨l[i].name.toArray⟩) (hcell' 0 (by simp [Ent.cells])) ?_
        conv => whnf
        refine ⟨k1.trans k2, ?_⟩
        have hpt : plT l name = decide (l[i].name = name) := by
          unfold plT
          rw [← hik, List.getElem?_eq_getElem hlt]
        rw [hpt, bs_eq, ← hik]
        have : decide ((i : Int) < (n : Int)) = true := by simp; omega
        rw [this]; rfl
    · have hik : i = plK l name := by omega
      have hf : decide ((i : Int) < (n : Int)) = false := by simp; omega
      conv => whnf
      refine IdxS.u 0 0 0 (fun hx => by rw [hf] at hx; cases hx) ?_
      conv => whnf
      refine LoadR.u (.string ⟨#[]⟩) (fun hx => by rw [hf] at hx; cases hx) ?_
      conv => whnf
      refine IfR.f hf ?_
      conv => whnf
      refine IfR.f (by rw [hf]; rfl) ?_
      conv => whnf
      refine IdxS.u 0 0 0 (fun hx => by rw [hf] at hx; cases hx) ?_
      conv => whnf
      refine LoadR.u (.string ⟨#[]⟩) (fun hx => by rw [hf] at hx; cases hx) ?_
      conv => whnf
      refine ⟨k1, ?_⟩
      have hpt : plT l name = false := by
        unfold plT
        rw [← hik, List.getElem?_eq_none (by omega)]
      rw [hpt, ← hik, hf]; rfl
end Go.Proofs.YtdfgkdoplagelaaGreatDoor
/-
  Layer 8: a view's changes.
-/
set_option linter.all false
set_option maxRecDepth 100000
set_option maxHeartbeats 1000000
namespace Go.Proofs.YtdfgkdoplagelaaGreatDoor
open Go Go.Eng

/-- changes as cells -/
def chgC (l : List (Int × UInt64)) : List Value := l.flatMap fun p => [.int .i64 p.1, wv p.2]
theorem chgC_len (l : List (Int × UInt64)) : (chgC l).length = l.length * 2 := by
  induction l with
  | nil => rfl
  | cons x l ih => simp only [chgC, List.flatMap_cons, List.length_append, List.length_cons, List.length_nil] at ih ⊢; omega
theorem chgC_app (l m : List (Int × UInt64)) : chgC (l ++ m) = chgC l ++ chgC m := by simp [chgC]

/-- the words that are changed, by their places -/
def chgL (now old : Int → UInt64) : List (Int × UInt64) := ((List.range 2824).filter fun (i : Nat) => decide (now (i : Int) ≠ old (i : Int))).map fun (i : Nat) => ((i : Int), now (i : Int))

theorem openW_lt {a : Int} (h : openW a = true) : 0 ≤ a ∧ a < 2824 := by
  simp [openW] at h; omega

theorem lk_of_mem : ∀ {l : List (Int × UInt64)} {p : Int × UInt64}, (l.map (·.1)).Nodup → p ∈ l → lk l p.1 = some p.2
  | [], p, _, h => nomatch h
  | (k, v) :: l, p, hn, h => by
    simp only [List.map_cons, List.nodup_cons] at hn
    unfold lk
    rcases List.mem_cons.1 h with rfl | h
    · rw [if_pos rfl]
    · rw [if_neg (fun e => hn.1 (by rw [← e]; exact List.mem_map_of_mem h))]
      exact lk_of_mem hn.2 h
theorem mem_of_lk : ∀ {l : List (Int × UInt64)} {k : Int} {w : UInt64}, lk l k = some w → (k, w) ∈ l
  | [], k, w, h => by cases h
  | (k', v) :: l, k, w, h => by
    unfold lk at h
    split at h
    · rename_i e; subst e; cases h; exact List.mem_cons_self
    · exact List.mem_cons_of_mem _ (mem_of_lk h)

theorem nodup_of_map {α β : Type} (f : α → β) : ∀ {l : List α}, (l.map f).Nodup → l.Nodup
  | [], _ => List.nodup_nil
  | x :: l, h => by
    simp only [List.map_cons, List.nodup_cons] at h
    exact List.nodup_cons.2 ⟨fun hx => h.1 (List.mem_map_of_mem hx), nodup_of_map f h.2⟩

/-- keys that are open are few -/
theorem own_len {l : List (Int × UInt64)} (hn : (l.map (·.1)).Nodup) (ho : ∀ p ∈ l, openW p.1 = true) : l.length ≤ 2824 := by
  have h1 : (l.map (·.1)) ⊆ (List.range 2824).map fun (i : Nat) => (i : Int) := by
    intro x hx
    obtain ⟨p, hp, rfl⟩ := List.mem_map.1 hx
    have := openW_lt (ho p hp)
    exact List.mem_map.2 ⟨p.1.toNat, by simp; omega, by omega⟩
  have := hn.length_le_of_subset h1
  simpa using this

theorem chgL_sorted (now old : Int → UInt64) : (chgL now old).Pairwise (fun x y => x.1 < y.1) := by
  unfold chgL
  rw [List.pairwise_map]
  exact (List.pairwise_lt_range.filter _).imp fun h => by simpa using h

/-- what a view's words come to, sorted -/
theorem chgL_of {own l : List (Int × UInt64)} {now old : Int → UInt64} (hn : (own.map (·.1)).Nodup) (ho : ∀ a, lk own a ≠ none → openW a = true) (hx : ∀ a, now a = (lk own a).getD (old a))
    (hp : l.Perm (own.filter fun p => decide (p.2 ≠ old p.1))) (hs : l.Pairwise (fun x y => x.1 ≤ y.1)) : l = chgL now old := by
  have hmem : ∀ p, p ∈ l ↔ p ∈ chgL now old := by
    intro p
    rw [hp.mem_iff, List.mem_filter]
    unfold chgL
    simp only [List.mem_map, List.mem_filter, List.mem_range, decide_eq_true_eq]
    constructor
    · rintro ⟨h1, h2⟩
      have hl := lk_of_mem hn h1
      have hr := openW_lt (ho p.1 (by rw [hl]; simp))
      have hw := hx p.1
      rw [hl] at hw
      have e : ((p.1.toNat : Nat) : Int) = p.1 := by omega
      refine ⟨p.1.toNat, ⟨by omega, ?_⟩, ?_⟩
      · rw [e, hw]; exact h2
      · rw [e, hw]; rfl
    · rintro ⟨i, ⟨_, h1⟩, rfl⟩
      have hw := hx (i : Int)
      cases hl : lk own (i : Int) with
      | none => rw [hl] at hw; exact absurd hw h1
      | some w =>
        rw [hl] at hw
        have hw' : now (i : Int) = w := hw
        rw [hw'] at h1 ⊢
        exact ⟨mem_of_lk hl, h1⟩
  have hnl : l.Nodup := hp.symm.nodup (nodup_of_map (·.1) hn |>.sublist List.filter_sublist)
  have hnc : (chgL now old).Nodup := (chgL_sorted now old).imp fun h e => by rw [e] at h; omega
  refine List.Perm.eq_of_pairwise (le := fun x y => x.1 ≤ y.1) ?_ hs ((chgL_sorted now old).imp fun h => Int.le_of_lt h) ((List.perm_ext_iff_of_nodup hnl hnc).2 hmem)
  intro x y h1 h2 h3 h4
  have e : x.1 = y.1 := by omega
  have k1 : x ∈ own := (List.mem_filter.1 (hp.mem_iff.1 h1)).1
  have k2 : y ∈ own := (List.mem_filter.1 (hp.mem_iff.1 ((hmem y).2 h2))).1
  have l1 := lk_of_mem hn k1
  have l2 := lk_of_mem hn k2
  rw [e, l2] at l1
  exact Prod.ext e (Option.some.inj l1).symm

theorem mapW_split {m : List (Int × UInt64)} {R1 R2 : List (Int × Value)} {p : Int × Value} (h : mapW m = R1 ++ p :: R2) : ∃ m1 q m2, m = m1 ++ q :: m2 ∧ R1 = mapW m1 ∧ R2 = mapW m2 ∧ p = (q.1, wv q.2) := by
  unfold mapW at h
  obtain ⟨m1, m', rfl, h1, h2⟩ := List.map_eq_append_iff.1 h
  obtain ⟨q, m2, rfl, h3, h4⟩ := List.map_eq_cons_iff.1 h2
  exact ⟨m1, q, m2, rfl, h1.symm, h4.symm, h3.symm⟩

end Go.Proofs.YtdfgkdoplagelaaGreatDoor
/-
  The library's sort of changes, laid at this program (made by wip/tools/laysrt.py).
-/
set_option linter.all false
namespace Go.Proofs.YtdfgkdoplagelaaGreatDoor
open Go Go.Shelf
end Go.Proofs.YtdfgkdoplagelaaGreatDoor
/-
  What the library's sort does to a view's changes.
-/
set_option linter.all false
set_option maxRecDepth 100000
set_option maxHeartbeats 2000000
namespace Go.Proofs.YtdfgkdoplagelaaGreatDoor
open Go Go.Eng Go.Shelf Go.RowKit Go.Sort

/-- a change, its place known to be small -/
def encS (x : Fin 4096 × UInt64) : List Value := [.int .i64 (x.1.val : Int), wv x.2]
def cfS (x y : Fin 4096 × UInt64) : Int := (x.1.val : Int) - y.1.val

theorem swoS : SWO (ltOf cfS) where
  irrefl x := decide_eq_false (by unfold cfS; omega)
  trans x y z h1 h2 := by
    have a := of_decide_eq_true h1
    have b := of_decide_eq_true h2
    unfold cfS at a b
    exact decide_eq_true (by unfold cfS; omega)
  ntrans x y z h1 h2 := by
    have a := of_decide_eq_false h1
    have b := of_decide_eq_false h2
    unfold cfS at a b
    exact decide_eq_false (by unfold cfS; omega)

def unS (x : Fin 4096 × UInt64) : Int × UInt64 := ((x.1.val : Int), x.2)
def toS (p : Int × UInt64) : Fin 4096 × UInt64 := (⟨p.1.toNat % 4096, Nat.mod_lt _ (by decide)⟩, p.2)
theorem un_to {p : Int × UInt64} (h : 0 ≤ p.1 ∧ p.1 < 4096) : unS (toS p) = p := by
  unfold unS toS
  have : (((p.1.toNat % 4096 : Nat)) : Int) = p.1 := by omega
  exact Prod.ext this rfl

theorem chgC_get : ∀ (l : List (Fin 4096 × UInt64)) (j : Nat) (h : j < l.length * 2), (chgC (l.map unS))[j]? = (encS (l[j / 2]'(by omega)))[j % 2]?
  | [], j, h => by simp at h
  | x :: l, 0, h => rfl
  | x :: l, 1, h => rfl
  | x :: l, j + 2, h => by
    have h' : j < l.length * 2 := by simp at h; omega
    have ih := chgC_get l j h'
    have e1 : (j + 2) / 2 = j / 2 + 1 := by omega
    have e2 : (j + 2) % 2 = j % 2 := by omega
    simp only [e1, e2, List.getElem_cons_succ]
    rw [← ih]
    rfl

theorem flat_chg (d : Array (Fin 4096 × UInt64)) : flatK encS 2 d = ⟨chgC (d.toList.map unS)⟩ := by
  have hl := chgC_len (d.toList.map unS)
  simp at hl
  apply Array.ext
  · rw [size_flatK]
    show d.size * 2 = (chgC (d.toList.map unS)).length
    omega
  · intro j h1 h2
    have hj : j < d.size * 2 := by rw [size_flatK] at h1; exact h1
    have g := chgC_get d.toList j (by simpa using hj)
    have hd : j / 2 < d.size := by omega
    have hm : j % 2 < (encS d[j / 2]).length := by unfold encS; simp; omega
    have e1 := get_flatK encS 2 d j hj
    rw [getElem!_pos (flatK encS 2 d) j h1, getElem!_pos d (j / 2) hd, getElem!_pos (encS d[j / 2]) (j % 2) hm] at e1
    rw [e1]
    show _ = (chgC (d.toList.map unS))[j]
    have h3 : j < (chgC (d.toList.map unS)).length := by omega
    rw [List.getElem?_eq_getElem h3] at g
    have g2 : (encS (d.toList[j / 2]'(by simpa using hd)))[j % 2]? = some (encS d[j / 2])[j % 2] := by
      rw [Array.getElem_toList]
      exact List.getElem?_eq_getElem hm
    rw [g2] at g
    exact (Option.some.inj g).symm

end Go.Proofs.YtdfgkdoplagelaaGreatDoor
/-
  Layer 10's law: what a step leaves is made in the memory, or undone.
-/
set_option linter.all false
set_option maxRecDepth 100000
set_option maxHeartbeats 1000000
namespace Go.Proofs.YtdfgkdoplagelaaGreatDoor
open Go Go.Eng

theorem store_calm {M : MemS} (hu : M.until_ = -1) {i : Int} (hi : M.there i = true) (w : UInt64) : (M.store i w).2 = { M with calls := IntKind.i64.wrap (M.calls + 1), loose := putW M.loose i w } := by
  unfold MemS.store MemS.call
  rw [hi, hu]
  rfl

/-- words are stored one by one -/
def storeL (M : MemS) (l : List (Int × UInt64)) : MemS := l.foldl (fun M p => (M.store p.1 p.2).2) M

theorem storeL_calm (now : Int → UInt64) : ∀ (l : List (Int × UInt64)) (M : MemS), M.until_ = -1 → M.sure.length = 2824 → (∀ p ∈ l, (0 ≤ p.1 ∧ p.1 < 2824) ∧ p.2 = now p.1) →
    (storeL M l).until_ = -1 ∧ (storeL M l).sure.length = 2824 ∧ ∀ a, (storeL M l).read a = if a ∈ l.map (·.1) then now a else M.read a
  | [], M, hu, hs, _ => ⟨hu, hs, fun a => by simp [storeL]⟩
  | p :: l, M, hu, hs, h => by
    obtain ⟨hp, hw⟩ := h p List.mem_cons_self
    have ht : M.there p.1 = true := by unfold MemS.there; rw [hs]; simp; omega
    have e := store_calm hu ht p.2
    obtain ⟨i1, i2, i3⟩ := storeL_calm now l (M.store p.1 p.2).2 (by rw [e]; exact hu) (by rw [e]; exact hs) (fun q hq => h q (List.mem_cons_of_mem _ hq))
    refine ⟨i1, i2, fun a => ?_⟩
    show (storeL (M.store p.1 p.2).2 l).read a = _
    rw [i3 a]
    have hr : (M.store p.1 p.2).2.read a = if a = p.1 then p.2 else M.read a := by
      rw [e]
      have hth : ∀ x, MemS.there { M with calls := IntKind.i64.wrap (M.calls + 1), loose := putW M.loose p.1 p.2 } x = M.there x := fun _ => rfl
      unfold MemS.read
      rw [hth]
      simp only [lk_put]
      by_cases ha : a = p.1
      · subst ha; simp [ht]
      · simp [ha]
    by_cases h1 : a ∈ l.map (·.1)
    · rw [if_pos h1, if_pos (by simp only [List.map_cons, List.mem_cons]; exact .inr h1)]
    · rw [if_neg h1, hr]
      by_cases h2 : a = p.1
      · rw [if_pos h2, if_pos (by simp only [List.map_cons, List.mem_cons]; exact .inl h2), h2, hw]
      · rw [if_neg h2, if_neg (by simp only [List.map_cons, List.mem_cons]; rintro (x | x); exact h2 x; exact h1 x)]

theorem chgL_mem {now old : Int → UInt64} {p : Int × UInt64} (h : p ∈ chgL now old) : (0 ≤ p.1 ∧ p.1 < 2824) ∧ p.2 = now p.1 := by
  unfold chgL at h
  simp only [List.mem_map, List.mem_filter, List.mem_range] at h
  obtain ⟨i, ⟨h1, _⟩, rfl⟩ := h
  exact ⟨⟨by simp, by simp; omega⟩, rfl⟩
theorem chgL_keys {now old : Int → UInt64} {a : Int} : a ∈ (chgL now old).map (·.1) ↔ (0 ≤ a ∧ a < 2824) ∧ now a ≠ old a := by
  unfold chgL
  simp only [List.map_map, List.mem_map, List.mem_filter, List.mem_range, decide_eq_true_eq, Function.comp]
  constructor
  · rintro ⟨i, ⟨h1, h2⟩, rfl⟩; exact ⟨⟨by omega, by omega⟩, h2⟩
  · rintro ⟨⟨h0, h1⟩, h2⟩
    refine ⟨a.toNat, ⟨by omega, ?_⟩, by omega⟩
    rwa [show ((a.toNat : Nat) : Int) = a by omega]

/-- what a view changes, made in the memory -/
theorem storeL_now {h : Heap} {V : VL} {M : MemS} {X : VS} (A : At h V M X) (hu : M.until_ = -1) (hs : M.sure.length = 2824) :
    (storeL M (chgL X.now M.read)).until_ = -1 ∧ (storeL M (chgL X.now M.read)).sure.length = 2824 ∧ (storeL M (chgL X.now M.read)).read = X.now := by
  obtain ⟨i1, i2, i3⟩ := storeL_calm X.now (chgL X.now M.read) M hu hs fun p hp => chgL_mem hp
  refine ⟨i1, i2, funext fun a => ?_⟩
  rw [i3 a]
  by_cases h1 : a ∈ (chgL X.now M.read).map (·.1)
  · rw [if_pos h1]
  · rw [if_neg h1]
    obtain ⟨own, _, hx, ho⟩ := A.own
    cases hl : lk own a with
    | none => rw [hx a, hl]; rfl
    | some w =>
      have hr := openW_lt (ho a (by rw [hl]; simp))
      rw [chgL_keys] at h1
      exact (Classical.byContradiction fun h => h1 ⟨hr, fun e => h e.symm⟩)

theorem At.store {h h' : Heap} {V : VL} {M M' : MemS} {X : VS} (A : At h V M X) (hab : V.ab = none) (hanb : V.anb = none) (k : Keeps [V.mem.m, V.mem.lb] h h') (R : MemAt h' V.mem M') : ∃ now, At h' V M' { X with now := now } := by
  obtain ⟨own, O, hx, ho⟩ := A.own
  have nb : ∀ b ∈ [V.v, V.ob, V.sb, V.mb], b ∉ [V.mem.m, V.mem.lb] := by
    intro b hb hm
    refine A.ap2 b hb ?_
    simp only [ML.blocks]
    simp at hm ⊢
    rcases hm with h | h <;> simp [h]
  exact ⟨fun a => (lk own a).getD (M'.read a), {
    mem := R
    obj := k.obj A.obj (nb V.v (by simp))
    own := ⟨own, O.keep k (nb V.ob (by simp)), fun a => rfl, ho⟩
    seen := A.seen.keep k (nb V.sb (by simp))
    mine := A.mine.keep k (nb V.mb (by simp))
    away := A.away.keep k (by rw [hab]; simp)
    awayN := A.awayN.keep k (by rw [hanb]; simp)
    ap1 := A.ap1
    ap2 := A.ap2
    ap3 := A.ap3 }⟩

theorem reps_chg (h : Heap) : ∀ l : List (Int × UInt64), (∀ p ∈ l, inI64 p.1) → Reps h (chgC l) (l.map fun p => (⟨p.1, p.2⟩ : Chg))
  | [], _ => rfl
  | p :: l, hl => ⟨[.int .i64 p.1, wv p.2], chgC l, rfl, ⟨rfl, hl p List.mem_cons_self⟩, reps_chg h l fun q hq => hl q (List.mem_cons_of_mem _ hq)⟩

theorem storeL_take (M : MemS) (l : List (Int × UInt64)) (i : Nat) (hi : i < l.length) : storeL M (l.take (i + 1)) = ((storeL M (l.take i)).store l[i].1 l[i].2).2 := by
  unfold storeL
  rw [List.take_succ_eq_append_getElem hi, List.foldl_append]
  rfl

/-- a file of the law's -/
def fileC (V : VL) (node : Int) (c : Crd) (s : ByteArray) : List Value := [.pointer (some ⟨V.v, 0, none⟩), .pointer (some ⟨V.mem.m, 0, none⟩), .int .i64 node] ++ c.cells ++ [.string s]

end Go.Proofs.YtdfgkdoplagelaaGreatDoor
/-
  Layer 10's law: a file's own blocks; whole; two files.
-/
set_option linter.all false
set_option maxRecDepth 100000
set_option maxHeartbeats 1000000
namespace Go.Proofs.YtdfgkdoplagelaaGreatDoor
open Go Go.Eng

/-- a view and its memory, between steps: the memory calm, the view as new -/
structure Idle (h : Heap) (V : VL) (M : MemS) : Prop where
  at_ : At h V M ⟨M.read, [], [], [], []⟩
  ab : V.ab = none
  anb : V.anb = none
  calm : M.until_ = -1
  size : M.sure.length = 2824

theorem Idle.on {h h' : Heap} {V : VL} {M : MemS} (I : Idle h V M) (k : Keeps [] h h') : Idle h' V M := ⟨I.at_.on k, I.ab, I.anb, I.calm, I.size⟩

end Go.Proofs.YtdfgkdoplagelaaGreatDoor
/-
  Layer 11's laws: two empty directories on a new memory; the laws' own check that the program lives.
-/
set_option linter.all false
set_option maxRecDepth 100000
set_option maxHeartbeats 1000000
namespace Go.Proofs.YtdfgkdoplagelaaGreatDoor
open Go Go.Eng

theorem img0_copy : spliceL 0 (([7021221306412823411, 2824, 0, 0, 0, 0, 0, 0] : List UInt64).map wv) (List.replicate 2824 (Value.int .u64 0)) = img0.map wv := by
  have : List.replicate 2824 (Value.int .u64 0) = List.replicate (([7021221306412823411, 2824, 0, 0, 0, 0, 0, 0] : List UInt64).map wv).length (Value.int .u64 0) ++ List.replicate 2816 (Value.int .u64 0) := by
    rw [List.replicate_append_replicate]; rfl
  rw [this, splice_head]
  have e : img0 = ([7021221306412823411, 2824, 0, 0, 0, 0, 0, 0] : List UInt64) ++ List.replicate 2816 0 := rfl
  rw [e, List.map_append, List.map_replicate]
  rfl

/-- a directory's words in memory -/
def bookC (V : VL) (node : Int) (c : Crd) (a : Option Addr) (n cc : Nat) : List Value := [.pointer (some ⟨V.v, 0, none⟩), .pointer (some ⟨V.mem.m, 0, none⟩), .int .i64 node] ++ c.cells ++ [.slice a n cc]
/-! ### The check -/

def lv1 : Crd × Int × VS := addP b0 ⟨b0, [], [], [], []⟩ 2 (freshC 2 1) [98] 5
def lv2 : Crd × Int × VS := addP b0 lv1.2.2 2 lv1.1 [97] 6
theorem lv_ok : lv1.2.1 = 0 ∧ lv2.2.1 = 0 ∧ (openP lv2.2.2.now lv2.1).1 = 0 ∧ (openP lv2.2.2.now lv2.1).2.2 = [⟨[97], 6⟩, ⟨[98], 5⟩] := by decide +kernel
theorem crd_ok_of {c : Crd} (h : (decide (-9223372036854775808 ≤ c.kind ∧ c.kind ≤ 9223372036854775807) && decide (-9223372036854775808 ≤ c.links ∧ c.links ≤ 9223372036854775807) && decide (-9223372036854775808 ≤ c.size ∧ c.size ≤ 9223372036854775807) && c.direct.all (fun x => decide (-9223372036854775808 ≤ x ∧ x ≤ 9223372036854775807)) && decide (-9223372036854775808 ≤ c.more ∧ c.more ≤ 9223372036854775807)) = true) : c.ok := by
  simp only [Bool.and_eq_true, decide_eq_true_eq, List.all_eq_true] at h
  exact ⟨h.1.1.1.1, h.1.1.1.2, h.1.1.2, fun x hx => h.1.2 x hx, h.2⟩
theorem lv1_crd : lv1.1.ok := crd_ok_of (by decide +kernel)
theorem lv2_crd : lv2.1.ok := crd_ok_of (by decide +kernel)

theorem dir_cells {V : VL} {node : Int} {c : Crd} {a : Option Addr} {n cc : Nat} : bookC V node c a n cc = [.pointer (some ⟨V.v, 0, none⟩), .pointer (some ⟨V.mem.m, 0, none⟩), .int .i64 node, .int .i64 c.kind, .int .i64 c.links, .int .i64 c.size, wv c.ver, .int .i64 c.d0, .int .i64 c.d1, .int .i64 c.d2, .int .i64 c.d3, .int .i64 c.d4, .int .i64 c.more, .slice a n cc] := rfl

end Go.Proofs.YtdfgkdoplagelaaGreatDoor
/-
  Layer 11's law: whatever lies there, each call ends.
-/
set_option linter.all false
set_option maxRecDepth 100000
set_option maxHeartbeats 1000000
namespace Go.Proofs.YtdfgkdoplagelaaGreatDoor
open Go Go.Eng

/-! ### What a list that is told has -/

def entGood (e : Ent) : Prop := 1 ≤ e.node ∧ e.node ≤ 23 ∧ nameB e.name = true

theorem slotE_good {ws : List UInt64} {place k : Nat} (h : slotOk ws place k = true) : ∀ e ∈ slotE ws k, entGood e ∧ bucketL e.name = place % 8 := by
  intro e he
  unfold slotE at he
  split at he
  · cases he
  · rename_i hx
    simp only [List.mem_cons, List.not_mem_nil, or_false] at he
    subst he
    unfold slotOk at h
    have hx2 : emptyB ws k = false := by simpa using hx
    rw [hx2, Bool.false_or] at h
    unfold entB at h
    simp only [Bool.and_eq_true, decide_eq_true_eq] at h
    obtain ⟨_, h1, h2, h3, h4⟩ := h
    refine ⟨⟨?_, ?_, h1⟩, h2⟩
    · simp only [entE, entV]
      rw [wrapI (by omega) (by omega)]; omega
    · simp only [entE, entV]
      rw [wrapI (by omega) (by omega)]; omega
theorem placeE_good {now : Int → UInt64} {m : List Int} {i : Nat} (h : placeOk now m i = true) : ∀ e ∈ placeE now m i, entGood e ∧ bucketL e.name = i % 8 := by
  intro e he
  unfold placeE at he
  split at he
  · cases he
  · rename_i hx
    unfold placeOk blkOkB at h
    rw [decide_eq_false hx, Bool.false_or] at h
    simp only [Bool.and_eq_true] at h
    obtain ⟨k, hk, hk2⟩ := List.mem_flatMap.1 he
    exact slotE_good (List.all_eq_true.1 h.2.2 k hk) e hk2

theorem openP_is {now : Int → UInt64} {c : Crd} (h : (openP now c).1 = 0) : ∃ m, mapOf now c = some m ∧ c.kind = 2 ∧ (List.range 21).all (placeOk now m) = true ∧ ((rawE now m).map (·.name)).Nodup ∧ ((rawE now m).length : Int) = c.size ∧ openP now c = (0, m, sortE (rawE now m)) := by
  have h0 := h
  unfold openP at h
  split at h
  · simp at h
  · rename_i hk
    split at h
    · simp at h
    · rename_i m hm
      split at h
      · rename_i hc
        refine ⟨m, hm, by omega, hc.1, hc.2.1, hc.2.2, ?_⟩
        unfold openP
        rw [if_neg hk, hm]
        simp only
        rw [if_pos hc]
      · simp at h
theorem openP_err {now : Int → UInt64} {c : Crd} (h : (openP now c).1 ≠ 0) : ((openP now c).1 = 6 ∧ c.kind ≠ 2) ∨ ((openP now c).1 = 15 ∧ c.kind = 2) := by
  unfold openP at h ⊢
  split
  · rename_i hk; exact .inl ⟨rfl, hk⟩
  · rename_i hk
    rw [if_neg hk] at h
    right
    refine ⟨?_, by omega⟩
    split
    · rfl
    · rename_i m hm
      rw [hm] at h
      simp only at h
      split
      · rename_i hc; rw [if_pos hc] at h; exact absurd rfl h
      · rfl

def strict (l : List Ent) : Prop := l.Pairwise fun x y => blt x.name y.name = true
theorem strict_of {l : List Ent} (hs : l.Pairwise (fun x y => leE x y = true)) (hn : (l.map (·.name)).Nodup) : strict l := by
  rw [List.nodup_iff_pairwise_ne, List.pairwise_map] at hn
  refine List.Pairwise.imp₂ (fun x y h1 h2 => ?_) hs hn
  unfold leE at h1
  rw [Bool.not_eq_true'] at h1
  rcases blt_tri x.name y.name with h | h | h
  · exact h
  · exact absurd h h2
  · rw [h] at h1; cases h1
theorem openP_good {now : Int → UInt64} {c : Crd} (h : (openP now c).1 = 0) : strict (openP now c).2.2 ∧ ∀ e ∈ (openP now c).2.2, entGood e := by
  obtain ⟨m, hm, hk, ha, hn, hl, e⟩ := openP_is h
  rw [e]
  simp only
  have hp := sortE_perm (rawE now m)
  refine ⟨strict_of (sortE_sorted _) ((hp.map _).nodup_iff.2 hn), fun x hx => ?_⟩
  have := hp.mem_iff.1 hx
  obtain ⟨i, hi, hxi⟩ := List.mem_flatMap.1 this
  exact (placeE_good (List.all_eq_true.1 ha i hi) x hxi).1

/-- in a list in order a name is found where it would stand -/
theorem find_place {name : List UInt8} : ∀ {l : List Ent}, strict l → (findR l name).2 = plT l name
  | [], _ => rfl
  | x :: l, hs => by
    obtain ⟨h1, h2⟩ := List.pairwise_cons.1 hs
    have ih := find_place (name := name) h2
    by_cases hx : blt x.name name = true
    · have e1 : plK (x :: l) name = plK l name + 1 := by unfold plK; rw [List.takeWhile_cons, if_pos hx]; rfl
      have e2 : plT (x :: l) name = plT l name := by unfold plT; rw [e1]; rfl
      have hne : ¬ x.name = name := by rintro rfl; rw [blt_irr] at hx; cases hx
      rw [e2, ← ih]
      unfold findR findE
      rw [List.find?_cons, decide_eq_false hne]
    · have e1 : plK (x :: l) name = 0 := by unfold plK; rw [List.takeWhile_cons, if_neg hx]; rfl
      have e2 : plT (x :: l) name = decide (x.name = name) := by unfold plT; rw [e1]; rfl
      rw [e2]
      unfold findR findE
      rw [List.find?_cons]
      by_cases hne : x.name = name
      · rw [decide_eq_true hne]
      · rw [decide_eq_false hne]
        have hgt : blt name x.name = true := by
          rcases blt_tri x.name name with g | g | g
          · exact absurd g hx
          · exact absurd g hne
          · exact g
        have : l.find? (fun e => decide (e.name = name)) = none := by
          rw [List.find?_eq_none]
          intro y hy
          have := blt_trans hgt (h1 y hy)
          simp only [decide_eq_true_eq]
          rintro rfl
          rw [blt_irr] at this; cases this
        simp only [this]

end Go.Proofs.YtdfgkdoplagelaaGreatDoor
/-
  Layer 11's plain law: what an entry that is put, or struck, does to a block's entries.
-/
set_option linter.all false
set_option maxRecDepth 100000
set_option maxHeartbeats 1000000
namespace Go.Proofs.YtdfgkdoplagelaaGreatDoor
open Go Go.Eng

/-! ### Bytes and words -/

theorem byteW_toNat (w : UInt64) (i : Nat) : (byteW w i).toNat = w.toNat / 2 ^ (8 * (i % 8)) % 256 := by
  unfold byteW
  simp [UInt8.toNat_ofNat]

theorem pack_bytes (w : UInt64) (j : Nat) : packN ((List.range 8).map fun i => byteW w (8 * j + i)) = w.toNat := by
  have hw := w.toNat_lt
  have h : ∀ i, i < 8 → (byteW w (8 * j + i)).toNat = w.toNat / 2 ^ (8 * i) % 256 := by
    intro i hi
    rw [byteW_toNat]
    congr 4
    omega
  have e : (List.range 8) = [0, 1, 2, 3, 4, 5, 6, 7] := rfl
  rw [e]
  simp only [List.map_cons, List.map_nil, packN]
  rw [h 0 (by decide), h 1 (by decide), h 2 (by decide), h 3 (by decide), h 4 (by decide), h 5 (by decide), h 6 (by decide), h 7 (by decide)]
  simp only [Nat.mul_zero, Nat.pow_zero, Nat.div_one, Nat.reduceMul, Nat.reducePow]
  omega

theorem untext_inj {ws vs : List UInt64} (hl : ws.length = vs.length) (h : untextL ws (8 * ws.length) = untextL vs (8 * ws.length)) : ws = vs := by
  apply List.ext_getElem hl
  intro j h1 h2
  have key : ∀ (us : List UInt64) (hj : j < us.length), ((untextL us (8 * us.length)).drop (8 * j)).take 8 = (List.range 8).map fun i => byteW us[j] (8 * j + i) := by
    intro us hj
    apply List.ext_getElem
    · simp [untextL]; omega
    · intro i i1 i2
      have hi : i < 8 := by simpa using i2
      simp only [untextL, List.getElem_take, List.getElem_drop, List.getElem_map, List.getElem_range]
      have : (8 * j + i) / 8 = j := by omega
      rw [this, List.getElem?_eq_getElem hj]; rfl
  have k1 := key ws h1
  have k2 := key vs h2
  rw [h, hl, k2] at k1
  apply UInt64.toNat_inj.1
  rw [← pack_bytes ws[j] j, ← pack_bytes vs[j] j, k1]

/-! ### A slot that is set -/

theorem wAt_set {ws new : List UInt64} {k i : Nat} (hl : ws.length = 16) (hk : k < 5) (hn : new.length = 3) : wAt (setSlot ws k new) i = if 3 * k ≤ i ∧ i < 3 * k + 3 then wAt new (i - 3 * k) else wAt ws i := by
  unfold wAt setSlot
  have h1 : (ws.take (3 * k)).length = 3 * k := by simp; omega
  by_cases ha : i < 3 * k
  · rw [if_neg (by omega), List.append_assoc, List.getElem?_append_left (by omega), List.getElem?_take, if_pos ha]
  · by_cases hb : i < 3 * k + 3
    · rw [if_pos ⟨by omega, hb⟩, List.append_assoc, List.getElem?_append_right (by omega), h1, List.getElem?_append_left (by omega)]
    · rw [if_neg (by omega), List.getElem?_append_right (by simp; omega)]
      have h2 : (ws.take (3 * k) ++ new).length = 3 * k + 3 := by simp; omega
      rw [h2, List.getElem?_drop]
      congr 2
      omega

theorem slot_same {ws vs : List UInt64} {k place : Nat} (h0 : wAt vs (3 * k) = wAt ws (3 * k)) (h1 : wAt vs (3 * k + 1) = wAt ws (3 * k + 1)) (h2 : wAt vs (3 * k + 2) = wAt ws (3 * k + 2)) : slotOk vs place k = slotOk ws place k ∧ slotE vs k = slotE ws k := by
  have e1 : emptyB vs k = emptyB ws k := by unfold emptyB; rw [h0, h1, h2]
  have e2 : entT vs k = entT ws k := by unfold entT; rw [h1, h2]
  have e3 : entE vs k = entE ws k := by unfold entE entN entV; rw [e2, h0]
  have e4 : entB vs k place = entB ws k place := by unfold entB entN; rw [e2, h0]
  constructor
  · unfold slotOk; rw [e1, e4]
  · unfold slotE; rw [e1, e3]

theorem set_other {ws new : List UInt64} {k j place : Nat} (hl : ws.length = 16) (hk : k < 5) (hn : new.length = 3) (hj : j ≠ k) : slotOk (setSlot ws k new) place j = slotOk ws place j ∧ slotE (setSlot ws k new) j = slotE ws j := by
  refine slot_same ?_ ?_ ?_ <;> rw [wAt_set hl hk hn, if_neg (by omega)]

/-- an entry's words -/
def entWs (e : Ent) : List UInt64 := w64 e.node :: textL e.name 2
theorem entWs_len (e : Ent) : (entWs e).length = 3 := by simp [entWs, textL_len]

theorem sign_nz {c : UInt8} (h : signB c = true) : c ≠ 0 := by
  rintro rfl
  revert h; decide
theorem takeW_zeros : ∀ (l : List UInt8) (n : Nat), l.all nz = true → (l ++ zeros n).takeWhile nz = l ∧ ((l ++ zeros n).dropWhile nz).all ez = true
  | [], n, _ => by
    cases n with
    | zero => exact ⟨rfl, rfl⟩
    | succ n =>
      constructor
      · simp [zeros, List.replicate_succ, nz]
      · simp [zeros, List.replicate_succ, nz, ez]
  | c :: l, n, h => by
    simp only [List.all_cons, Bool.and_eq_true] at h
    obtain ⟨h1, h2⟩ := takeW_zeros l n h.2
    rw [List.cons_append, List.takeWhile_cons, if_pos h.1, List.dropWhile_cons, if_pos h.1, h1]
    exact ⟨rfl, h2⟩
theorem all_drop {p : UInt8 → Bool} {l : List UInt8} {n : Nat} (h : l.all p = true) : (l.drop n).all p = true := by
  rw [List.all_eq_true] at h ⊢
  exact fun x hx => h x (List.mem_of_mem_drop hx)

theorem entWs_text {e : Ent} (hn : nameB e.name = true) : untextL [wordT e.name 0, wordT e.name 1] 16 = e.name ++ zeros (16 - e.name.length) := by
  have hlen : e.name.length ≤ 14 := by
    unfold nameB at hn
    simp only [Bool.and_eq_true, decide_eq_true_eq] at hn
    exact hn.2.1.1.2
  apply List.ext_getElem
  · simp [untextL, zeros]; omega
  · intro i h1 h2
    have hi : i < 16 := by simpa [untextL] using h1
    simp only [untextL, List.getElem_map, List.getElem_range]
    have hw : ([wordT e.name 0, wordT e.name 1] : List UInt64)[i / 8]?.getD 0 = wordT e.name (i / 8) := by
      have : i / 8 = 0 ∨ i / 8 = 1 := by omega
      rcases this with h | h <;> rw [h] <;> rfl
    rw [hw, byte_word]
    rcases Nat.lt_or_ge i e.name.length with h | h
    · rw [List.getElem_append_left h, List.getElem?_eq_getElem h]; rfl
    · rw [List.getElem_append_right h, List.getElem?_eq_none h]
      simp [zeros]

/-- an entry that is put stands there -/
theorem set_here {ws : List UInt64} {k place : Nat} {e : Ent} (hl : ws.length = 16) (hk : k < 5) (hn : nameB e.name = true) (h1 : 1 ≤ e.node) (h2 : e.node < 24) (hb : bucketL e.name = place % 8) : slotOk (setSlot ws k (entWs e)) place k = true ∧ slotE (setSlot ws k (entWs e)) k = [e] := by
  have hlen := entWs_len e
  have w0 : wAt (setSlot ws k (entWs e)) (3 * k) = w64 e.node := by rw [wAt_set hl hk hlen, if_pos ⟨by omega, by omega⟩, Nat.sub_self]; rfl
  have w1 : wAt (setSlot ws k (entWs e)) (3 * k + 1) = wordT e.name 0 := by rw [wAt_set hl hk hlen, if_pos ⟨by omega, by omega⟩, show 3 * k + 1 - 3 * k = 1 by omega]; rfl
  have w2 : wAt (setSlot ws k (entWs e)) (3 * k + 2) = wordT e.name 1 := by rw [wAt_set hl hk hlen, if_pos ⟨by omega, by omega⟩, show 3 * k + 2 - 3 * k = 2 by omega]; rfl
  have hw : ((w64 e.node).toNat : Int) = e.node := by rw [w64_toNat]; omega
  have hall : e.name.all nz = true := by
    unfold nameB at hn
    simp only [Bool.and_eq_true] at hn
    rw [List.all_eq_true] at hn ⊢
    intro c hc
    have := sign_nz (hn.1 c hc)
    simpa [nz] using this
  have hT : entT (setSlot ws k (entWs e)) k = e.name ++ zeros (16 - e.name.length) := by
    unfold entT
    rw [w1, w2, entWs_text hn]
  obtain ⟨t1, t2⟩ := takeW_zeros e.name (16 - e.name.length) hall
  have hN : entN (setSlot ws k (entWs e)) k = e.name := by unfold entN cutA; rw [hT, t1]
  have hV : entV (setSlot ws k (entWs e)) k = e.node := by unfold entV; rw [w0, hw, wrapI (by omega) (by omega)]
  have hE : emptyB (setSlot ws k (entWs e)) k = false := by
    unfold emptyB
    rw [w0, decide_eq_false (fun h => by rw [h] at hw; simp at hw; omega)]
    rfl
  have hB : entB (setSlot ws k (entWs e)) k place = true := by
    unfold entB
    rw [hN, w0, hn, hT]
    unfold cutB
    rw [all_drop t2, hb]
    have g1 : 1 ≤ (w64 e.node).toNat := by omega
    have g2 : (w64 e.node).toNat < 24 := by omega
    simp [g1, g2]
  constructor
  · unfold slotOk; rw [hB, Bool.or_true]
  · unfold slotE
    rw [hE]
    simp only [Bool.false_eq_true, if_false]
    unfold entE
    rw [hN, hV]

/-- an entry that is struck is none -/
theorem set_none {ws : List UInt64} {k place : Nat} (hl : ws.length = 16) (hk : k < 5) : slotOk (setSlot ws k [0, 0, 0]) place k = true ∧ slotE (setSlot ws k [0, 0, 0]) k = [] := by
  have hE : emptyB (setSlot ws k [0, 0, 0]) k = true := by
    unfold emptyB
    rw [wAt_set hl hk rfl, wAt_set hl hk rfl, wAt_set hl hk rfl, if_pos ⟨by omega, by omega⟩, if_pos ⟨by omega, by omega⟩, if_pos ⟨by omega, by omega⟩, Nat.sub_self, show 3 * k + 1 - 3 * k = 1 by omega, show 3 * k + 2 - 3 * k = 2 by omega]
    rfl
  constructor
  · unfold slotOk; rw [hE]; rfl
  · unfold slotE; rw [if_pos hE]

/-! ### Blocks -/

/-- a block's entries, by its words -/
def wsOk (ws : List UInt64) (place : Nat) : Bool := decide (wAt ws 15 = 0) && (List.range 5).all (slotOk ws place)
def wsE (ws : List UInt64) : List Ent := (List.range 5).flatMap (slotE ws)

theorem flat_one {α β : Type} {f g : α → List β} {a : α} : ∀ {l : List α}, l.Nodup → a ∈ l → (∀ x ∈ l, x ≠ a → f x = g x) → (l.flatMap f ++ g a).Perm (l.flatMap g ++ f a)
  | [], _, h, _ => by cases h
  | x :: l, hn, ha, he => by
    obtain ⟨h1, h2⟩ := List.nodup_cons.1 hn
    rw [List.flatMap_cons, List.flatMap_cons]
    by_cases e : x = a
    · subst e
      have hfg : l.flatMap f = l.flatMap g := by
        have : ∀ y ∈ l, f y = g y := fun y hy => he y (by simp [hy]) (fun h => h1 (h ▸ hy))
        clear ha he hn h1 h2
        induction l with
        | nil => rfl
        | cons z l ih =>
          rw [List.flatMap_cons, List.flatMap_cons, this z (by simp), ih (fun y hy => this y (by simp [hy]))]
      rw [hfg]
      have p1 : (f x ++ l.flatMap g ++ g x).Perm (g x ++ (f x ++ l.flatMap g)) := List.perm_append_comm
      refine p1.trans ?_
      rw [List.append_assoc]
      exact List.Perm.append_left _ List.perm_append_comm
    · have ha2 : a ∈ l := by
        rcases List.mem_cons.1 ha with h | h
        · exact absurd h.symm e
        · exact h
      have ih := flat_one h2 ha2 (fun y hy hne => he y (by simp [hy]) hne)
      rw [he x (by simp) e, List.append_assoc, List.append_assoc]
      exact List.Perm.append_left _ ih

theorem ws_put {ws : List UInt64} {k place : Nat} {e : Ent} (hl : ws.length = 16) (hk : k < 5) (hn : nameB e.name = true) (h1 : 1 ≤ e.node) (h2 : e.node < 24) (hb : bucketL e.name = place % 8) (ho : wsOk ws place = true) (he : emptyB ws k = true) : wsOk (setSlot ws k (entWs e)) place = true ∧ (wsE (setSlot ws k (entWs e))).Perm (e :: wsE ws) := by
  obtain ⟨g1, g2⟩ := set_here (place := place) hl hk hn h1 h2 hb
  have hlen := entWs_len e
  unfold wsOk at ho ⊢
  simp only [Bool.and_eq_true] at ho
  constructor
  · rw [wAt_set hl hk hlen, if_neg (by omega), ho.1, Bool.true_and, List.all_eq_true]
    intro j hj
    by_cases e : j = k
    · subst e; exact g1
    · rw [(set_other hl hk hlen e).1]; exact List.all_eq_true.1 ho.2 j hj
  · have hse : slotE ws k = [] := by unfold slotE; rw [if_pos he]
    have p := flat_one (f := slotE (setSlot ws k (entWs e))) (g := slotE ws) (a := k) (l := List.range 5) List.nodup_range (by simpa using hk) (fun j _ hne => (set_other (place := place) hl hk hlen hne).2)
    rw [hse, g2, List.append_nil] at p
    exact p.trans (List.perm_append_comm (l₂ := [e]))

theorem ws_strike {ws : List UInt64} {k place : Nat} (hl : ws.length = 16) (hk : k < 5) (ho : wsOk ws place = true) (he : emptyB ws k = false) : wsOk (setSlot ws k [0, 0, 0]) place = true ∧ (entE ws k :: wsE (setSlot ws k [0, 0, 0])).Perm (wsE ws) := by
  obtain ⟨g1, g2⟩ := set_none (place := place) hl hk
  unfold wsOk at ho ⊢
  simp only [Bool.and_eq_true] at ho
  constructor
  · rw [wAt_set hl hk rfl, if_neg (by omega), ho.1, Bool.true_and, List.all_eq_true]
    intro j hj
    by_cases e : j = k
    · subst e; exact g1
    · rw [(set_other hl hk rfl e).1]; exact List.all_eq_true.1 ho.2 j hj
  · have hse : slotE ws k = [entE ws k] := by unfold slotE; rw [if_neg (by rw [he]; decide)]
    have p := flat_one (f := slotE (setSlot ws k [0, 0, 0])) (g := slotE ws) (a := k) (l := List.range 5) List.nodup_range (by simpa using hk) (fun j _ hne => (set_other (place := place) hl hk rfl hne).2)
    rw [hse, g2, List.append_nil] at p
    exact (List.perm_append_comm (l₁ := [entE ws k])).trans p

/-- words of noughts have no entries -/
theorem ws_zero (place : Nat) : wsOk (List.replicate 16 0) place = true ∧ wsE (List.replicate 16 0) = [] := by
  have h : ∀ k, k < 5 → emptyB (List.replicate 16 0) k = true := by decide
  constructor
  · unfold wsOk
    rw [show wAt (List.replicate 16 0) 15 = 0 from rfl, decide_eq_true rfl, Bool.true_and, List.all_eq_true]
    intro k hk
    unfold slotOk
    rw [h k (by simpa using hk)]; rfl
  · unfold wsE
    rw [List.flatMap_eq_nil_iff]
    intro k hk
    unfold slotE
    rw [if_pos (h k (by simpa using hk))]
end Go.Proofs.YtdfgkdoplagelaaGreatDoor
/-
  Layer 11's plain law: a directory's names, and its map; a name more.
-/
set_option linter.all false
set_option maxRecDepth 100000
set_option maxHeartbeats 1000000
namespace Go.Proofs.YtdfgkdoplagelaaGreatDoor
open Go Go.Eng

/-- a directory: its map, its blocks' entries, its names in order -/
structure DirI (now : Int → UInt64) (node : Int) (c : Crd) (m : List Int) (l : List Ent) : Prop where
  map : mapOf now c = some m
  wk : Wk now node c.more m
  kind : c.kind = 2 ∧ c.links = 1
  size : c.size = (l.length : Int)
  ok : ∀ i, i < 21 → plc m i ≠ -1 → wsOk (blkW now (plc m i)) i = true
  ents : (rawE now m).Perm l
  str : strict l
  mor : c.more = -1 ↔ (m.drop 5).any usedB = false

theorem Wk.rngP {now : Int → UInt64} {node more : Int} {m : List Int} (W : Wk now node more m) : mapRng m := ⟨W.len, fun x hx => W.rng x (List.mem_cons_of_mem _ hx)⟩

theorem strict_nodup {l : List Ent} (h : strict l) : (l.map (·.name)).Nodup := by
  rw [List.nodup_iff_pairwise_ne, List.pairwise_map]
  refine h.imp fun {x y} hxy e => ?_
  rw [e, blt_irr] at hxy; cases hxy
theorem strict_le {l : List Ent} (h : strict l) : l.Pairwise (fun x y => leE x y = true) := h.imp fun {x y} hxy => by unfold leE; rw [blt_asym hxy]; rfl

theorem placeOk_of {now : Int → UInt64} {m : List Int} (R : mapRng m) {i : Nat} (h : plc m i ≠ -1 → wsOk (blkW now (plc m i)) i = true) : placeOk now m i = true := by
  unfold placeOk
  by_cases e : plc m i = -1
  · rw [decide_eq_true e]; rfl
  · rw [decide_eq_false e, Bool.false_or]
    unfold blkOkB
    rw [decide_eq_true ((R.plc i).resolve_left e), Bool.true_and]
    exact h e

theorem DirI.all {now : Int → UInt64} {node : Int} {c : Crd} {m : List Int} {l : List Ent} (D : DirI now node c m l) : (List.range 21).all (placeOk now m) = true :=
  List.all_eq_true.2 fun i hi => placeOk_of D.wk.rngP (D.ok i (by simpa using hi))
theorem DirI.open_ {now : Int → UInt64} {node : Int} {c : Crd} {m : List Int} {l : List Ent} (D : DirI now node c m l) : openP now c = (0, m, l) := by
  unfold openP
  rw [if_neg (by rw [D.kind.1]; simp), D.map]
  simp only
  have hnd : ((rawE now m).map (·.name)).Nodup := (D.ents.map _).nodup_iff.2 (strict_nodup D.str)
  rw [if_pos ⟨D.all, hnd, by rw [D.ents.length_eq, D.size]⟩]
  congr 2
  exact sorted_unique ((sortE_perm _).trans D.ents) (((sortE_perm _).map _).nodup_iff.2 hnd) (sortE_sorted _) (strict_le D.str)
theorem DirI.few {now : Int → UInt64} {node : Int} {c : Crd} {m : List Int} {l : List Ent} (D : DirI now node c m l) : l.length ≤ 105 := by
  rw [← D.ents.length_eq]; exact rawE_len _ _
theorem DirI.good {now : Int → UInt64} {node : Int} {c : Crd} {m : List Int} {l : List Ent} (D : DirI now node c m l) : ∀ e ∈ l, entGood e := by
  have h : (openP now c).1 = 0 := by rw [D.open_]
  have := (openP_good h).2
  rwa [D.open_] at this
theorem DirI.okE {now : Int → UInt64} {node : Int} {c : Crd} {m : List Int} {l : List Ent} (D : DirI now node c m l) : ∀ e ∈ l, e.ok := fun e he => rawE_ok e (D.ents.mem_iff.2 he)
theorem DirI.right {now : Int → UInt64} {node : Int} {c : Crd} {m : List Int} {l : List Ent} (D : DirI now node c m l) : rightC c = true ∧ c.ok := by
  have hd := mapOf_direct D.map
  have hs := D.few
  have hz := D.size
  have hm := D.wk.rng c.more List.mem_cons_self
  have hk := D.kind
  have hr : ∀ x ∈ c.direct, -1 ≤ x ∧ x < 96 := by
    intro x hx
    have := D.wk.rng x (List.mem_cons_of_mem _ (hd x hx))
    unfold blkOk at this; omega
  unfold blkOk at hm
  constructor
  · unfold rightC
    rw [hk.1, hk.2]
    have h1 : c.direct.all blockC = true := by
      rw [List.all_eq_true]
      intro x hx
      have := hr x hx
      unfold blockC
      simp; omega
    rw [h1]
    unfold blockC
    simp; omega
  · refine ⟨by rw [hk.1]; exact ⟨by decide, by decide⟩, by rw [hk.2]; exact ⟨by decide, by decide⟩, ?_, fun x hx => ?_, ?_⟩
    · unfold inI64; omega
    · have := hr x hx; unfold inI64; omega
    · unfold inI64; omega

/-! ### Words that are kept -/

theorem fb_blk {f g : Int → UInt64} {m : List Int} (h : ∀ p, p < 2688 → fb g m p = fb f m p) {i : Nat} (hi : i < 21) (hu : plc m i ≠ -1) : blkW g (plc m i) = blkW f (plc m i) := by
  have hb : ∀ now : Int → UInt64, bytesB now (plc m i) = untextL (blkW now (plc m i)) 128 := by
    intro now
    unfold bytesB
    rw [if_neg hu]; rfl
  have hq : bytesB g (plc m i) = bytesB f (plc m i) := by
    apply List.ext_getElem?
    intro q
    rcases Nat.lt_or_ge q 128 with hq | hq
    · have := h (128 * i + q) (by omega)
      unfold fb at this
      have e1 : (128 * i + q) / 128 = i := by omega
      have e2 : (128 * i + q) % 128 = q := by omega
      rw [e1, e2] at this
      have l1 := bytesB_len g (plc m i)
      have l2 := bytesB_len f (plc m i)
      have hp : m[i]?.getD (-1) = plc m i := rfl
      rw [hp] at this
      rw [List.getElem?_eq_getElem (by omega), List.getElem?_eq_getElem (by omega)] at this ⊢
      simpa using this
    · rw [List.getElem?_eq_none (by rw [bytesB_len]; exact hq), List.getElem?_eq_none (by rw [bytesB_len]; exact hq)]
  rw [hb, hb] at hq
  refine untext_inj (by rw [blkW_len, blkW_len]) ?_
  rw [blkW_len]; exact hq

theorem Wk.putW {now : Int → UInt64} {node more : Int} {m : List Int} (W : Wk now node more m) {i : Nat} (hi : i < 21) (hu : plc m i ≠ -1) {ws : List UInt64} (hw : ws.length = 16) :
    Wk (putBlk now (plc m i) ws) node more m ∧ Fr node now (putBlk now (plc m i) ws) ∧ blkW (putBlk now (plc m i) ws) (plc m i) = ws ∧ (∀ j, j < 21 → j ≠ i → plc m j ≠ -1 → blkW (putBlk now (plc m i) ws) (plc m j) = blkW now (plc m j)) := by
  have hl := W.len
  have hm : plc m i ∈ m := by
    unfold plc
    rw [List.getElem?_eq_getElem (by omega)]
    exact List.getElem_mem _
  have hk : 0 ≤ plc m i ∧ plc m i < 96 := (W.rngP.plc i).resolve_left hu
  have ho : ∀ k, 0 ≤ k → k < 96 → putBlk now (plc m i) ws (200 + k) = now (200 + k) := fun k _ h => put_owner (by omega) hk.1 h
  have hown : now (200 + plc m i) = w64 (node + 1) := (W.own _ hk.1 hk.2).1 (usedL_mem.2 ⟨.inr hm, hu⟩)
  refine ⟨⟨W.len, W.rng, W.nod, fun k h0 h1 => by rw [ho k h0 h1]; exact W.own k h0 h1⟩, ⟨fun k h0 h1 hf => ⟨.inl (ho k h0 h1), fun _ => ?_⟩, fun k h0 h1 hf => .inl (by rw [ho k h0 h1]; exact hf), fun _ ha => put_low hk.1 ha⟩, ?_, fun j hj hne hju => ?_⟩
  · refine put_rd_ne (by omega) ?_
    rintro rfl
    exact hf hown
  · unfold blkW
    rw [put_rd (by omega)]
    unfold fullB
    rw [hw]; simp
  · unfold blkW
    refine put_rd_ne (by omega) fun e => hne ?_
    exact W.inj hj hi e.symm hju

/-! ### Raw entries -/

theorem rawE_one {f g : Int → UInt64} {m m' : List Int} {i : Nat} (hi : i < 21) (h : ∀ j, j < 21 → j ≠ i → placeE f m j = placeE g m' j) : (rawE f m ++ placeE g m' i).Perm (rawE g m' ++ placeE f m i) :=
  flat_one List.nodup_range (by simpa using hi) fun j hj hne => h j (by simpa using hj) hne
theorem placeE_ws {now : Int → UInt64} {m : List Int} {i : Nat} (h : plc m i ≠ -1) : placeE now m i = wsE (blkW now (plc m i)) := by
  unfold placeE
  rw [if_neg h]; rfl
theorem placeE_hole {now : Int → UInt64} {m : List Int} {i : Nat} (h : plc m i = -1) : placeE now m i = [] := by
  unfold placeE
  rw [if_pos h]
theorem rawE_same {f g : Int → UInt64} {m : List Int} (h : ∀ i, i < 21 → plc m i ≠ -1 → blkW f (plc m i) = blkW g (plc m i)) : rawE f m = rawE g m := by
  unfold rawE
  have : ∀ i ∈ List.range 21, placeE f m i = placeE g m i := by
    intro i hi
    by_cases e : plc m i = -1
    · rw [placeE_hole e, placeE_hole e]
    · rw [placeE_ws e, placeE_ws e, h i (by simpa using hi) e]
  revert this
  generalize List.range 21 = L
  intro this
  induction L with
  | nil => rfl
  | cons x L ih => rw [List.flatMap_cons, List.flatMap_cons, this x (by simp), ih (fun i hi => this i (by simp [hi]))]

/-! ### The document's list -/

def insL (l : List Ent) (e : Ent) : List Ent := l.take (plK l e.name) ++ e :: l.drop (plK l e.name)
theorem insL_perm (l : List Ent) (e : Ent) : (insL l e).Perm (e :: l) := by
  unfold insL
  refine List.perm_middle.trans ?_
  rw [List.take_append_drop]
theorem plT_false {l : List Ent} {name : List UInt8} (hs : strict l) : plT l name = false → ∀ e ∈ l.drop (plK l name), blt name e.name = true := by
  intro ht e he
  obtain ⟨j, hj, rfl⟩ := List.mem_iff_getElem.1 he
  rw [List.getElem_drop]
  have hl : plK l name + j < l.length := by simp at hj; omega
  have h0 : plK l name < l.length := by omega
  have hx : blt (l[plK l name]).name name = false := by
    rw [← Bool.not_eq_true]
    intro h
    have := plK_more (Nat.le_refl _) h0 h
    omega
  have hne : (l[plK l name]).name ≠ name := by
    unfold plT at ht
    rw [List.getElem?_eq_getElem h0] at ht
    simpa using ht
  have hgt : blt name (l[plK l name]).name = true := by
    rcases blt_tri (l[plK l name]).name name with g | g | g
    · rw [g] at hx; cases hx
    · exact absurd g hne
    · exact g
  rcases Nat.eq_zero_or_pos j with rfl | hj0
  · exact hgt
  · exact blt_trans hgt (List.pairwise_iff_getElem.1 hs (plK l name) (plK l name + j) h0 hl (by omega))
theorem insL_strict {l : List Ent} {e : Ent} (hs : strict l) (ht : plT l e.name = false) : strict (insL l e) := by
  unfold insL strict
  rw [List.pairwise_append]
  have hsplit : l.take (plK l e.name) ++ l.drop (plK l e.name) = l := List.take_append_drop _ _
  have hs2 : strict (l.take (plK l e.name) ++ l.drop (plK l e.name)) := by rw [hsplit]; exact hs
  unfold strict at hs2
  rw [List.pairwise_append] at hs2
  have hafter := plT_false hs ht
  have hbefore : ∀ x ∈ l.take (plK l e.name), blt x.name e.name = true := by
    intro x hx
    obtain ⟨j, hj, rfl⟩ := List.mem_iff_getElem.1 hx
    rw [List.getElem_take]
    exact (plK_lt (by simp at hj; omega)).2
  refine ⟨hs2.1, List.pairwise_cons.2 ⟨hafter, hs2.2.1⟩, fun x hx y hy => ?_⟩
  rcases List.mem_cons.1 hy with rfl | hy
  · exact hbefore x hx
  · exact hs2.2.2 x hx y hy
end Go.Proofs.YtdfgkdoplagelaaGreatDoor
/-
  Layer 11's plain law: a name more.
-/
set_option linter.all false
set_option maxRecDepth 100000
set_option maxHeartbeats 2000000
namespace Go.Proofs.YtdfgkdoplagelaaGreatDoor
open Go Go.Eng

/-! ### Free blocks -/

theorem freeN_pos {B : Int → UInt64} {X : VS} (h : 1 ≤ freeN B X 96) : firstF B X 96 0 ≠ none := by
  intro hf
  have := firstF_none hf
  unfold freeN at h
  have : ((List.range 96).filter fun (i : Nat) => freshB B X (i : Int)) = [] := by
    rw [List.filter_eq_nil_iff]
    intro k hk
    rw [this k (Nat.zero_le _) (by simpa using hk)]; simp
  rw [this] at h
  simp at h

theorem count_one {p q : Nat → Bool} {k : Nat} (hp : p k = true) (hq : q k = false) : ∀ {n : Nat}, k < n → (∀ j, j < n → j ≠ k → p j = q j) → ((List.range n).filter p).length = ((List.range n).filter q).length + 1
  | 0, h, _ => by omega
  | n + 1, h, hs => by
    rw [List.range_succ, List.filter_append, List.filter_append, List.length_append, List.length_append]
    by_cases e : k = n
    · subst e
      have : (List.range k).filter p = (List.range k).filter q := List.filter_congr fun j hj => hs j (by have := List.mem_range.1 hj; omega) (by have := List.mem_range.1 hj; omega)
      rw [this]
      simp [hp, hq]
    · have ih := count_one hp hq (n := n) (by omega) fun j hj hne => hs j (by omega) hne
      rw [ih]
      have : p n = q n := hs n (by omega) (fun x => e x.symm)
      simp only [List.filter_cons, this, List.filter_nil]
      omega

theorem free_take {B : Int → UInt64} {X : VS} {node : Int} (hn : 0 ≤ node ∧ node < 24) (h : (takeP B X node).2.1 = 0) : freeN B X 96 = freeN B (takeP B X node).2.2 96 + 1 := by
  unfold takeP at h ⊢
  rw [if_pos hn] at h ⊢
  cases hf : firstF B X 96 0 with
  | none => rw [hf] at h; simp at h
  | some k =>
    simp only
    have hk := firstF_is hf
    unfold freeN
    have hk2 : 0 ≤ (k : Int) ∧ (k : Int) < 96 := by omega
    have how : ∀ j : Nat, j < 96 → (putBlk (upd X.now (200 + (k : Int)) (w64 (node + 1))) (k : Int) []) (200 + (j : Int)) = if (j : Int) = (k : Int) then w64 (node + 1) else X.now (200 + (j : Int)) := fun j hj => takeW_owner (now := X.now) (node := node) hk2 (by omega) (by omega)
    refine count_one (k := k) hk.1 ?_ (by omega) fun j hj hne => ?_
    · have e := how k (by omega)
      rw [if_pos rfl] at e
      unfold freshB
      have h3 : decide ((putBlk (upd X.now (200 + (k : Int)) (w64 (node + 1))) (k : Int) []) (200 + (k : Int)) = 0) = false := decide_eq_false (by rw [e]; exact w64_ne hn)
      simp only [h3, Bool.false_and, Bool.and_false]
    · have e := how j hj
      rw [if_neg (by omega)] at e
      unfold freshB
      simp only [e]

theorem keepP_room {B : Int → UInt64} {node : Int} (hn : 0 ≤ node ∧ node < 24) {X : VS} {c : Crd} {m : List Int} (W : Wk X.now node c.more m) (h : 1 ≤ freeN B X 96) : Kep node X c m (keepP B X node c m) := by
  rcases keepP_plain (B := B) hn W with ⟨h9, _, hm, hu⟩ | K
  · exfalso
    unfold keepP at h9
    rw [if_pos ⟨hn, W.len, W.drops⟩, if_neg (by rw [hu]; decide), if_pos hm] at h9
    rcases take_facts (B := B) (X := X) hn with ⟨e0, k0, k1, kn, kx⟩ | ⟨e9, kx, kf⟩
    · simp only [e0, if_true, if_pos (show 0 ≤ (takeP B X node).1 ∧ (takeP B X node).1 < 96 from ⟨k0, k1⟩)] at h9
      cases h9
    · exact freeN_pos h kf
  · exact K

/-! ### How many stand in a bucket -/

theorem firstK_none {p : List UInt64 → Nat → Bool} {ws : List UInt64} : ∀ {f k : Nat}, firstK p ws f k = none → ∀ q, k ≤ q → q < k + f → p ws q = false
  | 0, _, _, q, _, _ => by omega
  | f + 1, k, h, q, h1, h2 => by
    unfold firstK at h
    split at h
    · cases h
    · rename_i hp
      by_cases e : q = k
      · subst e; simpa using hp
      · exact firstK_none h q (by omega) (by omega)
theorem spotF_none {W : Int → List UInt64} {m : List Int} {p : List UInt64 → Nat → Bool} : ∀ {f pl : Nat}, spotF W m p f pl = none → ∀ j, j < f → pl + 8 * j < 21 → plc m (pl + 8 * j) = -1 ∨ firstK p (W ((pl + 8 * j : Nat) : Int)) 5 0 = none
  | 0, _, _, j, hj, _ => by omega
  | f + 1, pl, h, j, hj, hl => by
    unfold spotF at h
    rw [if_pos (by omega)] at h
    cases j with
    | zero =>
      split at h
      · left; assumption
      · split at h
        · cases h
        · right; assumption
    | succ j =>
      have ih : spotF W m p f (pl + 8) = none → _ := fun g => spotF_none g j (by omega) (by omega)
      have e : pl + 8 + 8 * j = pl + 8 * (j + 1) := by omega
      rw [e] at ih
      split at h
      · exact ih h
      · split at h
        · cases h
        · exact ih h
theorem growF_none {m : List Int} : ∀ {f pl : Nat}, growF m f pl = none → ∀ j, j < f → pl + 8 * j < 21 → plc m (pl + 8 * j) ≠ -1
  | 0, _, _, j, hj, _ => by omega
  | f + 1, pl, h, j, hj, hl => by
    unfold growF at h
    rw [if_pos (by omega)] at h
    split at h
    · cases h
    · rename_i hp
      cases j with
      | zero => exact hp
      | succ j =>
        have := growF_none h j (by omega) (by omega)
        rwa [show pl + 8 + 8 * j = pl + 8 * (j + 1) by omega] at this

def hadL (l : List Ent) (name : List UInt8) : Nat := (l.filter fun e => decide (bucketL e.name = bucketL name)).length
def roomN (bk : Nat) : Nat := if bk < 5 then 15 else 10

theorem had_sum (now : Int → UInt64) (m : List Int) (bk : Nat) (hok : (List.range 21).all (placeOk now m) = true) : ((rawE now m).filter fun e => decide (bucketL e.name = bk)).length = ((List.range 21).map fun i => if i % 8 = bk then (placeE now m i).length else 0).sum := by
  have hk : ∀ i ∈ List.range 21, placeOk now m i = true := fun i hi => List.all_eq_true.1 hok i hi
  unfold rawE
  revert hk
  generalize List.range 21 = L
  intro hk
  induction L with
  | nil => rfl
  | cons i L ih =>
    rw [List.flatMap_cons, List.filter_append, List.length_append, ih (fun j hj => hk j (by simp [hj])), List.map_cons, List.sum_cons]
    congr 1
    have hg := placeE_good (hk i (by simp))
    by_cases e : i % 8 = bk
    · rw [if_pos e, List.filter_eq_self.2]
      intro x hx
      rw [(hg x hx).2]; exact decide_eq_true e
    · rw [if_neg e, List.filter_eq_nil_iff.2]
      · rfl
      · intro x hx
        rw [(hg x hx).2]; simpa using e

theorem sum_bucket (f : Nat → Nat) (bk : Nat) (h : bk < 8) : ((List.range 21).map fun i => if i % 8 = bk then f i else 0).sum = f bk + f (bk + 8) + (if bk < 5 then f (bk + 16) else 0) := by
  have : bk = 0 ∨ bk = 1 ∨ bk = 2 ∨ bk = 3 ∨ bk = 4 ∨ bk = 5 ∨ bk = 6 ∨ bk = 7 := by omega
  rcases this with rfl | rfl | rfl | rfl | rfl | rfl | rfl | rfl <;> simp [List.range_succ] <;> omega

theorem slot_full {ws : List UInt64} (h : ∀ k, k < 5 → emptyB ws k = false) : (wsE ws).length = 5 := by
  unfold wsE
  have e : List.range 5 = [0, 1, 2, 3, 4] := rfl
  have g : ∀ k, k < 5 → slotE ws k = [entE ws k] := fun k hk => by unfold slotE; rw [if_neg (by rw [h k hk]; decide)]
  rw [e]
  simp [g 0 (by decide), g 1 (by decide), g 2 (by decide), g 3 (by decide), g 4 (by decide)]
theorem slot_less {ws : List UInt64} {k : Nat} (hk : k < 5) (h : emptyB ws k = true) : (wsE ws).length ≤ 4 := by
  unfold wsE
  have e : List.range 5 = [0, 1, 2, 3, 4] := rfl
  have g : slotE ws k = [] := by unfold slotE; rw [if_pos h]
  have l0 := slotE_len ws 0
  have l1 := slotE_len ws 1
  have l2 := slotE_len ws 2
  have l3 := slotE_len ws 3
  have l4 := slotE_len ws 4
  rw [e]
  simp only [List.flatMap_cons, List.flatMap_nil, List.length_append, List.length_nil]
  have : k = 0 ∨ k = 1 ∨ k = 2 ∨ k = 3 ∨ k = 4 := by omega
  rcases this with rfl | rfl | rfl | rfl | rfl <;> rw [g] <;> simp <;> omega

theorem DirI.had {now : Int → UInt64} {node : Int} {c : Crd} {m : List Int} {l : List Ent} (D : DirI now node c m l) (name : List UInt8) : hadL l name = (placeE now m (bucketL name)).length + (placeE now m (bucketL name + 8)).length + (if bucketL name < 5 then (placeE now m (bucketL name + 16)).length else 0) := by
  unfold hadL
  rw [← ((D.ents.filter _).length_eq), had_sum now m _ D.all, sum_bucket _ _ (bucketL_lt name)]

/-- where there is an empty entry the bucket isn't full -/
theorem DirI.notfull {now : Int → UInt64} {node : Int} {c : Crd} {m : List Int} {l : List Ent} (D : DirI now node c m l) (name : List UInt8) {pl : Nat} (hp : pl < 21) (hb : pl % 8 = bucketL name) (hl : (placeE now m pl).length ≤ 4) : hadL l name < roomN (bucketL name) := by
  have hbk := bucketL_lt name
  rw [D.had]
  have h0 := placeE_len now m (bucketL name)
  have h1 := placeE_len now m (bucketL name + 8)
  have h2 := placeE_len now m (bucketL name + 16)
  have hc : pl = bucketL name ∨ pl = bucketL name + 8 ∨ (pl = bucketL name + 16 ∧ bucketL name < 5) := by omega
  unfold roomN
  rcases hc with rfl | rfl | ⟨rfl, hc⟩
  · split <;> omega
  · split <;> omega
  · rw [if_pos hc, if_pos hc]; omega

theorem DirI.full {now : Int → UInt64} {node : Int} {c : Crd} {m : List Int} {l : List Ent} (D : DirI now node c m l) (name : List UInt8) (h1 : spotF (wordsAt now m) m emptyB 4 (bucketL name) = none) (h2 : growF m 4 (bucketL name) = none) : roomN (bucketL name) ≤ hadL l name := by
  have hbk := bucketL_lt name
  rw [D.had]
  have key : ∀ j, j < 4 → bucketL name + 8 * j < 21 → (placeE now m (bucketL name + 8 * j)).length = 5 := by
    intro j hj hl
    have g1 := growF_none h2 j hj hl
    have g2 := (spotF_none h1 j hj hl).resolve_left g1
    rw [placeE_ws g1]
    have e : wordsAt now m ((bucketL name + 8 * j : Nat) : Int) = blkW now (plc m (bucketL name + 8 * j)) := by unfold wordsAt; rw [Int.toNat_natCast]
    rw [e] at g2
    exact slot_full fun k hk => firstK_none g2 k (Nat.zero_le _) (by omega)
  have k0 := key 0 (by decide) (by omega)
  have k1 := key 1 (by decide) (by omega)
  simp only [Nat.mul_zero, Nat.add_zero, Nat.mul_one] at k0 k1
  rw [k0, k1]
  unfold roomN
  by_cases h : bucketL name < 5
  · rw [if_pos h, if_pos h]
    have k2 := key 2 (by decide) (by omega)
    simp only [Nat.reduceMul] at k2
    rw [k2]; omega
  · rw [if_neg h, if_neg h]; omega
end Go.Proofs.YtdfgkdoplagelaaGreatDoor
/-
  Layer 11's plain law: a name more, answered as the document does.
-/
set_option linter.all false
set_option maxRecDepth 100000
set_option maxHeartbeats 2000000
namespace Go.Proofs.YtdfgkdoplagelaaGreatDoor
open Go Go.Eng

/-- the document's answer: a name more -/
def refAdd (l : List Ent) (name : List UInt8) (target : Int) : List Ent × Int :=
  if target < 1 ∨ 24 ≤ target then ([], 1)
  else if nameB name = false then ([], 3)
  else if plT l name = true then ([], 5)
  else (insL l ⟨name, target⟩, 0)

theorem wordsAt_nat (now : Int → UInt64) (m : List Int) (p : Nat) : wordsAt now m (p : Int) = blkW now (plc m p) := by unfold wordsAt; rw [Int.toNat_natCast]

theorem slot_some {ws : List UInt64} {k : Nat} (hk : k < 5) (h : emptyB ws k = true) : (wsE ws).length ≤ 4 := slot_less hk h

/-- blocks are kept: what is free stays -/
theorem freeN_put {B : Int → UInt64} {X : VS} {k : Int} {ws : List UInt64} (hk : 0 ≤ k) (hw : ws.length ≤ 16) : freeN B { X with now := putBlk X.now k ws } 96 = freeN B X 96 := by
  unfold freeN
  congr 1
  refine List.filter_congr fun j hj => ?_
  have hj' : j < 96 := by simpa using hj
  unfold freshB
  have : (putBlk X.now k ws) (200 + (j : Int)) = X.now (200 + (j : Int)) := put_owner hw hk (by omega)
  simp only [this]

/-- an entry is put: what there is then -/
theorem put_dir {B : Int → UInt64} {node : Int} (hn : 0 ≤ node ∧ node < 24) {X : VS} {c : Crd} {m : List Int} {l : List Ent} {name : List UInt8} {target : Int} {pl k : Nat}
    (W : Wk X.now node c.more m) (ok : ∀ i, i < 21 → plc m i ≠ -1 → wsOk (blkW X.now (plc m i)) i = true) (ents : (rawE X.now m).Perm l) (str : strict l) (kind : c.kind = 2 ∧ c.links = 1) (size : c.size = (l.length : Int))
    (hpl : pl < 21) (hpu : plc m pl ≠ -1) (hk : k < 5) (he : emptyB (blkW X.now (plc m pl)) k = true) (hb : pl % 8 = bucketL name) (hname : nameB name = true) (ht : 1 ≤ target ∧ target < 24) (hnt : plT l name = false)
    {Y : VS} (hY : Y = { X with now := putBlk X.now (plc m pl) (setSlot (blkW X.now (plc m pl)) k (entWs ⟨name, target⟩)) }) :
    Wk Y.now node c.more m ∧ Fr node X.now Y.now ∧ freeN B Y 96 = freeN B X 96 ∧ (∀ r, Kep node Y { c with size := c.size + 1 } m r → DirI r.2.2.now node r.1 m (insL l ⟨name, target⟩) ∧ Fr node X.now r.2.2.now) := by
  have hlen := blkW_len X.now (plc m pl)
  have hsl : (setSlot (blkW X.now (plc m pl)) k (entWs ⟨name, target⟩)).length = 16 := by
    unfold setSlot
    simp [entWs_len, hlen]; omega
  obtain ⟨W2, F2, b1, b2⟩ := W.putW hpl hpu hsl
  have hk0 : 0 ≤ plc m pl := by have := (W.rngP.plc pl).resolve_left hpu; omega
  have hp := ws_put (place := pl) (e := ⟨name, target⟩) hlen hk hname ht.1 ht.2 hb.symm (ok pl hpl hpu) he
  subst hY
  refine ⟨W2, F2, freeN_put hk0 (by omega), fun r K => ?_⟩
  have hby : ∀ i, i < 21 → plc m i ≠ -1 → blkW r.2.2.now (plc m i) = blkW (putBlk X.now (plc m pl) (setSlot (blkW X.now (plc m pl)) k (entWs ⟨name, target⟩))) (plc m i) := fun i hi hu => fb_blk K.by_ hi hu
  refine ⟨⟨K.map, K.wk, ?_, ?_, fun i hi hu => ?_, ?_, insL_strict str hnt, K.mor⟩, F2.trans K.fr (w64_ne hn)⟩
  · rw [K.c_]; exact kind
  · rw [K.c_]
    show c.size + 1 = _
    rw [size, (insL_perm l _).length_eq]
    simp
  · rw [hby i hi hu]
    by_cases e : i = pl
    · subst e; rw [b1]; exact hp.1
    · rw [b2 i hi e hu]; exact ok i hi hu
  · rw [rawE_same hby]
    refine List.Perm.trans ?_ (insL_perm l _).symm
    have p := rawE_one (f := X.now) (g := putBlk X.now (plc m pl) (setSlot (blkW X.now (plc m pl)) k (entWs ⟨name, target⟩))) (m := m) (m' := m) hpl fun j hj hne => by
      by_cases e : plc m j = -1
      · rw [placeE_hole e, placeE_hole e]
      · rw [placeE_ws e, placeE_ws e, b2 j hj hne e]
    rw [placeE_ws hpu, placeE_ws hpu, b1] at p
    have p2 : (rawE X.now m ++ wsE (setSlot (blkW X.now (plc m pl)) k (entWs ⟨name, target⟩))).Perm ((⟨name, target⟩ :: l) ++ wsE (blkW X.now (plc m pl))) := by
      refine (ents.append hp.2).trans ?_
      rw [List.cons_append]
      exact List.perm_middle
    exact (List.perm_append_right_iff _).1 (p.symm.trans p2)

theorem addP_plain {B : Int → UInt64} {X : VS} {node : Int} (hn : 0 ≤ node ∧ node < 24) {c : Crd} {m : List Int} {l : List Ent} (D : DirI X.now node c m l) (name : List UInt8) (target : Int) :
    ((addP B X node c name target).2.1 = (refAdd l name target).2 ∧ (refAdd l name target).2 ≠ 0 ∧ (refAdd l name target).2 ≠ 9) ∨
    ((refAdd l name target).2 = 0 ∧ (addP B X node c name target).2.1 = 9 ∧ (roomN (bucketL name) ≤ hadL l name ∨ freeN B X 96 < 2)) ∨
    ((refAdd l name target) = (insL l ⟨name, target⟩, 0) ∧ (addP B X node c name target).2.1 = 0 ∧ hadL l name < roomN (bucketL name) ∧ ∃ m', DirI (addP B X node c name target).2.2.now node (addP B X node c name target).1 m' (insL l ⟨name, target⟩) ∧ Fr node X.now (addP B X node c name target).2.2.now) := by
  have hbk := bucketL_lt name
  unfold addP refAdd
  by_cases ht : target < 1 ∨ 24 ≤ target
  · left
    rw [if_pos (.inr ht), if_pos ht]
    exact ⟨rfl, by simp, by simp⟩
  rw [if_neg (show ¬ (¬ (0 ≤ node ∧ node < 24) ∨ target < 1 ∨ 24 ≤ target) from fun h => h.elim (fun h => h hn) ht), if_neg ht, D.open_]
  simp only [ne_eq, not_true_eq_false, if_false]
  rw [find_place D.str]
  by_cases hr : nameB name = false
  · left
    have hnp : plT l name = false := by
      rw [← Bool.not_eq_true]
      intro h
      rw [← find_place D.str] at h
      unfold findR at h
      cases hf : findE l name with
      | none => rw [hf] at h; cases h
      | some e =>
        unfold findE at hf
        have h1 := List.find?_some hf
        have h2 := D.good e (List.mem_of_find?_eq_some hf)
        have h3 : e.name = name := by simpa using h1
        have := h2.2.2
        rw [h3, hr] at this
        cases this
    rw [if_neg (by rw [hnp]; simp), if_pos hr, if_pos hr]
    exact ⟨rfl, by simp, by simp⟩
  rw [if_neg hr, if_neg hr]
  have hrt : nameB name = true := by simpa using hr
  by_cases hp : plT l name = true
  · left
    rw [if_pos hp, if_pos hp]
    exact ⟨rfl, by simp, by simp⟩
  rw [if_neg hp, if_neg hp]
  have hpf : plT l name = false := by simpa using hp
  right
  have htr : 1 ≤ target ∧ target < 24 := by omega
  unfold firstR
  cases hs : spotF (wordsAt X.now m) m emptyB 4 (bucketL name) with
  | some q =>
    obtain ⟨pl, k⟩ := q
    obtain ⟨q1, q2, q3, q4, q5⟩ := spotF_is hs
    simp only at q1 q2 q3 q4 q5 ⊢
    rw [wordsAt_nat] at q4
    simp only [not_true_eq_false, if_false, Int.toNat_natCast, wordsAt_nat]
    have hlt := D.notfull name q1 (by omega) (by rw [placeE_ws q2]; exact slot_less q3 q4)
    obtain ⟨W2, F2, fr2, HK⟩ := put_dir (B := B) (name := name) (target := target) hn D.wk D.ok D.ents D.str D.kind D.size q1 q2 q3 q4 (by omega) hrt htr hpf (Y := _) rfl
    by_cases hfree : 1 ≤ freeN B X 96
    · right
      have K := keepP_room (B := B) (c := { c with size := c.size + 1 }) hn W2 (by rw [fr2]; exact hfree)
      obtain ⟨R1, R2⟩ := HK _ K
      exact ⟨trivial, K.e, hlt, m, R1, R2⟩
    · rcases keepP_plain (B := B) (c := { c with size := c.size + 1 }) hn W2 with ⟨p9, _⟩ | K
      · left
        exact ⟨trivial, p9, .inr (by omega)⟩
      · right
        obtain ⟨R1, R2⟩ := HK _ K
        exact ⟨trivial, K.e, hlt, m, R1, R2⟩
  | none =>
    simp only
    unfold growP
    cases hg : growF m 4 (bucketL name) with
    | none =>
      left
      simp only
      exact ⟨trivial, rfl, .inl (D.full name hs hg)⟩
    | some pl =>
      obtain ⟨q1, q2, q3, q4⟩ := growF_is hg
      simp only
      rcases take_facts (B := B) (X := X) hn with ⟨e0, k0, k1, kn, kx⟩ | ⟨e9, kx, kf⟩
      · have hft := free_take hn e0
        simp only [e0, if_true, not_true_eq_false, if_false, Int.toNat_natCast]
        rw [kx] at hft ⊢
        generalize (takeP B X node).1 = blk at k0 k1 kn hft
        obtain ⟨W1, F1, _, hfb⟩ := D.wk.take_at hn ⟨k0, k1⟩ kn q1 q2
        have hml := D.wk.len
        have hset : ∀ i, plc (m.set pl blk) i = if i = pl then blk else plc m i := fun i => plc_set (by omega)
        have hnew : blkW (takeW X.now node blk) blk = List.replicate 16 0 := by
          unfold blkW takeW
          rw [put_rd (by simp)]; rfl
        have hold : ∀ i, i < 21 → i ≠ pl → plc m i ≠ -1 → blkW (takeW X.now node blk) (plc m i) = blkW X.now (plc m i) := by
          intro i hi hne hu
          have hr := (D.wk.rngP.plc i).resolve_left hu
          refine takeW_rd ⟨k0, k1⟩ hr.1 fun e => ?_
          have hm : plc m i ∈ m := by
            unfold plc
            rw [List.getElem?_eq_getElem (by omega)]
            exact List.getElem_mem _
          have := (D.wk.own _ hr.1 hr.2).1 (usedL_mem.2 ⟨.inr hm, hu⟩)
          rw [e, kn] at this
          exact w64_ne hn this.symm
        have hat : plc (m.set pl blk) pl = blk := by rw [hset, if_pos rfl]
        have hents : rawE (takeW X.now node blk) (m.set pl blk) = rawE X.now m := by
          unfold rawE
          have : ∀ i ∈ List.range 21, placeE (takeW X.now node blk) (m.set pl blk) i = placeE X.now m i := by
            intro i hi
            have hi : i < 21 := by simpa using hi
            by_cases e : i = pl
            · subst e
              rw [placeE_ws (by rw [hat]; omega), hat, hnew, placeE_hole q2]
              exact (ws_zero 0).2
            · by_cases e2 : plc m i = -1
              · rw [placeE_hole e2, placeE_hole (by rw [hset, if_neg e]; exact e2)]
              · rw [placeE_ws e2, placeE_ws (by rw [hset, if_neg e]; exact e2), hset, if_neg e, hold i hi e e2]
          revert this
          generalize List.range 21 = L
          intro this
          induction L with
          | nil => rfl
          | cons x L ih => rw [List.flatMap_cons, List.flatMap_cons, this x (by simp), ih (fun i hi => this i (by simp [hi]))]
        have hlt := D.notfull name q1 (by omega) (by rw [placeE_hole q2]; simp)
        have hW : growW (wordsAt X.now m) pl (pl : Int) = blkW (takeW X.now node blk) (plc (m.set pl blk) pl) := by
          unfold growW
          rw [if_pos rfl, hat, hnew]
        obtain ⟨W2, F2, fr2, HK⟩ := put_dir (B := B) (X := { X with now := takeW X.now node blk }) (m := m.set pl blk) (pl := pl) (k := 0) (name := name) (target := target) hn W1 (fun i hi hu => by
            by_cases e : i = pl
            · subst e
              rw [hat]; show wsOk (blkW (takeW X.now node blk) blk) i = true
              rw [hnew]; exact (ws_zero i).1
            · rw [hset, if_neg e] at hu ⊢
              show wsOk (blkW (takeW X.now node blk) (plc m i)) i = true
              rw [hold i hi e hu]; exact D.ok i hi hu) (by show (rawE (takeW X.now node blk) (m.set pl blk)).Perm l; rw [hents]; exact D.ents) D.str D.kind D.size q1 (by rw [hat]; omega) (by decide) (by show emptyB (blkW (takeW X.now node blk) _) 0 = true; rw [hat, hnew]; rfl) (by omega) hrt htr hpf (Y := _) rfl
        rw [hW]
        by_cases hfree : 1 ≤ freeN B { X with now := takeW X.now node blk } 96
        · right
          have K := keepP_room (B := B) (c := { c with size := c.size + 1 }) hn W2 (by rw [fr2]; exact hfree)
          obtain ⟨R1, R2⟩ := HK _ K
          exact ⟨trivial, K.e, hlt, _, R1, F1.trans R2 (w64_ne hn)⟩
        · rcases keepP_plain (B := B) (c := { c with size := c.size + 1 }) hn W2 with ⟨p9, _⟩ | K
          · left
            exact ⟨trivial, p9, .inr (by omega)⟩
          · right
            obtain ⟨R1, R2⟩ := HK _ K
            exact ⟨trivial, K.e, hlt, _, R1, F1.trans R2 (w64_ne hn)⟩
      · left
        simp only [e9]
        refine ⟨trivial, rfl, .inr ?_⟩
        rcases Nat.lt_or_ge (freeN B X 96) 1 with h | h
        · omega
        · exact absurd kf (freeN_pos h)
end Go.Proofs.YtdfgkdoplagelaaGreatDoor
/-
  Layer 11's plain law: a name less.
-/
set_option linter.all false
set_option maxRecDepth 100000
set_option maxHeartbeats 2000000
namespace Go.Proofs.YtdfgkdoplagelaaGreatDoor
open Go Go.Eng

/-- the document's answer: a name less -/
def refDrop (l : List Ent) (name : List UInt8) : List Ent × Int × Int :=
  if plT l name = true then (l.eraseIdx (plK l name), (l[plK l name]?.getD ⟨[], 0⟩).node, 0) else ([], 0, 4)

theorem plT_at {l : List Ent} {name : List UInt8} (h : plT l name = true) : ∃ hk : plK l name < l.length, (l[plK l name]'hk).name = name := by
  unfold plT at h
  cases he : l[plK l name]? with
  | none => rw [he] at h; cases h
  | some e =>
    rw [he] at h
    obtain ⟨hk, hh⟩ := List.getElem?_eq_some_iff.1 he
    exact ⟨hk, by rw [hh]; simpa using h⟩

theorem strict_one {l : List Ent} (hs : strict l) {x y : Ent} (hx : x ∈ l) (hy : y ∈ l) (e : x.name = y.name) : x = y := by
  obtain ⟨i, hi, rfl⟩ := List.mem_iff_getElem.1 hx
  obtain ⟨j, hj, rfl⟩ := List.mem_iff_getElem.1 hy
  rcases Nat.lt_trichotomy i j with h | h | h
  · have := List.pairwise_iff_getElem.1 hs i j hi hj h
    rw [e, blt_irr] at this; cases this
  · subst h; rfl
  · have := List.pairwise_iff_getElem.1 hs j i hj hi h
    rw [e, blt_irr] at this; cases this

theorem findR_at {l : List Ent} {name : List UInt8} (hs : strict l) (h : plT l name = true) : (findR l name).1 = (l[plK l name]?.getD ⟨[], 0⟩).node := by
  obtain ⟨hk, hn⟩ := plT_at h
  rw [← find_place hs] at h
  unfold findR at h ⊢
  cases hf : findE l name with
  | none => rw [hf] at h; cases h
  | some e =>
    unfold findE at hf
    have h1 : e.name = name := by simpa using List.find?_some hf
    have h2 := List.mem_of_find?_eq_some hf
    rw [List.getElem?_eq_getElem hk]
    show e.node = (l[plK l name]'hk).node
    rw [strict_one hs h2 (List.getElem_mem hk) (by rw [h1, hn])]

theorem isB_good {name : List UInt8} {ws : List UInt64} {k : Nat} (h : isB name ws k = true) : entN ws k = name ∧ emptyB ws k = false := by
  unfold isB entB at h
  simp only [Bool.and_eq_true, decide_eq_true_eq] at h
  refine ⟨h.2, ?_⟩
  have h1 := h.1.2.2.2.1
  unfold emptyB
  rw [decide_eq_false (fun e => by rw [e] at h1; simp at h1)]
  rfl

theorem spot_there {now : Int → UInt64} {node : Int} {c : Crd} {m : List Int} {l : List Ent} (D : DirI now node c m l) {name : List UInt8} (h : plT l name = true) :
    ∃ pl k, spotF (wordsAt now m) m (isB name) 4 (bucketL name) = some (pl, k) ∧ pl < 21 ∧ plc m pl ≠ -1 ∧ k < 5 ∧ emptyB (blkW now (plc m pl)) k = false ∧ entE (blkW now (plc m pl)) k = l[plK l name]?.getD ⟨[], 0⟩ := by
  have hbk := bucketL_lt name
  obtain ⟨hk, hn⟩ := plT_at h
  have hm : l[plK l name] ∈ rawE now m := D.ents.mem_iff.2 (List.getElem_mem hk)
  cases hs : spotF (wordsAt now m) m (isB name) 4 (bucketL name) with
  | some q =>
    obtain ⟨pl, k⟩ := q
    obtain ⟨q1, q2, q3, q4, q5⟩ := spotF_is hs
    simp only at q1 q2 q3 q4 q5
    rw [wordsAt_nat] at q4
    obtain ⟨g1, g2⟩ := isB_good q4
    refine ⟨pl, k, rfl, q1, q2, q3, g2, ?_⟩
    rw [List.getElem?_eq_getElem hk]
    refine strict_one D.str (D.ents.mem_iff.1 ?_) (List.getElem_mem hk) (g1.trans hn.symm)
    unfold rawE
    rw [List.mem_flatMap]
    refine ⟨pl, by simpa using q1, ?_⟩
    rw [placeE_ws q2]
    unfold wsE
    rw [List.mem_flatMap]
    refine ⟨k, by simpa using q3, ?_⟩
    unfold slotE
    rw [if_neg (by rw [g2]; decide)]
    simp
  | none =>
    exfalso
    unfold rawE at hm
    rw [List.mem_flatMap] at hm
    obtain ⟨i, hi, he⟩ := hm
    have hi : i < 21 := by simpa using hi
    have hu : plc m i ≠ -1 := fun e => by rw [placeE_hole e] at he; cases he
    rw [placeE_ws hu] at he
    unfold wsE at he
    rw [List.mem_flatMap] at he
    obtain ⟨k, hk5, hse⟩ := he
    have hk5 : k < 5 := by simpa using hk5
    have ho := D.ok i hi hu
    unfold wsOk at ho
    simp only [Bool.and_eq_true] at ho
    have hso := List.all_eq_true.1 ho.2 k (by simpa using hk5)
    unfold slotE at hse
    by_cases hem : emptyB (blkW now (plc m i)) k = true
    · rw [if_pos hem] at hse; cases hse
    rw [if_neg hem, List.mem_singleton] at hse
    unfold slotOk at hso
    have hem2 : emptyB (blkW now (plc m i)) k = false := by simpa using hem
    rw [hem2, Bool.false_or] at hso
    have hnm : entN (blkW now (plc m i)) k = name := by rw [← hn, hse]; rfl
    have hb : bucketL name = i % 8 := by
      have := hso
      unfold entB at this
      simp only [Bool.and_eq_true, decide_eq_true_eq] at this
      rw [← hnm]; exact this.2.2.1
    have hj := spotF_none hs (i / 8) (by omega) (by omega)
    have e : bucketL name + 8 * (i / 8) = i := by omega
    rw [e, wordsAt_nat] at hj
    have := firstK_none (hj.resolve_left hu) k (Nat.zero_le _) (by omega)
    have hib : isB name (blkW now (plc m i)) k = true := by
      unfold isB
      rw [decide_eq_true hnm, Bool.and_true]
      unfold entB at hso ⊢
      rw [hb, Nat.mod_mod]; exact hso
    rw [hib] at this
    cases this

theorem strike_dir {node : Int} (hn : 0 ≤ node ∧ node < 24) {now : Int → UInt64} {c : Crd} {m : List Int} {l : List Ent} (D : DirI now node c m l) {name : List UInt8} (ht : plT l name = true) {pl k : Nat}
    (hpl : pl < 21) (hpu : plc m pl ≠ -1) (hk : k < 5) (he : emptyB (blkW now (plc m pl)) k = false) (hee : entE (blkW now (plc m pl)) k = l[plK l name]?.getD ⟨[], 0⟩) :
    DirI (putBlk now (plc m pl) (setSlot (blkW now (plc m pl)) k [0, 0, 0])) node { c with size := c.size - 1 } m (l.eraseIdx (plK l name)) ∧ Fr node now (putBlk now (plc m pl) (setSlot (blkW now (plc m pl)) k [0, 0, 0])) := by
  obtain ⟨hkl, hnm⟩ := plT_at ht
  have hlen := blkW_len now (plc m pl)
  have hsl : (setSlot (blkW now (plc m pl)) k [0, 0, 0]).length = 16 := by
    unfold setSlot
    simp [hlen]; omega
  obtain ⟨W2, F2, b1, b2⟩ := D.wk.putW hpl hpu hsl
  have hp := ws_strike (place := pl) hlen hk (D.ok pl hpl hpu) he
  have hml := D.wk.len
  have hxm : plc m pl ∈ m := by
    unfold plc
    rw [List.getElem?_eq_getElem (by omega)]
    exact List.getElem_mem _
  refine ⟨⟨?_, W2, D.kind, ?_, fun i hi hu => ?_, ?_, ?_, D.mor⟩, F2⟩
  · have hm := D.map
    unfold mapOf at hm ⊢
    by_cases e : c.more = -1
    · rw [if_pos e] at hm ⊢; exact hm
    · rw [if_neg e] at hm ⊢
      have e2 : moreL (putBlk now (plc m pl) (setSlot (blkW now (plc m pl)) k [0, 0, 0])) c.more = moreL now c.more := more_put_ne (by omega) (D.wk.ne_more hxm hpu)
      simp only [e2]
      exact hm
  · show c.size - 1 = _
    rw [D.size, List.length_eraseIdx_of_lt hkl]
    omega
  · by_cases e : i = pl
    · subst e; rw [b1]; exact hp.1
    · rw [b2 i hi e hu]; exact D.ok i hi hu
  · have p := rawE_one (f := now) (g := putBlk now (plc m pl) (setSlot (blkW now (plc m pl)) k [0, 0, 0])) (m := m) (m' := m) hpl fun j hj hne => by
      by_cases e : plc m j = -1
      · rw [placeE_hole e, placeE_hole e]
      · rw [placeE_ws e, placeE_ws e, b2 j hj hne e]
    rw [placeE_ws hpu, placeE_ws hpu, b1] at p
    have hE : entE (blkW now (plc m pl)) k = l[plK l name] := by rw [hee, List.getElem?_eq_getElem hkl]; rfl
    have hq := hp.2
    rw [hE] at hq
    have pl1 : (l[plK l name] :: l.eraseIdx (plK l name)).Perm l := by
      rw [List.eraseIdx_eq_take_drop_succ]
      refine List.perm_middle.symm.trans ?_
      rw [List.getElem_cons_drop, List.take_append_drop]
    -- raw' ++ old ~ raw ++ new ~ l ++ new ~ (x :: erase) ++ new ~ erase ++ old
    have s1 : (rawE (putBlk now (plc m pl) (setSlot (blkW now (plc m pl)) k [0, 0, 0])) m ++ wsE (blkW now (plc m pl))).Perm (l.eraseIdx (plK l name) ++ wsE (blkW now (plc m pl))) := by
      refine p.symm.trans ?_
      refine (List.Perm.append_right _ (D.ents.trans pl1.symm)).trans ?_
      rw [List.cons_append]
      refine List.perm_middle.symm.trans ?_
      exact List.Perm.append_left _ hq
    exact (List.perm_append_right_iff _).1 s1
  · exact List.Pairwise.sublist (List.eraseIdx_sublist _ _) D.str
end Go.Proofs.YtdfgkdoplagelaaGreatDoor
/-
  Layer 11: a directory with a name less.
-/
set_option linter.all false
set_option maxRecDepth 100000
set_option maxHeartbeats 1000000
namespace Go.Proofs.YtdfgkdoplagelaaGreatDoor
open Go Go.Eng

end Go.Proofs.YtdfgkdoplagelaaGreatDoor
/-
  Layer 11's document: Hash, Bucket, Room; names added, dropped, compared.
-/
set_option linter.all false
set_option maxRecDepth 100000
set_option maxHeartbeats 1000000
namespace Go.Proofs.YtdfgkdoplagelaaGreatDoor
open Go Go.Eng

/-! ### Lists of entries -/

theorem ents_cells {h : Heap} {b o m xc : Nat} {l : List Ent} (S : Sl h (some ⟨b, o, none⟩) m xc l) : ∀ j, j < (entC l).length → Heap.cell? h b (o + j) = (entC l)[j]? := by
  intro j hj
  have hl := entC_len l
  obtain ⟨b', o', hb, cs, ⟨rfl, _⟩, hc⟩ := S.at_ (j / 2) (by omega)
  cases hb
  have := hc (j % 2) (by simp [Ent.cells]; omega)
  rw [entC_get l j (by omega), ← this]
  congr 1
  show _ = o + j / 2 * 2 + j % 2
  omega

theorem ents_app {h : Heap} {a : Option Addr} {n c : Nat} {l1 l2 : List Ent} (O : Own h 75 2 a n c (entC l1)) {x : Option Addr} {m xc : Nat} (S : Sl h x m xc l2) (hb : n + m ≤ 100000) {bs : List Nat} (hbs : ∀ b ∈ blkA a, b ∉ bs) {ty : TypeId} {K : Value → Heap → Prop}
    (H : ∀ a' c' h', Own h' 75 2 a' (n + m) c' (entC (l1 ++ l2)) → Keeps (blkA a) h h' → (∀ b ∈ blkA a', b ∈ blkA a ∨ h.size ≤ b) → K (.slice a' (n + m) c') h') :
    SemR Tryz.prog (Builtin.append_ #[46, 46] ty ⟨[.slice a n c, .slice x m xc]⟩) bs h K := by
  have hm := S.hlen
  rcases Nat.eq_zero_or_pos m with h0 | h0
  · subst h0
    have : l2 = [] := List.eq_nil_of_length_eq_zero hm.symm
    subst this
    have hnc : n ≤ c := by
      rcases O with ⟨_, rfl, rfl, _⟩ | ⟨b, cs, _, _, _, _, _, h2⟩
      · exact Nat.le_refl _
      · exact h2
    refine SemR.append0 rfl rfl rfl hnc ?_
    have := H a c h (by rw [List.append_nil]; exact O) (Keeps.refl _ _) (fun b hb => .inl hb)
    exact this
  · obtain ⟨b, o, rfl⟩ := S.nonnil h0
    refine append_own (e := 75) (sz := 2) (by_ := 24) (new := entC l2) rfl rfl rfl rfl rfl rfl rfl O (by rw [entC_len]; omega) (ents_cells S) (allOne_ent l2) (by omega) (by omega) hbs ?_
    intro a' c' h5 O5 k5 n5
    exact H a' c' h5 (by rw [show entC (l1 ++ l2) = entC l1 ++ entC l2 from List.flatMap_append]; exact O5) k5 n5

theorem own_nil (h : Heap) : Own h 75 2 none 0 0 (entC []) := .inl ⟨rfl, rfl, rfl, rfl⟩

theorem refAdd_spec {h : Heap} {a : Option Addr} {n c : Nat} {l : List Ent} (S : Sl h a n c l) (hn : n ≤ 10000) (name : List UInt8) (hnl : name.length ≤ 140737488351232) (target : Int) (ht : inI64 target) (hok : ∀ e ∈ l, e.ok) :
    CallH Tryz.prog 32 [.slice a n c, .string ⟨name.toArray⟩, .int .i64 target] h (fun v h' => Keeps [] h h' ∧ ∃ a' c', v = .tuple #[.slice a' (refAdd l name target).1.length c', .int .i64 (refAdd l name target).2] ∧ Own h' 75 2 a' (refAdd l name target).1.length c' (entC (refAdd l name target).1) ∧ (∀ b ∈ blkA a', h.size ≤ b)) := by
  have hl := S.hlen
  have hcap := S.hcap
  unfold refAdd
  refine call_of hmix Tryz.func32 rfl ok32 (by simp [Tryz.f32]) ?_
  conv => whnf
  refine IfR.i (fun hd => ?_) (fun hd => ?_)
  · have h1 : target < 1 ∨ 24 ≤ target := by simp [bif_or] at hd; omega
    conv => whnf
    rw [if_pos h1]
    exact ⟨Keeps.refl _ _, none, 0, rfl, own_nil h, by simp [blkA]⟩
  have h1 : ¬ (target < 1 ∨ 24 ≤ target) := by simp [bif_or] at hd; omega
  rw [if_neg h1]
  conv => whnf
  refine CallR.i (refRight_spec name hnl h) fun v h1 k1 hv => ?_
  subst hv
  conv => whnf
  refine IfR.i (fun hr => ?_) (fun hr => ?_)
  · have h2 : nameB name = false := by simpa using hr
    conv => whnf
    rw [if_pos h2]
    exact ⟨k1, none, 0, rfl, own_nil h1, by simp [blkA]⟩
  have h2 : ¬ nameB name = false := by simpa using hr
  rw [if_neg h2]
  conv => whnf
  refine CallR.i (place_spec (S.keep k1) (by omega) name hnl) fun v h2 k2 hv => ?_
  subst hv
  have k02 := k1.trans k2
  conv => whnf
  refine IfR.i (fun hp => ?_) (fun hp => ?_)
  · conv => whnf
    rw [if_pos hp]
    exact ⟨k02, none, 0, rfl, own_nil h2, by simp [blkA]⟩
  rw [if_neg (by rw [hp]; decide)]
  have hkl := plK_le l name
  conv => whnf
  refine SliceR.i 0 (plK l name) rfl rfl (Nat.zero_le _) (by omega) ?_
  conv => whnf
  refine SliceR.i (plK l name) n rfl rfl (by omega) (by omega) ?_
  have P1 := (S.keep k02).part (l := 0) (r := plK l name) (Nat.zero_le _) (by omega)
  rw [List.drop_zero] at P1
  have P2 := (S.keep k02).part (l := plK l name) (r := n) (by omega) (Nat.le_refl _)
  rw [List.take_of_length_le (by omega : l.length ≤ n)] at P2
  have one : ∀ {hx : Heap} {b : Nat}, hx[b]? = some (.cells ⟨cellsOf (.agg ⟨[.string ⟨name.toArray⟩, .int .i64 target]⟩)⟩ 75 (0, 0)) → Sl hx (some ⟨b, 0, none⟩) 1 1 [(⟨name, target⟩ : Ent)] := by
    intro hx b o
    refine ⟨rfl, Nat.le_refl _, by simp, fun i hi => ?_⟩
    have : i = 0 := by simpa using hi
    subst this
    refine ⟨b, 0, rfl, Ent.cells ⟨name, target⟩, ⟨rfl, hnl, ht⟩, fun j hj => ?_⟩
    · unfold Heap.cell?
      rw [o]
      have : j = 0 ∨ j = 1 := by simp [Ent.cells] at hj; omega
      rcases this with rfl | rfl <;> rfl
  conv => whnf
  refine BothR.i ?c1 ?c2
  case' c1 =>
    conv => whnf
    refine ents_app (own_nil h2) P1 (by omega) (by simp [blkA]) fun a5 c5 h5 O5 k5 n5 => ?_
    have k25 : Keeps [] h2 h5 := k5.mono (by simp [blkA])
    rw [List.nil_append] at O5
    conv => whnf
    refine AllocR.i fun b6 h6 e6 s6 o6 k6 => ?_
    have O6 := O5.keep k6 (by simp)
    have S6 := one o6
    have k26 := k25.trans k6
    have z5 := k25.size
    have hb6 : h2.size ≤ b6 := by omega
    have n6 : ∀ b ∈ blkA a5, h2.size ≤ b := fun b hb => by
      rcases n5 b hb with h | h
      · simp [blkA] at h
      · exact h
  case' c2 =>
    conv => whnf
    refine AllocR.i fun b6 h5 e6 s5 o5 k5 => ?_
    conv => whnf
    refine ents_app (own_nil h5) (P1.keep k5) (by omega) (by simp [blkA]) fun a5 c5 h6 O6 k6 n5 => ?_
    have k56 : Keeps [] h5 h6 := k6.mono (by simp [blkA])
    rw [List.nil_append] at O6
    have S6 := (one o5).keep k56
    have k26 := k5.trans k56
    have z5 := k5.size
    have hb6 : h2.size ≤ b6 := by omega
    have n6 : ∀ b ∈ blkA a5, h2.size ≤ b := fun b hb => by
      rcases n5 b hb with h | h
      · simp [blkA] at h
      · omega
  all_goals
    conv => whnf
    refine ents_app O6 S6 (by omega) (by simp [blocksOf]) fun a7 c7 h7 O7 k7 n7 => ?_
    have z7 := k7.size
    have z6 := k26.size
    have n7' : ∀ b ∈ blkA a7, h2.size ≤ b := fun b hb => by
      rcases n7 b hb with h | h
      · exact n6 b h
      · omega
    have k27 : Keeps [] h2 h7 := k26.nil_of k7 (fun b hb => n6 b hb)
    conv => whnf
    refine ents_app O7 (P2.keep k27) (by omega) (by simp [blocksOf]) fun a8 c8 h8 O8 k8 n8 => ?_
    have k28 : Keeps [] h2 h8 := k27.nil_of k8 (fun b hb => n7' b hb)
    conv => whnf
    have hlen : (insL l ⟨name, target⟩).length = 0 + (plK l name - 0) + 1 + (n - plK l name) := by
      rw [(insL_perm l _).length_eq, List.length_cons]; omega
    refine ⟨k02.trans k28, a8, c8, ?_, ?_, fun b hb => ?_⟩
    · simp only; rw [hlen]
    · simp only; rw [hlen]
      have : List.take (plK l name) l ++ [(⟨name, target⟩ : Ent)] ++ List.drop (plK l name) l = insL l ⟨name, target⟩ := by unfold insL; simp
      rw [← this]; exact O8
    · have z02 := k02.size
      rcases n8 b hb with h | h
      · have := n7' b h; omega
      · have := k27.size; omega

theorem eqT_ent (x y : Ent) : eqT Tryz.prog 10000 75 (.agg ⟨x.cells⟩) (.agg ⟨y.cells⟩) = some (decide (x = y)) := by
  have h : eqT Tryz.prog 10000 75 (.agg ⟨x.cells⟩) (.agg ⟨y.cells⟩) = some (((⟨x.name.toArray⟩ : ByteArray).toList == (⟨y.name.toArray⟩ : ByteArray).toList) && ((x.node == y.node) && true)) := by kernel_rfl
  rw [h]
  congr 1
  rw [bs_eq, Bool.eq_iff_iff]
  obtain ⟨a, b⟩ := x
  obtain ⟨c, d⟩ := y
  simp

theorem PureR.neAgg {P : Program} {c : Option Bool} {t : TypeId} {x y : Operand} {xs ys : List Value} {r : Bool} {K : Value → Prop} (hm : P.eqGuardType P.depth t = false) (he : eqT P 10000 t (.agg ⟨xs⟩) (.agg ⟨ys⟩) = some r) (hK : K (.bool (!r))) :
    PureR c P (do eqGuard .neq t x y (.agg ⟨xs⟩) (.agg ⟨ys⟩); binOp .neq t (.agg ⟨xs⟩) (.agg ⟨ys⟩) : Sem Value) K := by
  refine PureR.i (fun w => ?_) hK
  rw [Sem.run_bind, run_eqGuard_agg _ _ _ _ _ _ _ hm]
  simp only [Result.andThen_ok]
  rw [run_neq_struct, eqT_run _ _ _ _ _ w he]
  rfl

end Go.Proofs.YtdfgkdoplagelaaGreatDoor
/-
  Layer 11's laws: how many stand in a bucket; a step's end; a directory is whole.
-/
set_option linter.all false
set_option maxRecDepth 100000
set_option maxHeartbeats 1000000
namespace Go.Proofs.YtdfgkdoplagelaaGreatDoor
open Go Go.Eng

theorem had_take (l : List Ent) (name : List UInt8) (i : Nat) (hi : i < l.length) : hadL (l.take (i + 1)) name = hadL (l.take i) name + (if bucketL l[i].name = bucketL name then 1 else 0) := by
  unfold hadL
  rw [List.take_succ_eq_append_getElem hi, List.filter_append, List.length_append]
  congr 1
  by_cases h : bucketL l[i].name = bucketL name <;> simp [h]
theorem had_le (l : List Ent) (name : List UInt8) : hadL l name ≤ l.length := List.length_filter_le _ _

end Go.Proofs.YtdfgkdoplagelaaGreatDoor
/-
  Layer 11's laws: a step of a script over a directory.
-/
set_option linter.all false
set_option maxRecDepth 100000
set_option maxHeartbeats 1000000
namespace Go.Proofs.YtdfgkdoplagelaaGreatDoor
open Go Go.Eng

def entSays (x : Ent) (l l' : List Ent) : Prop := (1 ≤ x.node → l' = l ∨ (plT l x.name = false ∧ l' = insL l x)) ∧ (x.node < 1 → l' = if plT l x.name = true then l.eraseIdx (plK l x.name) else l)

theorem bookC_left {V V' : VL} (hv : V'.v = V.v) (hm : V'.mem = V.mem) {node : Int} {c : Crd} {a : Option Addr} {n cc : Nat} : bookC V' node c a n cc = bookC V node c a n cc := by
  unfold bookC
  rw [hv, hm]

/-! ### What was freed stays told -/

def SameAw (X Y : VS) : Prop := Y.away = X.away ∧ Y.awayN = X.awayN
theorem takeP_aw (B : Int → UInt64) (X : VS) (node : Int) : SameAw X (takeP B X node).2.2 := by
  unfold takeP
  split
  · split <;> exact ⟨rfl, rfl⟩
  · exact ⟨rfl, rfl⟩
theorem dropP_aw (X : VS) (k : Int) : SameAw X (dropP X k).2 := by
  unfold dropP
  split
  · split <;> exact ⟨rfl, rfl⟩
  · exact ⟨rfl, rfl⟩
theorem keepP_aw (B : Int → UInt64) (X : VS) (node : Int) (c : Crd) (m : List Int) : SameAw X (keepP B X node c m).2.2 := by
  have ht := takeP_aw B X node
  have hd := dropP_aw X c.more
  unfold keepP
  split
  · split
    · split
      · exact ⟨rfl, rfl⟩
      · split
        · exact hd
        · exact hd
    · by_cases hm : c.more = -1
      · simp only [if_pos hm]
        split
        · simp only
          split <;> exact ht
        · exact ht
      · simp only [if_neg hm, if_true]
        split <;> exact ⟨rfl, rfl⟩
  · exact ⟨rfl, rfl⟩

theorem firstR_aw (B : Int → UInt64) (X : VS) (node : Int) (m : List Int) (W : Int → List UInt64) (bk : Nat) : SameAw X (firstR B X node m W bk).X := by
  unfold firstR
  split
  · exact ⟨rfl, rfl⟩
  · unfold growP
    split
    · exact ⟨rfl, rfl⟩
    · split <;> exact takeP_aw B X node
theorem addP_aw (B : Int → UInt64) (X : VS) (node : Int) (c : Crd) (name : List UInt8) (target : Int) : SameAw X (addP B X node c name target).2.2 := by
  unfold addP
  split
  · exact ⟨rfl, rfl⟩
  · split
    · exact ⟨rfl, rfl⟩
    · split
      · exact ⟨rfl, rfl⟩
      · split
        · exact ⟨rfl, rfl⟩
        · have h1 := firstR_aw B X node (openP X.now c).2.1 (wordsAt X.now (openP X.now c).2.1) (bucketL name)
          simp only
          split
          · exact h1
          · exact ⟨(keepP_aw B _ node _ _).1.trans h1.1, (keepP_aw B _ node _ _).2.trans h1.2⟩

end Go.Proofs.YtdfgkdoplagelaaGreatDoor
/-
  Layer 11's law: a directory behind adds and drops, in whatever row.
-/
set_option linter.all false
set_option maxRecDepth 100000
set_option maxHeartbeats 1000000
namespace Go.Proofs.YtdfgkdoplagelaaGreatDoor
open Go Go.Eng

section
variable {H : Type} {enc : TypeId × Value → H} {W : World} {sp : Nat → Bool} {held : Bool}
theorem opens_ent : Opens enc Tryz.prog W sp held 75 Ent := by
  intro fuel cs x h hw
  obtain ⟨hl, f', hp⟩ := trod_parts Tryz.underlying75 h hw
  obtain ⟨a, b, rfl⟩ : ∃ a b, cs = [a, b] := by
    match cs, hl with
    | [a, b], _ => exact ⟨a, b, rfl⟩
  obtain ⟨y0, h0, w0⟩ := hp _ (List.mem_cons_self)
  obtain ⟨y1, h1, w1⟩ := hp _ (List.mem_cons_of_mem _ List.mem_cons_self)
  obtain ⟨s, e0, g0⟩ := opens_string (W := W) Tryz.underlying9 f' _ _ h0 w0
  obtain ⟨n, e1, g1⟩ := opens_int (W := W) Tryz.underlying3 f' _ _ h1 w1
  cases e0; cases e1
  obtain ⟨l, rfl⟩ : ∃ l : List UInt8, s = ⟨l.toArray⟩ := ⟨s.data.toList, rfl⟩
  exact ⟨⟨l, n⟩, rfl, by have := g0; unfold okStr at this; rwa [bs_size] at this, g1⟩
theorem opens_ents : Opens enc Tryz.prog W sp held 46 (List Ent) := opens_slice Tryz.underlying46 (by kernel_rfl) (by decide) (of_decide_eq_true (by kernel_rfl)) opens_ent
end

def mNo : List Int := List.replicate 21 (-1)
theorem mNo_at (i : Nat) : plc mNo i = -1 := by
  unfold plc mNo
  rw [List.getElem?_replicate]
  split <;> rfl
theorem b0_own {x : Int} (h0 : 0 ≤ x) (h1 : x < 96) : M0.read (200 + x) = 0 := by
  rw [read_img0]
  unfold b0
  rw [if_pos (by omega), if_neg (by omega), if_neg (by omega)]

/-- a new directory -/
theorem fresh_dir {now : Int → UInt64} {node : Int} (h : ∀ x, 0 ≤ x → x < 96 → now (200 + x) ≠ w64 (node + 1)) : DirI now node (freshC 2 1) mNo [] := by
  have hu : usedL (freshC 2 1).more mNo = [] := by decide
  refine ⟨rfl, ⟨rfl, ?_, by rw [hu]; exact List.nodup_nil, fun x x0 x1 => by rw [hu]; exact ⟨fun h => (nomatch h), fun e => absurd e (h x x0 x1)⟩⟩, ⟨rfl, rfl⟩, rfl, fun i hi hu => absurd (mNo_at i) hu, ?_, List.Pairwise.nil, by decide⟩
  · intro x hx
    left
    have : x ∈ List.replicate 22 (-1 : Int) := hx
    exact (List.mem_replicate.1 this).2
  · have : rawE now mNo = [] := by
      unfold rawE
      rw [List.flatMap_eq_nil_iff]
      intro i _
      exact placeE_hole (mNo_at i)
    rw [this]

theorem _root_.Go.Eng.Sl.ltE {h : Heap} {a : Option Addr} {n c : Nat} {xs : List Ent} (S : Sl h a n c xs) (hn : 0 < n) : ∀ b ∈ blkA a, b < h.size := by
  have hl := S.hlen
  obtain ⟨b, o, hb, cs, ⟨rfl, _⟩, hc⟩ := S.at_ 0 (by omega)
  intro x hx
  rw [hb] at hx
  simp [blkA] at hx
  subst hx
  exact cell_lt (hc 0 (by simp [Ent.cells]))

section
variable {h0 h h' : Heap} {F : List Nat} {f : Nat} {node : Int} {V : VL} {M : MemS} {c : Crd} {m : List Int} {l : List Ent}
end

theorem dir_find {now : Int → UInt64} {node : Int} {c : Crd} {m : List Int} {l : List Ent} (D : DirI now node c m l) (name : List UInt8) : findP now c name = ((findR l name).1, plT l name, 0) := by
  unfold findP
  rw [D.open_, if_pos rfl]
  simp only
  rw [find_place D.str]

end Go.Proofs.YtdfgkdoplagelaaGreatDoor
