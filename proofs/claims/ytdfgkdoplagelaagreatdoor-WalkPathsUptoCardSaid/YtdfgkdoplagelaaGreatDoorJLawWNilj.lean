/-
  Joined texts: FomE, WalD, FileH, FileJ, FileN, WalA, WalB, CrdA, WalE, WalF, WalG, EntA.
-/
import Derived.Test.YtdfgkdoplagelaaGreatDoorJLawWNili
import Derived.Test.YtdfgkdoplagelaaGreatDoorJLawWNilg
import Derived.Test.YtdfgkdoplagelaaGreatDoorJLawWNile
import Derived.Test.YtdfgkdoplagelaaGreatDoorJLawWNilf
import Derived.Test.YtdfgkdoplagelaaGreatDoorJLawWNilh
/-
  Layer 11's laws: two directories over one memory.
-/
set_option linter.all false
set_option maxRecDepth 100000
set_option maxHeartbeats 1000000
namespace Go.Proofs.YtdfgkdoplagelaaGreatDoor
open Go Go.Eng

theorem w64_inj' {a b : Int} (ha : 0 ≤ a ∧ a < 24) (hb : 0 ≤ b ∧ b < 24) (h : w64 (a + 1) = w64 (b + 1)) : a = b := by
  have h1 := w64_toNat (a + 1)
  have h2 := w64_toNat (b + 1)
  rw [h] at h1
  omega

/-- a directory of another node stays as it was -/
theorem DirI.other {now g : Int → UInt64} {x y : Int} (hx : 0 ≤ x ∧ x < 24) (hy : 0 ≤ y ∧ y < 24) (hne : x ≠ y) {c : Crd} {m : List Int} {l : List Ent} (D : DirI now y c m l) (R : Fr0 x now g) : DirI g y c m l := by
  have hxy : w64 (y + 1) ≠ w64 (x + 1) := fun e => hne (w64_inj' hx hy e.symm)
  have hy0 := w64_ne hy
  have key : ∀ k, 0 ≤ k → k < 96 → now (200 + k) = w64 (y + 1) → g (200 + k) = w64 (y + 1) ∧ rdL g (1288 + k * 16) 16 = rdL now (1288 + k * 16) 16 := by
    intro k h0 h1 h
    obtain ⟨p, q⟩ := R.oth k h0 h1 (by rw [h]; exact hxy)
    refine ⟨?_, q (by rw [h]; exact hy0)⟩
    rcases p with p | ⟨p, _⟩
    · rw [p, h]
    · exact absurd (h ▸ p) hy0
  have back : ∀ k, 0 ≤ k → k < 96 → g (200 + k) = w64 (y + 1) → now (200 + k) = w64 (y + 1) := by
    intro k h0 h1 h
    by_cases hm : now (200 + k) = w64 (x + 1)
    · rcases R.mine k h0 h1 hm with p | p
      · exact absurd (h.symm.trans p) hxy
      · exact absurd (h.symm.trans p) hy0
    · rcases (R.oth k h0 h1 hm).1 with p | ⟨_, p⟩
      · rw [← p, h]
      · exact absurd (h.symm.trans p) hxy
  have hown : ∀ k, k ∈ usedL c.more m → 0 ≤ k ∧ k < 96 ∧ now (200 + k) = w64 (y + 1) := by
    intro k hk
    obtain ⟨h1, h2⟩ := usedL_mem.1 hk
    have hb := D.wk.rng k (by rcases h1 with rfl | h1; exact List.mem_cons_self; exact List.mem_cons_of_mem _ h1)
    unfold blkOk at hb
    exact ⟨by omega, by omega, (D.wk.own k (by omega) (by omega)).1 hk⟩
  have hml := D.wk.len
  have hblk : ∀ i, i < 21 → plc m i ≠ -1 → blkW now (plc m i) = blkW g (plc m i) := by
    intro i hi hu
    have hm : plc m i ∈ m := by
      unfold plc
      rw [List.getElem?_eq_getElem (by omega)]
      exact List.getElem_mem _
    obtain ⟨k0, k1, ko⟩ := hown _ (usedL_mem.2 ⟨.inr hm, hu⟩)
    exact (key _ k0 k1 ko).2.symm
  refine ⟨?_, ⟨D.wk.len, D.wk.rng, D.wk.nod, fun k h0 h1 => ?_⟩, D.kind, D.size, fun i hi hu => ?_, ?_, D.str, D.mor⟩
  · have h := D.map
    unfold mapOf at h ⊢
    by_cases hm : c.more = -1
    · rw [if_pos hm] at h ⊢; exact h
    · obtain ⟨k0, k1, ko⟩ := hown c.more (usedL_mem.2 ⟨.inl rfl, hm⟩)
      have e : moreL g c.more = moreL now c.more := (key _ k0 k1 ko).2
      rw [e]; exact h
  · rw [D.wk.own k h0 h1]
    exact ⟨fun h => (key k h0 h1 h).1, back k h0 h1⟩
  · rw [← hblk i hi hu]; exact D.ok i hi hu
  · rw [← rawE_same hblk]; exact D.ents

theorem count_filter_range' (p : Nat → Bool) (l : List Int) (hn : l.Nodup) (h : ∀ k : Nat, k < 96 → (p k = true ↔ (k : Int) ∈ l)) (hl : ∀ x ∈ l, 0 ≤ x ∧ x < 96) : ((List.range 96).filter p).length = l.length := by
  have hp : (((List.range 96).filter p).map fun (k : Nat) => (k : Int)).Perm l := by
    rw [List.perm_ext_iff_of_nodup ?_ hn]
    · intro x
      simp only [List.mem_map, List.mem_filter, List.mem_range]
      constructor
      · rintro ⟨k, ⟨h1, h2⟩, rfl⟩; exact (h k h1).1 h2
      · intro hx
        have := hl x hx
        refine ⟨x.toNat, ⟨by omega, (h _ (by omega)).2 (by rwa [show ((x.toNat : Nat) : Int) = x by omega])⟩, by omega⟩
    · have : (((List.range 96).filter p).map fun (k : Nat) => (k : Int)).Pairwise (fun a b => a < b) := by
        rw [List.pairwise_map]
        exact (List.pairwise_lt_range.filter _).imp fun h => by simpa using h
      exact this.imp fun h e => by omega
  rw [← hp.length_eq, List.length_map]

theorem filter_three' {α : Type} (p q r : α → Bool) : ∀ l : List α, (∀ x ∈ l, (p x = true ∧ q x = false ∧ r x = false) ∨ (p x = false ∧ q x = true ∧ r x = false) ∨ (p x = false ∧ q x = false ∧ r x = true)) → (l.filter p).length + (l.filter q).length + (l.filter r).length = l.length
  | [], _ => rfl
  | x :: l, h => by
    have ih := filter_three' p q r l fun y hy => h y (List.mem_cons_of_mem _ hy)
    rcases h x List.mem_cons_self with ⟨a, b, c⟩ | ⟨a, b, c⟩ | ⟨a, b, c⟩ <;> simp only [List.filter_cons, a, b, c, List.length_cons, if_true] <;> simp <;> omega

/-- what is free beside two nodes' blocks -/
theorem free_two' {now : Int → UInt64} {x y : Int} (hx : 0 ≤ x ∧ x < 24) (hy : 0 ≤ y ∧ y < 24) (hne : x ≠ y) {p q : Int} {m n : List Int} (F : Wk now x p m) (G : Wk now y q n)
    (h : ∀ k, 0 ≤ k → k < 96 → now (200 + k) = 0 ∨ now (200 + k) = w64 (x + 1) ∨ now (200 + k) = w64 (y + 1)) :
    freeN now ⟨now, [], [], [], []⟩ 96 + (usedL p m).length + (usedL q n).length = 96 := by
  have hxy : w64 (y + 1) ≠ w64 (x + 1) := fun e => hne (w64_inj' hx hy e.symm)
  have hx0 := w64_ne hx
  have hy0 := w64_ne hy
  have rng : ∀ {z p : Int} {m : List Int}, Wk now z p m → ∀ k ∈ usedL p m, 0 ≤ k ∧ k < 96 := by
    intro z p m F k hk
    obtain ⟨h1, h2⟩ := usedL_mem.1 hk
    have hb := F.rng k (by rcases h1 with rfl | h1; exact List.mem_cons_self; exact List.mem_cons_of_mem _ h1)
    unfold blkOk at hb
    omega
  rw [← count_filter_range' (fun k => decide (now (200 + (k : Int)) = w64 (x + 1))) (usedL p m) F.nod (fun k hk => by rw [decide_eq_true_iff, F.own (k : Int) (by omega) (by omega)]) (rng F),
    ← count_filter_range' (fun k => decide (now (200 + (k : Int)) = w64 (y + 1))) (usedL q n) G.nod (fun k hk => by rw [decide_eq_true_iff, G.own (k : Int) (by omega) (by omega)]) (rng G)]
  unfold freeN
  have := filter_three' (fun (i : Nat) => freshB now ⟨now, [], [], [], []⟩ (i : Int)) (fun k => decide (now (200 + (k : Int)) = w64 (x + 1))) (fun k => decide (now (200 + (k : Int)) = w64 (y + 1))) (List.range 96) (fun k hk => by
    have hk' : k < 96 := by simpa using hk
    have hf : freshB now ⟨now, [], [], [], []⟩ (k : Int) = decide (now (200 + (k : Int)) = 0) := by
      unfold freshB
      rw [decide_eq_true (by omega : 0 ≤ (k : Int)), decide_eq_true (by omega : (k : Int) < 96)]
      simp
    rw [hf]
    rcases h (k : Int) (by omega) (by omega) with e | e | e
    · left; rw [e]; exact ⟨rfl, decide_eq_false fun z => hx0 z.symm, decide_eq_false fun z => hy0 z.symm⟩
    · right; left; rw [e]; exact ⟨decide_eq_false hx0, decide_eq_true rfl, decide_eq_false fun z => hxy z.symm⟩
    · right; right; rw [e]; exact ⟨decide_eq_false hy0, decide_eq_false hxy, decide_eq_true rfl⟩)
  simpa using this

section
variable {h0 h h' : Heap} {F : List Nat} {V : VL} {M : MemS} {f g : Nat} {x y : Int} {c d : Crd} {m n : List Int} {l t : List Ent}
end
end Go.Proofs.YtdfgkdoplagelaaGreatDoor
/-
  Plain laws: how many blocks are free behind a name more, and behind bytes that are written; a card keeps its kind.
-/
set_option linter.all false
set_option maxRecDepth 100000
set_option maxHeartbeats 2000000
namespace Go.Proofs.YtdfgkdoplagelaaGreatDoor
open Go Go.Eng

theorem take_fail {B : Int → UInt64} {X : VS} {node : Int} (h : (takeP B X node).2.1 ≠ 0) : (takeP B X node).2.2 = X := by
  unfold takeP at h ⊢
  split
  · rename_i hn
    rw [if_pos hn] at h
    split
    · rename_i k hk; rw [hk] at h; simp at h
    · rfl
  · rfl
theorem take_ok {B : Int → UInt64} {X : VS} {node : Int} (hn : 0 ≤ node ∧ node < 24) (h : 1 ≤ freeN B X 96) : (takeP B X node).2.1 = 0 := by
  unfold takeP
  rw [if_pos hn]
  cases hf : firstF B X 96 0 with
  | none => exact absurd hf (freeN_pos h)
  | some k => rfl

theorem count_le {p q : Nat → Bool} : ∀ {n : Nat}, (∀ j, j < n → p j = true → q j = true) → ((List.range n).filter p).length ≤ ((List.range n).filter q).length
  | 0, _ => by simp
  | n + 1, h => by
    rw [List.range_succ, List.filter_append, List.filter_append, List.length_append, List.length_append]
    have ih := count_le (n := n) fun j hj => h j (by omega)
    have : (([n].filter p).length ≤ ([n].filter q).length) := by
      have := h n (by omega)
      simp only [List.filter_cons, List.filter_nil]
      cases hp : p n with
      | false => simp
      | true => rw [this hp]; simp
    omega

theorem free_putA {B : Int → UInt64} {X : VS} {k : Int} {ws : List UInt64} (hk : k = -1 ∨ 0 ≤ k) (hw : ws.length ≤ 16) : freeN B { X with now := putBlk X.now k ws } 96 = freeN B X 96 := by
  unfold freeN
  congr 1
  refine List.filter_congr fun j hj => ?_
  have hj' : j < 96 := by simpa using hj
  unfold freshB
  have : (putBlk X.now k ws) (200 + (j : Int)) = X.now (200 + (j : Int)) := by
    unfold putBlk updL
    rw [fullB_len hw, if_neg (by omega)]
  simp only [this]

theorem take_x {B : Int → UInt64} {X : VS} {node : Int} : (takeP B X node).2.2 = { X with now := (takeP B X node).2.2.now } := by
  unfold takeP
  split
  · split <;> rfl
  · rfl
theorem take_cnt {B : Int → UInt64} {X : VS} {node : Int} (hn : 0 ≤ node ∧ node < 24) : freeN B X 96 ≤ freeN B (takeP B X node).2.2 96 + 1 := by
  by_cases h : (takeP B X node).2.1 = 0
  · rw [free_take hn h]; exact Nat.le_refl _
  · rw [take_fail h]; exact Nat.le_succ _

theorem free_keep {B : Int → UInt64} {node : Int} (hn : 0 ≤ node ∧ node < 24) {X : VS} {c : Crd} {m : List Int} : freeN B X 96 ≤ freeN B (keepP B X node c m).2.2 96 + 1 ∧ (keepP B X node c m).2.2 = { X with now := (keepP B X node c m).2.2.now } := by
  unfold keepP
  split
  · rename_i hc0
    have hl := hc0.2.1
    by_cases hd : (m.drop 5).any usedB = false
    · rw [if_pos hd]
      by_cases hc : c.more = -1
      · rw [if_pos hc]; exact ⟨Nat.le_succ _, rfl⟩
      · rw [if_neg hc]
        have hle : freeN B X 96 ≤ freeN B (dropP X c.more).2 96 ∧ (dropP X c.more).2 = { X with now := (dropP X c.more).2.now } := by
          unfold dropP
          split
          · split
            · exact ⟨Nat.le_refl _, rfl⟩
            · refine ⟨?_, rfl⟩
              unfold freeN
              refine count_le fun j hj hp => ?_
              unfold freshB at hp ⊢
              simp only [Bool.and_eq_true, decide_eq_true_eq] at hp ⊢
              refine ⟨hp.1, hp.2.1, ?_, hp.2.2.2⟩
              have := hp.2.2.1
              unfold upd
              split
              · rfl
              · exact this
          · exact ⟨Nat.le_refl _, rfl⟩
        split
        · exact ⟨by simp only; omega, hle.2⟩
        · exact ⟨by simp only; omega, hle.2⟩
    · rw [if_neg hd]
      by_cases hc : c.more = -1
      · rw [if_pos hc]
        simp only
        by_cases ht : (takeP B X node).2.1 = 0
        · rw [if_pos ht]
          have hr := takeP_rng ht
          have := free_take hn ht
          have hx : (takeP B X node).2.2 = { X with now := (takeP B X node).2.2.now } := take_x
          simp only
          rw [if_pos hr, freeN_put hr.1 (by simp [hl])]
          exact ⟨by omega, by rw [hx]⟩
        · rw [if_neg ht, take_fail ht]; exact ⟨Nat.le_succ _, rfl⟩
      · rw [if_neg hc]
        simp only [if_true]
        split
        · rename_i hk
          rw [freeN_put hk.1 (by simp [hl])]
          exact ⟨Nat.le_succ _, rfl⟩
        · exact ⟨Nat.le_succ _, rfl⟩
  · exact ⟨Nat.le_succ _, rfl⟩

/-- a name more takes two blocks at most -/
theorem addP_cnt {B : Int → UInt64} {X : VS} {node : Int} (hn : 0 ≤ node ∧ node < 24) {c : Crd} {m : List Int} {l : List Ent} (D : DirI X.now node c m l) (name : List UInt8) (target : Int) :
    freeN B X 96 ≤ freeN B (addP B X node c name target).2.2 96 + 2 ∧ (addP B X node c name target).2.2 = { X with now := (addP B X node c name target).2.2.now } := by
  have R := D.wk.rngP
  unfold addP
  rw [D.open_]
  simp only [ne_eq, not_true_eq_false, if_false]
  split
  · exact ⟨Nat.le_add_right _ _, rfl⟩
  split
  · exact ⟨Nat.le_add_right _ _, rfl⟩
  split
  · exact ⟨Nat.le_add_right _ _, rfl⟩
  have fin : ∀ (Y : VS) (k : Int) (ws : List UInt64) (mm : List Int) (cc : Crd), (k = -1 ∨ 0 ≤ k) → ws.length ≤ 16 → freeN B X 96 ≤ freeN B Y 96 + 1 → Y = { X with now := Y.now } →
      freeN B X 96 ≤ freeN B (keepP B { Y with now := putBlk Y.now k ws } node cc mm).2.2 96 + 2 ∧ (keepP B { Y with now := putBlk Y.now k ws } node cc mm).2.2 = { X with now := (keepP B { Y with now := putBlk Y.now k ws } node cc mm).2.2.now } := by
    intro Y k ws mm cc hk hw hc hx
    have FK := free_keep (B := B) (X := { Y with now := putBlk Y.now k ws }) (c := cc) (m := mm) hn
    rw [free_putA hk hw] at FK
    refine ⟨by omega, ?_⟩
    have h2 := FK.2
    rw [hx] at h2 ⊢
    exact h2
  unfold firstR
  cases hs : spotF (wordsAt X.now m) m emptyB 4 (bucketL name) with
  | some q =>
    obtain ⟨pl, k⟩ := q
    simp only [not_true_eq_false, if_false, Int.toNat_natCast, wordsAt_nat]
    have hk0 := R.plc pl
    have q3 := (spotF_is hs).2.2.1
    refine fin X _ _ _ _ (by omega) ?_ (Nat.le_succ _) rfl
    have := setSlot_len (new := w64 target :: textL name 2) (blkW_len X.now (plc m pl)) q3 (by simp [textL_len])
    exact Nat.le_of_eq this
  | none =>
    simp only
    unfold growP
    cases hg : growF m 4 (bucketL name) with
    | none =>
      simp only
      exact ⟨Nat.le_add_right _ _, rfl⟩
    | some pl =>
      simp only
      by_cases e0 : (takeP B X node).2.1 = 0
      · rw [if_pos e0]
        simp only [not_true_eq_false, if_false, Int.toNat_natCast]
        have hr := takeP_rng e0
        have q1 := (growF_is hg).1
        have hl := R.1
        have hat : plc (m.set pl (takeP B X node).1) pl = (takeP B X node).1 := by rw [plc_set (by omega), if_pos rfl]
        refine fin (takeP B X node).2.2 _ _ _ _ (by rw [hat]; omega) ?_ (take_cnt hn) take_x
        have hw : (growW (wordsAt X.now m) pl (pl : Int)).length = 16 := by
          unfold growW
          rw [if_pos rfl]; simp
        have := setSlot_len (k := 0) (new := w64 target :: textL name 2) hw (by decide) (by simp [textL_len])
        exact Nat.le_of_eq this
      · rw [if_neg e0]
        simp only
        rw [if_pos e0]
        exact ⟨Nat.le_trans (take_cnt hn) (Nat.le_succ _), take_x⟩

theorem addP_err {B : Int → UInt64} {X : VS} {node : Int} (hn : 0 ≤ node ∧ node < 24) {c : Crd} {m : List Int} {l : List Ent} (D : DirI X.now node c m l) (name : List UInt8) (target : Int) (hf : 2 ≤ freeN B X 96) (he : (addP B X node c name target).2.1 ≠ 0) : (addP B X node c name target).2.2 = X := by
  by_cases hfull : spotF (wordsAt X.now m) m emptyB 4 (bucketL name) = none ∧ growF m 4 (bucketL name) = none
  · unfold addP
    rw [D.open_]
    simp only [ne_eq, not_true_eq_false, if_false]
    split
    · rfl
    split
    · rfl
    split
    · rfl
    unfold firstR growP
    rw [hfull.1, hfull.2]
    simp
  · have hlt : hadL l name < roomN (bucketL name) := by
      cases hs : spotF (wordsAt X.now m) m emptyB 4 (bucketL name) with
      | some q =>
        obtain ⟨pl, k⟩ := q
        obtain ⟨q1, q2, q3, q4, q5⟩ := spotF_is hs
        simp only at q1 q2 q3 q4 q5
        rw [wordsAt_nat] at q4
        have hbk := bucketL_lt name
        exact D.notfull name q1 (by omega) (by rw [placeE_ws q2]; exact slot_less q3 q4)
      | none =>
        cases hg : growF m 4 (bucketL name) with
        | none => exact absurd ⟨hs, hg⟩ hfull
        | some pl =>
          obtain ⟨q1, q2, q3, q4⟩ := growF_is hg
          have hbk := bucketL_lt name
          exact D.notfull name q1 (by omega) (by rw [placeE_hole q2]; simp)
    have AP := addP_plain (B := B) hn D name target
    have cases1 : (refAdd l name target).2 ≠ 0 → (addP B X node c name target).2.2 = X := by
      intro hr
      unfold refAdd at hr
      unfold addP
      rw [D.open_]
      simp only [ne_eq, not_true_eq_false, if_false]
      by_cases h1 : target < 1 ∨ 24 ≤ target
      · rw [if_pos (.inr h1)]
      rw [if_neg h1] at hr
      rw [if_neg (show ¬ (¬ (0 ≤ node ∧ node < 24) ∨ target < 1 ∨ 24 ≤ target) from fun h => h.elim (fun h => h hn) h1)]
      split
      · rfl
      · rename_i h3
        by_cases h2 : nameB name = false
        · rw [if_pos h2]
        · rw [if_neg h2] at hr
          rw [find_place D.str] at h3
          rw [if_neg h3] at hr
          simp at hr
    rcases AP with ⟨a1, a2, _⟩ | ⟨a1, a2, a3⟩ | ⟨a1, a2, _⟩
    · exact cases1 a2
    · omega
    · exact absurd a2 he

/-- a card keeps its kind, links, version -/
theorem keepP_same {B : Int → UInt64} {node : Int} {X : VS} {c : Crd} {m : List Int} (h : (keepP B X node c m).2.1 = 0) : (keepP B X node c m).1.kind = c.kind ∧ (keepP B X node c m).1.links = c.links ∧ (keepP B X node c m).1.ver = c.ver := by
  unfold keepP at h ⊢
  split at h
  · rename_i h0
    rw [if_pos h0]
    split at h
    · rename_i h1
      rw [if_pos h1]
      split at h
      · rename_i h2; rw [if_pos h2]; exact ⟨rfl, rfl, rfl⟩
      · rename_i h2
        rw [if_neg h2]
        split at h
        · rename_i h3; rw [if_pos h3]; exact ⟨rfl, rfl, rfl⟩
        · rename_i h3; exact absurd h h3
    · rename_i h1
      rw [if_neg h1]
      by_cases h2 : c.more = -1
      · rw [if_pos h2] at h ⊢
        simp only at h ⊢
        by_cases h3 : (takeP B X node).2.1 = 0
        · rw [if_pos h3]; exact ⟨rfl, rfl, rfl⟩
        · rw [if_neg h3] at h; exact absurd h h3
      · rw [if_neg h2]
        simp [setD]
  · simp at h
theorem addP_same {B : Int → UInt64} {X : VS} {node : Int} {c : Crd} {name : List UInt8} {target : Int} (h : (addP B X node c name target).2.1 = 0) : (addP B X node c name target).1.kind = c.kind ∧ (addP B X node c name target).1.links = c.links ∧ (addP B X node c name target).1.ver = c.ver := by
  unfold addP at h ⊢
  split at h
  · simp at h
  rename_i h1
  rw [if_neg h1]
  split at h
  · rename_i h2; exact absurd h h2
  rename_i h2
  rw [if_neg h2]
  split at h
  · simp at h
  rename_i h3
  rw [if_neg h3]
  split at h
  · simp at h
  rename_i h4
  rw [if_neg h4]
  simp only at h ⊢
  split at h
  · rename_i h5; exact absurd h h5
  rename_i h5
  rw [if_neg h5]
  exact keepP_same (c := { c with size := c.size + 1 }) h
theorem writeP_same {B : Int → UInt64} {X : VS} {node : Int} {c : Crd} {at_ : Int} {data : List UInt8} (h : (writeP B X node c at_ data).2.1 = 0) : (writeP B X node c at_ data).1.kind = c.kind ∧ (writeP B X node c at_ data).1.links = c.links ∧ (writeP B X node c at_ data).1.ver = c.ver := by
  unfold writeP at h ⊢
  split at h
  · simp at h
  rename_i h1
  rw [if_neg h1]
  split at h
  · rename_i h2
    rw [if_pos h2]
    split at h
    · simp at h
    · exact ⟨rfl, rfl, rfl⟩
  rename_i h2
  rw [if_neg h2]
  split at h
  · simp at h
  rename_i h3
  rw [if_neg h3]
  split at h
  · simp at h
  · rename_i m hm
    simp only at h ⊢
    split at h
    · rename_i h5
      rw [if_pos h5]
      exact keepP_same (c := { c with size := max c.size (at_ + data.length) }) h
    · rename_i h5; exact absurd h h5

/-- writing where there is room -/
theorem wStep_cnt {B : Int → UInt64} {node more : Int} (hn : 0 ≤ node ∧ node < 24) {X : VS} {m : List Int} (W : Wk X.now node more m) {a : Nat} {data : List UInt8} {i : Nat} (hi : i < 21) (h1 : 128 * i < a + data.length) (h2 : a < 128 * i + 128) (hf : 1 ≤ freeN B X 96) : freeN B X 96 ≤ freeN B (wStep B node a data i X m).2.1 96 + 1 := by
  have hl := W.len
  have e0 := take_ok (B := B) (X := X) hn hf
  unfold wStep
  have hbl : ∀ (now : Int → UInt64) (k : Int), (textL (wblk (bytesB now k) data a (a + data.length) (128 * i)) 16).length ≤ 16 := fun now k => by rw [textL_len]; exact Nat.le_refl _
  by_cases hm : m[i]?.getD 0 = -1
  · rw [if_pos hm]
    simp only [e0, if_true]
    have hr := takeP_rng e0
    have hat : (m.set i (takeP B X node).1)[i]?.getD 0 = (takeP B X node).1 := by simp [hl, hi]
    rw [hat, free_putA (.inr hr.1) (hbl _ _)]
    exact take_cnt hn
  · rw [if_neg hm]
    simp only [if_true]
    have hr := W.rngP.plc i
    have e : m[i]?.getD 0 = plc m i := getD_21 hl hi
    rw [e, free_putA (by omega) (hbl _ _)]
    exact Nat.le_succ _

theorem writeL_room {B : Int → UInt64} {node more : Int} (hn : 0 ≤ node ∧ node < 24) {a : Nat} {data : List UInt8} : ∀ (f i : Nat) (X : VS) (m : List Int), Wk X.now node more m → i + f ≤ 21 → (0 < f → 128 * (i + f - 1) < a + data.length) → a < 128 * i + 128 → f ≤ freeN B X 96 →
    (writeL B node a data f i X m).1 = 0 ∧ freeN B X 96 ≤ freeN B (writeL B node a data f i X m).2.1 96 + f ∧ Wk (writeL B node a data f i X m).2.1.now node more (writeL B node a data f i X m).2.2
  | 0, i, X, m, W, _, _, _, _ => ⟨rfl, Nat.le_refl _, W⟩
  | f + 1, i, X, m, W, hi, hd, ha, hf => by
    have hd' := hd (Nat.succ_pos _)
    have c := wStep_cnt (B := B) (data := data) hn W (a := a) (i := i) (by omega) (by omega) ha (by omega)
    rcases wStep_plain (B := B) hn W (a := a) (data := data) (i := i) (by omega) (by omega) ha with ⟨_, hno⟩ | S
    · exact absurd hno (freeN_pos (by omega))
    · unfold writeL
      rw [if_pos S.e]
      obtain ⟨r1, r2, r3⟩ := writeL_room (B := B) (a := a) (data := data) hn f (i + 1) _ _ S.wk (by omega) (fun _ => by omega) (by omega) (by omega)
      exact ⟨r1, by omega, r3⟩

theorem writeP_room {B : Int → UInt64} {node : Int} (hn : 0 ≤ node ∧ node < 24) {X : VS} {c : Crd} {m : List Int} {s : List UInt8} (F : FileI X.now node c m s) (a : Nat) (data : List UInt8) (hroom : (a + data.length + 127) / 128 - a / 128 + 1 ≤ freeN B X 96) :
    (writeP B X node c (a : Int) data).2.1 = (refWriteL s (a : Int) data).2 ∧
    ((refWriteL s (a : Int) data).2 = 0 → freeN B X 96 ≤ freeN B (writeP B X node c (a : Int) data).2.2 96 + ((a + data.length + 127) / 128 - a / 128 + 1) ∧ ∃ m', Wrote node X m (a : Int) data (refWriteL s (a : Int) data).1 (writeP B X node c (a : Int) data) m') := by
  rcases writeP_plain (B := B) hn F (a : Int) data with ⟨h9, h0, _⟩ | ⟨he, hw⟩
  · exfalso
    unfold refWriteL at h0
    unfold writeP at h9
    by_cases h1 : (a : Int) < 0 ∨ 400 < data.length
    · rw [if_pos h1] at h0; simp at h0
    rw [if_neg h1] at h0
    rw [if_neg (by rintro (x | x); exact x hn; exact h1 x)] at h9
    by_cases h2 : data = []
    · rw [if_pos h2, F.map] at h9; simp at h9
    rw [if_neg h2] at h0 h9
    by_cases h3 : 2688 - (data.length : Int) < (a : Int)
    · rw [if_pos h3] at h0; simp at h0
    rw [if_neg h3, F.map] at h9
    simp only [Int.toNat_natCast] at h9
    have hdl : 0 < data.length := List.length_pos_iff.2 h2
    obtain ⟨r1, r2, r3⟩ := writeL_room (B := B) hn (a := a) (data := data) ((a + data.length + 127) / 128 - a / 128) (a / 128) X m F.wk (by omega) (fun _ => by omega) (by omega) (by omega)
    rw [r1] at h9
    simp only [if_true] at h9
    have K := keepP_room (B := B) (c := { c with size := max c.size ((a : Int) + data.length) }) hn r3 (by omega)
    rw [K.e] at h9
    cases h9
  · refine ⟨he, fun h0 => ⟨?_, hw h0⟩⟩
    unfold refWriteL at h0
    unfold writeP
    by_cases h1 : (a : Int) < 0 ∨ 400 < data.length
    · rw [if_pos h1] at h0; simp at h0
    rw [if_neg (by rintro (x | x); exact x hn; exact h1 x)]
    rw [if_neg h1] at h0
    by_cases h2 : data = []
    · rw [if_pos h2, F.map]; simp only; omega
    rw [if_neg h2] at h0 ⊢
    by_cases h3 : 2688 - (data.length : Int) < (a : Int)
    · rw [if_pos h3] at h0; simp at h0
    rw [if_neg h3, F.map]
    simp only [Int.toNat_natCast]
    have hdl : 0 < data.length := List.length_pos_iff.2 h2
    obtain ⟨r1, r2, r3⟩ := writeL_room (B := B) hn (a := a) (data := data) ((a + data.length + 127) / 128 - a / 128) (a / 128) X m F.wk (by omega) (fun _ => by omega) (by omega) (by omega)
    rw [r1]
    simp only [if_true]
    have K := (free_keep (B := B) (X := (writeL B node a data ((a + data.length + 127) / 128 - a / 128) (a / 128) X m).2.1) (c := { c with size := max c.size ((a : Int) + data.length) }) (m := (writeL B node a data ((a + data.length + 127) / 128 - a / 128) (a / 128) X m).2.2) hn).1
    omega
end Go.Proofs.YtdfgkdoplagelaaGreatDoor
/-
  Layer 10's law: a file's own blocks; whole.
-/
set_option linter.all false
set_option maxRecDepth 100000
set_option maxHeartbeats 1000000
namespace Go.Proofs.YtdfgkdoplagelaaGreatDoor
open Go Go.Eng

theorem own_cells {V : VL} {node : Int} {c : Crd} {s : ByteArray} : fileC V node c s = [.pointer (some ⟨V.v, 0, none⟩), .pointer (some ⟨V.mem.m, 0, none⟩), .int .i64 node, .int .i64 c.kind, .int .i64 c.links, .int .i64 c.size, wv c.ver, .int .i64 c.d0, .int .i64 c.d1, .int .i64 c.d2, .int .i64 c.d3, .int .i64 c.d4, .int .i64 c.more, .string s] := rfl

/-- a file's map, and its block behind -/
def ownL (c : Crd) (m : List Int) : List Int := if 0 ≤ c.more then m ++ [c.more] else m

theorem ownL_used {now : Int → UInt64} {node : Int} {c : Crd} {m : List Int} {s : List UInt8} (F : FileI now node c m s) : ((ownL c m).filter usedB).Perm (usedL c.more m) := by
  unfold ownL
  rw [usedL_cons]
  have hr := F.wk.rng c.more List.mem_cons_self
  unfold blkOk at hr
  by_cases h : c.more = -1
  · rw [if_neg (by omega), if_pos h]
  · rw [if_pos (by omega), if_neg h, List.filter_append, List.filter_cons, if_pos (usedB_t.2 h), List.filter_nil]
    exact List.perm_append_comm

theorem nodup_filter_before : ∀ {l : List Int} {i : Nat} (hi : i < l.length), (l.filter usedB).Nodup → l[i] ≠ -1 → l[i] ∉ l.take i
  | [], i, hi, _, _ => by simp at hi
  | x :: l, 0, _, _, _ => by simp
  | x :: l, i + 1, hi, h, hu => by
    simp only [List.getElem_cons_succ] at hu ⊢
    have h' : (l.filter usedB).Nodup := by
      rw [List.filter_cons] at h
      split at h
      · exact (List.nodup_cons.1 h).2
      · exact h
    rw [List.take_succ_cons, List.mem_cons]
    rintro (e | e)
    · rw [List.filter_cons, if_pos (usedB_t.2 (by rw [← e]; exact hu))] at h
      exact (List.nodup_cons.1 h).1 (List.mem_filter.2 ⟨by rw [← e]; exact List.getElem_mem _, usedB_t.2 (by rw [← e]; exact hu)⟩)
    · exact nodup_filter_before (by simpa using hi) h' hu e

end Go.Proofs.YtdfgkdoplagelaaGreatDoor
/-
  Layer 10's law: a file is whole.
-/
set_option linter.all false
set_option maxRecDepth 100000
set_option maxHeartbeats 1000000
namespace Go.Proofs.YtdfgkdoplagelaaGreatDoor
open Go Go.Eng

/-- the document's answer: bytes are read -/
def refReadL (s : List UInt8) (at_ n : Int) : List UInt8 × Int :=
  if at_ < 0 ∨ n < 0 ∨ 4096 < n then ([], 1)
  else if (s.length : Int) ≤ at_ then ([], 0) else ((s.take (min (s.length : Int) (at_ + n)).toNat).drop at_.toNat, 0)

theorem FileI.bytes {now : Int → UInt64} {node : Int} {c : Crd} {m : List Int} {s : List UInt8} (F : FileI now node c m s) : (fileB now m).take s.length = s := by
  have hl := flat_len (now := now) m
  have hm := F.wk.len
  have hf := F.fits
  apply List.ext_getElem?
  intro p
  rw [List.getElem?_take]
  by_cases h : p < s.length
  · rw [if_pos h, fileB_get m p (by omega), F.by_ p (by omega)]
    simp [h]
  · rw [if_neg h, List.getElem?_eq_none (by omega)]

theorem readP_plain {now : Int → UInt64} {node : Int} {c : Crd} {m : List Int} {s : List UInt8} (F : FileI now node c m s) (at_ n : Int) : readP now c at_ n = refReadL s at_ n := by
  unfold readP refReadL
  split
  · rfl
  · rename_i h
    rw [F.map, F.size]
    simp only
    split
    · rfl
    · rename_i h2
      have hb := F.bytes
      congr 2
      have e : (fileB now m).take (min (s.length : Int) (at_ + n)).toNat = s.take (min (s.length : Int) (at_ + n)).toNat := by
        generalize hX : (min (s.length : Int) (at_ + n)).toNat = x
        have e2 : s.take x = ((fileB now m).take s.length).take x := by rw [hb]
        rw [e2, List.take_take]
        congr 1; omega
      exact e

theorem FileI.szr {now : Int → UInt64} {node : Int} {c : Crd} {m : List Int} {s : List UInt8} (F : FileI now node c m s) : 0 ≤ c.size ∧ c.size ≤ 2688 := by
  have := F.size
  have := F.fits
  omega

theorem fread_spec {h : Heap} {V : VL} {M : MemS} (I : Idle h V M) {node : Int} {c : Crd} {m : List Int} {s : List UInt8} (F : FileI M.read node c m s) (at_ n : Int) :
    CallH Tryz.prog 85 [.pointer (some ⟨V.v, 0, none⟩), .agg ⟨c.cells⟩, .int .i64 at_, .int .i64 n] h (fun v h' => Keeps [] h h' ∧ v = .tuple #[.string ⟨(refReadL s at_ n).1.toArray⟩, .int .i64 (refReadL s at_ n).2]) := by
  have := bread_spec I.at_ c F.ok F.szr F.okMap at_ n
  rw [readP_plain F] at this
  exact this

theorem ref_whole {s : List UInt8} (h : s.length ≤ 2688) : refReadL s 0 4096 = (s, 0) := by
  unfold refReadL
  rw [if_neg (by omega)]
  split
  · have : s = [] := List.eq_nil_of_length_eq_zero (by omega)
    rw [this]
  · congr 1
    rw [List.take_of_length_le (by omega)]; rfl

end Go.Proofs.YtdfgkdoplagelaaGreatDoor
/-
  Plain laws: new files, a file is cut; two files don't touch one another; what is free.
-/
set_option linter.all false
set_option maxRecDepth 100000
set_option maxHeartbeats 1000000
namespace Go.Proofs.YtdfgkdoplagelaaGreatDoor
open Go Go.Eng

def m0 : List Int := List.replicate 21 (-1)
theorem b0_owner {x : Int} (h0 : 0 ≤ x) (h1 : x < 96) : b0 (200 + x) = 0 := by
  unfold b0
  rw [if_pos (by omega), if_neg (by omega), if_neg (by omega)]

/-- a new file -/
theorem fresh_file {now : Int → UInt64} {node : Int} (hn : 0 ≤ node ∧ node < 24) (h : ∀ x, 0 ≤ x → x < 96 → now (200 + x) ≠ w64 (node + 1)) : FileI now node (freshC 1 1) m0 [] := by
  have hu : usedL (freshC 1 1).more m0 = [] := by decide
  refine ⟨rfl, ⟨rfl, ?_, by rw [hu]; exact List.nodup_nil, fun x x0 x1 => by rw [hu]; exact ⟨fun h => (nomatch h), fun e => absurd e (h x x0 x1)⟩⟩, ⟨.inl rfl, by decide⟩, rfl, by simp, fun p hp => ?_, fun j hj _ => ?_, by decide⟩
  · intro x hx
    left
    have : x ∈ List.replicate 22 (-1 : Int) := hx
    exact (List.mem_replicate.1 this).2
  · unfold fb
    have : m0[p / 128]?.getD (-1) = -1 := by
      unfold m0
      rw [List.getElem?_replicate]
      split <;> rfl
    rw [this]
    unfold bytesB
    rw [if_pos rfl, zeros_get]
    rfl
  · unfold m0
    rw [List.getElem?_replicate]
    split <;> rfl

theorem filter_idx (l : List Int) : (l.filter usedB).length = ((List.range l.length).filter fun j => usedB (l[j]?.getD (-1))).length := by
  have h : l = (List.range l.length).map fun j => l[j]?.getD (-1) := by
    apply List.ext_getElem
    · simp
    · intro i h1 h2
      simp [h1]
  conv => lhs; rw [h]
  rw [List.filter_map, List.length_map]
  rfl
theorem range_between : ∀ a, a < 22 → ∀ b, b < 22 → a ≤ b → ((List.range 21).filter fun j => decide (a ≤ j ∧ j < b)).length = b - a := by decide +kernel

theorem wrote_used {node : Int} {X : VS} {at_ : Nat} {data s' : List UInt8} {r : Crd × Int × VS} {m' : List Int} (W : Wrote node X m0 (at_ : Int) data s' r m') (hd : data ≠ []) (hf : at_ + data.length ≤ 2688) :
    (usedL r.1.more m').length = (if 5 ≤ (at_ + data.length - 1) / 128 then 1 else 0) + ((at_ + data.length - 1) / 128 - at_ / 128 + 1) := by
  have hl := W.file.wk.len
  have hdl : 0 < data.length := by
    cases data with
    | nil => exact absurd rfl hd
    | cons x l => simp
  have hu : ∀ j, j < 21 → (usedB (m'[j]?.getD (-1)) = true ↔ at_ / 128 ≤ j ∧ j < (at_ + data.length + 127) / 128) := by
    intro j hj
    have h := W.holes j hj
    have h0 : m0[j]?.getD (-1) = -1 := by
      unfold m0
      rw [List.getElem?_replicate]
      split <;> rfl
    rw [Int.toNat_natCast] at h
    rw [usedB_t, h]
    constructor
    · intro x
      exact Classical.byContradiction fun y => x ⟨h0, fun z => y z.2⟩
    · rintro x ⟨_, y⟩
      exact y ⟨hd, x⟩
  have hfl : (m'.filter usedB).length = (at_ + data.length + 127) / 128 - at_ / 128 := by
    rw [filter_idx, hl, ← range_between (at_ / 128) (by omega) ((at_ + data.length + 127) / 128) (by omega) (by omega)]
    congr 1
    apply List.filter_congr
    intro j hj
    have hj' : j < 21 := by simpa using hj
    rw [Bool.eq_iff_iff, hu j hj']
    simp
  have hmor : r.1.more = -1 ↔ (at_ + data.length + 127) / 128 ≤ 5 := by
    rw [W.file.mor, List.any_eq_false]
    constructor
    · intro h
      refine Classical.byContradiction fun hc => ?_
      have h5 : 5 ≤ (at_ + data.length + 127) / 128 - 1 := by omega
      have hj : (at_ + data.length + 127) / 128 - 1 < 21 := by omega
      have := (hu ((at_ + data.length + 127) / 128 - 1) hj).2 ⟨by omega, by omega⟩
      refine h m'[(at_ + data.length + 127) / 128 - 1] ?_ ?_
      · rw [List.mem_drop_iff_getElem]
        refine ⟨(at_ + data.length + 127) / 128 - 1 - 5, by omega, ?_⟩
        congr 1; omega
      · have e : m'[(at_ + data.length + 127) / 128 - 1]?.getD (-1) = m'[(at_ + data.length + 127) / 128 - 1] := W.file.wk.at_ hj
        rw [← e]; exact this
    · intro h x hx
      rw [List.mem_drop_iff_getElem] at hx
      obtain ⟨j, hj, rfl⟩ := hx
      have h2 := hu (5 + j) (by omega)
      rw [W.file.wk.at_ (by omega)] at h2
      intro hu2
      have := h2.1 hu2
      omega
  rw [usedL_cons]
  by_cases h : r.1.more = -1
  · rw [if_pos h, hfl, if_neg (by have := hmor.1 h; omega)]
    omega
  · rw [if_neg h, List.length_cons, hfl, if_pos (by
      have : ¬ (at_ + data.length + 127) / 128 ≤ 5 := fun x => h (hmor.2 x)
      omega)]
    omega

theorem touch_plain (at_ : Nat) (data : List UInt8) (hd : data.length ≤ 400) (ha : at_ + data.length ≤ 2688) :
    (writeP b0 X0 2 (freshC 1 1) (at_ : Int) data).2.1 = 0 ∧ (if data = [] then (writeP b0 X0 2 (freshC 1 1) (at_ : Int) data).1 = freshC 1 1 ∧ (writeP b0 X0 2 (freshC 1 1) (at_ : Int) data).2.2 = X0 else
      ∃ m', Wrote 2 X0 m0 (at_ : Int) data (zeros at_ ++ data) (writeP b0 X0 2 (freshC 1 1) (at_ : Int) data) m') := by
  have hne : ∀ x, 0 ≤ x → x < 96 → X0.now (200 + x) ≠ w64 (2 + 1) := by
    intro x h0 h1
    show b0 (200 + x) ≠ _
    rw [b0_owner h0 h1]; decide
  have F := fresh_file (now := X0.now) (node := 2) (by decide) hne
  have hal : Alone b0 2 X0 := fun k h0 h1 => ⟨b0_owner h0 h1, .inl (b0_owner h0 h1), by simp [X0]⟩
  have href : (refWriteL [] (at_ : Int) data).2 = 0 := by
    unfold refWriteL
    rw [if_neg (by omega)]
    split
    · rfl
    · rw [if_neg (by omega)]
  rcases writeP_plain (B := b0) (by decide) F (at_ : Int) data with ⟨_, _, h⟩ | ⟨h1, h2⟩
  · exact absurd hal h
  · refine ⟨by rw [h1, href], ?_⟩
    by_cases hnil : data = []
    · rw [if_pos hnil]
      subst hnil
      have : writeP b0 X0 2 (freshC 1 1) (at_ : Int) [] = (freshC 1 1, 0, X0) := by
        unfold writeP
        rw [if_neg (by simp), if_pos rfl, F.map]
      rw [this]; exact ⟨rfl, rfl⟩
    · rw [if_neg hnil]
      obtain ⟨m', W⟩ := h2 href
      have : (refWriteL [] (at_ : Int) data).1 = zeros at_ ++ data := by
        unfold refWriteL
        rw [if_neg (by omega), if_neg hnil, if_neg (by omega)]
        simp only [Int.toNat_natCast, List.nil_append, List.length_nil, Nat.sub_zero, zeros]
        rw [List.take_replicate, List.drop_replicate, Nat.sub_self, Nat.min_eq_left (by omega)]
        simp
      rw [this] at W
      exact ⟨m', W⟩

/-- what a step of cutting comes to -/
structure Cutt (node more : Int) (X : VS) (m : List Int) (z : Nat) (size : Int) (i f : Nat) (r : Int × VS × List Int) : Prop where
  e : r.1 = 0
  x : r.2.1 = { X with now := r.2.1.now }
  wk : Wk r.2.1.now node more r.2.2
  fr : Fr node X.now r.2.1.now
  more_ : more ≠ -1 → moreL r.2.1.now more = moreL X.now more
  by_ : ∀ p, p < 2688 → fb r.2.1.now r.2.2 p = if ((z : Int) < size) ∧ i ≤ p / 128 ∧ p / 128 < i + f ∧ z ≤ p then 0 else fb X.now m p
  holes : ∀ j, j < 21 → (r.2.2[j]?.getD (-1) = -1 ↔ m[j]?.getD (-1) = -1 ∨ ((z : Int) < size ∧ i ≤ j ∧ j < i + f ∧ z ≤ 128 * j))

theorem cutStep_plain {node more : Int} (hn : 0 ≤ node ∧ node < 24) {X : VS} {m : List Int} (W : Wk X.now node more m) {z : Nat} {size : Int} {i : Nat} (hi : i < 21) : Cutt node more X m z size i 1 (cutStep z size i X m) := by
  have hl := W.len
  unfold cutStep
  rw [getD_21 hl hi]
  by_cases h1 : m[i]?.getD (-1) = -1 ∨ size ≤ (z : Int) ∨ 128 * i + 128 ≤ z
  · rw [if_pos h1]
    refine ⟨rfl, rfl, W, Fr.refl _ _, fun _ => rfl, fun p hp => ?_, fun j hj => ⟨.inl, fun h => ?_⟩⟩
    · simp only
      split
      · rename_i hc
        have hpi : p / 128 = i := by omega
        rcases h1 with h1 | h1 | h1
        · unfold fb
          rw [hpi, h1]
          unfold bytesB
          rw [if_pos rfl, zeros_get]
        · omega
        · omega
      · rfl
    · rcases h with h | h
      · exact h
      · have : j = i := by omega
        subst this
        rcases h1 with h1 | h1 | h1
        · exact h1
        · omega
        · omega
  · rw [if_neg h1]
    have hm : m[i]?.getD (-1) ≠ -1 := fun h => h1 (.inl h)
    have hs : (z : Int) < size := by
      refine Classical.byContradiction fun h => h1 (.inr (.inl (by omega)))
    have hz : ¬ 128 * i + 128 ≤ z := fun h => h1 (.inr (.inr h))
    by_cases h2 : z ≤ 128 * i
    · rw [if_pos h2]
      obtain ⟨hk, ho, W1, F1, M1, B1⟩ := W.drop_at hn hi rfl hm
      have hdr : dropP X (m[i]?.getD (-1)) = (0, { X with now := upd X.now (200 + m[i]?.getD (-1)) 0 }) := by
        unfold dropP
        rw [if_pos hk, if_neg (by rw [ho]; exact w64_ne hn)]
      rw [hdr]
      refine ⟨rfl, rfl, W1, F1, M1, fun p hp => ?_, fun j hj => ?_⟩
      · simp only
        rw [B1 p hp]
        by_cases hpi : p / 128 = i
        · rw [if_pos hpi, if_pos ⟨hs, by omega, by omega, by omega⟩]
        · rw [if_neg hpi, if_neg (by omega)]
      · simp only
        by_cases hji : j = i
        · subst hji
          have : (m.set j (-1))[j]?.getD (-1) = -1 := by simp [hl, hj]
          rw [this]
          exact ⟨fun _ => .inr ⟨hs, by omega, by omega, h2⟩, fun _ => rfl⟩
        · rw [List.getElem?_set_ne (fun x => hji x.symm)]
          exact ⟨.inl, fun h => by rcases h with h | h; exact h; omega⟩
    · rw [if_neg h2]
      have hbl := bytesB_len X.now (m[i]?.getD (-1))
      obtain ⟨W2, F2, M2, B2⟩ := W.put hi (l := (bytesB X.now (m[i]?.getD (-1))).take (z - 128 * i)) (by rw [List.length_take]; omega) rfl hm
      refine ⟨rfl, rfl, W2, F2, M2, fun p hp => ?_, fun j hj => ?_⟩
      · simp only
        rw [B2 p hp]
        by_cases hpi : p / 128 = i
        · rw [if_pos hpi, List.getElem?_take]
          by_cases hpz : z ≤ p
          · rw [if_neg (by omega), if_pos ⟨hs, by omega, by omega, hpz⟩]; rfl
          · rw [if_pos (by omega), if_neg (by omega)]
            unfold fb
            rw [hpi]
        · rw [if_neg hpi, if_neg (by omega)]
      · simp only
        exact ⟨.inl, fun h => by rcases h with h | h; exact h; omega⟩

theorem cutL_plain {node more : Int} (hn : 0 ≤ node ∧ node < 24) {z : Nat} {size : Int} : ∀ (f i : Nat) (X : VS) (m : List Int), Wk X.now node more m → i + f ≤ 21 → Cutt node more X m z size i f (cutL z size f i X m)
  | 0, i, X, m, W, _ => by
    unfold cutL
    refine ⟨rfl, rfl, W, Fr.refl _ _, fun _ => rfl, fun p hp => ?_, fun j hj => ⟨.inl, fun h => by rcases h with h | h; exact h; omega⟩⟩
    simp only
    rw [if_neg (by omega)]
  | f + 1, i, X, m, W, hf => by
    unfold cutL
    have S := cutStep_plain hn W (z := z) (size := size) (i := i) (by omega)
    rw [S.e]
    simp only [if_true]
    have R := cutL_plain (z := z) (size := size) hn f (i + 1) (cutStep z size i X m).2.1 (cutStep z size i X m).2.2 S.wk (by omega)
    refine ⟨R.e, ?_, R.wk, S.fr.trans R.fr (w64_ne hn), fun h => (R.more_ h).trans (S.more_ h), fun p hp => ?_, fun j hj => ?_⟩
    · rw [R.x, S.x]
    · rw [R.by_ p hp, S.by_ p hp]
      by_cases c3 : (z : Int) < size ∧ i + 1 ≤ p / 128 ∧ p / 128 < i + 1 + f ∧ z ≤ p
      · rw [if_pos c3, if_pos ⟨c3.1, by omega, by omega, c3.2.2.2⟩]
      · rw [if_neg c3]
        by_cases c4 : (z : Int) < size ∧ i ≤ p / 128 ∧ p / 128 < i + 1 ∧ z ≤ p
        · rw [if_pos c4, if_pos ⟨c4.1, c4.2.1, by omega, c4.2.2.2⟩]
        · rw [if_neg c4, if_neg (by omega)]
    · rw [R.holes j hj, S.holes j hj]
      constructor
      · rintro ((h | h) | h)
        · exact .inl h
        · exact .inr ⟨h.1, by omega, by omega, h.2.2.2⟩
        · exact .inr ⟨h.1, by omega, by omega, h.2.2.2⟩
      · rintro (h | h)
        · exact .inl (.inl h)
        · by_cases hji : j = i
          · exact .inl (.inr ⟨h.1, by omega, by omega, h.2.2.2⟩)
          · exact .inr ⟨h.1, by omega, by omega, h.2.2.2⟩

/-- the document's answer: a file is cut -/
def refCutL (s : List UInt8) (size : Int) : List UInt8 × Int :=
  if size < 0 then ([], 1)
  else if 2688 < size then ([], 10)
  else if size ≤ (s.length : Int) then (s.take size.toNat, 0) else (s ++ zeros (size.toNat - s.length), 0)

theorem refCut_get (s : List UInt8) (z : Nat) (p : Nat) : (if (z : Int) ≤ (s.length : Int) then s.take z else s ++ zeros (z - s.length))[p]?.getD 0 = if (z : Int) < (s.length : Int) ∧ z ≤ p then 0 else s[p]?.getD 0 := by
  split
  · rw [List.getElem?_take]
    by_cases h : p < z
    · rw [if_pos h, if_neg (by omega)]
    · rw [if_neg h]
      split
      · rfl
      · rw [List.getElem?_eq_none (by omega)]
  · rw [pad_get, if_neg (by omega)]
theorem refCut_len (s : List UInt8) (z : Nat) : (if (z : Int) ≤ (s.length : Int) then s.take z else s ++ zeros (z - s.length)).length = z := by
  split
  · rw [List.length_take]; omega
  · simp [zeros]; omega

theorem cutP_plain {B : Int → UInt64} {node : Int} (hn : 0 ≤ node ∧ node < 24) {X : VS} {c : Crd} {m : List Int} {s : List UInt8} (F : FileI X.now node c m s) (size : Int) :
    (cutP B X node c size).2.1 = (refCutL s size).2 ∧ ((refCutL s size).2 = 0 → ∃ m', FileI (cutP B X node c size).2.2.now node (cutP B X node c size).1 m' (refCutL s size).1 ∧ Fr node X.now (cutP B X node c size).2.2.now ∧ (cutP B X node c size).2.2 = { X with now := (cutP B X node c size).2.2.now } ∧
      ∀ j : Nat, j < 21 → (m'[j]?.getD (-1) = -1 ↔ m[j]?.getD (-1) = -1 ∨ (size < s.length ∧ size ≤ 128 * (j : Int)))) := by
  unfold cutP refCutL
  by_cases h1 : size < 0
  · rw [if_pos (.inr h1), if_pos h1]
    exact ⟨rfl, fun h => by cases h⟩
  · rw [if_neg (by rintro (x | x); exact x hn; exact h1 x), if_neg h1]
    by_cases h2 : 2688 < size
    · rw [if_pos h2, if_pos h2]
      exact ⟨rfl, fun h => by cases h⟩
    · rw [if_neg h2, if_neg h2, F.map]
      simp only
      obtain ⟨z, rfl⟩ : ∃ z : Nat, size = (z : Int) := ⟨size.toNat, by omega⟩
      simp only [Int.toNat_natCast]
      have R := cutL_plain (z := z) (size := c.size) hn 21 0 X m F.wk (by omega)
      rw [R.e]
      simp only [if_true]
      have hsz := F.size
      have hfit := F.fits
      have hlr := R.wk.len
      have hc : ({ c with size := (z : Int) } : Crd).more = c.more := rfl
      have hmono : (((cutL z c.size 21 0 X m).2.2).drop 5).any usedB = true → (m.drop 5).any usedB = true := by
        intro h
        rw [List.any_eq_true] at h ⊢
        obtain ⟨x, hx, hu⟩ := h
        rw [List.mem_drop_iff_getElem] at hx
        obtain ⟨j, hj, rfl⟩ := hx
        have h5 : 5 + j < 21 := by omega
        have hh := R.holes (5 + j) h5
        rw [R.wk.at_ h5, F.wk.at_ h5] at hh
        have hne := usedB_t.1 hu
        have hml := F.wk.len
        refine ⟨m[5 + j], ?_, usedB_t.2 fun e => hne (hh.2 (.inl e))⟩
        rw [List.mem_drop_iff_getElem]
        exact ⟨j, by omega, rfl⟩
      have hpair : (if (z : Int) ≤ (s.length : Int) then (s.take z, (0 : Int)) else (s ++ zeros (z - s.length), 0)) = (if (z : Int) ≤ (s.length : Int) then s.take z else s ++ zeros (z - s.length), 0) := by split <;> rfl
      rw [hpair]
      rcases keepP_plain (B := B) (c := { c with size := (z : Int) }) hn (hc ▸ R.wk) with ⟨_, _, hmo, hus⟩ | K
      · exact absurd (F.mor.1 hmo) (by rw [hmono hus]; decide)
      · refine ⟨K.e, fun _ => ⟨(cutL z c.size 21 0 X m).2.2, ?_, R.fr.trans K.fr (w64_ne hn), by rw [K.x, R.x], fun j hj => ?_⟩⟩
        · have hcc := K.c_
          refine ⟨K.map, K.wk, ?_, ?_, ?_, fun p hp => ?_, fun j hj hs => ?_, K.mor⟩
          · rw [hcc]; exact F.kind
          · rw [hcc, refCut_len]; rfl
          · rw [refCut_len]; omega
          · rw [K.by_ p hp, R.by_ p hp, refCut_get, F.by_ p hp, hsz]
            by_cases hq : (z : Int) < (s.length : Int) ∧ z ≤ p
            · rw [if_pos ⟨hq.1, by omega, by omega, hq.2⟩, if_pos hq]
            · rw [if_neg (fun h => hq ⟨h.1, h.2.2.2⟩), if_neg hq]
          · rw [refCut_len] at hs
            refine (R.holes j hj).2 ?_
            rw [hsz]
            by_cases hq : (z : Int) < (s.length : Int)
            · exact .inr ⟨hq, by omega, by omega, hs⟩
            · exact .inl (F.hol j hj (by omega))
        · rw [R.holes j hj, hsz]
          constructor
          · rintro (h | h)
            · exact .inl h
            · exact .inr ⟨h.1, by omega⟩
          · rintro (h | h)
            · exact .inl h
            · exact .inr ⟨h.1, by omega, by omega, by omega⟩

theorem w64_inj {a b : Int} (ha : 0 ≤ a ∧ a < 24) (hb : 0 ≤ b ∧ b < 24) (h : w64 (a + 1) = w64 (b + 1)) : a = b := by
  have h1 := w64_toNat (a + 1)
  have h2 := w64_toNat (b + 1)
  rw [h] at h1
  omega

/-- a file of another node stays as it was -/
theorem FileI.other {now g : Int → UInt64} {x y : Int} (hx : 0 ≤ x ∧ x < 24) (hy : 0 ≤ y ∧ y < 24) (hne : x ≠ y) {c : Crd} {m : List Int} {s : List UInt8} (F : FileI now y c m s) (R : Fr0 x now g) : FileI g y c m s := by
  have hxy : w64 (y + 1) ≠ w64 (x + 1) := fun e => hne (w64_inj hx hy e.symm)
  have hy0 := w64_ne hy
  have key : ∀ k, 0 ≤ k → k < 96 → now (200 + k) = w64 (y + 1) → g (200 + k) = w64 (y + 1) ∧ rdL g (1288 + k * 16) 16 = rdL now (1288 + k * 16) 16 := by
    intro k h0 h1 h
    obtain ⟨p, q⟩ := R.oth k h0 h1 (by rw [h]; exact hxy)
    refine ⟨?_, q (by rw [h]; exact hy0)⟩
    rcases p with p | ⟨p, _⟩
    · rw [p, h]
    · exact absurd (h ▸ p) hy0
  have back : ∀ k, 0 ≤ k → k < 96 → g (200 + k) = w64 (y + 1) → now (200 + k) = w64 (y + 1) := by
    intro k h0 h1 h
    by_cases hm : now (200 + k) = w64 (x + 1)
    · rcases R.mine k h0 h1 hm with p | p
      · exact absurd (h.symm.trans p) hxy
      · exact absurd (h.symm.trans p) hy0
    · rcases (R.oth k h0 h1 hm).1 with p | ⟨_, p⟩
      · rw [← p, h]
      · exact absurd (h.symm.trans p) hxy
  have hown : ∀ k, k ∈ usedL c.more m → 0 ≤ k ∧ k < 96 ∧ now (200 + k) = w64 (y + 1) := by
    intro k hk
    obtain ⟨h1, h2⟩ := usedL_mem.1 hk
    have hb := F.wk.rng k (by rcases h1 with rfl | h1; exact List.mem_cons_self; exact List.mem_cons_of_mem _ h1)
    unfold blkOk at hb
    exact ⟨by omega, by omega, (F.wk.own k (by omega) (by omega)).1 hk⟩
  refine ⟨?_, ⟨F.wk.len, F.wk.rng, F.wk.nod, fun k h0 h1 => ?_⟩, F.kind, F.size, F.fits, fun p hp => ?_, F.hol, F.mor⟩
  · have h := F.map
    unfold mapOf at h ⊢
    by_cases hm : c.more = -1
    · rw [if_pos hm] at h ⊢; exact h
    · obtain ⟨k0, k1, ko⟩ := hown c.more (usedL_mem.2 ⟨.inl rfl, hm⟩)
      have e : moreL g c.more = moreL now c.more := (key _ k0 k1 ko).2
      rw [e]; exact h
  · rw [F.wk.own k h0 h1]
    exact ⟨fun h => (key k h0 h1 h).1, back k h0 h1⟩
  · rw [F.wk.fb_keep (fun k hk h0 h1 => ?_) p hp, F.by_ p hp]
    exact (key k h0 h1 (hown k (usedL_mem.2 ⟨.inr hk, by omega⟩)).2.2).2

theorem count_filter_range (p : Nat → Bool) (l : List Int) (hn : l.Nodup) (h : ∀ k : Nat, k < 96 → (p k = true ↔ (k : Int) ∈ l)) (hl : ∀ x ∈ l, 0 ≤ x ∧ x < 96) : ((List.range 96).filter p).length = l.length := by
  have hp : (((List.range 96).filter p).map fun (k : Nat) => (k : Int)).Perm l := by
    rw [List.perm_ext_iff_of_nodup ?_ hn]
    · intro x
      simp only [List.mem_map, List.mem_filter, List.mem_range]
      constructor
      · rintro ⟨k, ⟨h1, h2⟩, rfl⟩; exact (h k h1).1 h2
      · intro hx
        have := hl x hx
        refine ⟨x.toNat, ⟨by omega, (h _ (by omega)).2 (by rwa [show ((x.toNat : Nat) : Int) = x by omega])⟩, by omega⟩
    · have : (((List.range 96).filter p).map fun (k : Nat) => (k : Int)).Pairwise (fun a b => a < b) := by
        rw [List.pairwise_map]
        exact (List.pairwise_lt_range.filter _).imp fun h => by simpa using h
      exact this.imp fun h e => by omega
  rw [← hp.length_eq, List.length_map]

theorem filter_three {α : Type} (p q r : α → Bool) : ∀ l : List α, (∀ x ∈ l, (p x = true ∧ q x = false ∧ r x = false) ∨ (p x = false ∧ q x = true ∧ r x = false) ∨ (p x = false ∧ q x = false ∧ r x = true)) → (l.filter p).length + (l.filter q).length + (l.filter r).length = l.length
  | [], _ => rfl
  | x :: l, h => by
    have ih := filter_three p q r l fun y hy => h y (List.mem_cons_of_mem _ hy)
    rcases h x List.mem_cons_self with ⟨a, b, c⟩ | ⟨a, b, c⟩ | ⟨a, b, c⟩ <;> simp only [List.filter_cons, a, b, c, List.length_cons, if_true] <;> simp <;> omega

/-- what is free beside two files -/
theorem free_two {now : Int → UInt64} {x y : Int} (hx : 0 ≤ x ∧ x < 24) (hy : 0 ≤ y ∧ y < 24) (hne : x ≠ y) {c d : Crd} {m n : List Int} {s t : List UInt8} (F : FileI now x c m s) (G : FileI now y d n t)
    (h : ∀ k, 0 ≤ k → k < 96 → now (200 + k) = 0 ∨ now (200 + k) = w64 (x + 1) ∨ now (200 + k) = w64 (y + 1)) :
    freeN now ⟨now, [], [], [], []⟩ 96 + (usedL c.more m).length + (usedL d.more n).length = 96 := by
  have hxy : w64 (y + 1) ≠ w64 (x + 1) := fun e => hne (w64_inj hx hy e.symm)
  have hx0 := w64_ne hx
  have hy0 := w64_ne hy
  have rng : ∀ {z : Int} {c : Crd} {m : List Int} {s : List UInt8}, FileI now z c m s → ∀ k ∈ usedL c.more m, 0 ≤ k ∧ k < 96 := by
    intro z c m s F k hk
    obtain ⟨h1, h2⟩ := usedL_mem.1 hk
    have hb := F.wk.rng k (by rcases h1 with rfl | h1; exact List.mem_cons_self; exact List.mem_cons_of_mem _ h1)
    unfold blkOk at hb
    omega
  rw [← count_filter_range (fun k => decide (now (200 + (k : Int)) = w64 (x + 1))) (usedL c.more m) F.wk.nod (fun k hk => by rw [decide_eq_true_iff, F.wk.own (k : Int) (by omega) (by omega)]) (rng F),
    ← count_filter_range (fun k => decide (now (200 + (k : Int)) = w64 (y + 1))) (usedL d.more n) G.wk.nod (fun k hk => by rw [decide_eq_true_iff, G.wk.own (k : Int) (by omega) (by omega)]) (rng G)]
  unfold freeN
  have := filter_three (fun (i : Nat) => freshB now ⟨now, [], [], [], []⟩ (i : Int)) (fun k => decide (now (200 + (k : Int)) = w64 (x + 1))) (fun k => decide (now (200 + (k : Int)) = w64 (y + 1))) (List.range 96) (fun k hk => by
    have hk' : k < 96 := by simpa using hk
    have hf : freshB now ⟨now, [], [], [], []⟩ (k : Int) = decide (now (200 + (k : Int)) = 0) := by
      unfold freshB
      rw [decide_eq_true (by omega : 0 ≤ (k : Int)), decide_eq_true (by omega : (k : Int) < 96)]
      simp
    rw [hf]
    rcases h (k : Int) (by omega) (by omega) with e | e | e
    · left; rw [e]; exact ⟨rfl, decide_eq_false fun z => hx0 z.symm, decide_eq_false fun z => hy0 z.symm⟩
    · right; left; rw [e]; exact ⟨decide_eq_false hx0, decide_eq_true rfl, decide_eq_false fun z => hxy z.symm⟩
    · right; right; rw [e]; exact ⟨decide_eq_false hy0, decide_eq_false hxy, decide_eq_true rfl⟩)
  simpa using this
end Go.Proofs.YtdfgkdoplagelaaGreatDoor
/-
  Layer 4's plain law: paths and their names.
-/
set_option linter.all false
set_option maxRecDepth 100000
set_option maxHeartbeats 1000000
namespace Go.Proofs.YtdfgkdoplagelaaGreatDoor
open Go Go.Eng

/-- a text, cut at each stroke -/
def cutS : List UInt8 → List (List UInt8)
  | [] => [[]]
  | c :: l => if c = 47 then [] :: cutS l else (match cutS l with
    | [] => [[c]]
    | x :: r => (c :: x) :: r)
def joinS (l : List (List UInt8)) : List UInt8 := l.flatMap fun x => 47 :: x

theorem cutS_ne (s : List UInt8) : cutS s ≠ [] := by
  cases s with
  | nil => simp [cutS]
  | cons c l =>
    unfold cutS
    split
    · simp
    · split <;> simp
theorem joinS_cut : ∀ s : List UInt8, joinS (cutS s) = 47 :: s
  | [] => rfl
  | c :: l => by
    have ih := joinS_cut l
    unfold cutS
    by_cases h : c = 47
    · rw [if_pos h]
      show 47 :: [] ++ joinS (cutS l) = _
      rw [ih, h]; rfl
    · rw [if_neg h]
      cases hc : cutS l with
      | nil => exact absurd hc (cutS_ne l)
      | cons x r =>
        rw [hc] at ih
        simp only
        have e : joinS (x :: r) = 47 :: (x ++ joinS r) := by simp [joinS]
        rw [e] at ih
        have e2 : joinS ((c :: x) :: r) = 47 :: c :: (x ++ joinS r) := by simp [joinS]
        rw [e2]
        have := (List.cons.inj ih).2
        rw [this]

theorem cutS_plain : ∀ {x : List UInt8}, 47 ∉ x → cutS x = [x]
  | [], _ => rfl
  | c :: x, h => by
    have h1 : c ≠ 47 := fun e => h (by simp [e])
    have ih := cutS_plain (x := x) (fun e => h (by simp [e]))
    unfold cutS
    rw [if_neg h1, ih]
theorem cutS_app : ∀ {x : List UInt8} {s : List UInt8}, 47 ∉ x → cutS (x ++ 47 :: s) = x :: cutS s
  | [], s, _ => by
    show cutS (47 :: s) = _
    conv => lhs; unfold cutS
    rw [if_pos rfl]
  | c :: x, s, h => by
    have h1 : c ≠ 47 := fun e => h (by simp [e])
    have ih := cutS_app (x := x) (s := s) (fun e => h (by simp [e]))
    show cutS (c :: (x ++ 47 :: s)) = _
    conv => lhs; unfold cutS
    rw [if_neg h1, ih]
theorem cut_join : ∀ {l : List (List UInt8)} {x : List UInt8}, (∀ y ∈ x :: l, 47 ∉ y) → cutS (x ++ joinS l) = x :: l
  | [], x, h => by
    show cutS (x ++ []) = _
    rw [List.append_nil, cutS_plain (h x (by simp))]
  | y :: l, x, h => by
    have e : joinS (y :: l) = 47 :: (y ++ joinS l) := by simp [joinS]
    rw [e, cutS_app (h x (by simp)), cut_join fun z hz => h z (by simp only [List.mem_cons] at hz ⊢; exact .inr hz)]

theorem nameB_sign {x : List UInt8} (h : nameB x = true) : 47 ∉ x := by
  intro hm
  unfold nameB at h
  simp only [Bool.and_eq_true] at h
  have := List.all_eq_true.1 h.1 47 hm
  revert this
  decide

/-- the names of a path -/
def pathP (s : List UInt8) : Option (List (List UInt8)) :=
  match s with
  | [] => none
  | c :: r => if c ≠ 47 ∨ 120 < s.length then none else if r = [] then some [] else if (cutS r).all nameB = true then some (cutS r) else none

theorem pathP_join {l : List (List UInt8)} (h : l.all nameB = true) (hl : (joinS l).length ≤ 120) : pathP (if l = [] then [47] else joinS l) = some l := by
  cases l with
  | nil => simp [pathP]
  | cons x r =>
    rw [if_neg (by simp)]
    have e : joinS (x :: r) = 47 :: (x ++ joinS r) := by simp [joinS]
    have hn : ∀ y ∈ x :: r, 47 ∉ y := fun y hy => nameB_sign (List.all_eq_true.1 h y hy)
    have hx : x ≠ [] := by
      intro e0
      have := List.all_eq_true.1 h x (by simp)
      rw [e0] at this
      revert this; decide
    rw [e] at hl ⊢
    unfold pathP
    simp only
    rw [if_neg (by simp only [ne_eq, not_true_eq_false, false_or]; omega), if_neg (by simp [hx]), cut_join hn, if_pos h]
theorem joinS_len : ∀ {l : List (List UInt8)}, (∀ x ∈ l, x ≠ []) → 2 * l.length ≤ (joinS l).length
  | [], _ => by simp [joinS]
  | x :: l, h => by
    have ih := joinS_len (l := l) fun y hy => h y (by simp [hy])
    have hx : 0 < x.length := List.length_pos_iff.2 (h x (by simp))
    have e : (joinS (x :: l)).length = x.length + 1 + (joinS l).length := by simp [joinS]; omega
    rw [e, List.length_cons]; omega
theorem nameB_ne {x : List UInt8} (h : nameB x = true) : x ≠ [] := by
  rintro rfl
  revert h; decide
theorem pathP_len {s : List UInt8} {l : List (List UInt8)} (h : pathP s = some l) : l.length ≤ 60 ∧ l.all nameB = true ∧ s.length ≤ 120 ∧ (if l = [] then [47] else joinS l) = s := by
  unfold pathP at h
  split at h
  · cases h
  · rename_i c r
    split at h
    · cases h
    · rename_i h1
      split at h
      · rename_i h2
        cases h
        subst h2
        have h3 : c = 47 := by simpa using fun e => h1 (.inl e)
        exact ⟨by simp, rfl, by omega, by simp [h3]⟩
      · rename_i h2
        split at h
        · rename_i h3
          cases h
          have hc : c = 47 := by
            apply Classical.byContradiction
            intro e; exact h1 (.inl e)
          have hj := joinS_cut r
          have hn := joinS_len (l := cutS r) fun x hx => nameB_ne (List.all_eq_true.1 h3 x hx)
          rw [hj] at hn
          have hl : (c :: r).length ≤ 120 := by omega
          simp only [List.length_cons] at hn hl
          refine ⟨by omega, h3, by simpa using hl, ?_⟩
          rw [if_neg (cutS_ne r), hj, hc]
        · cases h

end Go.Proofs.YtdfgkdoplagelaaGreatDoor
/-
  Layer 12's plain law: names are walked, in any tree of files; two trees that are alike tell alike.
-/
set_option linter.all false
set_option maxRecDepth 100000
set_option maxHeartbeats 1000000
namespace Go.Proofs.YtdfgkdoplagelaaGreatDoor
open Go Go.Eng

/-- files: their kinds (1 file, 2 directory, 3 link), a directory's names, a file's bytes -/
structure Fs where
  kind : Int → Int
  find : Int → List UInt8 → Option Int
  data : Int → List UInt8

/-- names are walked: the file, and the error -/
def walkA (F : Fs) (root : Int) (follow : Bool) : Nat → Int → Nat → List (List UInt8) → Int × Int
  | 0, _, _, _ => (0, -1)
  | f + 1, at_, links, l => (match l with
    | [] => (at_, 0)
    | name :: rest =>
      if F.kind at_ ≠ 2 then (0, 6)
      else (match F.find at_ name with
        | none => (0, 4)
        | some next =>
          if F.kind next ≠ 3 ∨ (rest = [] ∧ follow = false) then walkA F root follow f next links rest
          else if 8 < links + 1 then (0, 11)
          else (match pathP (F.data next) with
            | none => (0, 15)
            | some head => walkA F root follow f root (links + 1) (head ++ rest))))

/-- one tree's files stand for another one's -/
structure Alike (F G : Fs) (φ : Int → Int) (S : Int → Prop) : Prop where
  kind : ∀ x, S x → G.kind (φ x) = F.kind x
  find : ∀ x n, S x → F.kind x = 2 → G.find (φ x) n = (F.find x n).map φ
  stay : ∀ x n y, S x → F.kind x = 2 → F.find x n = some y → S y
  data : ∀ x, S x → F.kind x = 3 → G.data (φ x) = F.data x

theorem walkA_alike {F G : Fs} {φ : Int → Int} {S : Int → Prop} (A : Alike F G φ S) {root : Int} (hr : S root) {follow : Bool} : ∀ (f : Nat) (at_ : Int) (links : Nat) (l : List (List UInt8)), S at_ →
    (walkA G (φ root) follow f (φ at_) links l).2 = (walkA F root follow f at_ links l).2 ∧
    ((walkA F root follow f at_ links l).2 = 0 → (walkA G (φ root) follow f (φ at_) links l).1 = φ (walkA F root follow f at_ links l).1 ∧ S (walkA F root follow f at_ links l).1)
  | 0, at_, links, l, _ => ⟨rfl, fun h => by cases h⟩
  | f + 1, at_, links, [], hs => ⟨rfl, fun _ => ⟨rfl, hs⟩⟩
  | f + 1, at_, links, name :: rest, hs => by
    unfold walkA
    simp only
    by_cases hk : F.kind at_ = 2
    · rw [A.kind at_ hs, A.find at_ name hs hk]
      rw [if_neg (by simp [hk]), if_neg (by simp [hk])]
      cases hf : F.find at_ name with
      | none => exact ⟨rfl, fun h => by simp at h⟩
      | some next =>
        have hn := A.stay at_ name next hs hk hf
        simp only [Option.map_some]
        rw [A.kind next hn]
        by_cases hc : F.kind next ≠ 3 ∨ (rest = [] ∧ follow = false)
        · rw [if_pos hc, if_pos hc]
          exact walkA_alike A hr f next links rest hn
        · rw [if_neg hc, if_neg hc]
          have h3 : F.kind next = 3 := by
            by_cases e : F.kind next = 3
            · exact e
            · exact absurd (.inl e) hc
          by_cases hl : 8 < links + 1
          · rw [if_pos hl, if_pos hl]; exact ⟨rfl, fun h => by simp at h⟩
          · rw [if_neg hl, if_neg hl, A.data next hn h3]
            cases hp : pathP (F.data next) with
            | none => exact ⟨rfl, fun h => by simp at h⟩
            | some head => exact walkA_alike A hr f root (links + 1) (head ++ rest) hr
    · rw [A.kind at_ hs, if_pos hk, if_pos hk]
      exact ⟨rfl, fun h => by simp at h⟩
end Go.Proofs.YtdfgkdoplagelaaGreatDoor
/-
  Layer 6's plain law: a card's words.
-/
set_option linter.all false
set_option maxRecDepth 100000
set_option maxHeartbeats 1000000
namespace Go.Proofs.YtdfgkdoplagelaaGreatDoor
open Go Go.Eng

/-! ### Fields of a word -/

def maskW (width : Nat) : UInt64 := UInt64.ofNat (2 ^ width - 1)
def putF (w : UInt64) (at_ width : Nat) (v : UInt64) : UInt64 := (w &&& ~~~(maskW width <<< UInt64.ofNat at_)) ||| (v <<< UInt64.ofNat at_)
def getF (w : UInt64) (at_ width : Nat) : UInt64 := (w >>> UInt64.ofNat at_) &&& maskW width

theorem pow_lt64 {n : Nat} (h : n ≤ 63) : 2 ^ n < 18446744073709551616 := by
  have : 2 ^ n ≤ 2 ^ 63 := Nat.pow_le_pow_right (by decide) h
  omega
theorem maskW_nat {width : Nat} (h : width ≤ 63) : (maskW width).toNat = 2 ^ width - 1 := by
  unfold maskW
  have := pow_lt64 h
  rw [UInt64.toNat_ofNat']
  omega
theorem ofN_nat {n : Nat} (h : n ≤ 63) : (UInt64.ofNat n).toNat = n := by
  rw [UInt64.toNat_ofNat']; omega

theorem getF_nat (w : UInt64) {at_ width : Nat} (h1 : at_ ≤ 63) (h2 : width ≤ 63) : (getF w at_ width).toNat = w.toNat / 2 ^ at_ % 2 ^ width := by
  unfold getF
  rw [UInt64.toNat_and, UInt64.toNat_shiftRight, ofN_nat h1, maskW_nat h2, Nat.and_two_pow_sub_one_eq_mod, Nat.shiftRight_eq_div_pow]
  rw [Nat.mod_eq_of_lt (show at_ < 64 by omega)]

theorem putF_nat {w v : UInt64} {at_ width : Nat} (h : at_ + width ≤ 64) (h1 : 1 ≤ width) (h2 : width ≤ 63) (hw : w.toNat < 2 ^ at_) (hv : v.toNat < 2 ^ width) : (putF w at_ width v).toNat = w.toNat + v.toNat * 2 ^ at_ := by
  have ha : at_ ≤ 63 := by omega
  have hand : w &&& ~~~(maskW width <<< UInt64.ofNat at_) = w := by
    apply UInt64.toBitVec_inj.1
    apply BitVec.eq_of_getLsbD_eq
    intro i hi
    have hwb : w.toBitVec.getLsbD i = true → i < at_ := by
      intro hb
      rcases Nat.lt_or_ge i at_ with h | h
      · exact h
      · have : w.toNat < 2 ^ i := Nat.lt_of_lt_of_le hw (Nat.pow_le_pow_right (by decide) h)
        have hf : w.toBitVec.getLsbD i = false := by
          rw [BitVec.getLsbD]
          exact Nat.testBit_lt_two_pow this
        rw [hf] at hb; cases hb
    have hsh : (maskW width <<< UInt64.ofNat at_).toBitVec = (maskW width).toBitVec <<< at_ := by
      apply BitVec.eq_of_toNat_eq
      have e := UInt64.toNat_shiftLeft (maskW width) (UInt64.ofNat at_)
      rw [ofN_nat ha, Nat.mod_eq_of_lt (show at_ < 64 by omega)] at e
      show (maskW width <<< UInt64.ofNat at_).toNat = _
      rw [e, BitVec.toNat_shiftLeft]
      rfl
    rw [UInt64.toBitVec_and, UInt64.toBitVec_not, hsh]
    rw [BitVec.getLsbD_and, BitVec.getLsbD_not, BitVec.getLsbD_shiftLeft]
    cases hb : w.toBitVec.getLsbD i with
    | false => rfl
    | true =>
      have := hwb hb
      simp [hi, this]
  unfold putF
  rw [hand, UInt64.toNat_or, UInt64.toNat_shiftLeft, ofN_nat ha, Nat.mod_eq_of_lt (show at_ < 64 by omega)]
  have hlt : v.toNat * 2 ^ at_ < 2 ^ 64 := by
    have h3 : v.toNat * 2 ^ at_ < 2 ^ width * 2 ^ at_ := Nat.mul_lt_mul_of_pos_right hv (Nat.two_pow_pos _)
    rw [← Nat.pow_add] at h3
    exact Nat.lt_of_lt_of_le h3 (Nat.pow_le_pow_right (by decide) (by omega))
  rw [Nat.shiftLeft_eq, Nat.mod_eq_of_lt hlt, Nat.or_comm, ← Nat.shiftLeft_eq, ← Nat.shiftLeft_add_eq_or_of_lt hw, Nat.shiftLeft_eq, Nat.add_comm]

/-! ### A card's words -/

def fldK (c : Crd) : UInt64 := putF (putF (putF 0 0 8 (w64 c.kind)) 8 16 (w64 c.links)) 24 32 (w64 c.size)
def fldD (c : Crd) : UInt64 := putF (putF (putF (putF 0 0 16 (w64 (c.d0 + 1))) 16 16 (w64 (c.d1 + 1))) 32 16 (w64 (c.d2 + 1))) 48 16 (w64 (c.d3 + 1))
def fldM (c : Crd) : UInt64 := putF (putF 0 0 16 (w64 (c.d4 + 1))) 16 16 (w64 (c.more + 1))
def cardW (c : Crd) : List UInt64 := [fldK c, c.ver, fldD c, fldM c, 0, 0, 0, 0]
def gAt (ws : List UInt64) (i at_ width : Nat) : Int := ((getF (ws[i]?.getD 0) at_ width).toNat : Int)
def cardG (ws : List UInt64) : Crd := ⟨gAt ws 0 0 8, gAt ws 0 8 16, gAt ws 0 24 32, ws[1]?.getD 0, gAt ws 2 0 16 - 1, gAt ws 2 16 16 - 1, gAt ws 2 32 16 - 1, gAt ws 2 48 16 - 1, gAt ws 3 0 16 - 1, gAt ws 3 16 16 - 1⟩
def cardR (ws : List UInt64) : Option Crd := if ws.length = 8 ∧ rightC (cardG ws) = true ∧ cardW (cardG ws) = ws then some (cardG ws) else none

structure CrdB (c : Crd) : Prop where
  k : 0 ≤ c.kind ∧ c.kind ≤ 3
  l : 0 ≤ c.links ∧ c.links ≤ 255
  s : 0 ≤ c.size ∧ c.size ≤ 2688
  d0 : -1 ≤ c.d0 ∧ c.d0 < 96
  d1 : -1 ≤ c.d1 ∧ c.d1 < 96
  d2 : -1 ≤ c.d2 ∧ c.d2 < 96
  d3 : -1 ≤ c.d3 ∧ c.d3 < 96
  d4 : -1 ≤ c.d4 ∧ c.d4 < 96
  m : -1 ≤ c.more ∧ c.more < 96

theorem w64_sm {x : Int} (h0 : 0 ≤ x) (h1 : x < 4294967296) : (w64 x).toNat = x.toNat := by
  have := w64_toNat x
  omega

theorem fldK_nat {c : Crd} (B : CrdB c) : (fldK c).toNat = c.kind.toNat + c.links.toNat * 256 + c.size.toNat * 16777216 := by
  have hk := B.k
  have hl := B.l
  have hs := B.s
  unfold fldK
  have e1 : (putF 0 0 8 (w64 c.kind)).toNat = c.kind.toNat := by
    rw [putF_nat (by decide) (by decide) (by decide) (by decide) (by rw [w64_sm hk.1 (by omega)]; omega), w64_sm hk.1 (by omega)]
    simp
  have e2 : (putF (putF 0 0 8 (w64 c.kind)) 8 16 (w64 c.links)).toNat = c.kind.toNat + c.links.toNat * 256 := by
    rw [putF_nat (by decide) (by decide) (by decide) (by rw [e1]; omega) (by rw [w64_sm hl.1 (by omega)]; omega), w64_sm hl.1 (by omega), e1]
  rw [putF_nat (by decide) (by decide) (by decide) (by rw [e2]; omega) (by rw [w64_sm hs.1 (by omega)]; omega), w64_sm hs.1 (by omega), e2]
theorem fldD_nat {c : Crd} (B : CrdB c) : (fldD c).toNat = (c.d0 + 1).toNat + (c.d1 + 1).toNat * 65536 + (c.d2 + 1).toNat * 4294967296 + (c.d3 + 1).toNat * 281474976710656 := by
  have h0 := B.d0
  have h1 := B.d1
  have h2 := B.d2
  have h3 := B.d3
  unfold fldD
  have e1 : (putF 0 0 16 (w64 (c.d0 + 1))).toNat = (c.d0 + 1).toNat := by
    rw [putF_nat (by decide) (by decide) (by decide) (by decide) (by rw [w64_sm (by omega) (by omega)]; omega), w64_sm (by omega) (by omega)]
    simp
  have e2 : (putF (putF 0 0 16 (w64 (c.d0 + 1))) 16 16 (w64 (c.d1 + 1))).toNat = (c.d0 + 1).toNat + (c.d1 + 1).toNat * 65536 := by
    rw [putF_nat (by decide) (by decide) (by decide) (by rw [e1]; omega) (by rw [w64_sm (by omega) (by omega)]; omega), w64_sm (by omega) (by omega), e1]
  have e3 : (putF (putF (putF 0 0 16 (w64 (c.d0 + 1))) 16 16 (w64 (c.d1 + 1))) 32 16 (w64 (c.d2 + 1))).toNat = (c.d0 + 1).toNat + (c.d1 + 1).toNat * 65536 + (c.d2 + 1).toNat * 4294967296 := by
    rw [putF_nat (by decide) (by decide) (by decide) (by rw [e2]; omega) (by rw [w64_sm (by omega) (by omega)]; omega), w64_sm (by omega) (by omega), e2]
  rw [putF_nat (by decide) (by decide) (by decide) (by rw [e3]; omega) (by rw [w64_sm (by omega) (by omega)]; omega), w64_sm (by omega) (by omega), e3]
theorem fldM_nat {c : Crd} (B : CrdB c) : (fldM c).toNat = (c.d4 + 1).toNat + (c.more + 1).toNat * 65536 := by
  have h0 := B.d4
  have h1 := B.m
  unfold fldM
  have e1 : (putF 0 0 16 (w64 (c.d4 + 1))).toNat = (c.d4 + 1).toNat := by
    rw [putF_nat (by decide) (by decide) (by decide) (by decide) (by rw [w64_sm (by omega) (by omega)]; omega), w64_sm (by omega) (by omega)]
    simp
  rw [putF_nat (by decide) (by decide) (by decide) (by rw [e1]; omega) (by rw [w64_sm (by omega) (by omega)]; omega), w64_sm (by omega) (by omega), e1]

theorem rightC_b {c : Crd} (h : rightC c = true) : CrdB c := by
  unfold rightC at h
  split at h
  · rename_i h0
    have := of_decide_eq_true h
    rw [this]
    constructor <;> (show _ ≤ _ ∧ _) <;> simp [noneC]
  · rename_i h0
    simp [Crd.direct, blockC] at h
    constructor <;> omega

theorem cardG_W {c : Crd} (B : CrdB c) : cardG (cardW c) = c := by
  have h1 := B.k
  have h2 := B.l
  have h3 := B.s
  have h4 := B.d0
  have h5 := B.d1
  have h6 := B.d2
  have h7 := B.d3
  have h8 := B.d4
  have h9 := B.m
  have g : ∀ i at_ width, at_ ≤ 63 → width ≤ 63 → gAt (cardW c) i at_ width = (((((cardW c)[i]?.getD 0).toNat / 2 ^ at_ % 2 ^ width : Nat)) : Int) := fun i at_ width p q => by unfold gAt; rw [getF_nat _ p q]
  unfold cardG
  rw [g 0 0 8 (by decide) (by decide), g 0 8 16 (by decide) (by decide), g 0 24 32 (by decide) (by decide), g 2 0 16 (by decide) (by decide), g 2 16 16 (by decide) (by decide), g 2 32 16 (by decide) (by decide), g 2 48 16 (by decide) (by decide), g 3 0 16 (by decide) (by decide), g 3 16 16 (by decide) (by decide)]
  have k0 : (cardW c)[0]?.getD 0 = fldK c := rfl
  have k1 : (cardW c)[1]?.getD 0 = c.ver := rfl
  have k2 : (cardW c)[2]?.getD 0 = fldD c := rfl
  have k3 : (cardW c)[3]?.getD 0 = fldM c := rfl
  rw [k0, k1, k2, k3, fldK_nat B, fldD_nat B, fldM_nat B]
  obtain ⟨a, b, c', d, e, f, g', i, j, k⟩ := c
  simp only at *
  congr 1 <;> omega

theorem cardR_W {c : Crd} (h : rightC c = true) : cardR (cardW c) = some c := by
  have B := rightC_b h
  unfold cardR
  rw [cardG_W B, if_pos ⟨rfl, h, rfl⟩]
end Go.Proofs.YtdfgkdoplagelaaGreatDoor
/-
  Plain law: files over words: each node's card, each directory's names, each file's bytes.
-/
set_option linter.all false
set_option maxRecDepth 100000
set_option maxHeartbeats 1000000
namespace Go.Proofs.YtdfgkdoplagelaaGreatDoor
open Go Go.Eng

/-- what is told of all nodes -/
structure FS where
  C : Int → Crd
  nm : Int → List Ent
  by_ : Int → List UInt8

def FS.put (S : FS) (n : Int) (c : Crd) (l : List Ent) (s : List UInt8) : FS := ⟨fun x => if x = n then c else S.C x, fun x => if x = n then l else S.nm x, fun x => if x = n then s else S.by_ x⟩

/-- a node's card, and what stands behind it -/
structure NodeI (now : Int → UInt64) (n : Int) (c : Crd) (l : List Ent) (s : List UInt8) : Prop where
  kind : 0 ≤ c.kind ∧ c.kind ≤ 3
  free : c.kind = 0 → c = noneC c.ver ∧ ∀ k, 0 ≤ k → k < 96 → now (200 + k) ≠ w64 (n + 1)
  dir : c.kind = 2 → ∃ m, DirI now n c m l
  file : c.kind = 1 ∨ c.kind = 3 → ∃ m, FileI now n c m s

structure FsI (now : Int → UInt64) (S : FS) : Prop where
  card : ∀ n, 0 ≤ n → n < 24 → rdL now (8 + n * 8) 8 = cardW (S.C n)
  node : ∀ n, 0 ≤ n → n < 24 → NodeI now n (S.C n) (S.nm n) (S.by_ n)
  zero : (S.C 0).kind = 0
  own : ∀ k, 0 ≤ k → k < 96 → now (200 + k) = 0 ∨ ∃ n, 0 ≤ n ∧ n < 24 ∧ now (200 + k) = w64 (n + 1)

theorem NodeI.right {now : Int → UInt64} {n : Int} {c : Crd} {l : List Ent} {s : List UInt8} (N : NodeI now n c l s) : rightC c = true := by
  by_cases h0 : c.kind = 0
  · have := (N.free h0).1
    unfold rightC
    rw [if_pos h0]
    exact decide_eq_true this
  · by_cases h2 : c.kind = 2
    · obtain ⟨m, D⟩ := N.dir h2
      exact D.right.1
    · have := N.kind
      obtain ⟨m, F⟩ := N.file (by omega)
      exact F.right
theorem crdB_ok {c : Crd} (B : CrdB c) : c.ok := by
  have h1 := B.k
  have h2 := B.l
  have h3 := B.s
  have h4 := B.d0
  have h5 := B.d1
  have h6 := B.d2
  have h7 := B.d3
  have h8 := B.d4
  have h9 := B.m
  refine ⟨by unfold inI64; omega, by unfold inI64; omega, by unfold inI64; omega, fun x hx => ?_, by unfold inI64; omega⟩
  unfold Crd.direct at hx
  simp only [List.mem_cons, List.not_mem_nil, or_false] at hx
  unfold inI64; omega
theorem NodeI.ok {now : Int → UInt64} {n : Int} {c : Crd} {l : List Ent} {s : List UInt8} (N : NodeI now n c l s) : c.ok := crdB_ok (rightC_b N.right)

theorem NodeI.other {f g : Int → UInt64} {x y : Int} (hx : 0 ≤ x ∧ x < 24) (hy : 0 ≤ y ∧ y < 24) (hne : x ≠ y) {c : Crd} {l : List Ent} {s : List UInt8} (N : NodeI f y c l s) (R : Fr0 x f g) : NodeI g y c l s := by
  refine ⟨N.kind, fun h => ⟨(N.free h).1, fun k h0 h1 e => ?_⟩, fun h => ?_, fun h => ?_⟩
  · have hn := (N.free h).2 k h0 h1
    by_cases hm : f (200 + k) = w64 (x + 1)
    · rcases R.mine k h0 h1 hm with p | p
      · exact hne (w64_inj hx hy (p.symm.trans e))
      · exact w64_ne hy (e.symm.trans p)
    · rcases (R.oth k h0 h1 hm).1 with p | ⟨_, p⟩
      · exact hn (p ▸ e)
      · exact hne (w64_inj hx hy (p.symm.trans e))
  · obtain ⟨m, D⟩ := N.dir h
    exact ⟨m, D.other hx hy hne R⟩
  · obtain ⟨m, F⟩ := N.file h
    exact ⟨m, F.other hx hy hne R⟩

theorem FsI.put {f g : Int → UInt64} {S : FS} (I : FsI f S) {n : Int} (h0 : 0 ≤ n ∧ n < 24) (R : Fr0 n f g) (hc : ∀ k, 0 ≤ k → k < 24 → k ≠ n → rdL g (8 + k * 8) 8 = rdL f (8 + k * 8) 8) {c : Crd} {l : List Ent} {s : List UInt8}
    (hn : rdL g (8 + n * 8) 8 = cardW c) (N : NodeI g n c l s) (hz : n ≠ 0) : FsI g (S.put n c l s) := by
  have hw := w64_ne h0
  refine ⟨fun k k0 k1 => ?_, fun k k0 k1 => ?_, ?_, fun k k0 k1 => ?_⟩
  · show _ = cardW (if k = n then c else S.C k)
    by_cases e : k = n
    · rw [if_pos e, e]; exact hn
    · rw [if_neg e, hc k k0 k1 e]; exact I.card k k0 k1
  · show NodeI g k (if k = n then c else S.C k) (if k = n then l else S.nm k) (if k = n then s else S.by_ k)
    by_cases e : k = n
    · rw [if_pos e, if_pos e, if_pos e, e]; exact N
    · rw [if_neg e, if_neg e, if_neg e]
      exact (I.node k k0 k1).other h0 ⟨k0, k1⟩ (fun x => e x.symm) R
  · show (if (0 : Int) = n then c else S.C 0).kind = 0
    rw [if_neg (fun e => hz e.symm)]; exact I.zero
  · by_cases hm : f (200 + k) = w64 (n + 1)
    · rcases R.mine k k0 k1 hm with p | p
      · exact .inr ⟨n, h0.1, h0.2, p⟩
      · exact .inl p
    · rcases (R.oth k k0 k1 hm).1 with p | ⟨_, p⟩
      · rw [p]; exact I.own k k0 k1
      · exact .inr ⟨n, h0.1, h0.2, p⟩

/-- a card is set -/
def setW (now : Int → UInt64) (n : Int) (c : Crd) : Int → UInt64 := updL now (8 + n * 8) (cardW c)
theorem setW_high {now : Int → UInt64} {n : Int} (hn : n < 24) {c : Crd} {a : Int} (ha : 200 ≤ a) : setW now n c a = now a := by
  unfold setW updL
  rw [if_neg (by rw [show (cardW c).length = 8 from rfl]; omega)]
theorem setW_rd {now : Int → UInt64} {n : Int} {c : Crd} : rdL (setW now n c) (8 + n * 8) 8 = cardW c := by
  unfold setW rdL
  apply List.ext_getElem
  · rfl
  · intro i h1 h2
    have hi : i < 8 := by simpa using h1
    rw [List.getElem_map, List.getElem_range]
    unfold updL
    rw [if_pos ⟨by omega, by rw [show (cardW c).length = 8 from rfl]; omega⟩]
    have : (8 + n * 8 + (i : Int) - (8 + n * 8)).toNat = i := by omega
    rw [this, List.getElem?_eq_getElem h2]; rfl
theorem setW_ne {now : Int → UInt64} {n k : Int} {c : Crd} (h : k ≠ n) : rdL (setW now n c) (8 + k * 8) 8 = rdL now (8 + k * 8) 8 := by
  unfold rdL
  refine List.map_congr_left fun i hi => ?_
  have hi : i < 8 := by simpa using hi
  unfold setW updL
  rw [if_neg (by rw [show (cardW c).length = 8 from rfl]; omega)]

/-- a node's blocks and its card are changed -/
theorem FsI.set {f g : Int → UInt64} {S : FS} (I : FsI f S) {n : Int} (h0 : 0 < n ∧ n < 24) (R : Fr n f g) {c : Crd} {l : List Ent} {s : List UInt8} (N : NodeI g n c l s) : FsI (setW g n c) (S.put n c l s) := by
  have hn : 0 ≤ n ∧ n < 24 := ⟨by omega, h0.2⟩
  have R2 : Fr0 n f (setW g n c) := R.z.after fun a ha => setW_high h0.2 ha
  refine I.put hn R2 (fun k k0 k1 hk => ?_) setW_rd ?_ (by omega)
  · rw [setW_ne hk]
    exact List.map_congr_left fun i hi => R.low _ (by have : i < 8 := by simpa using hi
                                                      omega)
  · -- a node's own words stand behind its blocks
    have hhi : ∀ a, 200 ≤ a → setW g n c a = g a := fun a ha => setW_high h0.2 ha
    obtain ⟨z, hz⟩ : ∃ z : Int, (0 ≤ z ∧ z < 24) ∧ z ≠ n := ⟨0, ⟨by decide, by decide⟩, by omega⟩
    exact N.other hz.1 hn hz.2 (Fr0.of z hhi)

/-! ### New nodes -/

theorem fresh_fileK {now : Int → UInt64} {node : Int} {kind : Int} (hk : kind = 1 ∨ kind = 3) (v : UInt64) (h : ∀ x, 0 ≤ x → x < 96 → now (200 + x) ≠ w64 (node + 1)) : FileI now node (freshC kind v) m0 [] := by
  have hu : usedL (freshC kind v).more m0 = [] := by show usedL (-1) m0 = []; decide
  refine ⟨rfl, ⟨rfl, ?_, by rw [hu]; exact List.nodup_nil, fun x x0 x1 => by rw [hu]; exact ⟨fun h => (nomatch h), fun e => absurd e (h x x0 x1)⟩⟩, ⟨hk, by show (0 : Int) ≤ 1 ∧ (1 : Int) ≤ 255; decide⟩, rfl, by simp, fun p hp => ?_, fun j hj _ => ?_, ?_⟩
  · intro x hx
    left
    have : x ∈ List.replicate 22 (-1 : Int) := hx
    exact (List.mem_replicate.1 this).2
  · unfold fb
    have : m0[p / 128]?.getD (-1) = -1 := by
      unfold m0
      rw [List.getElem?_replicate]
      split <;> rfl
    rw [this]
    unfold bytesB
    rw [if_pos rfl, zeros_get]
    rfl
  · unfold m0
    rw [List.getElem?_replicate]
    split <;> rfl
  · exact ⟨fun _ => by decide, fun _ => rfl⟩
theorem fresh_dirV {now : Int → UInt64} {node : Int} (v : UInt64) (h : ∀ x, 0 ≤ x → x < 96 → now (200 + x) ≠ w64 (node + 1)) : DirI now node (freshC 2 v) mNo [] := by
  have hu : usedL (freshC 2 v).more mNo = [] := by show usedL (-1) mNo = []; decide
  refine ⟨rfl, ⟨rfl, ?_, by rw [hu]; exact List.nodup_nil, fun x x0 x1 => by rw [hu]; exact ⟨fun h => (nomatch h), fun e => absurd e (h x x0 x1)⟩⟩, ⟨rfl, rfl⟩, rfl, fun i hi hu => absurd (mNo_at i) hu, ?_, List.Pairwise.nil, ⟨fun _ => by decide, fun _ => rfl⟩⟩
  · intro x hx
    left
    have : x ∈ List.replicate 22 (-1 : Int) := hx
    exact (List.mem_replicate.1 this).2
  · have : rawE now mNo = [] := by
      unfold rawE
      rw [List.flatMap_eq_nil_iff]
      intro i _
      exact placeE_hole (mNo_at i)
    rw [this]
theorem fresh_node {now : Int → UInt64} {n kind : Int} (hk : 1 ≤ kind ∧ kind ≤ 3) (v : UInt64) (h : ∀ x, 0 ≤ x → x < 96 → now (200 + x) ≠ w64 (n + 1)) : NodeI now n (freshC kind v) [] [] := by
  have hk' : (freshC kind v).kind = kind := rfl
  refine ⟨by rw [hk']; omega, fun h0 => by rw [hk'] at h0; omega, fun h2 => ?_, fun h13 => ?_⟩
  · rw [hk'] at h2; subst h2
    exact ⟨mNo, fresh_dirV v h⟩
  · rw [hk'] at h13
    exact ⟨m0, fresh_fileK h13 v h⟩
theorem none_node {now : Int → UInt64} {n : Int} (v : UInt64) (h : ∀ x, 0 ≤ x → x < 96 → now (200 + x) ≠ w64 (n + 1)) : NodeI now n (noneC v) [] [] :=
  ⟨by show (0 : Int) ≤ 0 ∧ (0 : Int) ≤ 3; decide, fun _ => ⟨rfl, h⟩, fun h2 => (by cases h2), fun h13 => (by rcases h13 with h | h <;> cases h)⟩
end Go.Proofs.YtdfgkdoplagelaaGreatDoor
/-
  Layer 12's plain law: how many steps a walk takes; where a name stands; the document's tree beside a view.
-/
set_option linter.all false
set_option maxRecDepth 100000
set_option maxHeartbeats 1000000
namespace Go.Proofs.YtdfgkdoplagelaaGreatDoor
open Go Go.Eng

/-- a walk ends -/
theorem walkA_ends {F : Fs} {root : Int} {follow : Bool} : ∀ (f : Nat) (at_ : Int) (links : Nat) (l : List (List UInt8)), links ≤ 8 → (8 - links) * 61 + l.length + 1 ≤ f → (walkA F root follow f at_ links l).2 ≠ -1
  | 0, _, _, _, _, h => by omega
  | f + 1, at_, links, [], _, _ => by unfold walkA; simp
  | f + 1, at_, links, name :: rest, hl, h => by
    simp only [List.length_cons] at h
    unfold walkA
    simp only
    split
    · simp
    · split
      · simp
      · split
        · exact walkA_ends f _ _ _ hl (by omega)
        · split
          · simp
          · split
            · simp
            · rename_i head hp
              have := (pathP_len hp).1
              exact walkA_ends f _ _ _ (by omega) (by rw [List.length_append]; omega)

/-- a walk, and a name behind it that isn't followed -/
theorem walkA_last {F : Fs} {root : Int} {last : List UInt8} : ∀ (f : Nat) (at_ : Int) (links : Nat) (l : List (List UInt8)), (walkA F root true f at_ links l).2 ≠ -1 →
    walkA F root false (f + 1) at_ links (l ++ [last]) = (if (walkA F root true f at_ links l).2 ≠ 0 then walkA F root true f at_ links l else
      if F.kind (walkA F root true f at_ links l).1 ≠ 2 then (0, 6) else (match F.find (walkA F root true f at_ links l).1 last with | none => (0, 4) | some n => (n, 0)))
  | 0, _, _, _, h => absurd rfl h
  | f + 1, at_, links, [], _ => by
    show walkA F root false (f + 2) at_ links [last] = _
    have e : walkA F root true (f + 1) at_ links [] = (at_, 0) := rfl
    rw [e]
    rw [if_neg (show ¬ ((at_, (0 : Int)).2 ≠ 0) by simp)]
    conv => lhs; unfold walkA
    simp only
    by_cases hk : F.kind at_ ≠ 2
    · rw [if_pos hk, if_pos hk]
    · rw [if_neg hk, if_neg hk]
      cases hf : F.find at_ last with
      | none => rfl
      | some n =>
        dsimp only
        rw [if_pos (show F.kind n ≠ 3 ∨ True ∧ True from .inr ⟨trivial, trivial⟩)]
        rfl
  | f + 1, at_, links, name :: rest, h => by
    have hne : rest ++ [last] ≠ [] := by simp
    have e1 : ∀ fu, walkA F root false (fu + 1) at_ links ((name :: rest) ++ [last]) = (if F.kind at_ ≠ 2 then (0, 6)
      else (match F.find at_ name with
        | none => (0, 4)
        | some next =>
          if F.kind next ≠ 3 then walkA F root false fu next links (rest ++ [last])
          else if 8 < links + 1 then (0, 11)
          else (match pathP (F.data next) with
            | none => (0, 15)
            | some head => walkA F root false fu root (links + 1) (head ++ rest ++ [last])))) := by
      intro fu
      conv => lhs; unfold walkA
      simp only [List.cons_append]
      by_cases hk : F.kind at_ ≠ 2
      · rw [if_pos hk, if_pos hk]
      · rw [if_neg hk, if_neg hk]
        cases hf : F.find at_ name with
        | none => rfl
        | some n =>
          dsimp only
          by_cases h3 : F.kind n = 3
          · rw [if_neg (show ¬ (F.kind n ≠ 3 ∨ rest ++ [last] = [] ∧ True) by simp [h3]), if_neg (show ¬ F.kind n ≠ 3 by simp [h3])]
            split
            · rfl
            · cases hp : pathP (F.data n) with
              | none => rfl
              | some head => dsimp only; rw [List.append_assoc]
          · rw [if_pos (.inl h3), if_pos h3]
    have e2 : walkA F root true (f + 1) at_ links (name :: rest) = (if F.kind at_ ≠ 2 then (0, 6)
      else (match F.find at_ name with
        | none => (0, 4)
        | some next =>
          if F.kind next ≠ 3 then walkA F root true f next links rest
          else if 8 < links + 1 then (0, 11)
          else (match pathP (F.data next) with
            | none => (0, 15)
            | some head => walkA F root true f root (links + 1) (head ++ rest)))) := by
      conv => lhs; unfold walkA
      simp only
      by_cases hk : F.kind at_ ≠ 2
      · rw [if_pos hk, if_pos hk]
      · rw [if_neg hk, if_neg hk]
        cases hf : F.find at_ name with
        | none => rfl
        | some n =>
          dsimp only
          by_cases h3 : F.kind n = 3
          · rw [if_neg (show ¬ (F.kind n ≠ 3 ∨ (rest = [] ∧ true = false)) by simp [h3]), if_neg (show ¬ F.kind n ≠ 3 by simp [h3])] <;> rfl
          · rw [if_pos (.inl h3), if_pos h3]
    rw [e2] at h ⊢
    rw [e1 (f + 1)]
    by_cases hk : F.kind at_ ≠ 2
    · rw [if_pos hk, if_pos hk]; simp
    · rw [if_neg hk] at h ⊢
      rw [if_neg hk]
      cases hf : F.find at_ name with
      | none => simp
      | some next =>
        rw [hf] at h
        simp only at h ⊢
        by_cases h3 : F.kind next ≠ 3
        · rw [if_pos h3] at h ⊢
          rw [if_pos h3]
          exact walkA_last f next links rest h
        · rw [if_neg h3] at h ⊢
          rw [if_neg h3]
          by_cases h8 : 8 < links + 1
          · rw [if_pos h8, if_pos h8]; simp
          · rw [if_neg h8] at h ⊢
            rw [if_neg h8]
            cases hp : pathP (F.data next) with
            | none => simp
            | some head =>
              rw [hp] at h
              simp only at h ⊢
              exact walkA_last f root (links + 1) (head ++ rest) h

/-! ### The document's tree -/

structure Nod where
  id : Int
  kind : Int
  links : Int
  data : List UInt8
  names : List Ent

def tn (T : List Nod) (i : Int) : Nod := T[i.toNat]?.getD ⟨0, 0, 0, [], []⟩
def nu (num : List Int) (i : Int) : Int := num[i.toNat]?.getD 0
def docFs (T : List Nod) : Fs := ⟨fun i => (tn T i).kind, fun i name => (findE (tn T i).names name).map (·.node), fun i => (tn T i).data⟩
def viewFs (S : FS) : Fs := ⟨fun i => (S.C i).kind, fun i name => (findE (S.nm i) name).map (·.node), fun i => S.by_ i⟩
def rn (num : List Int) (e : Ent) : Ent := ⟨e.name, nu num e.node⟩
def inT (T : List Nod) (i : Int) : Prop := 1 ≤ i ∧ i < T.length

structure WorldI (S : FS) (T : List Nod) (num : List Int) : Prop where
  len : num.length = T.length
  two : 2 ≤ T.length
  root : nu num 1 = 1 ∧ (tn T 1).kind = 2
  rng : ∀ i, inT T i → 1 ≤ nu num i ∧ nu num i < 24
  inj : ∀ i j, inT T i → inT T j → nu num i = nu num j → i = j
  kind : ∀ i, inT T i → (S.C (nu num i)).kind = (tn T i).kind ∧ 1 ≤ (tn T i).kind ∧ (tn T i).kind ≤ 3
  dir : ∀ i, inT T i → (tn T i).kind = 2 → S.nm (nu num i) = (tn T i).names.map (rn num) ∧ (∀ e ∈ (tn T i).names, inT T e.node) ∧ strict (tn T i).names
  data : ∀ i, inT T i → (tn T i).kind ≠ 2 → (tn T i).data = S.by_ (nu num i)
  oth : ∀ i, inT T i → (tn T i).kind ≠ 2 → (tn T i).names = []

theorem findE_map (num : List Int) (name : List UInt8) : ∀ l : List Ent, findE (l.map (rn num)) name = (findE l name).map (rn num)
  | [] => rfl
  | x :: l => by
    have ih := findE_map num name l
    unfold findE at ih ⊢
    rw [List.map_cons, List.find?_cons, List.find?_cons]
    have : (rn num x).name = x.name := rfl
    rw [this]
    split
    · rfl
    · exact ih

theorem WorldI.alike {S : FS} {T : List Nod} {num : List Int} (W : WorldI S T num) : Alike (docFs T) (viewFs S) (nu num) (inT T) := by
  refine ⟨fun i hi => (W.kind i hi).1, fun i name hi hk => ?_, fun i name y hi hk hf => ?_, fun i hi hk => ?_⟩
  · show (findE (S.nm (nu num i)) name).map (·.node) = ((findE (tn T i).names name).map (·.node)).map (nu num)
    rw [(W.dir i hi hk).1, findE_map, Option.map_map, Option.map_map]
    rfl
  · have hf' : (findE (tn T i).names name).map (·.node) = some y := hf
    cases he : findE (tn T i).names name with
    | none => rw [he] at hf'; cases hf'
    | some e =>
      rw [he] at hf'
      have : e.node = y := by simpa using hf'
      rw [← this]
      exact (W.dir i hi hk).2.1 e (List.mem_of_find?_eq_some he)
  · have : (tn T i).kind = 3 := hk
    exact (W.data i hi (by omega)).symm
end Go.Proofs.YtdfgkdoplagelaaGreatDoor
/-
  Layer 12's plain law: a file more, in the view and in the document's tree.
-/
set_option linter.all false
set_option maxRecDepth 100000
set_option maxHeartbeats 1000000
namespace Go.Proofs.YtdfgkdoplagelaaGreatDoor
open Go Go.Eng

theorem plK_map (f : Ent → Ent) (hf : ∀ e, (f e).name = e.name) (name : List UInt8) : ∀ l : List Ent, plK (l.map f) name = plK l name
  | [] => rfl
  | x :: l => by
    have ih := plK_map f hf name l
    unfold plK at ih ⊢
    rw [List.map_cons, List.takeWhile_cons, List.takeWhile_cons, hf x]
    split
    · rw [List.length_cons, List.length_cons, ih]
    · rfl
theorem insL_map (f : Ent → Ent) (hf : ∀ e, (f e).name = e.name) (l : List Ent) (e : Ent) : (insL l e).map f = insL (l.map f) (f e) := by
  unfold insL
  rw [hf e, plK_map f hf, List.map_append, List.map_cons, List.map_take, List.map_drop]
theorem plT_map (f : Ent → Ent) (hf : ∀ e, (f e).name = e.name) (l : List Ent) (name : List UInt8) : plT (l.map f) name = plT l name := by
  unfold plT
  rw [plK_map f hf, List.getElem?_map]
  cases l[plK l name]? with
  | none => rfl
  | some e => simp [hf e]

def nset (T : List Nod) (d : Int) (l : List Ent) : List Nod := T.set d.toNat { tn T d with names := l }
theorem tn_set {T : List Nod} {d : Int} (hd : inT T d) (l : List Ent) (x : Nod) {i : Int} (hi : 1 ≤ i ∧ i < T.length + 1) : tn (nset T d l ++ [x]) i = if i = T.length then x else if i = d then { tn T d with names := l } else tn T i := by
  obtain ⟨d0, d1⟩ := hd
  have hl : (nset T d l).length = T.length := by unfold nset; simp
  unfold tn
  by_cases e : i = T.length
  · rw [if_pos e]
    have : i.toNat = (nset T d l).length := by rw [hl]; omega
    rw [this]; simp
  · rw [if_neg e, List.getElem?_append_left (by rw [hl]; omega)]
    unfold nset
    rw [List.getElem?_set]
    by_cases e2 : i = d
    · subst e2
      rw [if_pos rfl, if_pos (by omega), if_pos rfl]; rfl
    · rw [if_neg (by omega), if_neg e2]

theorem nu_app {num : List Int} {n : Int} {i : Int} (hi : 1 ≤ i ∧ i < num.length + 1) : nu (num ++ [n]) i = if i = num.length then n else nu num i := by
  unfold nu
  by_cases e : i = num.length
  · rw [if_pos e]
    have : i.toNat = num.length := by omega
    rw [this]; simp
  · rw [if_neg e, List.getElem?_append_left (by omega)]

theorem WorldI.grow {S S' : FS} {T : List Nod} {num : List Int} (W : WorldI S T num) {d n kind : Int} {name data : List UInt8} (hd : inT T d) (hk : (tn T d).kind = 2) (hn0 : (S.C n).kind = 0) (hn : 1 ≤ n ∧ n < 24) (hp : plT (tn T d).names name = false) (hkind : 1 ≤ kind ∧ kind ≤ 3)
    (hS : ∀ x, x ≠ n → x ≠ nu num d → (S'.C x).kind = (S.C x).kind ∧ S'.nm x = S.nm x ∧ S'.by_ x = S.by_ x)
    (h1 : (S'.C (nu num d)).kind = 2 ∧ S'.nm (nu num d) = insL (S.nm (nu num d)) ⟨name, n⟩)
    (h2 : (S'.C n).kind = kind ∧ (kind ≠ 2 → S'.by_ n = data) ∧ (kind = 2 → S'.nm n = [])) :
    WorldI S' (nset T d (insL (tn T d).names ⟨name, (T.length : Int)⟩) ++ [⟨n, kind, 1, data, []⟩]) (num ++ [n]) := by
  have hl := W.len
  have htwo := W.two
  obtain ⟨d0, d1⟩ := hd
  have hL : (nset T d (insL (tn T d).names ⟨name, (T.length : Int)⟩) ++ [(⟨n, kind, 1, data, []⟩ : Nod)]).length = T.length + 1 := by unfold nset; simp
  have hin : ∀ i, inT (nset T d (insL (tn T d).names ⟨name, (T.length : Int)⟩) ++ [(⟨n, kind, 1, data, []⟩ : Nod)]) i ↔ inT T i ∨ i = T.length := by
    intro i
    unfold inT
    rw [hL]
    omega
  have hne : ∀ i, inT T i → nu num i ≠ n := by
    intro i hi e
    have := (W.kind i hi).1
    have h3 := (W.kind i hi).2.1
    rw [e, hn0] at this
    omega
  have htn : ∀ i, inT T i ∨ i = T.length → tn (nset T d (insL (tn T d).names ⟨name, (T.length : Int)⟩) ++ [(⟨n, kind, 1, data, []⟩ : Nod)]) i = if i = T.length then ⟨n, kind, 1, data, []⟩ else if i = d then { tn T d with names := insL (tn T d).names ⟨name, (T.length : Int)⟩ } else tn T i :=
    fun i hi => tn_set ⟨d0, d1⟩ _ _ (by unfold inT at hi; omega)
  have hnu : ∀ i, inT T i ∨ i = T.length → nu (num ++ [n]) i = if i = T.length then n else nu num i := fun i hi => by
    have := nu_app (num := num) (n := n) (i := i) (by unfold inT at hi; omega)
    rw [hl] at this; exact this
  have hdn : nu num d ≠ n := hne d ⟨d0, d1⟩
  have hlt : ∀ i, inT T i → i ≠ T.length := fun i hi => by unfold inT at hi; omega
  refine ⟨by rw [hL, List.length_append, hl]; rfl, by rw [hL]; omega, ?_, fun i hi => ?_, fun i j hi hj e => ?_, fun i hi => ?_, fun i hi hki => ?_, fun i hi hki => ?_, fun i hi hki => ?_⟩
  · have h1in : inT T 1 := ⟨by omega, by omega⟩
    rw [hnu 1 (.inl h1in), htn 1 (.inl h1in), if_neg (hlt 1 h1in), if_neg (hlt 1 h1in)]
    refine ⟨W.root.1, ?_⟩
    split
    · exact hk
    · exact W.root.2
  · have hi' := (hin i).1 hi
    rw [hnu i hi']
    by_cases e : i = T.length
    · rw [if_pos e]; exact hn
    · rw [if_neg e]; exact W.rng i (hi'.resolve_right e)
  · have hi' := (hin i).1 hi
    have hj' := (hin j).1 hj
    rw [hnu i hi', hnu j hj'] at e
    by_cases ei : i = T.length
    · by_cases ej : j = T.length
      · omega
      · rw [if_pos ei, if_neg ej] at e
        exact absurd e.symm (hne j (hj'.resolve_right ej))
    · by_cases ej : j = T.length
      · rw [if_neg ei, if_pos ej] at e
        exact absurd e (hne i (hi'.resolve_right ei))
      · rw [if_neg ei, if_neg ej] at e
        exact W.inj i j (hi'.resolve_right ei) (hj'.resolve_right ej) e
  · have hi' := (hin i).1 hi
    rw [hnu i hi', htn i hi']
    by_cases e : i = T.length
    · rw [if_pos e, if_pos e]; exact ⟨h2.1, hkind.1, hkind.2⟩
    · have hi2 := hi'.resolve_right e
      rw [if_neg e, if_neg e]
      by_cases e2 : i = d
      · rw [if_pos e2, e2]
        exact ⟨h1.1.trans hk.symm, (W.kind d ⟨d0, d1⟩).2⟩
      · rw [if_neg e2]
        rw [(hS (nu num i) (hne i hi2) (fun x => e2 (W.inj i d hi2 ⟨d0, d1⟩ x))).1]
        exact W.kind i hi2
  · have hi' := (hin i).1 hi
    rw [htn i hi'] at hki
    rw [hnu i hi', htn i hi']
    have hrn : ∀ e : Ent, inT T e.node → rn (num ++ [n]) e = rn num e := by
      intro e he
      unfold rn
      rw [hnu e.node (.inl he), if_neg (hlt _ he)]
    by_cases e : i = T.length
    · rw [if_pos e] at hki ⊢
      rw [if_pos e]
      exact ⟨h2.2.2 hki, by simp, List.Pairwise.nil⟩
    · have hi2 := hi'.resolve_right e
      rw [if_neg e] at hki ⊢
      rw [if_neg e]
      by_cases e2 : i = d
      · rw [if_pos e2]
        subst e2
        obtain ⟨q1, q2, q3⟩ := W.dir i hi2 hk
        refine ⟨?_, fun e he => (hin _).2 ?_, insL_strict q3 hp⟩
        · rw [h1.2, q1]
          show _ = (insL (tn T i).names ⟨name, (T.length : Int)⟩).map (rn (num ++ [n]))
          rw [insL_map (rn (num ++ [n])) (fun _ => rfl)]
          have e1 : (tn T i).names.map (rn (num ++ [n])) = (tn T i).names.map (rn num) := List.map_congr_left fun e he => hrn e (q2 e he)
          have e3 : rn (num ++ [n]) ⟨name, (T.length : Int)⟩ = ⟨name, n⟩ := by
            unfold rn
            rw [hnu _ (.inr rfl), if_pos rfl]
          rw [e1, e3]
        · have he' : e ∈ insL (tn T i).names ⟨name, (T.length : Int)⟩ := he
          rcases List.mem_cons.1 ((insL_perm _ _).mem_iff.1 he') with rfl | h
          · exact .inr rfl
          · exact .inl (q2 e h)
      · rw [if_neg e2] at hki ⊢
        obtain ⟨q1, q2, q3⟩ := W.dir i hi2 hki
        refine ⟨?_, fun e he => (hin _).2 (.inl (q2 e he)), q3⟩
        rw [(hS (nu num i) (hne i hi2) (fun x => e2 (W.inj i d hi2 ⟨d0, d1⟩ x))).2.1, q1]
        exact (List.map_congr_left fun e he => hrn e (q2 e he)).symm
  · have hi' := (hin i).1 hi
    rw [htn i hi'] at hki
    rw [hnu i hi', htn i hi']
    by_cases e : i = T.length
    · rw [if_pos e] at hki ⊢
      rw [if_pos e]
      exact (h2.2.1 hki).symm
    · have hi2 := hi'.resolve_right e
      rw [if_neg e] at hki ⊢
      rw [if_neg e]
      by_cases e2 : i = d
      · rw [if_pos e2] at hki
        exact absurd hk hki
      · rw [if_neg e2] at hki ⊢
        rw [(hS (nu num i) (hne i hi2) (fun x => e2 (W.inj i d hi2 ⟨d0, d1⟩ x))).2.2]
        exact W.data i hi2 hki
  · have hi' := (hin i).1 hi
    rw [htn i hi'] at hki ⊢
    by_cases e : i = T.length
    · rw [if_pos e]
    · have hi2 := hi'.resolve_right e
      rw [if_neg e] at hki ⊢
      by_cases e2 : i = d
      · rw [if_pos e2] at hki
        exact absurd hk hki
      · rw [if_neg e2] at hki ⊢
        exact W.oth i hi2 hki
end Go.Proofs.YtdfgkdoplagelaaGreatDoor
/-
  The engine: a map's entry, made or found, and what is stored there.
-/
set_option linter.all false
set_option maxRecDepth 100000
set_option maxHeartbeats 1000000
namespace Go.Eng

/-- an entry that is there, and is to be stored -/
def MapO (h : Heap) (r : Nat) (m : List (Int × Value)) (n : Int) (born : Int) : Prop :=
  ∃ (es : Array MapEntry) (cl j : Nat) (hj : j < es.size), h[r]? = some (.map es cl) ∧ es.toList.map (fun e => (e.key, e.val)) = m.map (fun p => (Value.int .i64 p.1, p.2)) ∧ (m.map (·.1)).Nodup ∧ (es.toList.map (·.born)).Nodup ∧ (∀ e ∈ es.toList, e.born < cl) ∧
    (m[j]?).map (·.1) = some n ∧ born = ((es[j]'hj).born : Int) ∧ (es[j]'hj).key = .int .i64 n
def MapQ (h : Heap) (r : Nat) (m : List (Int × Value)) (n : Int) (born : Int) : Prop := (lookI m n = none ∧ MapP h r m n born) ∨ MapO h r m n born

theorem modify_same {α : Type} (a : Array α) (j : Nat) (f g : α → α) (h : ∀ hj : j < a.size, f a[j] = g a[j]) : a.modify j f = a.modify j g := by
  apply Array.ext
  · simp
  · intro i i1 i2
    rw [Array.getElem_modify, Array.getElem_modify]
    split
    · rename_i e; subst e; exact h (by simpa using i1)
    · rfl

theorem SemR.entryAny {P : Program} {T kT eT : TypeId} {i : TypeInfo} {z : Value} (hu : P.underlying T = some (.map kT eT)) (hk : P.underlying kT = some (.int .i64)) (hi : P.info? eT = some i) (hz : i.zero = some z) {h : Heap} {r : Nat} {m : List (Int × Value)} (o : MapL h r m) {n : Int} {bs : List Nat} (hb : r ∉ bs)
    {K : Value → Heap → Prop} (H : ∀ h' v born, h'.size = h.size → MapQ h' r m n born → Keeps [r] h h' → K (.tuple #[v, .int .i64 born]) h') : SemR P (Instr.mapEntry T (.map (some r)) (.int .i64 n)) bs h K := by
  by_cases hn : lookI m n = none
  · refine SemR.entryNew hu hk hi hz o ((lookI_none m n).1 hn) hb fun h' born s p k => H h' z born s (.inl ⟨hn, p⟩) k
  · unfold SemR
    intro hlt w hw
    subst hw
    have hr := o.lt
    obtain ⟨es, cl, h1, h2, h3, h4, h5⟩ := o
    obtain ⟨q, h6, h7, h8⟩ := findNow_look es.toList m n 0 h2
    obtain ⟨p, rfl⟩ : ∃ p, q = some p := by
      cases q with
      | none => exact absurd (by simpa using h7.symm) hn
      | some p => exact ⟨p, rfl⟩
    obtain ⟨j, hj1, hj2, hj3⟩ := h8 p rfl
    have hj : p.1 = j := by omega
    have hjl : j < es.size := by simpa using hj2
    have hkey : (es[j]'hjl).key = .int .i64 n := by
      have := congrArg (fun l => l[j]?) h2
      simp only [List.getElem?_map] at this
      cases hm : m[j]? with
      | none => rw [hm] at hj3; simp at hj3
      | some q =>
        rw [hm] at this hj3
        simp at hj3
        simp [hjl] at this
        rw [this.1, hj3]
    have hmod : (es.modify j fun e => { e with key := .int .i64 n }) = es := by
      apply Array.ext
      · simp
      · intro i i1 i2
        rw [Array.getElem_modify]
        split
        · rename_i e; subst e
          cases he : es[j]'hjl
          rw [he] at hkey
          simp at hkey
          simp [hkey]
        · rfl
    refine ⟨.tuple #[p.2, .int .i64 ((es[j]'hjl).born : Int)], { w with heap := w.heap.setIfInBounds r (.map es cl) }, ?_, ⟨rfl, rfl, rfl⟩, fun b hb' => ?_, H _ _ _ (by simp) (.inr ⟨es, cl, j, hjl, by rw [set_get _ _ _ _ hr, if_pos rfl], h2, h3, h4, h5, hj3, rfl, hkey⟩) (keeps_set _ _ _ hr)⟩
    · simp only [Instr.mapEntry, Sem.run_bind, underlying_run P T w hu, Result.andThen_ok, getObj_run h1]
      rw [checkKey_plain hk (.inl ⟨_, rfl⟩)]
      simp only [Result.andThen_ok, findKey_now hk h6 w]
      rw [hj]
      have hold : ((es[j]?).map (·.key)).getD (Value.int .i64 n) = .int .i64 n := by simp [hjl, hkey]
      have hbn : ((es[j]?).map (fun x => (x.born : Int))).getD 0 = ((es[j]'hjl).born : Int) := by simp [hjl]
      simp only [hold, hbn, Instr.keyThatStays, Instr.sameBits, beq_self_eq_true, Bool.and_self, if_true, Sem.run_bind, Sem.run_pure, Result.andThen_ok]
      have he2 : (es.modify j fun e => { key := Value.int IntKind.i64 n, val := e.val, born := e.born }) = es := hmod
      rw [he2, setObj_run h1]
      rfl
    · show (w.heap.setIfInBounds r _)[b]? = _
      rw [set_get _ _ _ _ hr, if_neg (by intro e; subst e; exact hb hb')]

theorem SemR.entryStoreAny {P : Program} {T : TypeId} {h : Heap} {r : Nat} {m : List (Int × Value)} {n born : Int} (o : MapQ h r m n born) {v : Value} {bs : List Nat} (hb : r ∉ bs)
    {K : Unit → Heap → Prop} (H : ∀ h', h'.size = h.size → MapL h' r (putI m n v) → Keeps [r] h h' → K () h') : SemR P (Instr.entryStore T (.map (some r)) (.int .i64 born) v) bs h K := by
  rcases o with ⟨hn, o⟩ | o
  · exact SemR.entryStore o hb fun h' s M k => H h' s (by rw [put_push m n v hn]; exact M) k
  · unfold SemR
    intro hlt w hw
    subst hw
    obtain ⟨es, cl, j, hj, h1, h2, h3, h4, h5, h6, rfl, hkey⟩ := o
    have hr := obj_lt h1
    have hg := getObj_run (P := P) h1
    have hfind : es.findIdx? (fun e => (e.born : Int) == ((es[j]'hj).born : Int)) = some j := by
      rw [Array.findIdx?_eq_some_iff_getElem]
      refine ⟨hj, by simp, fun i hi => ?_⟩
      have hne : (es[i]'(by omega)).born ≠ (es[j]'hj).born := by
        intro e
        have hp := List.pairwise_iff_getElem.1 h4 i j (by simpa using (by omega : i < es.size)) (by simpa using hj) hi
        simp at hp
        exact hp e
      simp
      omega
    have hmod : (es.modify j fun e => { e with val := v }) = es.modify j fun e => { e with key := .int .i64 n, val := v } := modify_same _ _ _ _ fun hj' => by
      cases he : es[j]'hj'
      rw [he] at hkey
      simp at hkey
      simp [hkey]
    have hs := setObj_run (P := P) h1 (.map (es.modify j fun e => { e with val := v }) cl)
    refine ⟨(), { w with heap := w.heap.setIfInBounds r (.map (es.modify j fun e => { e with val := v }) cl) }, ?_, ⟨rfl, rfl, rfl⟩, fun b hb' => ?_, H _ (by simp) ⟨es.modify j fun e => { e with val := v }, cl, by rw [set_get _ _ _ _ hr, if_pos rfl], ?_, ?_, ?_, ?_⟩ (keeps_set _ _ _ hr)⟩
    · simp [Instr.entryStore, hg, asInt, asIntOf, hfind, hs]
    · show (w.heap.setIfInBounds r _)[b]? = _
      rw [set_get _ _ _ _ hr, if_neg (by intro e; subst e; exact hb hb')]
    · rw [hmod, Array.toList_modify]; exact put_modify es.toList m n v j h2 h3 h6
    · rw [putI_keys]
      have : n ∈ m.map (·.1) := by
        simp only [Option.map_eq_some_iff] at h6
        obtain ⟨q, hq, rfl⟩ := h6
        exact List.mem_map.2 ⟨q, List.mem_of_getElem? hq, rfl⟩
      rw [if_pos this]; exact h3
    · have : (es.modify j fun e => { e with val := v }).toList.map (·.born) = es.toList.map (·.born) := by
        rw [Array.toList_modify]
        apply List.ext_getElem?
        intro i
        simp only [List.getElem?_map, List.getElem?_modify]
        cases es.toList[i]? with
        | none => simp
        | some e => by_cases hij : j = i <;> simp [hij]
      rw [this]; exact h4
    · intro e he
      rw [Array.toList_modify] at he
      obtain ⟨i, hi⟩ := List.getElem?_of_mem he
      rw [List.getElem?_modify] at hi
      cases hee : es.toList[i]? with
      | none => rw [hee] at hi; simp at hi
      | some e0 =>
        rw [hee] at hi
        simp at hi
        have := h5 e0 (List.mem_of_getElem? hee)
        rw [← hi]
        split <;> simpa using this
end Go.Eng
