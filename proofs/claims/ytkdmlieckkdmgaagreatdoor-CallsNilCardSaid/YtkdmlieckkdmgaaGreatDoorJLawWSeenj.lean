/-
  Joined texts: FolU, FolV, FolW, FolX, FomA, FomB, FomC, FomD, FomE, WalD, FileH, FileJ, FileN, WalA.
-/
import Derived.Test.YtkdmlieckkdmgaaGreatDoorJLawWSeeni
import Derived.Test.YtkdmlieckkdmgaaGreatDoorJLawWSeeng
/-
  Layer 11's plain law: a name more.
-/
set_option linter.all false
set_option maxRecDepth 100000
set_option maxHeartbeats 2000000
namespace Go.Proofs.YtkdmlieckkdmgaaGreatDoor
open Go Go.Eng

/-! ### Free blocks -/

theorem freeN_pos {B : Int → UInt64} {X : VS} (h : 1 ≤ freeN B X 96) : firstF B X 96 0 ≠ none := by
  intro hf
  have := firstF_none hf
  unfold freeN at h
  have : ((List.range 96).filter fun (i : Nat) => freshB B X (i : Int)) = [] := by
    rw [List.filter_eq_nil_iff]
    intro k hk
    rw [this k (Nat.zero_le _) (by simpa using hk)]; simp
  rw [this] at h
  simp at h

theorem count_one {p q : Nat → Bool} {k : Nat} (hp : p k = true) (hq : q k = false) : ∀ {n : Nat}, k < n → (∀ j, j < n → j ≠ k → p j = q j) → ((List.range n).filter p).length = ((List.range n).filter q).length + 1
  | 0, h, _ => by omega
  | n + 1, h, hs => by
    rw [List.range_succ, List.filter_append, List.filter_append, List.length_append, List.length_append]
    by_cases e : k = n
    · subst e
      have : (List.range k).filter p = (List.range k).filter q := List.filter_congr fun j hj => hs j (by have := List.mem_range.1 hj; omega) (by have := List.mem_range.1 hj; omega)
      rw [this]
      simp [hp, hq]
    · have ih := count_one hp hq (n := n) (by omega) fun j hj hne => hs j (by omega) hne
      rw [ih]
      have : p n = q n := hs n (by omega) (fun x => e x.symm)
      simp only [List.filter_cons, this, List.filter_nil]
      omega

theorem free_take {B : Int → UInt64} {X : VS} {node : Int} (hn : 0 ≤ node ∧ node < 24) (h : (takeP B X node).2.1 = 0) : freeN B X 96 = freeN B (takeP B X node).2.2 96 + 1 := by
  unfold takeP at h ⊢
  rw [if_pos hn] at h ⊢
  cases hf : firstF B X 96 0 with
  | none => rw [hf] at h; simp at h
  | some k =>
    simp only
    have hk := firstF_is hf
    unfold freeN
    have hk2 : 0 ≤ (k : Int) ∧ (k : Int) < 96 := by omega
    have how : ∀ j : Nat, j < 96 → (putBlk (upd X.now (200 + (k : Int)) (w64 (node + 1))) (k : Int) []) (200 + (j : Int)) = if (j : Int) = (k : Int) then w64 (node + 1) else X.now (200 + (j : Int)) := fun j hj => takeW_owner (now := X.now) (node := node) hk2 (by omega) (by omega)
    refine count_one (k := k) hk.1 ?_ (by omega) fun j hj hne => ?_
    · have e := how k (by omega)
      rw [if_pos rfl] at e
      unfold freshB
      have h3 : decide ((putBlk (upd X.now (200 + (k : Int)) (w64 (node + 1))) (k : Int) []) (200 + (k : Int)) = 0) = false := decide_eq_false (by rw [e]; exact w64_ne hn)
      simp only [h3, Bool.false_and, Bool.and_false]
    · have e := how j hj
      rw [if_neg (by omega)] at e
      unfold freshB
      simp only [e]

theorem keepP_room {B : Int → UInt64} {node : Int} (hn : 0 ≤ node ∧ node < 24) {X : VS} {c : Crd} {m : List Int} (W : Wk X.now node c.more m) (h : 1 ≤ freeN B X 96) : Kep node X c m (keepP B X node c m) := by
  rcases keepP_plain (B := B) hn W with ⟨h9, _, hm, hu⟩ | K
  · exfalso
    unfold keepP at h9
    rw [if_pos ⟨hn, W.len, W.drops⟩, if_neg (by rw [hu]; decide), if_pos hm] at h9
    rcases take_facts (B := B) (X := X) hn with ⟨e0, k0, k1, kn, kx⟩ | ⟨e9, kx, kf⟩
    · simp only [e0, if_true, if_pos (show 0 ≤ (takeP B X node).1 ∧ (takeP B X node).1 < 96 from ⟨k0, k1⟩)] at h9
      cases h9
    · exact freeN_pos h kf
  · exact K

/-! ### How many stand in a bucket -/

theorem firstK_none {p : List UInt64 → Nat → Bool} {ws : List UInt64} : ∀ {f k : Nat}, firstK p ws f k = none → ∀ q, k ≤ q → q < k + f → p ws q = false
  | 0, _, _, q, _, _ => by omega
  | f + 1, k, h, q, h1, h2 => by
    unfold firstK at h
    split at h
    · cases h
    · rename_i hp
      by_cases e : q = k
      · subst e; simpa using hp
      · exact firstK_none h q (by omega) (by omega)
theorem spotF_none {W : Int → List UInt64} {m : List Int} {p : List UInt64 → Nat → Bool} : ∀ {f pl : Nat}, spotF W m p f pl = none → ∀ j, j < f → pl + 8 * j < 21 → plc m (pl + 8 * j) = -1 ∨ firstK p (W ((pl + 8 * j : Nat) : Int)) 5 0 = none
  | 0, _, _, j, hj, _ => by omega
  | f + 1, pl, h, j, hj, hl => by
    unfold spotF at h
    rw [if_pos (by omega)] at h
    cases j with
    | zero =>
      split at h
      · left; assumption
      · split at h
        · cases h
        · right; assumption
    | succ j =>
      have ih : spotF W m p f (pl + 8) = none → _ := fun g => spotF_none g j (by omega) (by omega)
      have e : pl + 8 + 8 * j = pl + 8 * (j + 1) := by omega
      rw [e] at ih
      split at h
      · exact ih h
      · split at h
        · cases h
        · exact ih h
theorem growF_none {m : List Int} : ∀ {f pl : Nat}, growF m f pl = none → ∀ j, j < f → pl + 8 * j < 21 → plc m (pl + 8 * j) ≠ -1
  | 0, _, _, j, hj, _ => by omega
  | f + 1, pl, h, j, hj, hl => by
    unfold growF at h
    rw [if_pos (by omega)] at h
    split at h
    · cases h
    · rename_i hp
      cases j with
      | zero => exact hp
      | succ j =>
        have := growF_none h j (by omega) (by omega)
        rwa [show pl + 8 + 8 * j = pl + 8 * (j + 1) by omega] at this

def hadL (l : List Ent) (name : List UInt8) : Nat := (l.filter fun e => decide (bucketL e.name = bucketL name)).length
def roomN (bk : Nat) : Nat := if bk < 5 then 15 else 10

theorem had_sum (now : Int → UInt64) (m : List Int) (bk : Nat) (hok : (List.range 21).all (placeOk now m) = true) : ((rawE now m).filter fun e => decide (bucketL e.name = bk)).length = ((List.range 21).map fun i => if i % 8 = bk then (placeE now m i).length else 0).sum := by
  have hk : ∀ i ∈ List.range 21, placeOk now m i = true := fun i hi => List.all_eq_true.1 hok i hi
  unfold rawE
  revert hk
  generalize List.range 21 = L
  intro hk
  induction L with
  | nil => rfl
  | cons i L ih =>
    rw [List.flatMap_cons, List.filter_append, List.length_append, ih (fun j hj => hk j (by simp [hj])), List.map_cons, List.sum_cons]
    congr 1
    have hg := placeE_good (hk i (by simp))
    by_cases e : i % 8 = bk
    · rw [if_pos e, List.filter_eq_self.2]
      intro x hx
      rw [(hg x hx).2]; exact decide_eq_true e
    · rw [if_neg e, List.filter_eq_nil_iff.2]
      · rfl
      · intro x hx
        rw [(hg x hx).2]; simpa using e

theorem sum_bucket (f : Nat → Nat) (bk : Nat) (h : bk < 8) : ((List.range 21).map fun i => if i % 8 = bk then f i else 0).sum = f bk + f (bk + 8) + (if bk < 5 then f (bk + 16) else 0) := by
  have : bk = 0 ∨ bk = 1 ∨ bk = 2 ∨ bk = 3 ∨ bk = 4 ∨ bk = 5 ∨ bk = 6 ∨ bk = 7 := by omega
  rcases this with rfl | rfl | rfl | rfl | rfl | rfl | rfl | rfl <;> simp [List.range_succ] <;> omega

theorem slot_full {ws : List UInt64} (h : ∀ k, k < 5 → emptyB ws k = false) : (wsE ws).length = 5 := by
  unfold wsE
  have e : List.range 5 = [0, 1, 2, 3, 4] := rfl
  have g : ∀ k, k < 5 → slotE ws k = [entE ws k] := fun k hk => by unfold slotE; rw [if_neg (by rw [h k hk]; decide)]
  rw [e]
  simp [g 0 (by decide), g 1 (by decide), g 2 (by decide), g 3 (by decide), g 4 (by decide)]
theorem slot_less {ws : List UInt64} {k : Nat} (hk : k < 5) (h : emptyB ws k = true) : (wsE ws).length ≤ 4 := by
  unfold wsE
  have e : List.range 5 = [0, 1, 2, 3, 4] := rfl
  have g : slotE ws k = [] := by unfold slotE; rw [if_pos h]
  have l0 := slotE_len ws 0
  have l1 := slotE_len ws 1
  have l2 := slotE_len ws 2
  have l3 := slotE_len ws 3
  have l4 := slotE_len ws 4
  rw [e]
  simp only [List.flatMap_cons, List.flatMap_nil, List.length_append, List.length_nil]
  have : k = 0 ∨ k = 1 ∨ k = 2 ∨ k = 3 ∨ k = 4 := by omega
  rcases this with rfl | rfl | rfl | rfl | rfl <;> rw [g] <;> simp <;> omega

theorem DirI.had {now : Int → UInt64} {node : Int} {c : Crd} {m : List Int} {l : List Ent} (D : DirI now node c m l) (name : List UInt8) : hadL l name = (placeE now m (bucketL name)).length + (placeE now m (bucketL name + 8)).length + (if bucketL name < 5 then (placeE now m (bucketL name + 16)).length else 0) := by
  unfold hadL
  rw [← ((D.ents.filter _).length_eq), had_sum now m _ D.all, sum_bucket _ _ (bucketL_lt name)]

/-- where there is an empty entry the bucket isn't full -/
theorem DirI.notfull {now : Int → UInt64} {node : Int} {c : Crd} {m : List Int} {l : List Ent} (D : DirI now node c m l) (name : List UInt8) {pl : Nat} (hp : pl < 21) (hb : pl % 8 = bucketL name) (hl : (placeE now m pl).length ≤ 4) : hadL l name < roomN (bucketL name) := by
  have hbk := bucketL_lt name
  rw [D.had]
  have h0 := placeE_len now m (bucketL name)
  have h1 := placeE_len now m (bucketL name + 8)
  have h2 := placeE_len now m (bucketL name + 16)
  have hc : pl = bucketL name ∨ pl = bucketL name + 8 ∨ (pl = bucketL name + 16 ∧ bucketL name < 5) := by omega
  unfold roomN
  rcases hc with rfl | rfl | ⟨rfl, hc⟩
  · split <;> omega
  · split <;> omega
  · rw [if_pos hc, if_pos hc]; omega

theorem DirI.full {now : Int → UInt64} {node : Int} {c : Crd} {m : List Int} {l : List Ent} (D : DirI now node c m l) (name : List UInt8) (h1 : spotF (wordsAt now m) m emptyB 4 (bucketL name) = none) (h2 : growF m 4 (bucketL name) = none) : roomN (bucketL name) ≤ hadL l name := by
  have hbk := bucketL_lt name
  rw [D.had]
  have key : ∀ j, j < 4 → bucketL name + 8 * j < 21 → (placeE now m (bucketL name + 8 * j)).length = 5 := by
    intro j hj hl
    have g1 := growF_none h2 j hj hl
    have g2 := (spotF_none h1 j hj hl).resolve_left g1
    rw [placeE_ws g1]
    have e : wordsAt now m ((bucketL name + 8 * j : Nat) : Int) = blkW now (plc m (bucketL name + 8 * j)) := by unfold wordsAt; rw [Int.toNat_natCast]
    rw [e] at g2
    exact slot_full fun k hk => firstK_none g2 k (Nat.zero_le _) (by omega)
  have k0 := key 0 (by decide) (by omega)
  have k1 := key 1 (by decide) (by omega)
  simp only [Nat.mul_zero, Nat.add_zero, Nat.mul_one] at k0 k1
  rw [k0, k1]
  unfold roomN
  by_cases h : bucketL name < 5
  · rw [if_pos h, if_pos h]
    have k2 := key 2 (by decide) (by omega)
    simp only [Nat.reduceMul] at k2
    rw [k2]; omega
  · rw [if_neg h, if_neg h]; omega
end Go.Proofs.YtkdmlieckkdmgaaGreatDoor
/-
  Layer 11's plain law: a name more, answered as the document does.
-/
set_option linter.all false
set_option maxRecDepth 100000
set_option maxHeartbeats 2000000
namespace Go.Proofs.YtkdmlieckkdmgaaGreatDoor
open Go Go.Eng

/-- the document's answer: a name more -/
def refAdd (l : List Ent) (name : List UInt8) (target : Int) : List Ent × Int :=
  if target < 1 ∨ 24 ≤ target then ([], 1)
  else if nameB name = false then ([], 3)
  else if plT l name = true then ([], 5)
  else (insL l ⟨name, target⟩, 0)

theorem wordsAt_nat (now : Int → UInt64) (m : List Int) (p : Nat) : wordsAt now m (p : Int) = blkW now (plc m p) := by unfold wordsAt; rw [Int.toNat_natCast]

theorem slot_some {ws : List UInt64} {k : Nat} (hk : k < 5) (h : emptyB ws k = true) : (wsE ws).length ≤ 4 := slot_less hk h

/-- blocks are kept: what is free stays -/
theorem freeN_put {B : Int → UInt64} {X : VS} {k : Int} {ws : List UInt64} (hk : 0 ≤ k) (hw : ws.length ≤ 16) : freeN B { X with now := putBlk X.now k ws } 96 = freeN B X 96 := by
  unfold freeN
  congr 1
  refine List.filter_congr fun j hj => ?_
  have hj' : j < 96 := by simpa using hj
  unfold freshB
  have : (putBlk X.now k ws) (200 + (j : Int)) = X.now (200 + (j : Int)) := put_owner hw hk (by omega)
  simp only [this]

/-- an entry is put: what there is then -/
theorem put_dir {B : Int → UInt64} {node : Int} (hn : 0 ≤ node ∧ node < 24) {X : VS} {c : Crd} {m : List Int} {l : List Ent} {name : List UInt8} {target : Int} {pl k : Nat}
    (W : Wk X.now node c.more m) (ok : ∀ i, i < 21 → plc m i ≠ -1 → wsOk (blkW X.now (plc m i)) i = true) (ents : (rawE X.now m).Perm l) (str : strict l) (kind : c.kind = 2 ∧ c.links = 1) (size : c.size = (l.length : Int))
    (hpl : pl < 21) (hpu : plc m pl ≠ -1) (hk : k < 5) (he : emptyB (blkW X.now (plc m pl)) k = true) (hb : pl % 8 = bucketL name) (hname : nameB name = true) (ht : 1 ≤ target ∧ target < 24) (hnt : plT l name = false)
    {Y : VS} (hY : Y = { X with now := putBlk X.now (plc m pl) (setSlot (blkW X.now (plc m pl)) k (entWs ⟨name, target⟩)) }) :
    Wk Y.now node c.more m ∧ Fr node X.now Y.now ∧ freeN B Y 96 = freeN B X 96 ∧ (∀ r, Kep node Y { c with size := c.size + 1 } m r → DirI r.2.2.now node r.1 m (insL l ⟨name, target⟩) ∧ Fr node X.now r.2.2.now) := by
  have hlen := blkW_len X.now (plc m pl)
  have hsl : (setSlot (blkW X.now (plc m pl)) k (entWs ⟨name, target⟩)).length = 16 := by
    unfold setSlot
    simp [entWs_len, hlen]; omega
  obtain ⟨W2, F2, b1, b2⟩ := W.putW hpl hpu hsl
  have hk0 : 0 ≤ plc m pl := by have := (W.rngP.plc pl).resolve_left hpu; omega
  have hp := ws_put (place := pl) (e := ⟨name, target⟩) hlen hk hname ht.1 ht.2 hb.symm (ok pl hpl hpu) he
  subst hY
  refine ⟨W2, F2, freeN_put hk0 (by omega), fun r K => ?_⟩
  have hby : ∀ i, i < 21 → plc m i ≠ -1 → blkW r.2.2.now (plc m i) = blkW (putBlk X.now (plc m pl) (setSlot (blkW X.now (plc m pl)) k (entWs ⟨name, target⟩))) (plc m i) := fun i hi hu => fb_blk K.by_ hi hu
  refine ⟨⟨K.map, K.wk, ?_, ?_, fun i hi hu => ?_, ?_, insL_strict str hnt, K.mor⟩, F2.trans K.fr (w64_ne hn)⟩
  · rw [K.c_]; exact kind
  · rw [K.c_]
    show c.size + 1 = _
    rw [size, (insL_perm l _).length_eq]
    simp
  · rw [hby i hi hu]
    by_cases e : i = pl
    · subst e; rw [b1]; exact hp.1
    · rw [b2 i hi e hu]; exact ok i hi hu
  · rw [rawE_same hby]
    refine List.Perm.trans ?_ (insL_perm l _).symm
    have p := rawE_one (f := X.now) (g := putBlk X.now (plc m pl) (setSlot (blkW X.now (plc m pl)) k (entWs ⟨name, target⟩))) (m := m) (m' := m) hpl fun j hj hne => by
      by_cases e : plc m j = -1
      · rw [placeE_hole e, placeE_hole e]
      · rw [placeE_ws e, placeE_ws e, b2 j hj hne e]
    rw [placeE_ws hpu, placeE_ws hpu, b1] at p
    have p2 : (rawE X.now m ++ wsE (setSlot (blkW X.now (plc m pl)) k (entWs ⟨name, target⟩))).Perm ((⟨name, target⟩ :: l) ++ wsE (blkW X.now (plc m pl))) := by
      refine (ents.append hp.2).trans ?_
      rw [List.cons_append]
      exact List.perm_middle
    exact (List.perm_append_right_iff _).1 (p.symm.trans p2)

theorem addP_plain {B : Int → UInt64} {X : VS} {node : Int} (hn : 0 ≤ node ∧ node < 24) {c : Crd} {m : List Int} {l : List Ent} (D : DirI X.now node c m l) (name : List UInt8) (target : Int) :
    ((addP B X node c name target).2.1 = (refAdd l name target).2 ∧ (refAdd l name target).2 ≠ 0 ∧ (refAdd l name target).2 ≠ 9) ∨
    ((refAdd l name target).2 = 0 ∧ (addP B X node c name target).2.1 = 9 ∧ (roomN (bucketL name) ≤ hadL l name ∨ freeN B X 96 < 2)) ∨
    ((refAdd l name target) = (insL l ⟨name, target⟩, 0) ∧ (addP B X node c name target).2.1 = 0 ∧ hadL l name < roomN (bucketL name) ∧ ∃ m', DirI (addP B X node c name target).2.2.now node (addP B X node c name target).1 m' (insL l ⟨name, target⟩) ∧ Fr node X.now (addP B X node c name target).2.2.now) := by
  have hbk := bucketL_lt name
  unfold addP refAdd
  by_cases ht : target < 1 ∨ 24 ≤ target
  · left
    rw [if_pos (.inr ht), if_pos ht]
    exact ⟨rfl, by simp, by simp⟩
  rw [if_neg (show ¬ (¬ (0 ≤ node ∧ node < 24) ∨ target < 1 ∨ 24 ≤ target) from fun h => h.elim (fun h => h hn) ht), if_neg ht, D.open_]
  simp only [ne_eq, not_true_eq_false, if_false]
  rw [find_place D.str]
  by_cases hr : nameB name = false
  · left
    have hnp : plT l name = false := by
      rw [← Bool.not_eq_true]
      intro h
      rw [← find_place D.str] at h
      unfold findR at h
      cases hf : findE l name with
      | none => rw [hf] at h; cases h
      | some e =>
        unfold findE at hf
        have h1 := List.find?_some hf
        have h2 := D.good e (List.mem_of_find?_eq_some hf)
        have h3 : e.name = name := by simpa using h1
        have := h2.2.2
        rw [h3, hr] at this
        cases this
    rw [if_neg (by rw [hnp]; simp), if_pos hr, if_pos hr]
    exact ⟨rfl, by simp, by simp⟩
  rw [if_neg hr, if_neg hr]
  have hrt : nameB name = true := by simpa using hr
  by_cases hp : plT l name = true
  · left
    rw [if_pos hp, if_pos hp]
    exact ⟨rfl, by simp, by simp⟩
  rw [if_neg hp, if_neg hp]
  have hpf : plT l name = false := by simpa using hp
  right
  have htr : 1 ≤ target ∧ target < 24 := by omega
  unfold firstR
  cases hs : spotF (wordsAt X.now m) m emptyB 4 (bucketL name) with
  | some q =>
    obtain ⟨pl, k⟩ := q
    obtain ⟨q1, q2, q3, q4, q5⟩ := spotF_is hs
    simp only at q1 q2 q3 q4 q5 ⊢
    rw [wordsAt_nat] at q4
    simp only [not_true_eq_false, if_false, Int.toNat_natCast, wordsAt_nat]
    have hlt := D.notfull name q1 (by omega) (by rw [placeE_ws q2]; exact slot_less q3 q4)
    obtain ⟨W2, F2, fr2, HK⟩ := put_dir (B := B) (name := name) (target := target) hn D.wk D.ok D.ents D.str D.kind D.size q1 q2 q3 q4 (by omega) hrt htr hpf (Y := _) rfl
    by_cases hfree : 1 ≤ freeN B X 96
    · right
      have K := keepP_room (B := B) (c := { c with size := c.size + 1 }) hn W2 (by rw [fr2]; exact hfree)
      obtain ⟨R1, R2⟩ := HK _ K
      exact ⟨trivial, K.e, hlt, m, R1, R2⟩
    · rcases keepP_plain (B := B) (c := { c with size := c.size + 1 }) hn W2 with ⟨p9, _⟩ | K
      · left
        exact ⟨trivial, p9, .inr (by omega)⟩
      · right
        obtain ⟨R1, R2⟩ := HK _ K
        exact ⟨trivial, K.e, hlt, m, R1, R2⟩
  | none =>
    simp only
    unfold growP
    cases hg : growF m 4 (bucketL name) with
    | none =>
      left
      simp only
      exact ⟨trivial, rfl, .inl (D.full name hs hg)⟩
    | some pl =>
      obtain ⟨q1, q2, q3, q4⟩ := growF_is hg
      simp only
      rcases take_facts (B := B) (X := X) hn with ⟨e0, k0, k1, kn, kx⟩ | ⟨e9, kx, kf⟩
      · have hft := free_take hn e0
        simp only [e0, if_true, not_true_eq_false, if_false, Int.toNat_natCast]
        rw [kx] at hft ⊢
        generalize (takeP B X node).1 = blk at k0 k1 kn hft
        obtain ⟨W1, F1, _, hfb⟩ := D.wk.take_at hn ⟨k0, k1⟩ kn q1 q2
        have hml := D.wk.len
        have hset : ∀ i, plc (m.set pl blk) i = if i = pl then blk else plc m i := fun i => plc_set (by omega)
        have hnew : blkW (takeW X.now node blk) blk = List.replicate 16 0 := by
          unfold blkW takeW
          rw [put_rd (by simp)]; rfl
        have hold : ∀ i, i < 21 → i ≠ pl → plc m i ≠ -1 → blkW (takeW X.now node blk) (plc m i) = blkW X.now (plc m i) := by
          intro i hi hne hu
          have hr := (D.wk.rngP.plc i).resolve_left hu
          refine takeW_rd ⟨k0, k1⟩ hr.1 fun e => ?_
          have hm : plc m i ∈ m := by
            unfold plc
            rw [List.getElem?_eq_getElem (by omega)]
            exact List.getElem_mem _
          have := (D.wk.own _ hr.1 hr.2).1 (usedL_mem.2 ⟨.inr hm, hu⟩)
          rw [e, kn] at this
          exact w64_ne hn this.symm
        have hat : plc (m.set pl blk) pl = blk := by rw [hset, if_pos rfl]
        have hents : rawE (takeW X.now node blk) (m.set pl blk) = rawE X.now m := by
          unfold rawE
          have : ∀ i ∈ List.range 21, placeE (takeW X.now node blk) (m.set pl blk) i = placeE X.now m i := by
            intro i hi
            have hi : i < 21 := by simpa using hi
            by_cases e : i = pl
            · subst e
              rw [placeE_ws (by rw [hat]; omega), hat, hnew, placeE_hole q2]
              exact (ws_zero 0).2
            · by_cases e2 : plc m i = -1
              · rw [placeE_hole e2, placeE_hole (by rw [hset, if_neg e]; exact e2)]
              · rw [placeE_ws e2, placeE_ws (by rw [hset, if_neg e]; exact e2), hset, if_neg e, hold i hi e e2]
          revert this
          generalize List.range 21 = L
          intro this
          induction L with
          | nil => rfl
          | cons x L ih => rw [List.flatMap_cons, List.flatMap_cons, this x (by simp), ih (fun i hi => this i (by simp [hi]))]
        have hlt := D.notfull name q1 (by omega) (by rw [placeE_hole q2]; simp)
        have hW : growW (wordsAt X.now m) pl (pl : Int) = blkW (takeW X.now node blk) (plc (m.set pl blk) pl) := by
          unfold growW
          rw [if_pos rfl, hat, hnew]
        obtain ⟨W2, F2, fr2, HK⟩ := put_dir (B := B) (X := { X with now := takeW X.now node blk }) (m := m.set pl blk) (pl := pl) (k := 0) (name := name) (target := target) hn W1 (fun i hi hu => by
            by_cases e : i = pl
            · subst e
              rw [hat]; show wsOk (blkW (takeW X.now node blk) blk) i = true
              rw [hnew]; exact (ws_zero i).1
            · rw [hset, if_neg e] at hu ⊢
              show wsOk (blkW (takeW X.now node blk) (plc m i)) i = true
              rw [hold i hi e hu]; exact D.ok i hi hu) (by show (rawE (takeW X.now node blk) (m.set pl blk)).Perm l; rw [hents]; exact D.ents) D.str D.kind D.size q1 (by rw [hat]; omega) (by decide) (by show emptyB (blkW (takeW X.now node blk) _) 0 = true; rw [hat, hnew]; rfl) (by omega) hrt htr hpf (Y := _) rfl
        rw [hW]
        by_cases hfree : 1 ≤ freeN B { X with now := takeW X.now node blk } 96
        · right
          have K := keepP_room (B := B) (c := { c with size := c.size + 1 }) hn W2 (by rw [fr2]; exact hfree)
          obtain ⟨R1, R2⟩ := HK _ K
          exact ⟨trivial, K.e, hlt, _, R1, F1.trans R2 (w64_ne hn)⟩
        · rcases keepP_plain (B := B) (c := { c with size := c.size + 1 }) hn W2 with ⟨p9, _⟩ | K
          · left
            exact ⟨trivial, p9, .inr (by omega)⟩
          · right
            obtain ⟨R1, R2⟩ := HK _ K
            exact ⟨trivial, K.e, hlt, _, R1, F1.trans R2 (w64_ne hn)⟩
      · left
        simp only [e9]
        refine ⟨trivial, rfl, .inr ?_⟩
        rcases Nat.lt_or_ge (freeN B X 96) 1 with h | h
        · omega
        · exact absurd kf (freeN_pos h)
end Go.Proofs.YtkdmlieckkdmgaaGreatDoor
/-
  Layer 11's plain law: a name less.
-/
set_option linter.all false
set_option maxRecDepth 100000
set_option maxHeartbeats 2000000
namespace Go.Proofs.YtkdmlieckkdmgaaGreatDoor
open Go Go.Eng

/-- the document's answer: a name less -/
def refDrop (l : List Ent) (name : List UInt8) : List Ent × Int × Int :=
  if plT l name = true then (l.eraseIdx (plK l name), (l[plK l name]?.getD ⟨[], 0⟩).node, 0) else ([], 0, 4)

theorem plT_at {l : List Ent} {name : List UInt8} (h : plT l name = true) : ∃ hk : plK l name < l.length, (l[plK l name]'hk).name = name := by
  unfold plT at h
  cases he : l[plK l name]? with
  | none => rw [he] at h; cases h
  | some e =>
    rw [he] at h
    obtain ⟨hk, hh⟩ := List.getElem?_eq_some_iff.1 he
    exact ⟨hk, by rw [hh]; simpa using h⟩

theorem strict_one {l : List Ent} (hs : strict l) {x y : Ent} (hx : x ∈ l) (hy : y ∈ l) (e : x.name = y.name) : x = y := by
  obtain ⟨i, hi, rfl⟩ := List.mem_iff_getElem.1 hx
  obtain ⟨j, hj, rfl⟩ := List.mem_iff_getElem.1 hy
  rcases Nat.lt_trichotomy i j with h | h | h
  · have := List.pairwise_iff_getElem.1 hs i j hi hj h
    rw [e, blt_irr] at this; cases this
  · subst h; rfl
  · have := List.pairwise_iff_getElem.1 hs j i hj hi h
    rw [e, blt_irr] at this; cases this

theorem findR_at {l : List Ent} {name : List UInt8} (hs : strict l) (h : plT l name = true) : (findR l name).1 = (l[plK l name]?.getD ⟨[], 0⟩).node := by
  obtain ⟨hk, hn⟩ := plT_at h
  rw [← find_place hs] at h
  unfold findR at h ⊢
  cases hf : findE l name with
  | none => rw [hf] at h; cases h
  | some e =>
    unfold findE at hf
    have h1 : e.name = name := by simpa using List.find?_some hf
    have h2 := List.mem_of_find?_eq_some hf
    rw [List.getElem?_eq_getElem hk]
    show e.node = (l[plK l name]'hk).node
    rw [strict_one hs h2 (List.getElem_mem hk) (by rw [h1, hn])]

theorem isB_good {name : List UInt8} {ws : List UInt64} {k : Nat} (h : isB name ws k = true) : entN ws k = name ∧ emptyB ws k = false := by
  unfold isB entB at h
  simp only [Bool.and_eq_true, decide_eq_true_eq] at h
  refine ⟨h.2, ?_⟩
  have h1 := h.1.2.2.2.1
  unfold emptyB
  rw [decide_eq_false (fun e => by rw [e] at h1; simp at h1)]
  rfl

theorem spot_there {now : Int → UInt64} {node : Int} {c : Crd} {m : List Int} {l : List Ent} (D : DirI now node c m l) {name : List UInt8} (h : plT l name = true) :
    ∃ pl k, spotF (wordsAt now m) m (isB name) 4 (bucketL name) = some (pl, k) ∧ pl < 21 ∧ plc m pl ≠ -1 ∧ k < 5 ∧ emptyB (blkW now (plc m pl)) k = false ∧ entE (blkW now (plc m pl)) k = l[plK l name]?.getD ⟨[], 0⟩ := by
  have hbk := bucketL_lt name
  obtain ⟨hk, hn⟩ := plT_at h
  have hm : l[plK l name] ∈ rawE now m := D.ents.mem_iff.2 (List.getElem_mem hk)
  cases hs : spotF (wordsAt now m) m (isB name) 4 (bucketL name) with
  | some q =>
    obtain ⟨pl, k⟩ := q
    obtain ⟨q1, q2, q3, q4, q5⟩ := spotF_is hs
    simp only at q1 q2 q3 q4 q5
    rw [wordsAt_nat] at q4
    obtain ⟨g1, g2⟩ := isB_good q4
    refine ⟨pl, k, rfl, q1, q2, q3, g2, ?_⟩
    rw [List.getElem?_eq_getElem hk]
    refine strict_one D.str (D.ents.mem_iff.1 ?_) (List.getElem_mem hk) (g1.trans hn.symm)
    unfold rawE
    rw [List.mem_flatMap]
    refine ⟨pl, by simpa using q1, ?_⟩
    rw [placeE_ws q2]
    unfold wsE
    rw [List.mem_flatMap]
    refine ⟨k, by simpa using q3, ?_⟩
    unfold slotE
    rw [if_neg (by rw [g2]; decide)]
    simp
  | none =>
    exfalso
    unfold rawE at hm
    rw [List.mem_flatMap] at hm
    obtain ⟨i, hi, he⟩ := hm
    have hi : i < 21 := by simpa using hi
    have hu : plc m i ≠ -1 := fun e => by rw [placeE_hole e] at he; cases he
    rw [placeE_ws hu] at he
    unfold wsE at he
    rw [List.mem_flatMap] at he
    obtain ⟨k, hk5, hse⟩ := he
    have hk5 : k < 5 := by simpa using hk5
    have ho := D.ok i hi hu
    unfold wsOk at ho
    simp only [Bool.and_eq_true] at ho
    have hso := List.all_eq_true.1 ho.2 k (by simpa using hk5)
    unfold slotE at hse
    by_cases hem : emptyB (blkW now (plc m i)) k = true
    · rw [if_pos hem] at hse; cases hse
    rw [if_neg hem, List.mem_singleton] at hse
    unfold slotOk at hso
    have hem2 : emptyB (blkW now (plc m i)) k = false := by simpa using hem
    rw [hem2, Bool.false_or] at hso
    have hnm : entN (blkW now (plc m i)) k = name := by rw [← hn, hse]; rfl
    have hb : bucketL name = i % 8 := by
      have := hso
      unfold entB at this
      simp only [Bool.and_eq_true, decide_eq_true_eq] at this
      rw [← hnm]; exact this.2.2.1
    have hj := spotF_none hs (i / 8) (by omega) (by omega)
    have e : bucketL name + 8 * (i / 8) = i := by omega
    rw [e, wordsAt_nat] at hj
    have := firstK_none (hj.resolve_left hu) k (Nat.zero_le _) (by omega)
    have hib : isB name (blkW now (plc m i)) k = true := by
      unfold isB
      rw [decide_eq_true hnm, Bool.and_true]
      unfold entB at hso ⊢
      rw [hb, Nat.mod_mod]; exact hso
    rw [hib] at this
    cases this

theorem strike_dir {node : Int} (hn : 0 ≤ node ∧ node < 24) {now : Int → UInt64} {c : Crd} {m : List Int} {l : List Ent} (D : DirI now node c m l) {name : List UInt8} (ht : plT l name = true) {pl k : Nat}
    (hpl : pl < 21) (hpu : plc m pl ≠ -1) (hk : k < 5) (he : emptyB (blkW now (plc m pl)) k = false) (hee : entE (blkW now (plc m pl)) k = l[plK l name]?.getD ⟨[], 0⟩) :
    DirI (putBlk now (plc m pl) (setSlot (blkW now (plc m pl)) k [0, 0, 0])) node { c with size := c.size - 1 } m (l.eraseIdx (plK l name)) ∧ Fr node now (putBlk now (plc m pl) (setSlot (blkW now (plc m pl)) k [0, 0, 0])) := by
  obtain ⟨hkl, hnm⟩ := plT_at ht
  have hlen := blkW_len now (plc m pl)
  have hsl : (setSlot (blkW now (plc m pl)) k [0, 0, 0]).length = 16 := by
    unfold setSlot
    simp [hlen]; omega
  obtain ⟨W2, F2, b1, b2⟩ := D.wk.putW hpl hpu hsl
  have hp := ws_strike (place := pl) hlen hk (D.ok pl hpl hpu) he
  have hml := D.wk.len
  have hxm : plc m pl ∈ m := by
    unfold plc
    rw [List.getElem?_eq_getElem (by omega)]
    exact List.getElem_mem _
  refine ⟨⟨?_, W2, D.kind, ?_, fun i hi hu => ?_, ?_, ?_, D.mor⟩, F2⟩
  · have hm := D.map
    unfold mapOf at hm ⊢
    by_cases e : c.more = -1
    · rw [if_pos e] at hm ⊢; exact hm
    · rw [if_neg e] at hm ⊢
      have e2 : moreL (putBlk now (plc m pl) (setSlot (blkW now (plc m pl)) k [0, 0, 0])) c.more = moreL now c.more := more_put_ne (by omega) (D.wk.ne_more hxm hpu)
      simp only [e2]
      exact hm
  · show c.size - 1 = _
    rw [D.size, List.length_eraseIdx_of_lt hkl]
    omega
  · by_cases e : i = pl
    · subst e; rw [b1]; exact hp.1
    · rw [b2 i hi e hu]; exact D.ok i hi hu
  · have p := rawE_one (f := now) (g := putBlk now (plc m pl) (setSlot (blkW now (plc m pl)) k [0, 0, 0])) (m := m) (m' := m) hpl fun j hj hne => by
      by_cases e : plc m j = -1
      · rw [placeE_hole e, placeE_hole e]
      · rw [placeE_ws e, placeE_ws e, b2 j hj hne e]
    rw [placeE_ws hpu, placeE_ws hpu, b1] at p
    have hE : entE (blkW now (plc m pl)) k = l[plK l name] := by rw [hee, List.getElem?_eq_getElem hkl]; rfl
    have hq := hp.2
    rw [hE] at hq
    have pl1 : (l[plK l name] :: l.eraseIdx (plK l name)).Perm l := by
      rw [List.eraseIdx_eq_take_drop_succ]
      refine List.perm_middle.symm.trans ?_
      rw [List.getElem_cons_drop, List.take_append_drop]
    -- raw' ++ old ~ raw ++ new ~ l ++ new ~ (x :: erase) ++ new ~ erase ++ old
    have s1 : (rawE (putBlk now (plc m pl) (setSlot (blkW now (plc m pl)) k [0, 0, 0])) m ++ wsE (blkW now (plc m pl))).Perm (l.eraseIdx (plK l name) ++ wsE (blkW now (plc m pl))) := by
      refine p.symm.trans ?_
      refine (List.Perm.append_right _ (D.ents.trans pl1.symm)).trans ?_
      rw [List.cons_append]
      refine List.perm_middle.symm.trans ?_
      exact List.Perm.append_left _ hq
    exact (List.perm_append_right_iff _).1 s1
  · exact List.Pairwise.sublist (List.eraseIdx_sublist _ _) D.str
end Go.Proofs.YtkdmlieckkdmgaaGreatDoor
/-
  Layer 11: a directory with a name less.
-/
set_option linter.all false
set_option maxRecDepth 100000
set_option maxHeartbeats 1000000
namespace Go.Proofs.YtkdmlieckkdmgaaGreatDoor
open Go Go.Eng

theorem drop_specS {h : Heap} {V : VL} {M : MemS} {X : VS} (A : At h V M X) {node : Int} (hn : 0 ≤ node ∧ node < 24) {c : Crd} {m : List Int} {l : List Ent} (D : DirI X.now node c m l) (name : List UInt8) (hnl : name.length ≤ 140737488351232) :
    CallH Tryz.prog 161 [.pointer (some ⟨V.v, 0, none⟩), .int .i64 node, .agg ⟨c.cells⟩, .string ⟨name.toArray⟩] h (fun v h' => Keeps [V.ob] h h' ∧ ∃ c' X', v = .tuple #[.agg ⟨c'.cells⟩, .int .i64 (refDrop l name).2.1, .int .i64 (refDrop l name).2.2] ∧ At h' V M X' ∧ X'.away = X.away ∧ X'.awayN = X.awayN ∧
      ((refDrop l name).2.2 = 0 → DirI X'.now node c' m (refDrop l name).1 ∧ Fr node X.now X'.now) ∧ X' = { X with now := X'.now } ∧ ((refDrop l name).2.2 = 0 → c' = { c with size := c.size - 1 })) := by
  have hvb := A.blt
  have hob := hvb V.ob (by simp [VL.blocks])
  obtain ⟨_, hc⟩ := D.right
  have hop := D.open_
  refine call_of hmix Tryz.func161 rfl ok161 (by simp [Tryz.f161]) ?_
  conv => whnf
  refine AllocR.i fun b1 h1 e1 s1 o1 k1 => ?_
  conv => whnf
  refine AllocR.i fun b2 h2 e2 s2 o2 k2 => ?_
  conv => whnf
  refine AllocR.i fun b3 h3 e3 s3 o3 k3 => ?_
  conv => whnf
  refine CallR.i (fmay_spec node h3) fun v h4 k4 hv => ?_
  subst hv
  rw [if_pos hn]
  have k04 := ((k1.trans k2).trans k3).trans k4
  conv => whnf
  refine IfR.f rfl ?_
  conv => whnf
  refine CallR.i (fopen_spec (A.on k04) c hc) fun v h5 k5 hv => ?_
  have k05 := k04.trans k5
  unfold OpenR at hv
  rw [hop, if_pos rfl] at hv
  obtain ⟨b, L, a, cc, rfl, B5, nB, O5, nO, ok⟩ := hv
  have hlf := D.few
  have z1 := k1.size
  have z2 := k2.size
  have z3 := k3.size
  have z4 := k4.size
  have z5 := k5.size
  have hdis : ∀ x ∈ BL.blocks b L, x ∉ V.blocks := fun x hx hx2 => by have := nB x hx; have := hvb x hx2; omega
  conv => whnf
  refine IfR.f rfl ?_
  simp only at B5 O5 ok ⊢
  have hSl := own_ents O5 ok (by omega)
  have o25 : h5[b2]? = some (.cells ⟨[.string ⟨name.toArray⟩]⟩ 9 (0, 0)) := ((k3.trans k4).trans k5).obj o2 (by simp)
  conv => whnf
  refine LoadR.o o25 rfl ?_
  conv => whnf
  refine CallR.i (find_spec hSl (by omega) name) fun v h6 k6 hv => ?_
  subst hv
  have k06 := k05.trans k6
  have z6 := k6.size
  rw [find_place D.str]
  conv => whnf
  refine IfR.i (fun hth => ?_) (fun hth => ?_)
  · have ht : plT l name = false := by simpa using hth
    conv => whnf
    refine BoxR.i fun h7 s7 k7 => ?_
    conv => whnf
    have kk : Keeps [] h h7 := k06.new1 k7 (by omega)
    unfold refDrop
    rw [if_neg (by rw [ht]; decide)]
    exact ⟨kk.mono (by simp), Crd.zero, X, rfl, A.on kk, rfl, rfl, (fun e => by cases e), rfl, fun e => by cases e⟩
  · have ht : plT l name = true := by simpa using hth
    obtain ⟨pl, k, hsp, hpl, hpu, hk5, hem, hee⟩ := spot_there D ht
    have B6 := B5.keep k6 (by simp)
    have o26 : h6[b2]? = some (.cells ⟨[.string ⟨name.toArray⟩]⟩ 9 (0, 0)) := k6.obj o25 (by simp)
    have SP := spotD_spec B6 name hnl o26
    rw [hsp] at SP
    conv => whnf
    refine LoadR.o o26 rfl ?_
    conv => whnf
    refine CallR.i SP fun v h7 k7 hv => ?_
    subst hv
    conv => whnf
    refine SemR.make (n := 3) rfl rfl rfl rfl rfl (by decide) (by decide) fun b8 h8 e8 s8 o8 k8 => ?_
    have S8 : Sl h8 (some ⟨b8, 0, none⟩) 3 3 ([0, 0, 0] : List UInt64) := Sl.of1' (α := UInt64) (n := 3) o8 (by simp [One.ok]) rfl (by simp)
    have k78 := k7.trans k8
    have A8 := A.on (k06.trans k78)
    have B8 := B6.keep k78 (by simp)
    have hrp := (D.wk.rngP.plc pl).resolve_left hpu
    have PS := put_spec' A8 B8 hdis hpl hpu hrp hk5 S8
    have z78 := k78.size
    conv => whnf
    refine CallR.m PS ?_ fun v h9 k9 hv => ?_
    · intro y hy hx2
      have hy2 : y = b1 ∨ y = b3 := by simpa [blocksOf, setB, or_comm] using hy
      simp only [List.mem_cons] at hx2
      rcases hx2 with rfl | hx2
      · omega
      · have := nB y hx2
        omega
    obtain ⟨rfl, A9, _, _⟩ := hv
    have kk9 : Keeps [V.ob] h h9 := ((k06.trans k78).mono (by simp)).trans_new k9 (fun y hy => by
      simp only [List.mem_cons] at hy
      rcases hy with rfl | hy
      · exact .inl (by simp)
      · have := nB y hy; right; omega)
    rw [wordsAt_nat] at A9
    obtain ⟨D9, F9⟩ := strike_dir hn D ht hpl hpu hk5 hem hee
    conv => whnf
    refine IfR.f rfl ?_
    conv => whnf
    refine BoxR.i fun h10 s10 k10 => ?_
    conv => whnf
    refine BoxR.i fun h11 s11 k11 => ?_
    conv => whnf
    have z9 := k9.size
    have kk11 : Keeps [V.ob] h h11 := (kk9.trans_new k10 (fun y hy => by simp at hy; right; omega)).trans_new k11 (fun y hy => by simp at hy; right; omega)
    have A11 := (A9.keep k10 (fun y hy => by have := hvb y hy; simp; omega)).keep k11 (fun y hy => by have := hvb y hy; simp; omega)
    have hwr : IntKind.i64.wrap (c.size - 1) = c.size - 1 := by rw [D.size]; exact wrapI (by omega) (by omega)
    have er : refDrop l name = (l.eraseIdx (plK l name), (l[plK l name]?.getD ⟨[], 0⟩).node, 0) := by unfold refDrop; rw [if_pos ht]
    rw [er]
    refine ⟨kk11, { c with size := c.size - 1 }, _, ?_, A11, rfl, rfl, (fun _ => ⟨D9, F9⟩), rfl, fun _ => rfl⟩
    rw [findR_at D.str ht]
    have hcok : ({ c with size := c.size - 1 } : Crd).cells = spliceL (0 + 2) (cellsOf (.int .i64 (IntKind.i64.wrap (c.size - 1)))) c.cells := by rw [hwr]; rfl
    rw [hcok]
    rfl
theorem drop_spec' {h : Heap} {V : VL} {M : MemS} {X : VS} (A : At h V M X) {node : Int} (hn : 0 ≤ node ∧ node < 24) {c : Crd} {m : List Int} {l : List Ent} (D : DirI X.now node c m l) (name : List UInt8) (hnl : name.length ≤ 140737488351232) :
    CallH Tryz.prog 161 [.pointer (some ⟨V.v, 0, none⟩), .int .i64 node, .agg ⟨c.cells⟩, .string ⟨name.toArray⟩] h (fun v h' => Keeps [V.ob] h h' ∧ ∃ c' X', v = .tuple #[.agg ⟨c'.cells⟩, .int .i64 (refDrop l name).2.1, .int .i64 (refDrop l name).2.2] ∧ At h' V M X' ∧ X'.away = X.away ∧ X'.awayN = X.awayN ∧
      ((refDrop l name).2.2 = 0 → DirI X'.now node c' m (refDrop l name).1 ∧ Fr node X.now X'.now)) :=
  (drop_specS A hn D name hnl).mono fun _ _ ⟨k, c', X', e, A', a1, a2, a3, _⟩ => ⟨k, c', X', e, A', a1, a2, a3⟩
end Go.Proofs.YtkdmlieckkdmgaaGreatDoor
/-
  Layer 11's document: Hash, Bucket, Room; names added, dropped, compared.
-/
set_option linter.all false
set_option maxRecDepth 100000
set_option maxHeartbeats 1000000
namespace Go.Proofs.YtkdmlieckkdmgaaGreatDoor
open Go Go.Eng

/-! ### Lists of entries -/

theorem ents_cells {h : Heap} {b o m xc : Nat} {l : List Ent} (S : Sl h (some ⟨b, o, none⟩) m xc l) : ∀ j, j < (entC l).length → Heap.cell? h b (o + j) = (entC l)[j]? := by
  intro j hj
  have hl := entC_len l
  obtain ⟨b', o', hb, cs, ⟨rfl, _⟩, hc⟩ := S.at_ (j / 2) (by omega)
  cases hb
  have := hc (j % 2) (by simp [Ent.cells]; omega)
  rw [entC_get l j (by omega), ← this]
  congr 1
  show _ = o + j / 2 * 2 + j % 2
  omega

theorem ents_app {h : Heap} {a : Option Addr} {n c : Nat} {l1 l2 : List Ent} (O : Own h 120 2 a n c (entC l1)) {x : Option Addr} {m xc : Nat} (S : Sl h x m xc l2) (hb : n + m ≤ 100000) {bs : List Nat} (hbs : ∀ b ∈ blkA a, b ∉ bs) {ty : TypeId} {K : Value → Heap → Prop}
    (H : ∀ a' c' h', Own h' 120 2 a' (n + m) c' (entC (l1 ++ l2)) → Keeps (blkA a) h h' → (∀ b ∈ blkA a', b ∈ blkA a ∨ h.size ≤ b) → K (.slice a' (n + m) c') h') :
    SemR Tryz.prog (Builtin.append_ #[52, 52] ty ⟨[.slice a n c, .slice x m xc]⟩) bs h K := by
  have hm := S.hlen
  rcases Nat.eq_zero_or_pos m with h0 | h0
  · subst h0
    have : l2 = [] := List.eq_nil_of_length_eq_zero hm.symm
    subst this
    have hnc : n ≤ c := by
      rcases O with ⟨_, rfl, rfl, _⟩ | ⟨b, cs, _, _, _, _, _, h2⟩
      · exact Nat.le_refl _
      · exact h2
    refine SemR.append0 rfl rfl rfl hnc ?_
    have := H a c h (by rw [List.append_nil]; exact O) (Keeps.refl _ _) (fun b hb => .inl hb)
    exact this
  · obtain ⟨b, o, rfl⟩ := S.nonnil h0
    refine append_own (e := 120) (sz := 2) (by_ := 24) (new := entC l2) rfl rfl rfl rfl rfl rfl rfl O (by rw [entC_len]; omega) (ents_cells S) (allOne_ent l2) (by omega) (by omega) hbs ?_
    intro a' c' h5 O5 k5 n5
    exact H a' c' h5 (by rw [show entC (l1 ++ l2) = entC l1 ++ entC l2 from List.flatMap_append]; exact O5) k5 n5

theorem own_nil (h : Heap) : Own h 120 2 none 0 0 (entC []) := .inl ⟨rfl, rfl, rfl, rfl⟩

theorem refAdd_spec {h : Heap} {a : Option Addr} {n c : Nat} {l : List Ent} (S : Sl h a n c l) (hn : n ≤ 10000) (name : List UInt8) (hnl : name.length ≤ 140737488351232) (target : Int) (ht : inI64 target) (hok : ∀ e ∈ l, e.ok) :
    CallH Tryz.prog 57 [.slice a n c, .string ⟨name.toArray⟩, .int .i64 target] h (fun v h' => Keeps [] h h' ∧ ∃ a' c', v = .tuple #[.slice a' (refAdd l name target).1.length c', .int .i64 (refAdd l name target).2] ∧ Own h' 120 2 a' (refAdd l name target).1.length c' (entC (refAdd l name target).1) ∧ (∀ b ∈ blkA a', h.size ≤ b)) := by
  have hl := S.hlen
  have hcap := S.hcap
  unfold refAdd
  refine call_of hmix Tryz.func57 rfl ok57 (by simp [Tryz.f57]) ?_
  conv => whnf
  refine IfR.i (fun hd => ?_) (fun hd => ?_)
  · have h1 : target < 1 ∨ 24 ≤ target := by simp [bif_or] at hd; omega
    conv => whnf
    rw [if_pos h1]
    exact ⟨Keeps.refl _ _, none, 0, rfl, own_nil h, by simp [blkA]⟩
  have h1 : ¬ (target < 1 ∨ 24 ≤ target) := by simp [bif_or] at hd; omega
  rw [if_neg h1]
  conv => whnf
  refine CallR.i (refRight_spec name hnl h) fun v h1 k1 hv => ?_
  subst hv
  conv => whnf
  refine IfR.i (fun hr => ?_) (fun hr => ?_)
  · have h2 : nameB name = false := by simpa using hr
    conv => whnf
    rw [if_pos h2]
    exact ⟨k1, none, 0, rfl, own_nil h1, by simp [blkA]⟩
  have h2 : ¬ nameB name = false := by simpa using hr
  rw [if_neg h2]
  conv => whnf
  refine CallR.i (place_spec (S.keep k1) (by omega) name hnl) fun v h2 k2 hv => ?_
  subst hv
  have k02 := k1.trans k2
  conv => whnf
  refine IfR.i (fun hp => ?_) (fun hp => ?_)
  · conv => whnf
    rw [if_pos hp]
    exact ⟨k02, none, 0, rfl, own_nil h2, by simp [blkA]⟩
  rw [if_neg (by rw [hp]; decide)]
  have hkl := plK_le l name
  conv => whnf
  refine SliceR.i 0 (plK l name) rfl rfl (Nat.zero_le _) (by omega) ?_
  conv => whnf
  refine SliceR.i (plK l name) n rfl rfl (by omega) (by omega) ?_
  have P1 := (S.keep k02).part (l := 0) (r := plK l name) (Nat.zero_le _) (by omega)
  rw [List.drop_zero] at P1
  have P2 := (S.keep k02).part (l := plK l name) (r := n) (by omega) (Nat.le_refl _)
  rw [List.take_of_length_le (by omega : l.length ≤ n)] at P2
  have one : ∀ {hx : Heap} {b : Nat}, hx[b]? = some (.cells ⟨cellsOf (.agg ⟨[.string ⟨name.toArray⟩, .int .i64 target]⟩)⟩ 120 (0, 0)) → Sl hx (some ⟨b, 0, none⟩) 1 1 [(⟨name, target⟩ : Ent)] := by
    intro hx b o
    refine ⟨rfl, Nat.le_refl _, by simp, fun i hi => ?_⟩
    have : i = 0 := by simpa using hi
    subst this
    refine ⟨b, 0, rfl, Ent.cells ⟨name, target⟩, ⟨rfl, hnl, ht⟩, fun j hj => ?_⟩
    · unfold Heap.cell?
      rw [o]
      have : j = 0 ∨ j = 1 := by simp [Ent.cells] at hj; omega
      rcases this with rfl | rfl <;> rfl
  conv => whnf
  refine BothR.i ?c1 ?c2
  case' c1 =>
    conv => whnf
    refine ents_app (own_nil h2) P1 (by omega) (by simp [blkA]) fun a5 c5 h5 O5 k5 n5 => ?_
    have k25 : Keeps [] h2 h5 := k5.mono (by simp [blkA])
    rw [List.nil_append] at O5
    conv => whnf
    refine AllocR.i fun b6 h6 e6 s6 o6 k6 => ?_
    have O6 := O5.keep k6 (by simp)
    have S6 := one o6
    have k26 := k25.trans k6
    have z5 := k25.size
    have hb6 : h2.size ≤ b6 := by omega
    have n6 : ∀ b ∈ blkA a5, h2.size ≤ b := fun b hb => by
      rcases n5 b hb with h | h
      · simp [blkA] at h
      · exact h
  case' c2 =>
    conv => whnf
    refine AllocR.i fun b6 h5 e6 s5 o5 k5 => ?_
    conv => whnf
    refine ents_app (own_nil h5) (P1.keep k5) (by omega) (by simp [blkA]) fun a5 c5 h6 O6 k6 n5 => ?_
    have k56 : Keeps [] h5 h6 := k6.mono (by simp [blkA])
    rw [List.nil_append] at O6
    have S6 := (one o5).keep k56
    have k26 := k5.trans k56
    have z5 := k5.size
    have hb6 : h2.size ≤ b6 := by omega
    have n6 : ∀ b ∈ blkA a5, h2.size ≤ b := fun b hb => by
      rcases n5 b hb with h | h
      · simp [blkA] at h
      · omega
  all_goals
    conv => whnf
    refine ents_app O6 S6 (by omega) (by simp [blocksOf]) fun a7 c7 h7 O7 k7 n7 => ?_
    have z7 := k7.size
    have z6 := k26.size
    have n7' : ∀ b ∈ blkA a7, h2.size ≤ b := fun b hb => by
      rcases n7 b hb with h | h
      · exact n6 b h
      · omega
    have k27 : Keeps [] h2 h7 := k26.nil_of k7 (fun b hb => n6 b hb)
    conv => whnf
    refine ents_app O7 (P2.keep k27) (by omega) (by simp [blocksOf]) fun a8 c8 h8 O8 k8 n8 => ?_
    have k28 : Keeps [] h2 h8 := k27.nil_of k8 (fun b hb => n7' b hb)
    conv => whnf
    have hlen : (insL l ⟨name, target⟩).length = 0 + (plK l name - 0) + 1 + (n - plK l name) := by
      rw [(insL_perm l _).length_eq, List.length_cons]; omega
    refine ⟨k02.trans k28, a8, c8, ?_, ?_, fun b hb => ?_⟩
    · simp only; rw [hlen]
    · simp only; rw [hlen]
      have : List.take (plK l name) l ++ [(⟨name, target⟩ : Ent)] ++ List.drop (plK l name) l = insL l ⟨name, target⟩ := by unfold insL; simp
      rw [← this]; exact O8
    · have z02 := k02.size
      rcases n8 b hb with h | h
      · have := n7' b h; omega
      · have := k27.size; omega

theorem eqT_ent (x y : Ent) : eqT Tryz.prog 10000 120 (.agg ⟨x.cells⟩) (.agg ⟨y.cells⟩) = some (decide (x = y)) := by
  have h : eqT Tryz.prog 10000 120 (.agg ⟨x.cells⟩) (.agg ⟨y.cells⟩) = some (((⟨x.name.toArray⟩ : ByteArray).toList == (⟨y.name.toArray⟩ : ByteArray).toList) && ((x.node == y.node) && true)) := by kernel_rfl
  rw [h]
  congr 1
  rw [bs_eq, Bool.eq_iff_iff]
  obtain ⟨a, b⟩ := x
  obtain ⟨c, d⟩ := y
  simp

theorem PureR.neAgg {P : Program} {c : Option Bool} {t : TypeId} {x y : Operand} {xs ys : List Value} {r : Bool} {K : Value → Prop} (hm : P.eqGuardType P.depth t = false) (he : eqT P 10000 t (.agg ⟨xs⟩) (.agg ⟨ys⟩) = some r) (hK : K (.bool (!r))) :
    PureR c P (do eqGuard .neq t x y (.agg ⟨xs⟩) (.agg ⟨ys⟩); binOp .neq t (.agg ⟨xs⟩) (.agg ⟨ys⟩) : Sem Value) K := by
  refine PureR.i (fun w => ?_) hK
  rw [Sem.run_bind, run_eqGuard_agg _ _ _ _ _ _ _ hm]
  simp only [Result.andThen_ok]
  rw [run_neq_struct, eqT_run _ _ _ _ _ w he]
  rfl

end Go.Proofs.YtkdmlieckkdmgaaGreatDoor
/-
  Layer 11's laws: how many stand in a bucket; a step's end; a directory is whole.
-/
set_option linter.all false
set_option maxRecDepth 100000
set_option maxHeartbeats 1000000
namespace Go.Proofs.YtkdmlieckkdmgaaGreatDoor
open Go Go.Eng

theorem had_take (l : List Ent) (name : List UInt8) (i : Nat) (hi : i < l.length) : hadL (l.take (i + 1)) name = hadL (l.take i) name + (if bucketL l[i].name = bucketL name then 1 else 0) := by
  unfold hadL
  rw [List.take_succ_eq_append_getElem hi, List.filter_append, List.length_append]
  congr 1
  by_cases h : bucketL l[i].name = bucketL name <;> simp [h]
theorem had_le (l : List Ent) (name : List UInt8) : hadL l name ≤ l.length := List.length_filter_le _ _

end Go.Proofs.YtkdmlieckkdmgaaGreatDoor
/-
  Layer 11's laws: a step of a script over a directory.
-/
set_option linter.all false
set_option maxRecDepth 100000
set_option maxHeartbeats 1000000
namespace Go.Proofs.YtkdmlieckkdmgaaGreatDoor
open Go Go.Eng

def entSays (x : Ent) (l l' : List Ent) : Prop := (1 ≤ x.node → l' = l ∨ (plT l x.name = false ∧ l' = insL l x)) ∧ (x.node < 1 → l' = if plT l x.name = true then l.eraseIdx (plK l x.name) else l)

theorem bookC_left {V V' : VL} (hv : V'.v = V.v) (hm : V'.mem = V.mem) {node : Int} {c : Crd} {a : Option Addr} {n cc : Nat} : bookC V' node c a n cc = bookC V node c a n cc := by
  unfold bookC
  rw [hv, hm]

/-! ### What was freed stays told -/

def SameAw (X Y : VS) : Prop := Y.away = X.away ∧ Y.awayN = X.awayN
theorem takeP_aw (B : Int → UInt64) (X : VS) (node : Int) : SameAw X (takeP B X node).2.2 := by
  unfold takeP
  split
  · split <;> exact ⟨rfl, rfl⟩
  · exact ⟨rfl, rfl⟩
theorem dropP_aw (X : VS) (k : Int) : SameAw X (dropP X k).2 := by
  unfold dropP
  split
  · split <;> exact ⟨rfl, rfl⟩
  · exact ⟨rfl, rfl⟩
theorem keepP_aw (B : Int → UInt64) (X : VS) (node : Int) (c : Crd) (m : List Int) : SameAw X (keepP B X node c m).2.2 := by
  have ht := takeP_aw B X node
  have hd := dropP_aw X c.more
  unfold keepP
  split
  · split
    · split
      · exact ⟨rfl, rfl⟩
      · split
        · exact hd
        · exact hd
    · by_cases hm : c.more = -1
      · simp only [if_pos hm]
        split
        · simp only
          split <;> exact ht
        · exact ht
      · simp only [if_neg hm, if_true]
        split <;> exact ⟨rfl, rfl⟩
  · exact ⟨rfl, rfl⟩

theorem firstR_aw (B : Int → UInt64) (X : VS) (node : Int) (m : List Int) (W : Int → List UInt64) (bk : Nat) : SameAw X (firstR B X node m W bk).X := by
  unfold firstR
  split
  · exact ⟨rfl, rfl⟩
  · unfold growP
    split
    · exact ⟨rfl, rfl⟩
    · split <;> exact takeP_aw B X node
theorem addP_aw (B : Int → UInt64) (X : VS) (node : Int) (c : Crd) (name : List UInt8) (target : Int) : SameAw X (addP B X node c name target).2.2 := by
  unfold addP
  split
  · exact ⟨rfl, rfl⟩
  · split
    · exact ⟨rfl, rfl⟩
    · split
      · exact ⟨rfl, rfl⟩
      · split
        · exact ⟨rfl, rfl⟩
        · have h1 := firstR_aw B X node (openP X.now c).2.1 (wordsAt X.now (openP X.now c).2.1) (bucketL name)
          simp only
          split
          · exact h1
          · exact ⟨(keepP_aw B _ node _ _).1.trans h1.1, (keepP_aw B _ node _ _).2.trans h1.2⟩

end Go.Proofs.YtkdmlieckkdmgaaGreatDoor
/-
  Layer 11's law: a directory behind adds and drops, in whatever row.
-/
set_option linter.all false
set_option maxRecDepth 100000
set_option maxHeartbeats 1000000
namespace Go.Proofs.YtkdmlieckkdmgaaGreatDoor
open Go Go.Eng

section
variable {H : Type} {enc : TypeId × Value → H} {W : World} {sp : Nat → Bool} {held : Bool}
theorem opens_ent : Opens enc Tryz.prog W sp held 120 Ent := by
  intro fuel cs x h hw
  obtain ⟨hl, f', hp⟩ := trod_parts Tryz.underlying120 h hw
  obtain ⟨a, b, rfl⟩ : ∃ a b, cs = [a, b] := by
    match cs, hl with
    | [a, b], _ => exact ⟨a, b, rfl⟩
  obtain ⟨y0, h0, w0⟩ := hp _ (List.mem_cons_self)
  obtain ⟨y1, h1, w1⟩ := hp _ (List.mem_cons_of_mem _ List.mem_cons_self)
  obtain ⟨s, e0, g0⟩ := opens_string (W := W) Tryz.underlying9 f' _ _ h0 w0
  obtain ⟨n, e1, g1⟩ := opens_int (W := W) Tryz.underlying3 f' _ _ h1 w1
  cases e0; cases e1
  obtain ⟨l, rfl⟩ : ∃ l : List UInt8, s = ⟨l.toArray⟩ := ⟨s.data.toList, rfl⟩
  exact ⟨⟨l, n⟩, rfl, by have := g0; unfold okStr at this; rwa [bs_size] at this, g1⟩
theorem opens_ents : Opens enc Tryz.prog W sp held 52 (List Ent) := opens_slice Tryz.underlying52 (by kernel_rfl) (by decide) (of_decide_eq_true (by kernel_rfl)) opens_ent
end

def mNo : List Int := List.replicate 21 (-1)
theorem mNo_at (i : Nat) : plc mNo i = -1 := by
  unfold plc mNo
  rw [List.getElem?_replicate]
  split <;> rfl
theorem b0_own {x : Int} (h0 : 0 ≤ x) (h1 : x < 96) : M0.read (200 + x) = 0 := by
  rw [read_img0]
  unfold b0
  rw [if_pos (by omega), if_neg (by omega), if_neg (by omega)]

/-- a new directory -/
theorem fresh_dir {now : Int → UInt64} {node : Int} (h : ∀ x, 0 ≤ x → x < 96 → now (200 + x) ≠ w64 (node + 1)) : DirI now node (freshC 2 1) mNo [] := by
  have hu : usedL (freshC 2 1).more mNo = [] := by decide
  refine ⟨rfl, ⟨rfl, ?_, by rw [hu]; exact List.nodup_nil, fun x x0 x1 => by rw [hu]; exact ⟨fun h => (nomatch h), fun e => absurd e (h x x0 x1)⟩⟩, ⟨rfl, rfl⟩, rfl, fun i hi hu => absurd (mNo_at i) hu, ?_, List.Pairwise.nil, by decide⟩
  · intro x hx
    left
    have : x ∈ List.replicate 22 (-1 : Int) := hx
    exact (List.mem_replicate.1 this).2
  · have : rawE now mNo = [] := by
      unfold rawE
      rw [List.flatMap_eq_nil_iff]
      intro i _
      exact placeE_hole (mNo_at i)
    rw [this]

theorem _root_.Go.Eng.Sl.ltE {h : Heap} {a : Option Addr} {n c : Nat} {xs : List Ent} (S : Sl h a n c xs) (hn : 0 < n) : ∀ b ∈ blkA a, b < h.size := by
  have hl := S.hlen
  obtain ⟨b, o, hb, cs, ⟨rfl, _⟩, hc⟩ := S.at_ 0 (by omega)
  intro x hx
  rw [hb] at hx
  simp [blkA] at hx
  subst hx
  exact cell_lt (hc 0 (by simp [Ent.cells]))

section
variable {h0 h h' : Heap} {F : List Nat} {f : Nat} {node : Int} {V : VL} {M : MemS} {c : Crd} {m : List Int} {l : List Ent}
end

theorem dir_find {now : Int → UInt64} {node : Int} {c : Crd} {m : List Int} {l : List Ent} (D : DirI now node c m l) (name : List UInt8) : findP now c name = ((findR l name).1, plT l name, 0) := by
  unfold findP
  rw [D.open_, if_pos rfl]
  simp only
  rw [find_place D.str]

end Go.Proofs.YtkdmlieckkdmgaaGreatDoor
/-
  Layer 11's laws: two directories over one memory.
-/
set_option linter.all false
set_option maxRecDepth 100000
set_option maxHeartbeats 1000000
namespace Go.Proofs.YtkdmlieckkdmgaaGreatDoor
open Go Go.Eng

theorem w64_inj' {a b : Int} (ha : 0 ≤ a ∧ a < 24) (hb : 0 ≤ b ∧ b < 24) (h : w64 (a + 1) = w64 (b + 1)) : a = b := by
  have h1 := w64_toNat (a + 1)
  have h2 := w64_toNat (b + 1)
  rw [h] at h1
  omega

/-- a directory of another node stays as it was -/
theorem DirI.other {now g : Int → UInt64} {x y : Int} (hx : 0 ≤ x ∧ x < 24) (hy : 0 ≤ y ∧ y < 24) (hne : x ≠ y) {c : Crd} {m : List Int} {l : List Ent} (D : DirI now y c m l) (R : Fr0 x now g) : DirI g y c m l := by
  have hxy : w64 (y + 1) ≠ w64 (x + 1) := fun e => hne (w64_inj' hx hy e.symm)
  have hy0 := w64_ne hy
  have key : ∀ k, 0 ≤ k → k < 96 → now (200 + k) = w64 (y + 1) → g (200 + k) = w64 (y + 1) ∧ rdL g (1288 + k * 16) 16 = rdL now (1288 + k * 16) 16 := by
    intro k h0 h1 h
    obtain ⟨p, q⟩ := R.oth k h0 h1 (by rw [h]; exact hxy)
    refine ⟨?_, q (by rw [h]; exact hy0)⟩
    rcases p with p | ⟨p, _⟩
    · rw [p, h]
    · exact absurd (h ▸ p) hy0
  have back : ∀ k, 0 ≤ k → k < 96 → g (200 + k) = w64 (y + 1) → now (200 + k) = w64 (y + 1) := by
    intro k h0 h1 h
    by_cases hm : now (200 + k) = w64 (x + 1)
    · rcases R.mine k h0 h1 hm with p | p
      · exact absurd (h.symm.trans p) hxy
      · exact absurd (h.symm.trans p) hy0
    · rcases (R.oth k h0 h1 hm).1 with p | ⟨_, p⟩
      · rw [← p, h]
      · exact absurd (h.symm.trans p) hxy
  have hown : ∀ k, k ∈ usedL c.more m → 0 ≤ k ∧ k < 96 ∧ now (200 + k) = w64 (y + 1) := by
    intro k hk
    obtain ⟨h1, h2⟩ := usedL_mem.1 hk
    have hb := D.wk.rng k (by rcases h1 with rfl | h1; exact List.mem_cons_self; exact List.mem_cons_of_mem _ h1)
    unfold blkOk at hb
    exact ⟨by omega, by omega, (D.wk.own k (by omega) (by omega)).1 hk⟩
  have hml := D.wk.len
  have hblk : ∀ i, i < 21 → plc m i ≠ -1 → blkW now (plc m i) = blkW g (plc m i) := by
    intro i hi hu
    have hm : plc m i ∈ m := by
      unfold plc
      rw [List.getElem?_eq_getElem (by omega)]
      exact List.getElem_mem _
    obtain ⟨k0, k1, ko⟩ := hown _ (usedL_mem.2 ⟨.inr hm, hu⟩)
    exact (key _ k0 k1 ko).2.symm
  refine ⟨?_, ⟨D.wk.len, D.wk.rng, D.wk.nod, fun k h0 h1 => ?_⟩, D.kind, D.size, fun i hi hu => ?_, ?_, D.str, D.mor⟩
  · have h := D.map
    unfold mapOf at h ⊢
    by_cases hm : c.more = -1
    · rw [if_pos hm] at h ⊢; exact h
    · obtain ⟨k0, k1, ko⟩ := hown c.more (usedL_mem.2 ⟨.inl rfl, hm⟩)
      have e : moreL g c.more = moreL now c.more := (key _ k0 k1 ko).2
      rw [e]; exact h
  · rw [D.wk.own k h0 h1]
    exact ⟨fun h => (key k h0 h1 h).1, back k h0 h1⟩
  · rw [← hblk i hi hu]; exact D.ok i hi hu
  · rw [← rawE_same hblk]; exact D.ents

theorem count_filter_range' (p : Nat → Bool) (l : List Int) (hn : l.Nodup) (h : ∀ k : Nat, k < 96 → (p k = true ↔ (k : Int) ∈ l)) (hl : ∀ x ∈ l, 0 ≤ x ∧ x < 96) : ((List.range 96).filter p).length = l.length := by
  have hp : (((List.range 96).filter p).map fun (k : Nat) => (k : Int)).Perm l := by
    rw [List.perm_ext_iff_of_nodup ?_ hn]
    · intro x
      simp only [List.mem_map, List.mem_filter, List.mem_range]
      constructor
      · rintro ⟨k, ⟨h1, h2⟩, rfl⟩; exact (h k h1).1 h2
      · intro hx
        have := hl x hx
        refine ⟨x.toNat, ⟨by omega, (h _ (by omega)).2 (by rwa [show ((x.toNat : Nat) : Int) = x by omega])⟩, by omega⟩
    · have : (((List.range 96).filter p).map fun (k : Nat) => (k : Int)).Pairwise (fun a b => a < b) := by
        rw [List.pairwise_map]
        exact (List.pairwise_lt_range.filter _).imp fun h => by simpa using h
      exact this.imp fun h e => by omega
  rw [← hp.length_eq, List.length_map]

theorem filter_three' {α : Type} (p q r : α → Bool) : ∀ l : List α, (∀ x ∈ l, (p x = true ∧ q x = false ∧ r x = false) ∨ (p x = false ∧ q x = true ∧ r x = false) ∨ (p x = false ∧ q x = false ∧ r x = true)) → (l.filter p).length + (l.filter q).length + (l.filter r).length = l.length
  | [], _ => rfl
  | x :: l, h => by
    have ih := filter_three' p q r l fun y hy => h y (List.mem_cons_of_mem _ hy)
    rcases h x List.mem_cons_self with ⟨a, b, c⟩ | ⟨a, b, c⟩ | ⟨a, b, c⟩ <;> simp only [List.filter_cons, a, b, c, List.length_cons, if_true] <;> simp <;> omega

/-- what is free beside two nodes' blocks -/
theorem free_two' {now : Int → UInt64} {x y : Int} (hx : 0 ≤ x ∧ x < 24) (hy : 0 ≤ y ∧ y < 24) (hne : x ≠ y) {p q : Int} {m n : List Int} (F : Wk now x p m) (G : Wk now y q n)
    (h : ∀ k, 0 ≤ k → k < 96 → now (200 + k) = 0 ∨ now (200 + k) = w64 (x + 1) ∨ now (200 + k) = w64 (y + 1)) :
    freeN now ⟨now, [], [], [], []⟩ 96 + (usedL p m).length + (usedL q n).length = 96 := by
  have hxy : w64 (y + 1) ≠ w64 (x + 1) := fun e => hne (w64_inj' hx hy e.symm)
  have hx0 := w64_ne hx
  have hy0 := w64_ne hy
  have rng : ∀ {z p : Int} {m : List Int}, Wk now z p m → ∀ k ∈ usedL p m, 0 ≤ k ∧ k < 96 := by
    intro z p m F k hk
    obtain ⟨h1, h2⟩ := usedL_mem.1 hk
    have hb := F.rng k (by rcases h1 with rfl | h1; exact List.mem_cons_self; exact List.mem_cons_of_mem _ h1)
    unfold blkOk at hb
    omega
  rw [← count_filter_range' (fun k => decide (now (200 + (k : Int)) = w64 (x + 1))) (usedL p m) F.nod (fun k hk => by rw [decide_eq_true_iff, F.own (k : Int) (by omega) (by omega)]) (rng F),
    ← count_filter_range' (fun k => decide (now (200 + (k : Int)) = w64 (y + 1))) (usedL q n) G.nod (fun k hk => by rw [decide_eq_true_iff, G.own (k : Int) (by omega) (by omega)]) (rng G)]
  unfold freeN
  have := filter_three' (fun (i : Nat) => freshB now ⟨now, [], [], [], []⟩ (i : Int)) (fun k => decide (now (200 + (k : Int)) = w64 (x + 1))) (fun k => decide (now (200 + (k : Int)) = w64 (y + 1))) (List.range 96) (fun k hk => by
    have hk' : k < 96 := by simpa using hk
    have hf : freshB now ⟨now, [], [], [], []⟩ (k : Int) = decide (now (200 + (k : Int)) = 0) := by
      unfold freshB
      rw [decide_eq_true (by omega : 0 ≤ (k : Int)), decide_eq_true (by omega : (k : Int) < 96)]
      simp
    rw [hf]
    rcases h (k : Int) (by omega) (by omega) with e | e | e
    · left; rw [e]; exact ⟨rfl, decide_eq_false fun z => hx0 z.symm, decide_eq_false fun z => hy0 z.symm⟩
    · right; left; rw [e]; exact ⟨decide_eq_false hx0, decide_eq_true rfl, decide_eq_false fun z => hxy z.symm⟩
    · right; right; rw [e]; exact ⟨decide_eq_false hy0, decide_eq_false hxy, decide_eq_true rfl⟩)
  simpa using this

section
variable {h0 h h' : Heap} {F : List Nat} {V : VL} {M : MemS} {f g : Nat} {x y : Int} {c d : Crd} {m n : List Int} {l t : List Ent}
end
end Go.Proofs.YtkdmlieckkdmgaaGreatDoor
/-
  Plain laws: how many blocks are free behind a name more, and behind bytes that are written; a card keeps its kind.
-/
set_option linter.all false
set_option maxRecDepth 100000
set_option maxHeartbeats 2000000
namespace Go.Proofs.YtkdmlieckkdmgaaGreatDoor
open Go Go.Eng

theorem take_fail {B : Int → UInt64} {X : VS} {node : Int} (h : (takeP B X node).2.1 ≠ 0) : (takeP B X node).2.2 = X := by
  unfold takeP at h ⊢
  split
  · rename_i hn
    rw [if_pos hn] at h
    split
    · rename_i k hk; rw [hk] at h; simp at h
    · rfl
  · rfl
theorem take_ok {B : Int → UInt64} {X : VS} {node : Int} (hn : 0 ≤ node ∧ node < 24) (h : 1 ≤ freeN B X 96) : (takeP B X node).2.1 = 0 := by
  unfold takeP
  rw [if_pos hn]
  cases hf : firstF B X 96 0 with
  | none => exact absurd hf (freeN_pos h)
  | some k => rfl

theorem count_le {p q : Nat → Bool} : ∀ {n : Nat}, (∀ j, j < n → p j = true → q j = true) → ((List.range n).filter p).length ≤ ((List.range n).filter q).length
  | 0, _ => by simp
  | n + 1, h => by
    rw [List.range_succ, List.filter_append, List.filter_append, List.length_append, List.length_append]
    have ih := count_le (n := n) fun j hj => h j (by omega)
    have : (([n].filter p).length ≤ ([n].filter q).length) := by
      have := h n (by omega)
      simp only [List.filter_cons, List.filter_nil]
      cases hp : p n with
      | false => simp
      | true => rw [this hp]; simp
    omega

theorem free_putA {B : Int → UInt64} {X : VS} {k : Int} {ws : List UInt64} (hk : k = -1 ∨ 0 ≤ k) (hw : ws.length ≤ 16) : freeN B { X with now := putBlk X.now k ws } 96 = freeN B X 96 := by
  unfold freeN
  congr 1
  refine List.filter_congr fun j hj => ?_
  have hj' : j < 96 := by simpa using hj
  unfold freshB
  have : (putBlk X.now k ws) (200 + (j : Int)) = X.now (200 + (j : Int)) := by
    unfold putBlk updL
    rw [fullB_len hw, if_neg (by omega)]
  simp only [this]

theorem take_x {B : Int → UInt64} {X : VS} {node : Int} : (takeP B X node).2.2 = { X with now := (takeP B X node).2.2.now } := by
  unfold takeP
  split
  · split <;> rfl
  · rfl
theorem take_cnt {B : Int → UInt64} {X : VS} {node : Int} (hn : 0 ≤ node ∧ node < 24) : freeN B X 96 ≤ freeN B (takeP B X node).2.2 96 + 1 := by
  by_cases h : (takeP B X node).2.1 = 0
  · rw [free_take hn h]; exact Nat.le_refl _
  · rw [take_fail h]; exact Nat.le_succ _

theorem free_keep {B : Int → UInt64} {node : Int} (hn : 0 ≤ node ∧ node < 24) {X : VS} {c : Crd} {m : List Int} : freeN B X 96 ≤ freeN B (keepP B X node c m).2.2 96 + 1 ∧ (keepP B X node c m).2.2 = { X with now := (keepP B X node c m).2.2.now } := by
  unfold keepP
  split
  · rename_i hc0
    have hl := hc0.2.1
    by_cases hd : (m.drop 5).any usedB = false
    · rw [if_pos hd]
      by_cases hc : c.more = -1
      · rw [if_pos hc]; exact ⟨Nat.le_succ _, rfl⟩
      · rw [if_neg hc]
        have hle : freeN B X 96 ≤ freeN B (dropP X c.more).2 96 ∧ (dropP X c.more).2 = { X with now := (dropP X c.more).2.now } := by
          unfold dropP
          split
          · split
            · exact ⟨Nat.le_refl _, rfl⟩
            · refine ⟨?_, rfl⟩
              unfold freeN
              refine count_le fun j hj hp => ?_
              unfold freshB at hp ⊢
              simp only [Bool.and_eq_true, decide_eq_true_eq] at hp ⊢
              refine ⟨hp.1, hp.2.1, ?_, hp.2.2.2⟩
              have := hp.2.2.1
              unfold upd
              split
              · rfl
              · exact this
          · exact ⟨Nat.le_refl _, rfl⟩
        split
        · exact ⟨by simp only; omega, hle.2⟩
        · exact ⟨by simp only; omega, hle.2⟩
    · rw [if_neg hd]
      by_cases hc : c.more = -1
      · rw [if_pos hc]
        simp only
        by_cases ht : (takeP B X node).2.1 = 0
        · rw [if_pos ht]
          have hr := takeP_rng ht
          have := free_take hn ht
          have hx : (takeP B X node).2.2 = { X with now := (takeP B X node).2.2.now } := take_x
          simp only
          rw [if_pos hr, freeN_put hr.1 (by simp [hl])]
          exact ⟨by omega, by rw [hx]⟩
        · rw [if_neg ht, take_fail ht]; exact ⟨Nat.le_succ _, rfl⟩
      · rw [if_neg hc]
        simp only [if_true]
        split
        · rename_i hk
          rw [freeN_put hk.1 (by simp [hl])]
          exact ⟨Nat.le_succ _, rfl⟩
        · exact ⟨Nat.le_succ _, rfl⟩
  · exact ⟨Nat.le_succ _, rfl⟩

/-- a name more takes two blocks at most -/
theorem addP_cnt {B : Int → UInt64} {X : VS} {node : Int} (hn : 0 ≤ node ∧ node < 24) {c : Crd} {m : List Int} {l : List Ent} (D : DirI X.now node c m l) (name : List UInt8) (target : Int) :
    freeN B X 96 ≤ freeN B (addP B X node c name target).2.2 96 + 2 ∧ (addP B X node c name target).2.2 = { X with now := (addP B X node c name target).2.2.now } := by
  have R := D.wk.rngP
  unfold addP
  rw [D.open_]
  simp only [ne_eq, not_true_eq_false, if_false]
  split
  · exact ⟨Nat.le_add_right _ _, rfl⟩
  split
  · exact ⟨Nat.le_add_right _ _, rfl⟩
  split
  · exact ⟨Nat.le_add_right _ _, rfl⟩
  have fin : ∀ (Y : VS) (k : Int) (ws : List UInt64) (mm : List Int) (cc : Crd), (k = -1 ∨ 0 ≤ k) → ws.length ≤ 16 → freeN B X 96 ≤ freeN B Y 96 + 1 → Y = { X with now := Y.now } →
      freeN B X 96 ≤ freeN B (keepP B { Y with now := putBlk Y.now k ws } node cc mm).2.2 96 + 2 ∧ (keepP B { Y with now := putBlk Y.now k ws } node cc mm).2.2 = { X with now := (keepP B { Y with now := putBlk Y.now k ws } node cc mm).2.2.now } := by
    intro Y k ws mm cc hk hw hc hx
    have FK := free_keep (B := B) (X := { Y with now := putBlk Y.now k ws }) (c := cc) (m := mm) hn
    rw [free_putA hk hw] at FK
    refine ⟨by omega, ?_⟩
    have h2 := FK.2
    rw [hx] at h2 ⊢
    exact h2
  unfold firstR
  cases hs : spotF (wordsAt X.now m) m emptyB 4 (bucketL name) with
  | some q =>
    obtain ⟨pl, k⟩ := q
    simp only [not_true_eq_false, if_false, Int.toNat_natCast, wordsAt_nat]
    have hk0 := R.plc pl
    have q3 := (spotF_is hs).2.2.1
    refine fin X _ _ _ _ (by omega) ?_ (Nat.le_succ _) rfl
    have := setSlot_len (new := w64 target :: textL name 2) (blkW_len X.now (plc m pl)) q3 (by simp [textL_len])
    exact Nat.le_of_eq this
  | none =>
    simp only
    unfold growP
    cases hg : growF m 4 (bucketL name) with
    | none =>
      simp only
      exact ⟨Nat.le_add_right _ _, rfl⟩
    | some pl =>
      simp only
      by_cases e0 : (takeP B X node).2.1 = 0
      · rw [if_pos e0]
        simp only [not_true_eq_false, if_false, Int.toNat_natCast]
        have hr := takeP_rng e0
        have q1 := (growF_is hg).1
        have hl := R.1
        have hat : plc (m.set pl (takeP B X node).1) pl = (takeP B X node).1 := by rw [plc_set (by omega), if_pos rfl]
        refine fin (takeP B X node).2.2 _ _ _ _ (by rw [hat]; omega) ?_ (take_cnt hn) take_x
        have hw : (growW (wordsAt X.now m) pl (pl : Int)).length = 16 := by
          unfold growW
          rw [if_pos rfl]; simp
        have := setSlot_len (k := 0) (new := w64 target :: textL name 2) hw (by decide) (by simp [textL_len])
        exact Nat.le_of_eq this
      · rw [if_neg e0]
        simp only
        rw [if_pos e0]
        exact ⟨Nat.le_trans (take_cnt hn) (Nat.le_succ _), take_x⟩

theorem addP_err {B : Int → UInt64} {X : VS} {node : Int} (hn : 0 ≤ node ∧ node < 24) {c : Crd} {m : List Int} {l : List Ent} (D : DirI X.now node c m l) (name : List UInt8) (target : Int) (hf : 2 ≤ freeN B X 96) (he : (addP B X node c name target).2.1 ≠ 0) : (addP B X node c name target).2.2 = X := by
  by_cases hfull : spotF (wordsAt X.now m) m emptyB 4 (bucketL name) = none ∧ growF m 4 (bucketL name) = none
  · unfold addP
    rw [D.open_]
    simp only [ne_eq, not_true_eq_false, if_false]
    split
    · rfl
    split
    · rfl
    split
    · rfl
    unfold firstR growP
    rw [hfull.1, hfull.2]
    simp
  · have hlt : hadL l name < roomN (bucketL name) := by
      cases hs : spotF (wordsAt X.now m) m emptyB 4 (bucketL name) with
      | some q =>
        obtain ⟨pl, k⟩ := q
        obtain ⟨q1, q2, q3, q4, q5⟩ := spotF_is hs
        simp only at q1 q2 q3 q4 q5
        rw [wordsAt_nat] at q4
        have hbk := bucketL_lt name
        exact D.notfull name q1 (by omega) (by rw [placeE_ws q2]; exact slot_less q3 q4)
      | none =>
        cases hg : growF m 4 (bucketL name) with
        | none => exact absurd ⟨hs, hg⟩ hfull
        | some pl =>
          obtain ⟨q1, q2, q3, q4⟩ := growF_is hg
          have hbk := bucketL_lt name
          exact D.notfull name q1 (by omega) (by rw [placeE_hole q2]; simp)
    have AP := addP_plain (B := B) hn D name target
    have cases1 : (refAdd l name target).2 ≠ 0 → (addP B X node c name target).2.2 = X := by
      intro hr
      unfold refAdd at hr
      unfold addP
      rw [D.open_]
      simp only [ne_eq, not_true_eq_false, if_false]
      by_cases h1 : target < 1 ∨ 24 ≤ target
      · rw [if_pos (.inr h1)]
      rw [if_neg h1] at hr
      rw [if_neg (show ¬ (¬ (0 ≤ node ∧ node < 24) ∨ target < 1 ∨ 24 ≤ target) from fun h => h.elim (fun h => h hn) h1)]
      split
      · rfl
      · rename_i h3
        by_cases h2 : nameB name = false
        · rw [if_pos h2]
        · rw [if_neg h2] at hr
          rw [find_place D.str] at h3
          rw [if_neg h3] at hr
          simp at hr
    rcases AP with ⟨a1, a2, _⟩ | ⟨a1, a2, a3⟩ | ⟨a1, a2, _⟩
    · exact cases1 a2
    · omega
    · exact absurd a2 he

/-- a card keeps its kind, links, version -/
theorem keepP_same {B : Int → UInt64} {node : Int} {X : VS} {c : Crd} {m : List Int} (h : (keepP B X node c m).2.1 = 0) : (keepP B X node c m).1.kind = c.kind ∧ (keepP B X node c m).1.links = c.links ∧ (keepP B X node c m).1.ver = c.ver := by
  unfold keepP at h ⊢
  split at h
  · rename_i h0
    rw [if_pos h0]
    split at h
    · rename_i h1
      rw [if_pos h1]
      split at h
      · rename_i h2; rw [if_pos h2]; exact ⟨rfl, rfl, rfl⟩
      · rename_i h2
        rw [if_neg h2]
        split at h
        · rename_i h3; rw [if_pos h3]; exact ⟨rfl, rfl, rfl⟩
        · rename_i h3; exact absurd h h3
    · rename_i h1
      rw [if_neg h1]
      by_cases h2 : c.more = -1
      · rw [if_pos h2] at h ⊢
        simp only at h ⊢
        by_cases h3 : (takeP B X node).2.1 = 0
        · rw [if_pos h3]; exact ⟨rfl, rfl, rfl⟩
        · rw [if_neg h3] at h; exact absurd h h3
      · rw [if_neg h2]
        simp [setD]
  · simp at h
theorem addP_same {B : Int → UInt64} {X : VS} {node : Int} {c : Crd} {name : List UInt8} {target : Int} (h : (addP B X node c name target).2.1 = 0) : (addP B X node c name target).1.kind = c.kind ∧ (addP B X node c name target).1.links = c.links ∧ (addP B X node c name target).1.ver = c.ver := by
  unfold addP at h ⊢
  split at h
  · simp at h
  rename_i h1
  rw [if_neg h1]
  split at h
  · rename_i h2; exact absurd h h2
  rename_i h2
  rw [if_neg h2]
  split at h
  · simp at h
  rename_i h3
  rw [if_neg h3]
  split at h
  · simp at h
  rename_i h4
  rw [if_neg h4]
  simp only at h ⊢
  split at h
  · rename_i h5; exact absurd h h5
  rename_i h5
  rw [if_neg h5]
  exact keepP_same (c := { c with size := c.size + 1 }) h
theorem writeP_same {B : Int → UInt64} {X : VS} {node : Int} {c : Crd} {at_ : Int} {data : List UInt8} (h : (writeP B X node c at_ data).2.1 = 0) : (writeP B X node c at_ data).1.kind = c.kind ∧ (writeP B X node c at_ data).1.links = c.links ∧ (writeP B X node c at_ data).1.ver = c.ver := by
  unfold writeP at h ⊢
  split at h
  · simp at h
  rename_i h1
  rw [if_neg h1]
  split at h
  · rename_i h2
    rw [if_pos h2]
    split at h
    · simp at h
    · exact ⟨rfl, rfl, rfl⟩
  rename_i h2
  rw [if_neg h2]
  split at h
  · simp at h
  rename_i h3
  rw [if_neg h3]
  split at h
  · simp at h
  · rename_i m hm
    simp only at h ⊢
    split at h
    · rename_i h5
      rw [if_pos h5]
      exact keepP_same (c := { c with size := max c.size (at_ + data.length) }) h
    · rename_i h5; exact absurd h h5

/-- writing where there is room -/
theorem wStep_cnt {B : Int → UInt64} {node more : Int} (hn : 0 ≤ node ∧ node < 24) {X : VS} {m : List Int} (W : Wk X.now node more m) {a : Nat} {data : List UInt8} {i : Nat} (hi : i < 21) (h1 : 128 * i < a + data.length) (h2 : a < 128 * i + 128) (hf : 1 ≤ freeN B X 96) : freeN B X 96 ≤ freeN B (wStep B node a data i X m).2.1 96 + 1 := by
  have hl := W.len
  have e0 := take_ok (B := B) (X := X) hn hf
  unfold wStep
  have hbl : ∀ (now : Int → UInt64) (k : Int), (textL (wblk (bytesB now k) data a (a + data.length) (128 * i)) 16).length ≤ 16 := fun now k => by rw [textL_len]; exact Nat.le_refl _
  by_cases hm : m[i]?.getD 0 = -1
  · rw [if_pos hm]
    simp only [e0, if_true]
    have hr := takeP_rng e0
    have hat : (m.set i (takeP B X node).1)[i]?.getD 0 = (takeP B X node).1 := by simp [hl, hi]
    rw [hat, free_putA (.inr hr.1) (hbl _ _)]
    exact take_cnt hn
  · rw [if_neg hm]
    simp only [if_true]
    have hr := W.rngP.plc i
    have e : m[i]?.getD 0 = plc m i := getD_21 hl hi
    rw [e, free_putA (by omega) (hbl _ _)]
    exact Nat.le_succ _

theorem writeL_room {B : Int → UInt64} {node more : Int} (hn : 0 ≤ node ∧ node < 24) {a : Nat} {data : List UInt8} : ∀ (f i : Nat) (X : VS) (m : List Int), Wk X.now node more m → i + f ≤ 21 → (0 < f → 128 * (i + f - 1) < a + data.length) → a < 128 * i + 128 → f ≤ freeN B X 96 →
    (writeL B node a data f i X m).1 = 0 ∧ freeN B X 96 ≤ freeN B (writeL B node a data f i X m).2.1 96 + f ∧ Wk (writeL B node a data f i X m).2.1.now node more (writeL B node a data f i X m).2.2
  | 0, i, X, m, W, _, _, _, _ => ⟨rfl, Nat.le_refl _, W⟩
  | f + 1, i, X, m, W, hi, hd, ha, hf => by
    have hd' := hd (Nat.succ_pos _)
    have c := wStep_cnt (B := B) (data := data) hn W (a := a) (i := i) (by omega) (by omega) ha (by omega)
    rcases wStep_plain (B := B) hn W (a := a) (data := data) (i := i) (by omega) (by omega) ha with ⟨_, hno⟩ | S
    · exact absurd hno (freeN_pos (by omega))
    · unfold writeL
      rw [if_pos S.e]
      obtain ⟨r1, r2, r3⟩ := writeL_room (B := B) (a := a) (data := data) hn f (i + 1) _ _ S.wk (by omega) (fun _ => by omega) (by omega) (by omega)
      exact ⟨r1, by omega, r3⟩

theorem writeP_room {B : Int → UInt64} {node : Int} (hn : 0 ≤ node ∧ node < 24) {X : VS} {c : Crd} {m : List Int} {s : List UInt8} (F : FileI X.now node c m s) (a : Nat) (data : List UInt8) (hroom : (a + data.length + 127) / 128 - a / 128 + 1 ≤ freeN B X 96) :
    (writeP B X node c (a : Int) data).2.1 = (refWriteL s (a : Int) data).2 ∧
    ((refWriteL s (a : Int) data).2 = 0 → freeN B X 96 ≤ freeN B (writeP B X node c (a : Int) data).2.2 96 + ((a + data.length + 127) / 128 - a / 128 + 1) ∧ ∃ m', Wrote node X m (a : Int) data (refWriteL s (a : Int) data).1 (writeP B X node c (a : Int) data) m') := by
  rcases writeP_plain (B := B) hn F (a : Int) data with ⟨h9, h0, _⟩ | ⟨he, hw⟩
  · exfalso
    unfold refWriteL at h0
    unfold writeP at h9
    by_cases h1 : (a : Int) < 0 ∨ 400 < data.length
    · rw [if_pos h1] at h0; simp at h0
    rw [if_neg h1] at h0
    rw [if_neg (by rintro (x | x); exact x hn; exact h1 x)] at h9
    by_cases h2 : data = []
    · rw [if_pos h2, F.map] at h9; simp at h9
    rw [if_neg h2] at h0 h9
    by_cases h3 : 2688 - (data.length : Int) < (a : Int)
    · rw [if_pos h3] at h0; simp at h0
    rw [if_neg h3, F.map] at h9
    simp only [Int.toNat_natCast] at h9
    have hdl : 0 < data.length := List.length_pos_iff.2 h2
    obtain ⟨r1, r2, r3⟩ := writeL_room (B := B) hn (a := a) (data := data) ((a + data.length + 127) / 128 - a / 128) (a / 128) X m F.wk (by omega) (fun _ => by omega) (by omega) (by omega)
    rw [r1] at h9
    simp only [if_true] at h9
    have K := keepP_room (B := B) (c := { c with size := max c.size ((a : Int) + data.length) }) hn r3 (by omega)
    rw [K.e] at h9
    cases h9
  · refine ⟨he, fun h0 => ⟨?_, hw h0⟩⟩
    unfold refWriteL at h0
    unfold writeP
    by_cases h1 : (a : Int) < 0 ∨ 400 < data.length
    · rw [if_pos h1] at h0; simp at h0
    rw [if_neg (by rintro (x | x); exact x hn; exact h1 x)]
    rw [if_neg h1] at h0
    by_cases h2 : data = []
    · rw [if_pos h2, F.map]; simp only; omega
    rw [if_neg h2] at h0 ⊢
    by_cases h3 : 2688 - (data.length : Int) < (a : Int)
    · rw [if_pos h3] at h0; simp at h0
    rw [if_neg h3, F.map]
    simp only [Int.toNat_natCast]
    have hdl : 0 < data.length := List.length_pos_iff.2 h2
    obtain ⟨r1, r2, r3⟩ := writeL_room (B := B) hn (a := a) (data := data) ((a + data.length + 127) / 128 - a / 128) (a / 128) X m F.wk (by omega) (fun _ => by omega) (by omega) (by omega)
    rw [r1]
    simp only [if_true]
    have K := (free_keep (B := B) (X := (writeL B node a data ((a + data.length + 127) / 128 - a / 128) (a / 128) X m).2.1) (c := { c with size := max c.size ((a : Int) + data.length) }) (m := (writeL B node a data ((a + data.length + 127) / 128 - a / 128) (a / 128) X m).2.2) hn).1
    omega
end Go.Proofs.YtkdmlieckkdmgaaGreatDoor
/-
  Layer 10's law: a file's own blocks; whole.
-/
set_option linter.all false
set_option maxRecDepth 100000
set_option maxHeartbeats 1000000
namespace Go.Proofs.YtkdmlieckkdmgaaGreatDoor
open Go Go.Eng

theorem own_cells {V : VL} {node : Int} {c : Crd} {s : ByteArray} : fileC V node c s = [.pointer (some ⟨V.v, 0, none⟩), .pointer (some ⟨V.mem.m, 0, none⟩), .int .i64 node, .int .i64 c.kind, .int .i64 c.links, .int .i64 c.size, wv c.ver, .int .i64 c.d0, .int .i64 c.d1, .int .i64 c.d2, .int .i64 c.d3, .int .i64 c.d4, .int .i64 c.more, .string s] := rfl

/-- a file's map, and its block behind -/
def ownL (c : Crd) (m : List Int) : List Int := if 0 ≤ c.more then m ++ [c.more] else m

theorem ownL_used {now : Int → UInt64} {node : Int} {c : Crd} {m : List Int} {s : List UInt8} (F : FileI now node c m s) : ((ownL c m).filter usedB).Perm (usedL c.more m) := by
  unfold ownL
  rw [usedL_cons]
  have hr := F.wk.rng c.more List.mem_cons_self
  unfold blkOk at hr
  by_cases h : c.more = -1
  · rw [if_neg (by omega), if_pos h]
  · rw [if_pos (by omega), if_neg h, List.filter_append, List.filter_cons, if_pos (usedB_t.2 h), List.filter_nil]
    exact List.perm_append_comm

theorem nodup_filter_before : ∀ {l : List Int} {i : Nat} (hi : i < l.length), (l.filter usedB).Nodup → l[i] ≠ -1 → l[i] ∉ l.take i
  | [], i, hi, _, _ => by simp at hi
  | x :: l, 0, _, _, _ => by simp
  | x :: l, i + 1, hi, h, hu => by
    simp only [List.getElem_cons_succ] at hu ⊢
    have h' : (l.filter usedB).Nodup := by
      rw [List.filter_cons] at h
      split at h
      · exact (List.nodup_cons.1 h).2
      · exact h
    rw [List.take_succ_cons, List.mem_cons]
    rintro (e | e)
    · rw [List.filter_cons, if_pos (usedB_t.2 (by rw [← e]; exact hu))] at h
      exact (List.nodup_cons.1 h).1 (List.mem_filter.2 ⟨by rw [← e]; exact List.getElem_mem _, usedB_t.2 (by rw [← e]; exact hu)⟩)
    · exact nodup_filter_before (by simpa using hi) h' hu e

end Go.Proofs.YtkdmlieckkdmgaaGreatDoor
/-
  Layer 10's law: a file is whole.
-/
set_option linter.all false
set_option maxRecDepth 100000
set_option maxHeartbeats 1000000
namespace Go.Proofs.YtkdmlieckkdmgaaGreatDoor
open Go Go.Eng

/-- the document's answer: bytes are read -/
def refReadL (s : List UInt8) (at_ n : Int) : List UInt8 × Int :=
  if at_ < 0 ∨ n < 0 ∨ 4096 < n then ([], 1)
  else if (s.length : Int) ≤ at_ then ([], 0) else ((s.take (min (s.length : Int) (at_ + n)).toNat).drop at_.toNat, 0)

theorem FileI.bytes {now : Int → UInt64} {node : Int} {c : Crd} {m : List Int} {s : List UInt8} (F : FileI now node c m s) : (fileB now m).take s.length = s := by
  have hl := flat_len (now := now) m
  have hm := F.wk.len
  have hf := F.fits
  apply List.ext_getElem?
  intro p
  rw [List.getElem?_take]
  by_cases h : p < s.length
  · rw [if_pos h, fileB_get m p (by omega), F.by_ p (by omega)]
    simp [h]
  · rw [if_neg h, List.getElem?_eq_none (by omega)]

theorem readP_plain {now : Int → UInt64} {node : Int} {c : Crd} {m : List Int} {s : List UInt8} (F : FileI now node c m s) (at_ n : Int) : readP now c at_ n = refReadL s at_ n := by
  unfold readP refReadL
  split
  · rfl
  · rename_i h
    rw [F.map, F.size]
    simp only
    split
    · rfl
    · rename_i h2
      have hb := F.bytes
      congr 2
      have e : (fileB now m).take (min (s.length : Int) (at_ + n)).toNat = s.take (min (s.length : Int) (at_ + n)).toNat := by
        generalize hX : (min (s.length : Int) (at_ + n)).toNat = x
        have e2 : s.take x = ((fileB now m).take s.length).take x := by rw [hb]
        rw [e2, List.take_take]
        congr 1; omega
      exact e

theorem FileI.szr {now : Int → UInt64} {node : Int} {c : Crd} {m : List Int} {s : List UInt8} (F : FileI now node c m s) : 0 ≤ c.size ∧ c.size ≤ 2688 := by
  have := F.size
  have := F.fits
  omega

theorem fread_spec {h : Heap} {V : VL} {M : MemS} (I : Idle h V M) {node : Int} {c : Crd} {m : List Int} {s : List UInt8} (F : FileI M.read node c m s) (at_ n : Int) :
    CallH Tryz.prog 106 [.pointer (some ⟨V.v, 0, none⟩), .agg ⟨c.cells⟩, .int .i64 at_, .int .i64 n] h (fun v h' => Keeps [] h h' ∧ v = .tuple #[.string ⟨(refReadL s at_ n).1.toArray⟩, .int .i64 (refReadL s at_ n).2]) := by
  have := bread_spec I.at_ c F.ok F.szr F.okMap at_ n
  rw [readP_plain F] at this
  exact this

theorem ref_whole {s : List UInt8} (h : s.length ≤ 2688) : refReadL s 0 4096 = (s, 0) := by
  unfold refReadL
  rw [if_neg (by omega)]
  split
  · have : s = [] := List.eq_nil_of_length_eq_zero (by omega)
    rw [this]
  · congr 1
    rw [List.take_of_length_le (by omega)]; rfl

end Go.Proofs.YtkdmlieckkdmgaaGreatDoor
/-
  Plain laws: new files, a file is cut; two files don't touch one another; what is free.
-/
set_option linter.all false
set_option maxRecDepth 100000
set_option maxHeartbeats 1000000
namespace Go.Proofs.YtkdmlieckkdmgaaGreatDoor
open Go Go.Eng

def m0 : List Int := List.replicate 21 (-1)
theorem b0_owner {x : Int} (h0 : 0 ≤ x) (h1 : x < 96) : b0 (200 + x) = 0 := by
  unfold b0
  rw [if_pos (by omega), if_neg (by omega), if_neg (by omega)]

/-- a new file -/
theorem fresh_file {now : Int → UInt64} {node : Int} (hn : 0 ≤ node ∧ node < 24) (h : ∀ x, 0 ≤ x → x < 96 → now (200 + x) ≠ w64 (node + 1)) : FileI now node (freshC 1 1) m0 [] := by
  have hu : usedL (freshC 1 1).more m0 = [] := by decide
  refine ⟨rfl, ⟨rfl, ?_, by rw [hu]; exact List.nodup_nil, fun x x0 x1 => by rw [hu]; exact ⟨fun h => (nomatch h), fun e => absurd e (h x x0 x1)⟩⟩, ⟨.inl rfl, by decide⟩, rfl, by simp, fun p hp => ?_, fun j hj _ => ?_, by decide⟩
  · intro x hx
    left
    have : x ∈ List.replicate 22 (-1 : Int) := hx
    exact (List.mem_replicate.1 this).2
  · unfold fb
    have : m0[p / 128]?.getD (-1) = -1 := by
      unfold m0
      rw [List.getElem?_replicate]
      split <;> rfl
    rw [this]
    unfold bytesB
    rw [if_pos rfl, zeros_get]
    rfl
  · unfold m0
    rw [List.getElem?_replicate]
    split <;> rfl

theorem filter_idx (l : List Int) : (l.filter usedB).length = ((List.range l.length).filter fun j => usedB (l[j]?.getD (-1))).length := by
  have h : l = (List.range l.length).map fun j => l[j]?.getD (-1) := by
    apply List.ext_getElem
    · simp
    · intro i h1 h2
      simp [h1]
  conv => lhs; rw [h]
  rw [List.filter_map, List.length_map]
  rfl
theorem range_between : ∀ a, a < 22 → ∀ b, b < 22 → a ≤ b → ((List.range 21).filter fun j => decide (a ≤ j ∧ j < b)).length = b - a := by decide +kernel

theorem wrote_used {node : Int} {X : VS} {at_ : Nat} {data s' : List UInt8} {r : Crd × Int × VS} {m' : List Int} (W : Wrote node X m0 (at_ : Int) data s' r m') (hd : data ≠ []) (hf : at_ + data.length ≤ 2688) :
    (usedL r.1.more m').length = (if 5 ≤ (at_ + data.length - 1) / 128 then 1 else 0) + ((at_ + data.length - 1) / 128 - at_ / 128 + 1) := by
  have hl := W.file.wk.len
  have hdl : 0 < data.length := by
    cases data with
    | nil => exact absurd rfl hd
    | cons x l => simp
  have hu : ∀ j, j < 21 → (usedB (m'[j]?.getD (-1)) = true ↔ at_ / 128 ≤ j ∧ j < (at_ + data.length + 127) / 128) := by
    intro j hj
    have h := W.holes j hj
    have h0 : m0[j]?.getD (-1) = -1 := by
      unfold m0
      rw [List.getElem?_replicate]
      split <;> rfl
    rw [Int.toNat_natCast] at h
    rw [usedB_t, h]
    constructor
    · intro x
      exact Classical.byContradiction fun y => x ⟨h0, fun z => y z.2⟩
    · rintro x ⟨_, y⟩
      exact y ⟨hd, x⟩
  have hfl : (m'.filter usedB).length = (at_ + data.length + 127) / 128 - at_ / 128 := by
    rw [filter_idx, hl, ← range_between (at_ / 128) (by omega) ((at_ + data.length + 127) / 128) (by omega) (by omega)]
    congr 1
    apply List.filter_congr
    intro j hj
    have hj' : j < 21 := by simpa using hj
    rw [Bool.eq_iff_iff, hu j hj']
    simp
  have hmor : r.1.more = -1 ↔ (at_ + data.length + 127) / 128 ≤ 5 := by
    rw [W.file.mor, List.any_eq_false]
    constructor
    · intro h
      refine Classical.byContradiction fun hc => ?_
      have h5 : 5 ≤ (at_ + data.length + 127) / 128 - 1 := by omega
      have hj : (at_ + data.length + 127) / 128 - 1 < 21 := by omega
      have := (hu ((at_ + data.length + 127) / 128 - 1) hj).2 ⟨by omega, by omega⟩
      refine h m'[(at_ + data.length + 127) / 128 - 1] ?_ ?_
      · rw [List.mem_drop_iff_getElem]
        refine ⟨(at_ + data.length + 127) / 128 - 1 - 5, by omega, ?_⟩
        congr 1; omega
      · have e : m'[(at_ + data.length + 127) / 128 - 1]?.getD (-1) = m'[(at_ + data.length + 127) / 128 - 1] := W.file.wk.at_ hj
        rw [← e]; exact this
    · intro h x hx
      rw [List.mem_drop_iff_getElem] at hx
      obtain ⟨j, hj, rfl⟩ := hx
      have h2 := hu (5 + j) (by omega)
      rw [W.file.wk.at_ (by omega)] at h2
      intro hu2
      have := h2.1 hu2
      omega
  rw [usedL_cons]
  by_cases h : r.1.more = -1
  · rw [if_pos h, hfl, if_neg (by have := hmor.1 h; omega)]
    omega
  · rw [if_neg h, List.length_cons, hfl, if_pos (by
      have : ¬ (at_ + data.length + 127) / 128 ≤ 5 := fun x => h (hmor.2 x)
      omega)]
    omega

theorem touch_plain (at_ : Nat) (data : List UInt8) (hd : data.length ≤ 400) (ha : at_ + data.length ≤ 2688) :
    (writeP b0 X0 2 (freshC 1 1) (at_ : Int) data).2.1 = 0 ∧ (if data = [] then (writeP b0 X0 2 (freshC 1 1) (at_ : Int) data).1 = freshC 1 1 ∧ (writeP b0 X0 2 (freshC 1 1) (at_ : Int) data).2.2 = X0 else
      ∃ m', Wrote 2 X0 m0 (at_ : Int) data (zeros at_ ++ data) (writeP b0 X0 2 (freshC 1 1) (at_ : Int) data) m') := by
  have hne : ∀ x, 0 ≤ x → x < 96 → X0.now (200 + x) ≠ w64 (2 + 1) := by
    intro x h0 h1
    show b0 (200 + x) ≠ _
    rw [b0_owner h0 h1]; decide
  have F := fresh_file (now := X0.now) (node := 2) (by decide) hne
  have hal : Alone b0 2 X0 := fun k h0 h1 => ⟨b0_owner h0 h1, .inl (b0_owner h0 h1), by simp [X0]⟩
  have href : (refWriteL [] (at_ : Int) data).2 = 0 := by
    unfold refWriteL
    rw [if_neg (by omega)]
    split
    · rfl
    · rw [if_neg (by omega)]
  rcases writeP_plain (B := b0) (by decide) F (at_ : Int) data with ⟨_, _, h⟩ | ⟨h1, h2⟩
  · exact absurd hal h
  · refine ⟨by rw [h1, href], ?_⟩
    by_cases hnil : data = []
    · rw [if_pos hnil]
      subst hnil
      have : writeP b0 X0 2 (freshC 1 1) (at_ : Int) [] = (freshC 1 1, 0, X0) := by
        unfold writeP
        rw [if_neg (by simp), if_pos rfl, F.map]
      rw [this]; exact ⟨rfl, rfl⟩
    · rw [if_neg hnil]
      obtain ⟨m', W⟩ := h2 href
      have : (refWriteL [] (at_ : Int) data).1 = zeros at_ ++ data := by
        unfold refWriteL
        rw [if_neg (by omega), if_neg hnil, if_neg (by omega)]
        simp only [Int.toNat_natCast, List.nil_append, List.length_nil, Nat.sub_zero, zeros]
        rw [List.take_replicate, List.drop_replicate, Nat.sub_self, Nat.min_eq_left (by omega)]
        simp
      rw [this] at W
      exact ⟨m', W⟩

/-- what a step of cutting comes to -/
structure Cutt (node more : Int) (X : VS) (m : List Int) (z : Nat) (size : Int) (i f : Nat) (r : Int × VS × List Int) : Prop where
  e : r.1 = 0
  x : r.2.1 = { X with now := r.2.1.now }
  wk : Wk r.2.1.now node more r.2.2
  fr : Fr node X.now r.2.1.now
  more_ : more ≠ -1 → moreL r.2.1.now more = moreL X.now more
  by_ : ∀ p, p < 2688 → fb r.2.1.now r.2.2 p = if ((z : Int) < size) ∧ i ≤ p / 128 ∧ p / 128 < i + f ∧ z ≤ p then 0 else fb X.now m p
  holes : ∀ j, j < 21 → (r.2.2[j]?.getD (-1) = -1 ↔ m[j]?.getD (-1) = -1 ∨ ((z : Int) < size ∧ i ≤ j ∧ j < i + f ∧ z ≤ 128 * j))

theorem cutStep_plain {node more : Int} (hn : 0 ≤ node ∧ node < 24) {X : VS} {m : List Int} (W : Wk X.now node more m) {z : Nat} {size : Int} {i : Nat} (hi : i < 21) : Cutt node more X m z size i 1 (cutStep z size i X m) := by
  have hl := W.len
  unfold cutStep
  rw [getD_21 hl hi]
  by_cases h1 : m[i]?.getD (-1) = -1 ∨ size ≤ (z : Int) ∨ 128 * i + 128 ≤ z
  · rw [if_pos h1]
    refine ⟨rfl, rfl, W, Fr.refl _ _, fun _ => rfl, fun p hp => ?_, fun j hj => ⟨.inl, fun h => ?_⟩⟩
    · simp only
      split
      · rename_i hc
        have hpi : p / 128 = i := by omega
        rcases h1 with h1 | h1 | h1
        · unfold fb
          rw [hpi, h1]
          unfold bytesB
          rw [if_pos rfl, zeros_get]
        · omega
        · omega
      · rfl
    · rcases h with h | h
      · exact h
      · have : j = i := by omega
        subst this
        rcases h1 with h1 | h1 | h1
        · exact h1
        · omega
        · omega
  · rw [if_neg h1]
    have hm : m[i]?.getD (-1) ≠ -1 := fun h => h1 (.inl h)
    have hs : (z : Int) < size := by
      refine Classical.byContradiction fun h => h1 (.inr (.inl (by omega)))
    have hz : ¬ 128 * i + 128 ≤ z := fun h => h1 (.inr (.inr h))
    by_cases h2 : z ≤ 128 * i
    · rw [if_pos h2]
      obtain ⟨hk, ho, W1, F1, M1, B1⟩ := W.drop_at hn hi rfl hm
      have hdr : dropP X (m[i]?.getD (-1)) = (0, { X with now := upd X.now (200 + m[i]?.getD (-1)) 0 }) := by
        unfold dropP
        rw [if_pos hk, if_neg (by rw [ho]; exact w64_ne hn)]
      rw [hdr]
      refine ⟨rfl, rfl, W1, F1, M1, fun p hp => ?_, fun j hj => ?_⟩
      · simp only
        rw [B1 p hp]
        by_cases hpi : p / 128 = i
        · rw [if_pos hpi, if_pos ⟨hs, by omega, by omega, by omega⟩]
        · rw [if_neg hpi, if_neg (by omega)]
      · simp only
        by_cases hji : j = i
        · subst hji
          have : (m.set j (-1))[j]?.getD (-1) = -1 := by simp [hl, hj]
          rw [this]
          exact ⟨fun _ => .inr ⟨hs, by omega, by omega, h2⟩, fun _ => rfl⟩
        · rw [List.getElem?_set_ne (fun x => hji x.symm)]
          exact ⟨.inl, fun h => by rcases h with h | h; exact h; omega⟩
    · rw [if_neg h2]
      have hbl := bytesB_len X.now (m[i]?.getD (-1))
      obtain ⟨W2, F2, M2, B2⟩ := W.put hi (l := (bytesB X.now (m[i]?.getD (-1))).take (z - 128 * i)) (by rw [List.length_take]; omega) rfl hm
      refine ⟨rfl, rfl, W2, F2, M2, fun p hp => ?_, fun j hj => ?_⟩
      · simp only
        rw [B2 p hp]
        by_cases hpi : p / 128 = i
        · rw [if_pos hpi, List.getElem?_take]
          by_cases hpz : z ≤ p
          · rw [if_neg (by omega), if_pos ⟨hs, by omega, by omega, hpz⟩]; rfl
          · rw [if_pos (by omega), if_neg (by omega)]
            unfold fb
            rw [hpi]
        · rw [if_neg hpi, if_neg (by omega)]
      · simp only
        exact ⟨.inl, fun h => by rcases h with h | h; exact h; omega⟩

theorem cutL_plain {node more : Int} (hn : 0 ≤ node ∧ node < 24) {z : Nat} {size : Int} : ∀ (f i : Nat) (X : VS) (m : List Int), Wk X.now node more m → i + f ≤ 21 → Cutt node more X m z size i f (cutL z size f i X m)
  | 0, i, X, m, W, _ => by
    unfold cutL
    refine ⟨rfl, rfl, W, Fr.refl _ _, fun _ => rfl, fun p hp => ?_, fun j hj => ⟨.inl, fun h => by rcases h with h | h; exact h; omega⟩⟩
    simp only
    rw [if_neg (by omega)]
  | f + 1, i, X, m, W, hf => by
    unfold cutL
    have S := cutStep_plain hn W (z := z) (size := size) (i := i) (by omega)
    rw [S.e]
    simp only [if_true]
    have R := cutL_plain (z := z) (size := size) hn f (i + 1) (cutStep z size i X m).2.1 (cutStep z size i X m).2.2 S.wk (by omega)
    refine ⟨R.e, ?_, R.wk, S.fr.trans R.fr (w64_ne hn), fun h => (R.more_ h).trans (S.more_ h), fun p hp => ?_, fun j hj => ?_⟩
    · rw [R.x, S.x]
    · rw [R.by_ p hp, S.by_ p hp]
      by_cases c3 : (z : Int) < size ∧ i + 1 ≤ p / 128 ∧ p / 128 < i + 1 + f ∧ z ≤ p
      · rw [if_pos c3, if_pos ⟨c3.1, by omega, by omega, c3.2.2.2⟩]
      · rw [if_neg c3]
        by_cases c4 : (z : Int) < size ∧ i ≤ p / 128 ∧ p / 128 < i + 1 ∧ z ≤ p
        · rw [if_pos c4, if_pos ⟨c4.1, c4.2.1, by omega, c4.2.2.2⟩]
        · rw [if_neg c4, if_neg (by omega)]
    · rw [R.holes j hj, S.holes j hj]
      constructor
      · rintro ((h | h) | h)
        · exact .inl h
        · exact .inr ⟨h.1, by omega, by omega, h.2.2.2⟩
        · exact .inr ⟨h.1, by omega, by omega, h.2.2.2⟩
      · rintro (h | h)
        · exact .inl (.inl h)
        · by_cases hji : j = i
          · exact .inl (.inr ⟨h.1, by omega, by omega, h.2.2.2⟩)
          · exact .inr ⟨h.1, by omega, by omega, h.2.2.2⟩

/-- the document's answer: a file is cut -/
def refCutL (s : List UInt8) (size : Int) : List UInt8 × Int :=
  if size < 0 then ([], 1)
  else if 2688 < size then ([], 10)
  else if size ≤ (s.length : Int) then (s.take size.toNat, 0) else (s ++ zeros (size.toNat - s.length), 0)

theorem refCut_get (s : List UInt8) (z : Nat) (p : Nat) : (if (z : Int) ≤ (s.length : Int) then s.take z else s ++ zeros (z - s.length))[p]?.getD 0 = if (z : Int) < (s.length : Int) ∧ z ≤ p then 0 else s[p]?.getD 0 := by
  split
  · rw [List.getElem?_take]
    by_cases h : p < z
    · rw [if_pos h, if_neg (by omega)]
    · rw [if_neg h]
      split
      · rfl
      · rw [List.getElem?_eq_none (by omega)]
  · rw [pad_get, if_neg (by omega)]
theorem refCut_len (s : List UInt8) (z : Nat) : (if (z : Int) ≤ (s.length : Int) then s.take z else s ++ zeros (z - s.length)).length = z := by
  split
  · rw [List.length_take]; omega
  · simp [zeros]; omega

theorem cutP_plain {B : Int → UInt64} {node : Int} (hn : 0 ≤ node ∧ node < 24) {X : VS} {c : Crd} {m : List Int} {s : List UInt8} (F : FileI X.now node c m s) (size : Int) :
    (cutP B X node c size).2.1 = (refCutL s size).2 ∧ ((refCutL s size).2 = 0 → ∃ m', FileI (cutP B X node c size).2.2.now node (cutP B X node c size).1 m' (refCutL s size).1 ∧ Fr node X.now (cutP B X node c size).2.2.now ∧ (cutP B X node c size).2.2 = { X with now := (cutP B X node c size).2.2.now } ∧
      ∀ j : Nat, j < 21 → (m'[j]?.getD (-1) = -1 ↔ m[j]?.getD (-1) = -1 ∨ (size < s.length ∧ size ≤ 128 * (j : Int)))) := by
  unfold cutP refCutL
  by_cases h1 : size < 0
  · rw [if_pos (.inr h1), if_pos h1]
    exact ⟨rfl, fun h => by cases h⟩
  · rw [if_neg (by rintro (x | x); exact x hn; exact h1 x), if_neg h1]
    by_cases h2 : 2688 < size
    · rw [if_pos h2, if_pos h2]
      exact ⟨rfl, fun h => by cases h⟩
    · rw [if_neg h2, if_neg h2, F.map]
      simp only
      obtain ⟨z, rfl⟩ : ∃ z : Nat, size = (z : Int) := ⟨size.toNat, by omega⟩
      simp only [Int.toNat_natCast]
      have R := cutL_plain (z := z) (size := c.size) hn 21 0 X m F.wk (by omega)
      rw [R.e]
      simp only [if_true]
      have hsz := F.size
      have hfit := F.fits
      have hlr := R.wk.len
      have hc : ({ c with size := (z : Int) } : Crd).more = c.more := rfl
      have hmono : (((cutL z c.size 21 0 X m).2.2).drop 5).any usedB = true → (m.drop 5).any usedB = true := by
        intro h
        rw [List.any_eq_true] at h ⊢
        obtain ⟨x, hx, hu⟩ := h
        rw [List.mem_drop_iff_getElem] at hx
        obtain ⟨j, hj, rfl⟩ := hx
        have h5 : 5 + j < 21 := by omega
        have hh := R.holes (5 + j) h5
        rw [R.wk.at_ h5, F.wk.at_ h5] at hh
        have hne := usedB_t.1 hu
        have hml := F.wk.len
        refine ⟨m[5 + j], ?_, usedB_t.2 fun e => hne (hh.2 (.inl e))⟩
        rw [List.mem_drop_iff_getElem]
        exact ⟨j, by omega, rfl⟩
      have hpair : (if (z : Int) ≤ (s.length : Int) then (s.take z, (0 : Int)) else (s ++ zeros (z - s.length), 0)) = (if (z : Int) ≤ (s.length : Int) then s.take z else s ++ zeros (z - s.length), 0) := by split <;> rfl
      rw [hpair]
      rcases keepP_plain (B := B) (c := { c with size := (z : Int) }) hn (hc ▸ R.wk) with ⟨_, _, hmo, hus⟩ | K
      · exact absurd (F.mor.1 hmo) (by rw [hmono hus]; decide)
      · refine ⟨K.e, fun _ => ⟨(cutL z c.size 21 0 X m).2.2, ?_, R.fr.trans K.fr (w64_ne hn), by rw [K.x, R.x], fun j hj => ?_⟩⟩
        · have hcc := K.c_
          refine ⟨K.map, K.wk, ?_, ?_, ?_, fun p hp => ?_, fun j hj hs => ?_, K.mor⟩
          · rw [hcc]; exact F.kind
          · rw [hcc, refCut_len]; rfl
          · rw [refCut_len]; omega
          · rw [K.by_ p hp, R.by_ p hp, refCut_get, F.by_ p hp, hsz]
            by_cases hq : (z : Int) < (s.length : Int) ∧ z ≤ p
            · rw [if_pos ⟨hq.1, by omega, by omega, hq.2⟩, if_pos hq]
            · rw [if_neg (fun h => hq ⟨h.1, h.2.2.2⟩), if_neg hq]
          · rw [refCut_len] at hs
            refine (R.holes j hj).2 ?_
            rw [hsz]
            by_cases hq : (z : Int) < (s.length : Int)
            · exact .inr ⟨hq, by omega, by omega, hs⟩
            · exact .inl (F.hol j hj (by omega))
        · rw [R.holes j hj, hsz]
          constructor
          · rintro (h | h)
            · exact .inl h
            · exact .inr ⟨h.1, by omega⟩
          · rintro (h | h)
            · exact .inl h
            · exact .inr ⟨h.1, by omega, by omega, by omega⟩

theorem w64_inj {a b : Int} (ha : 0 ≤ a ∧ a < 24) (hb : 0 ≤ b ∧ b < 24) (h : w64 (a + 1) = w64 (b + 1)) : a = b := by
  have h1 := w64_toNat (a + 1)
  have h2 := w64_toNat (b + 1)
  rw [h] at h1
  omega

/-- a file of another node stays as it was -/
theorem FileI.other {now g : Int → UInt64} {x y : Int} (hx : 0 ≤ x ∧ x < 24) (hy : 0 ≤ y ∧ y < 24) (hne : x ≠ y) {c : Crd} {m : List Int} {s : List UInt8} (F : FileI now y c m s) (R : Fr0 x now g) : FileI g y c m s := by
  have hxy : w64 (y + 1) ≠ w64 (x + 1) := fun e => hne (w64_inj hx hy e.symm)
  have hy0 := w64_ne hy
  have key : ∀ k, 0 ≤ k → k < 96 → now (200 + k) = w64 (y + 1) → g (200 + k) = w64 (y + 1) ∧ rdL g (1288 + k * 16) 16 = rdL now (1288 + k * 16) 16 := by
    intro k h0 h1 h
    obtain ⟨p, q⟩ := R.oth k h0 h1 (by rw [h]; exact hxy)
    refine ⟨?_, q (by rw [h]; exact hy0)⟩
    rcases p with p | ⟨p, _⟩
    · rw [p, h]
    · exact absurd (h ▸ p) hy0
  have back : ∀ k, 0 ≤ k → k < 96 → g (200 + k) = w64 (y + 1) → now (200 + k) = w64 (y + 1) := by
    intro k h0 h1 h
    by_cases hm : now (200 + k) = w64 (x + 1)
    · rcases R.mine k h0 h1 hm with p | p
      · exact absurd (h.symm.trans p) hxy
      · exact absurd (h.symm.trans p) hy0
    · rcases (R.oth k h0 h1 hm).1 with p | ⟨_, p⟩
      · rw [← p, h]
      · exact absurd (h.symm.trans p) hxy
  have hown : ∀ k, k ∈ usedL c.more m → 0 ≤ k ∧ k < 96 ∧ now (200 + k) = w64 (y + 1) := by
    intro k hk
    obtain ⟨h1, h2⟩ := usedL_mem.1 hk
    have hb := F.wk.rng k (by rcases h1 with rfl | h1; exact List.mem_cons_self; exact List.mem_cons_of_mem _ h1)
    unfold blkOk at hb
    exact ⟨by omega, by omega, (F.wk.own k (by omega) (by omega)).1 hk⟩
  refine ⟨?_, ⟨F.wk.len, F.wk.rng, F.wk.nod, fun k h0 h1 => ?_⟩, F.kind, F.size, F.fits, fun p hp => ?_, F.hol, F.mor⟩
  · have h := F.map
    unfold mapOf at h ⊢
    by_cases hm : c.more = -1
    · rw [if_pos hm] at h ⊢; exact h
    · obtain ⟨k0, k1, ko⟩ := hown c.more (usedL_mem.2 ⟨.inl rfl, hm⟩)
      have e : moreL g c.more = moreL now c.more := (key _ k0 k1 ko).2
      rw [e]; exact h
  · rw [F.wk.own k h0 h1]
    exact ⟨fun h => (key k h0 h1 h).1, back k h0 h1⟩
  · rw [F.wk.fb_keep (fun k hk h0 h1 => ?_) p hp, F.by_ p hp]
    exact (key k h0 h1 (hown k (usedL_mem.2 ⟨.inr hk, by omega⟩)).2.2).2

theorem count_filter_range (p : Nat → Bool) (l : List Int) (hn : l.Nodup) (h : ∀ k : Nat, k < 96 → (p k = true ↔ (k : Int) ∈ l)) (hl : ∀ x ∈ l, 0 ≤ x ∧ x < 96) : ((List.range 96).filter p).length = l.length := by
  have hp : (((List.range 96).filter p).map fun (k : Nat) => (k : Int)).Perm l := by
    rw [List.perm_ext_iff_of_nodup ?_ hn]
    · intro x
      simp only [List.mem_map, List.mem_filter, List.mem_range]
      constructor
      · rintro ⟨k, ⟨h1, h2⟩, rfl⟩; exact (h k h1).1 h2
      · intro hx
        have := hl x hx
        refine ⟨x.toNat, ⟨by omega, (h _ (by omega)).2 (by rwa [show ((x.toNat : Nat) : Int) = x by omega])⟩, by omega⟩
    · have : (((List.range 96).filter p).map fun (k : Nat) => (k : Int)).Pairwise (fun a b => a < b) := by
        rw [List.pairwise_map]
        exact (List.pairwise_lt_range.filter _).imp fun h => by simpa using h
      exact this.imp fun h e => by omega
  rw [← hp.length_eq, List.length_map]

theorem filter_three {α : Type} (p q r : α → Bool) : ∀ l : List α, (∀ x ∈ l, (p x = true ∧ q x = false ∧ r x = false) ∨ (p x = false ∧ q x = true ∧ r x = false) ∨ (p x = false ∧ q x = false ∧ r x = true)) → (l.filter p).length + (l.filter q).length + (l.filter r).length = l.length
  | [], _ => rfl
  | x :: l, h => by
    have ih := filter_three p q r l fun y hy => h y (List.mem_cons_of_mem _ hy)
    rcases h x List.mem_cons_self with ⟨a, b, c⟩ | ⟨a, b, c⟩ | ⟨a, b, c⟩ <;> simp only [List.filter_cons, a, b, c, List.length_cons, if_true] <;> simp <;> omega

/-- what is free beside two files -/
theorem free_two {now : Int → UInt64} {x y : Int} (hx : 0 ≤ x ∧ x < 24) (hy : 0 ≤ y ∧ y < 24) (hne : x ≠ y) {c d : Crd} {m n : List Int} {s t : List UInt8} (F : FileI now x c m s) (G : FileI now y d n t)
    (h : ∀ k, 0 ≤ k → k < 96 → now (200 + k) = 0 ∨ now (200 + k) = w64 (x + 1) ∨ now (200 + k) = w64 (y + 1)) :
    freeN now ⟨now, [], [], [], []⟩ 96 + (usedL c.more m).length + (usedL d.more n).length = 96 := by
  have hxy : w64 (y + 1) ≠ w64 (x + 1) := fun e => hne (w64_inj hx hy e.symm)
  have hx0 := w64_ne hx
  have hy0 := w64_ne hy
  have rng : ∀ {z : Int} {c : Crd} {m : List Int} {s : List UInt8}, FileI now z c m s → ∀ k ∈ usedL c.more m, 0 ≤ k ∧ k < 96 := by
    intro z c m s F k hk
    obtain ⟨h1, h2⟩ := usedL_mem.1 hk
    have hb := F.wk.rng k (by rcases h1 with rfl | h1; exact List.mem_cons_self; exact List.mem_cons_of_mem _ h1)
    unfold blkOk at hb
    omega
  rw [← count_filter_range (fun k => decide (now (200 + (k : Int)) = w64 (x + 1))) (usedL c.more m) F.wk.nod (fun k hk => by rw [decide_eq_true_iff, F.wk.own (k : Int) (by omega) (by omega)]) (rng F),
    ← count_filter_range (fun k => decide (now (200 + (k : Int)) = w64 (y + 1))) (usedL d.more n) G.wk.nod (fun k hk => by rw [decide_eq_true_iff, G.wk.own (k : Int) (by omega) (by omega)]) (rng G)]
  unfold freeN
  have := filter_three (fun (i : Nat) => freshB now ⟨now, [], [], [], []⟩ (i : Int)) (fun k => decide (now (200 + (k : Int)) = w64 (x + 1))) (fun k => decide (now (200 + (k : Int)) = w64 (y + 1))) (List.range 96) (fun k hk => by
    have hk' : k < 96 := by simpa using hk
    have hf : freshB now ⟨now, [], [], [], []⟩ (k : Int) = decide (now (200 + (k : Int)) = 0) := by
      unfold freshB
      rw [decide_eq_true (by omega : 0 ≤ (k : Int)), decide_eq_true (by omega : (k : Int) < 96)]
      simp
    rw [hf]
    rcases h (k : Int) (by omega) (by omega) with e | e | e
    · left; rw [e]; exact ⟨rfl, decide_eq_false fun z => hx0 z.symm, decide_eq_false fun z => hy0 z.symm⟩
    · right; left; rw [e]; exact ⟨decide_eq_false hx0, decide_eq_true rfl, decide_eq_false fun z => hxy z.symm⟩
    · right; right; rw [e]; exact ⟨decide_eq_false hy0, decide_eq_false hxy, decide_eq_true rfl⟩)
  simpa using this
end Go.Proofs.YtkdmlieckkdmgaaGreatDoor
/-
  Layer 4's plain law: paths and their names.
-/
set_option linter.all false
set_option maxRecDepth 100000
set_option maxHeartbeats 1000000
namespace Go.Proofs.YtkdmlieckkdmgaaGreatDoor
open Go Go.Eng

/-- a text, cut at each stroke -/
def cutS : List UInt8 → List (List UInt8)
  | [] => [[]]
  | c :: l => if c = 47 then [] :: cutS l else (match cutS l with
    | [] => [[c]]
    | x :: r => (c :: x) :: r)
def joinS (l : List (List UInt8)) : List UInt8 := l.flatMap fun x => 47 :: x

theorem cutS_ne (s : List UInt8) : cutS s ≠ [] := by
  cases s with
  | nil => simp [cutS]
  | cons c l =>
    unfold cutS
    split
    · simp
    · split <;> simp
theorem joinS_cut : ∀ s : List UInt8, joinS (cutS s) = 47 :: s
  | [] => rfl
  | c :: l => by
    have ih := joinS_cut l
    unfold cutS
    by_cases h : c = 47
    · rw [if_pos h]
      show 47 :: [] ++ joinS (cutS l) = _
      rw [ih, h]; rfl
    · rw [if_neg h]
      cases hc : cutS l with
      | nil => exact absurd hc (cutS_ne l)
      | cons x r =>
        rw [hc] at ih
        simp only
        have e : joinS (x :: r) = 47 :: (x ++ joinS r) := by simp [joinS]
        rw [e] at ih
        have e2 : joinS ((c :: x) :: r) = 47 :: c :: (x ++ joinS r) := by simp [joinS]
        rw [e2]
        have := (List.cons.inj ih).2
        rw [this]

theorem cutS_plain : ∀ {x : List UInt8}, 47 ∉ x → cutS x = [x]
  | [], _ => rfl
  | c :: x, h => by
    have h1 : c ≠ 47 := fun e => h (by simp [e])
    have ih := cutS_plain (x := x) (fun e => h (by simp [e]))
    unfold cutS
    rw [if_neg h1, ih]
theorem cutS_app : ∀ {x : List UInt8} {s : List UInt8}, 47 ∉ x → cutS (x ++ 47 :: s) = x :: cutS s
  | [], s, _ => by
    show cutS (47 :: s) = _
    conv => lhs; unfold cutS
    rw [if_pos rfl]
  | c :: x, s, h => by
    have h1 : c ≠ 47 := fun e => h (by simp [e])
    have ih := cutS_app (x := x) (s := s) (fun e => h (by simp [e]))
    show cutS (c :: (x ++ 47 :: s)) = _
    conv => lhs; unfold cutS
    rw [if_neg h1, ih]
theorem cut_join : ∀ {l : List (List UInt8)} {x : List UInt8}, (∀ y ∈ x :: l, 47 ∉ y) → cutS (x ++ joinS l) = x :: l
  | [], x, h => by
    show cutS (x ++ []) = _
    rw [List.append_nil, cutS_plain (h x (by simp))]
  | y :: l, x, h => by
    have e : joinS (y :: l) = 47 :: (y ++ joinS l) := by simp [joinS]
    rw [e, cutS_app (h x (by simp)), cut_join fun z hz => h z (by simp only [List.mem_cons] at hz ⊢; exact .inr hz)]

theorem nameB_sign {x : List UInt8} (h : nameB x = true) : 47 ∉ x := by
  intro hm
  unfold nameB at h
  simp only [Bool.and_eq_true] at h
  have := List.all_eq_true.1 h.1 47 hm
  revert this
  decide

/-- the names of a path -/
def pathP (s : List UInt8) : Option (List (List UInt8)) :=
  match s with
  | [] => none
  | c :: r => if c ≠ 47 ∨ 120 < s.length then none else if r = [] then some [] else if (cutS r).all nameB = true then some (cutS r) else none

theorem pathP_join {l : List (List UInt8)} (h : l.all nameB = true) (hl : (joinS l).length ≤ 120) : pathP (if l = [] then [47] else joinS l) = some l := by
  cases l with
  | nil => simp [pathP]
  | cons x r =>
    rw [if_neg (by simp)]
    have e : joinS (x :: r) = 47 :: (x ++ joinS r) := by simp [joinS]
    have hn : ∀ y ∈ x :: r, 47 ∉ y := fun y hy => nameB_sign (List.all_eq_true.1 h y hy)
    have hx : x ≠ [] := by
      intro e0
      have := List.all_eq_true.1 h x (by simp)
      rw [e0] at this
      revert this; decide
    rw [e] at hl ⊢
    unfold pathP
    simp only
    rw [if_neg (by simp only [ne_eq, not_true_eq_false, false_or]; omega), if_neg (by simp [hx]), cut_join hn, if_pos h]
theorem joinS_len : ∀ {l : List (List UInt8)}, (∀ x ∈ l, x ≠ []) → 2 * l.length ≤ (joinS l).length
  | [], _ => by simp [joinS]
  | x :: l, h => by
    have ih := joinS_len (l := l) fun y hy => h y (by simp [hy])
    have hx : 0 < x.length := List.length_pos_iff.2 (h x (by simp))
    have e : (joinS (x :: l)).length = x.length + 1 + (joinS l).length := by simp [joinS]; omega
    rw [e, List.length_cons]; omega
theorem nameB_ne {x : List UInt8} (h : nameB x = true) : x ≠ [] := by
  rintro rfl
  revert h; decide
theorem pathP_len {s : List UInt8} {l : List (List UInt8)} (h : pathP s = some l) : l.length ≤ 60 ∧ l.all nameB = true ∧ s.length ≤ 120 ∧ (if l = [] then [47] else joinS l) = s := by
  unfold pathP at h
  split at h
  · cases h
  · rename_i c r
    split at h
    · cases h
    · rename_i h1
      split at h
      · rename_i h2
        cases h
        subst h2
        have h3 : c = 47 := by simpa using fun e => h1 (.inl e)
        exact ⟨by simp, rfl, by omega, by simp [h3]⟩
      · rename_i h2
        split at h
        · rename_i h3
          cases h
          have hc : c = 47 := by
            apply Classical.byContradiction
            intro e; exact h1 (.inl e)
          have hj := joinS_cut r
          have hn := joinS_len (l := cutS r) fun x hx => nameB_ne (List.all_eq_true.1 h3 x hx)
          rw [hj] at hn
          have hl : (c :: r).length ≤ 120 := by omega
          simp only [List.length_cons] at hn hl
          refine ⟨by omega, h3, by simpa using hl, ?_⟩
          rw [if_neg (cutS_ne r), hj, hc]
        · cases h

end Go.Proofs.YtkdmlieckkdmgaaGreatDoor
