/-
  Plain laws: a file, kept and written.
-/
import Derived.Test.YtlloemmpnhoanaaGreatFileD
set_option linter.all false
set_option maxRecDepth 100000
namespace Go.Proofs.YtlloemmpnhoanaaGreat
open Go Go.Eng

theorem Wk.putMore {now : Int → UInt64} {node more : Int} {m : List Int} (W : Wk now node more m) {ws : List UInt64} (hw : ws.length ≤ 16) (hm : more ≠ -1) :
    Wk (putBlk now more ws) node more m ∧ Fr node now (putBlk now more ws) ∧ ∀ p, p < 2688 → fb (putBlk now more ws) m p = fb now m p := by
  have hk : 0 ≤ more ∧ more < 96 := by
    rcases W.rng more List.mem_cons_self with h | h
    · exact absurd h hm
    · exact h
  have ho : ∀ k, 0 ≤ k → k < 96 → putBlk now more ws (200 + k) = now (200 + k) := fun k _ h => put_owner hw hk.1 h
  have hown : now (200 + more) = w64 (node + 1) := (W.own more hk.1 hk.2).1 (usedL_mem.2 ⟨.inl rfl, hm⟩)
  refine ⟨⟨W.len, W.rng, W.nod, fun k h0 h1 => by rw [ho k h0 h1]; exact W.own k h0 h1⟩, ⟨fun k h0 h1 hf => ⟨.inl (ho k h0 h1), fun _ => ?_⟩, fun k h0 h1 hf => .inl (by rw [ho k h0 h1]; exact hf)⟩, W.fb_keep fun x hx x0 x1 => ?_⟩
  · refine put_rd_ne hw ?_
    rintro rfl
    exact hf hown
  · exact put_rd_ne hw (fun e => W.ne_more hx (by omega) e.symm)

theorem Wk.drops {now : Int → UInt64} {node more : Int} {m : List Int} (W : Wk now node more m) : m.any oddB = false := by
  rw [List.any_eq_false]
  intro x hx
  have := W.rng x (List.mem_cons_of_mem _ hx)
  unfold blkOk at this
  simp [oddB]; omega

theorem setD_dir (c : Crd) {m : List Int} (hl : m.length = 21) (t : Int) : ({ setD c m with more := t } : Crd).direct ++ m.drop 5 = m := by
  obtain ⟨a, b, c', d, e, r, rfl, _⟩ := take5 hl
  rfl

/-- what a card with a map comes to -/
structure Kep (node : Int) (X : VS) (c : Crd) (m : List Int) (r : Crd × Int × VS) : Prop where
  e : r.2.1 = 0
  c_ : r.1 = { setD c m with more := r.1.more }
  mor : r.1.more = -1 ↔ (m.drop 5).any usedB = false
  map : mapOf r.2.2.now r.1 = some m
  wk : Wk r.2.2.now node r.1.more m
  fr : Fr node X.now r.2.2.now
  by_ : ∀ p, p < 2688 → fb r.2.2.now m p = fb X.now m p
  x : r.2.2 = { X with now := r.2.2.now }

theorem keepP_plain {B : Int → UInt64} {node : Int} (hn : 0 ≤ node ∧ node < 24) {X : VS} {c : Crd} {m : List Int} (W : Wk X.now node c.more m) :
    ((keepP B X node c m).2.1 = 9 ∧ ¬ Alone B node X ∧ c.more = -1 ∧ (m.drop 5).any usedB = true) ∨ Kep node X c m (keepP B X node c m) := by
  have hl := W.len
  unfold keepP
  rw [if_pos ⟨hn, hl, W.drops⟩]
  by_cases hd : (m.drop 5).any usedB = false
  · rw [if_pos hd]
    have hmap : ∀ now, mapOf now { setD c m with more := -1 } = some m := by
      intro now
      unfold mapOf
      rw [if_pos rfl]
      have : m.drop 5 = List.replicate 16 (-1) := by
        rw [List.eq_replicate_iff]
        refine ⟨by simp [hl], fun x hx => ?_⟩
        have := List.any_eq_false.1 hd x hx
        simp [usedB] at this; exact this
      rw [← this]
      exact congrArg some (setD_dir c hl _)
    right
    by_cases hc : c.more = -1
    · rw [if_pos hc]
      rw [hc] at W
      exact ⟨rfl, rfl, ⟨fun _ => hd, fun _ => rfl⟩, hmap _, W, Fr.refl _ _, fun _ _ => rfl, rfl⟩
    · rw [if_neg hc]
      obtain ⟨hk, ho, W1, F1, B1⟩ := W.drop_more hn hc
      have hdr : dropP X c.more = (0, { X with now := upd X.now (200 + c.more) 0 }) := by
        unfold dropP
        rw [if_pos hk, if_neg (by rw [ho]; exact w64_ne hn)]
      rw [hdr]
      simp only [if_true]
      exact ⟨rfl, rfl, ⟨fun _ => hd, fun _ => rfl⟩, hmap _, W1, F1, B1, rfl⟩
  · rw [if_neg hd]
    have hw16 : ((m.drop 5).map fun n => w64 (n + 1)).length = 16 := by simp [hl]
    have hm5 : ∀ x ∈ m.drop 5, -1 ≤ x ∧ x < 96 := by
      intro x hx
      have := W.rng x (List.mem_cons_of_mem _ (List.mem_of_mem_drop hx))
      unfold blkOk at this; omega
    have hmap : ∀ now k, 0 ≤ k → k < 96 → mapOf (putBlk now k ((m.drop 5).map fun n => w64 (n + 1))) { setD c m with more := k } = some m := by
      intro now k k0 k1
      unfold mapOf
      show (if k = -1 then _ else if 0 ≤ k ∧ k < 96 ∧ (moreL (putBlk _ k _) k).all _ = true ∧ ((moreL (putBlk _ k _) k).map convW).any usedB = true then some (_ ++ (moreL (putBlk _ k _) k).map convW) else none) = some m
      rw [if_neg (by omega), more_put _ _ hw16, conv_back hm5, if_pos]
      · exact congrArg some (setD_dir c hl _)
      · refine ⟨k0, k1, ?_, by simpa using hd⟩
        rw [List.all_map, List.all_eq_true]
        intro x hx
        simp only [Function.comp]
        exact decide_eq_true (w64_small (hm5 x hx)).2
    by_cases hc : c.more = -1
    · rw [if_pos hc]
      rw [hc] at W
      rcases take_facts (B := B) (X := X) hn with ⟨e0, k0, k1, kn, kx⟩ | ⟨e9, kx, kf⟩
      · right
        have hk : 0 ≤ (takeP B X node).1 ∧ (takeP B X node).1 < 96 := ⟨k0, k1⟩
        obtain ⟨W1, F1, B1⟩ := W.take_more hn hk kn
        obtain ⟨W2, F2, B2⟩ := W1.putMore (ws := (m.drop 5).map fun n => w64 (n + 1)) (by omega) (by omega)
        simp only [e0, if_true, if_pos hk, kx]
        refine ⟨rfl, rfl, ⟨fun h => ?_, fun h => absurd h hd⟩, hmap _ _ k0 k1, W2, F1.trans F2 (w64_ne hn), fun p hp => (B2 p hp).trans (B1 p hp), rfl⟩
        have h' : (takeP B X node).1 = -1 := h
        omega
      · left
        simp only [e9]
        exact ⟨by simp, fun A => take_alone hn W A kf, hc, by simpa using hd⟩
    · rw [if_neg hc]
      right
      have hk : 0 ≤ c.more ∧ c.more < 96 := by
        rcases W.rng c.more List.mem_cons_self with h | h
        · exact absurd h hc
        · exact h
      obtain ⟨W2, F2, B2⟩ := W.putMore (ws := (m.drop 5).map fun n => w64 (n + 1)) (by omega) hc
      simp only [if_true, if_pos hk]
      exact ⟨rfl, rfl, ⟨fun h => absurd h hc, fun h => absurd h hd⟩, hmap _ _ hk.1 hk.2, W2, F2, B2, rfl⟩

/-- a file: its card over words has a map, and its bytes are these -/
structure FileI (now : Int → UInt64) (node : Int) (c : Crd) (m : List Int) (s : List UInt8) : Prop where
  map : mapOf now c = some m
  wk : Wk now node c.more m
  kind : c.kind = 1 ∧ c.links = 1
  size : c.size = (s.length : Int)
  fits : s.length ≤ 2688
  by_ : ∀ p, p < 2688 → fb now m p = s[p]?.getD 0
  hol : ∀ j, j < 21 → s.length ≤ 128 * j → m[j]?.getD (-1) = -1
  mor : c.more = -1 ↔ (m.drop 5).any usedB = false

theorem mapOf_direct {now : Int → UInt64} {c : Crd} {m : List Int} (h : mapOf now c = some m) : ∀ x ∈ c.direct, x ∈ m := by
  intro x hx
  unfold mapOf at h
  split at h
  · have := Option.some.inj h; subst this; exact List.mem_append_left _ hx
  · split at h
    · have := Option.some.inj h; subst this; exact List.mem_append_left _ hx
    · cases h

theorem FileI.right {now : Int → UInt64} {node : Int} {c : Crd} {m : List Int} {s : List UInt8} (F : FileI now node c m s) : rightC c = true := by
  have hb : ∀ x, blkOk x → blockC x = true := by
    intro x hx; unfold blkOk at hx; simp [blockC]; omega
  have hd : c.direct.all blockC = true := List.all_eq_true.2 fun x hx => hb x (F.wk.rng x (List.mem_cons_of_mem _ (mapOf_direct F.map x hx)))
  have hs := F.size
  have hf := F.fits
  unfold rightC
  rw [if_neg (by rw [F.kind.1]; decide), hd, hb c.more (F.wk.rng _ List.mem_cons_self), F.kind.1, F.kind.2]
  simp; omega
theorem FileI.ok {now : Int → UInt64} {node : Int} {c : Crd} {m : List Int} {s : List UInt8} (F : FileI now node c m s) : c.ok := by
  have hs := F.size
  have hf := F.fits
  refine ⟨by rw [F.kind.1]; exact ⟨by decide, by decide⟩, by rw [F.kind.2]; exact ⟨by decide, by decide⟩, by unfold inI64; omega, fun x hx => ?_, ?_⟩
  · have := F.wk.rng x (List.mem_cons_of_mem _ (mapOf_direct F.map x hx))
    unfold blkOk at this; unfold inI64; omega
  · have := F.wk.rng _ List.mem_cons_self
    unfold blkOk at this; unfold inI64; omega
theorem FileI.okMap {now : Int → UInt64} {node : Int} {c : Crd} {m : List Int} {s : List UInt8} (F : FileI now node c m s) : okMap now c := by
  intro m' hm x hx
  rw [F.map] at hm
  have := Option.some.inj hm
  subst this
  exact F.wk.rng x (List.mem_cons_of_mem _ hx)

/-- the document's answer: bytes are written -/
def refWriteL (s : List UInt8) (at_ : Int) (data : List UInt8) : List UInt8 × Int :=
  if at_ < 0 ∨ 400 < data.length then ([], 1)
  else if data = [] then (s, 0)
  else if 2688 - (data.length : Int) < at_ then ([], 10)
  else ((s ++ zeros (at_.toNat + data.length - s.length)).take at_.toNat ++ data ++ (s ++ zeros (at_.toNat + data.length - s.length)).drop (at_.toNat + data.length), 0)

theorem zeros_get (n i : Nat) : (zeros n)[i]?.getD 0 = 0 := by
  unfold zeros
  rw [List.getElem?_replicate]
  split <;> rfl
theorem pad_get (s : List UInt8) (n i : Nat) : (s ++ zeros n)[i]?.getD 0 = s[i]?.getD 0 := by
  by_cases h : i < s.length
  · rw [List.getElem?_append_left h]
  · rw [List.getElem?_append_right (by omega), zeros_get, List.getElem?_eq_none (by omega)]; rfl

theorem refWrite_get (s : List UInt8) (a : Nat) (data : List UInt8) (p : Nat) :
    ((s ++ zeros (a + data.length - s.length)).take a ++ data ++ (s ++ zeros (a + data.length - s.length)).drop (a + data.length))[p]?.getD 0 = if a ≤ p ∧ p < a + data.length then data[p - a]?.getD 0 else s[p]?.getD 0 := by
  have hz : (zeros (a + data.length - s.length)).length = a + data.length - s.length := by simp [zeros]
  have hL : (s ++ zeros (a + data.length - s.length)).length ≥ a + data.length := by rw [List.length_append, hz]; omega
  have ht : ((s ++ zeros (a + data.length - s.length)).take a).length = a := by rw [List.length_take]; omega
  by_cases c1 : p < a
  · rw [List.append_assoc, List.getElem?_append_left (by omega), List.getElem?_take, if_pos c1, pad_get, if_neg (by omega)]
  · by_cases c2 : p < a + data.length
    · rw [List.getElem?_append_left (by rw [List.length_append]; omega), List.getElem?_append_right (by omega), ht, if_pos ⟨by omega, c2⟩]
    · rw [List.getElem?_append_right (by rw [List.length_append]; omega), List.length_append, ht, List.getElem?_drop, if_neg (by omega), show a + data.length + (p - (a + data.length)) = p by omega, pad_get]
theorem refWrite_len (s : List UInt8) (a : Nat) (data : List UInt8) :
    ((s ++ zeros (a + data.length - s.length)).take a ++ data ++ (s ++ zeros (a + data.length - s.length)).drop (a + data.length)).length = max s.length (a + data.length) := by
  have hz : (zeros (a + data.length - s.length)).length = a + data.length - s.length := by simp [zeros]
  simp only [List.length_append, List.length_take, List.length_drop, hz]
  omega

/-- what writing comes to -/
structure Wrote (node : Int) (X : VS) (m : List Int) (at_ : Int) (data s' : List UInt8) (r : Crd × Int × VS) (m' : List Int) : Prop where
  file : FileI r.2.2.now node r.1 m' s'
  fr : Fr node X.now r.2.2.now
  x : r.2.2 = { X with now := r.2.2.now }
  holes : ∀ j, j < 21 → (m'[j]?.getD (-1) = -1 ↔ m[j]?.getD (-1) = -1 ∧ ¬ (data ≠ [] ∧ at_.toNat / 128 ≤ j ∧ j < (at_.toNat + data.length + 127) / 128))

theorem writeP_plain {B : Int → UInt64} {node : Int} (hn : 0 ≤ node ∧ node < 24) {X : VS} {c : Crd} {m : List Int} {s : List UInt8} (F : FileI X.now node c m s) (at_ : Int) (data : List UInt8) :
    ((writeP B X node c at_ data).2.1 = 9 ∧ (refWriteL s at_ data).2 = 0 ∧ ¬ Alone B node X) ∨
    ((writeP B X node c at_ data).2.1 = (refWriteL s at_ data).2 ∧ ((refWriteL s at_ data).2 = 0 → ∃ m', Wrote node X m at_ data (refWriteL s at_ data).1 (writeP B X node c at_ data) m')) := by
  unfold writeP refWriteL
  by_cases h1 : at_ < 0 ∨ 400 < data.length
  · rw [if_pos (.inr h1), if_pos h1]
    exact .inr ⟨rfl, fun h => by cases h⟩
  · rw [if_neg (by rintro (x | x); exact x hn; exact h1 x), if_neg h1]
    by_cases h2 : data = []
    · rw [if_pos h2, if_pos h2, F.map]
      refine .inr ⟨rfl, fun _ => ⟨m, F, Fr.refl _ _, rfl, fun j hj => ⟨fun h => ⟨h, fun x => x.1 h2⟩, fun h => h.1⟩⟩⟩
    · rw [if_neg h2, if_neg h2]
      have hdl : 0 < data.length := by
        cases data with
        | nil => exact absurd rfl h2
        | cons x l => simp
      by_cases h3 : 2688 - (data.length : Int) < at_
      · rw [if_pos h3, if_pos h3]
        exact .inr ⟨rfl, fun h => by cases h⟩
      · rw [if_neg h3, if_neg h3, F.map]
        simp only
        obtain ⟨a, rfl⟩ : ∃ a : Nat, at_ = (a : Int) := ⟨at_.toNat, by omega⟩
        have hfit : a + data.length ≤ 2688 := by omega
        simp only [Int.toNat_natCast]
        rcases writeL_plain (B := B) (a := a) (data := data) hn ((a + data.length + 127) / 128 - a / 128) (a / 128) X m F.wk (by omega) (fun _ => by omega) (by omega) with ⟨e, hno⟩ | R
        · left
          rw [e]
          exact ⟨by simp, trivial, hno⟩
        · rw [R.e]
          simp only [if_true]
          have hc : ({ c with size := max c.size ((a : Int) + data.length) } : Crd).more = c.more := rfl
          rcases keepP_plain (B := B) (c := { c with size := max c.size ((a : Int) + data.length) }) hn (hc ▸ R.wk) with ⟨e, hno, _⟩ | K
          · left
            exact ⟨e, trivial, fun A => hno (A.on R.fr (w64_ne hn) (by rw [R.x]))⟩
          · right
            refine ⟨K.e, fun _ => ⟨(writeL B node a data ((a + data.length + 127) / 128 - a / 128) (a / 128) X m).2.2, ?_, R.fr.trans K.fr (w64_ne hn), by rw [K.x, R.x], fun j hj => ?_⟩⟩
            · have hcc := K.c_
              refine ⟨K.map, K.wk, ?_, ?_, ?_, fun p hp => ?_, fun j hj hs => ?_, K.mor⟩
              · rw [hcc]; exact F.kind
              · rw [hcc, refWrite_len]
                have := F.size
                show max c.size ((a : Int) + data.length) = _
                rw [this]; omega
              · rw [refWrite_len]; have := F.fits; omega
              · rw [K.by_ p hp, R.by_ p hp, refWrite_get, F.by_ p hp]
                by_cases hc : a ≤ p ∧ p < a + data.length
                · rw [if_pos hc, if_pos ⟨by omega, by omega, hc⟩]
                · rw [if_neg hc, if_neg (fun h => hc h.2.2)]
              · rw [refWrite_len] at hs
                exact (R.holes j hj).2 ⟨F.hol j hj (by omega), by omega⟩
            · rw [R.holes j hj]
              constructor
              · rintro ⟨x, y⟩; exact ⟨x, fun z => y ⟨z.2.1, by omega⟩⟩
              · rintro ⟨x, y⟩; exact ⟨x, fun z => y ⟨h2, z.1, by omega⟩⟩
end Go.Proofs.YtlloemmpnhoanaaGreat
