/-
  Layer 10's law: what a step leaves is made in the memory, or undone.
-/
import Derived.Test.YtlloemmpnhoanaaGreatFileE
import Derived.Test.YtlloemmpnhoanaaGreatChgA
set_option linter.all false
set_option maxRecDepth 100000
set_option maxHeartbeats 1000000
namespace Go.Proofs.YtlloemmpnhoanaaGreat
open Go Go.Eng

theorem store_calm {M : MemS} (hu : M.until_ = -1) {i : Int} (hi : M.there i = true) (w : UInt64) : (M.store i w).2 = { M with calls := IntKind.i64.wrap (M.calls + 1), loose := putW M.loose i w } := by
  unfold MemS.store MemS.call
  rw [hi, hu]
  rfl

/-- words are stored one by one -/
def storeL (M : MemS) (l : List (Int × UInt64)) : MemS := l.foldl (fun M p => (M.store p.1 p.2).2) M

theorem storeL_calm (now : Int → UInt64) : ∀ (l : List (Int × UInt64)) (M : MemS), M.until_ = -1 → M.sure.length = 2824 → (∀ p ∈ l, (0 ≤ p.1 ∧ p.1 < 2824) ∧ p.2 = now p.1) →
    (storeL M l).until_ = -1 ∧ (storeL M l).sure.length = 2824 ∧ ∀ a, (storeL M l).read a = if a ∈ l.map (·.1) then now a else M.read a
  | [], M, hu, hs, _ => ⟨hu, hs, fun a => by simp [storeL]⟩
  | p :: l, M, hu, hs, h => by
    obtain ⟨hp, hw⟩ := h p List.mem_cons_self
    have ht : M.there p.1 = true := by unfold MemS.there; rw [hs]; simp; omega
    have e := store_calm hu ht p.2
    obtain ⟨i1, i2, i3⟩ := storeL_calm now l (M.store p.1 p.2).2 (by rw [e]; exact hu) (by rw [e]; exact hs) (fun q hq => h q (List.mem_cons_of_mem _ hq))
    refine ⟨i1, i2, fun a => ?_⟩
    show (storeL (M.store p.1 p.2).2 l).read a = _
    rw [i3 a]
    have hr : (M.store p.1 p.2).2.read a = if a = p.1 then p.2 else M.read a := by
      rw [e]
      have hth : ∀ x, MemS.there { M with calls := IntKind.i64.wrap (M.calls + 1), loose := putW M.loose p.1 p.2 } x = M.there x := fun _ => rfl
      unfold MemS.read
      rw [hth]
      simp only [lk_put]
      by_cases ha : a = p.1
      · subst ha; simp [ht]
      · simp [ha]
    by_cases h1 : a ∈ l.map (·.1)
    · rw [if_pos h1, if_pos (by simp only [List.map_cons, List.mem_cons]; exact .inr h1)]
    · rw [if_neg h1, hr]
      by_cases h2 : a = p.1
      · rw [if_pos h2, if_pos (by simp only [List.map_cons, List.mem_cons]; exact .inl h2), h2, hw]
      · rw [if_neg h2, if_neg (by simp only [List.map_cons, List.mem_cons]; rintro (x | x); exact h2 x; exact h1 x)]

theorem chgL_mem {now old : Int → UInt64} {p : Int × UInt64} (h : p ∈ chgL now old) : (0 ≤ p.1 ∧ p.1 < 2824) ∧ p.2 = now p.1 := by
  unfold chgL at h
  simp only [List.mem_map, List.mem_filter, List.mem_range] at h
  obtain ⟨i, ⟨h1, _⟩, rfl⟩ := h
  exact ⟨⟨by simp, by simp; omega⟩, rfl⟩
theorem chgL_keys {now old : Int → UInt64} {a : Int} : a ∈ (chgL now old).map (·.1) ↔ (0 ≤ a ∧ a < 2824) ∧ now a ≠ old a := by
  unfold chgL
  simp only [List.map_map, List.mem_map, List.mem_filter, List.mem_range, decide_eq_true_eq, Function.comp]
  constructor
  · rintro ⟨i, ⟨h1, h2⟩, rfl⟩; exact ⟨⟨by omega, by omega⟩, h2⟩
  · rintro ⟨⟨h0, h1⟩, h2⟩
    refine ⟨a.toNat, ⟨by omega, ?_⟩, by omega⟩
    rwa [show ((a.toNat : Nat) : Int) = a by omega]

/-- what a view changes, made in the memory -/
theorem storeL_now {h : Heap} {V : VL} {M : MemS} {X : VS} (A : At h V M X) (hu : M.until_ = -1) (hs : M.sure.length = 2824) :
    (storeL M (chgL X.now M.read)).until_ = -1 ∧ (storeL M (chgL X.now M.read)).sure.length = 2824 ∧ (storeL M (chgL X.now M.read)).read = X.now := by
  obtain ⟨i1, i2, i3⟩ := storeL_calm X.now (chgL X.now M.read) M hu hs fun p hp => chgL_mem hp
  refine ⟨i1, i2, funext fun a => ?_⟩
  rw [i3 a]
  by_cases h1 : a ∈ (chgL X.now M.read).map (·.1)
  · rw [if_pos h1]
  · rw [if_neg h1]
    obtain ⟨own, _, hx, ho⟩ := A.own
    cases hl : lk own a with
    | none => rw [hx a, hl]; rfl
    | some w =>
      have hr := openW_lt (ho a (by rw [hl]; simp))
      rw [chgL_keys] at h1
      exact (Classical.byContradiction fun h => h1 ⟨hr, fun e => h e.symm⟩)

theorem At.store {h h' : Heap} {V : VL} {M M' : MemS} {X : VS} (A : At h V M X) (hab : V.ab = none) (hanb : V.anb = none) (k : Keeps [V.mem.m, V.mem.lb] h h') (R : MemAt h' V.mem M') : ∃ now, At h' V M' { X with now := now } := by
  obtain ⟨own, O, hx, ho⟩ := A.own
  have nb : ∀ b ∈ [V.v, V.ob, V.sb, V.mb], b ∉ [V.mem.m, V.mem.lb] := by
    intro b hb hm
    refine A.ap2 b hb ?_
    simp only [ML.blocks]
    simp at hm ⊢
    rcases hm with h | h <;> simp [h]
  exact ⟨fun a => (lk own a).getD (M'.read a), {
    mem := R
    obj := k.obj A.obj (nb V.v (by simp))
    own := ⟨own, O.keep k (nb V.ob (by simp)), fun a => rfl, ho⟩
    seen := A.seen.keep k (nb V.sb (by simp))
    mine := A.mine.keep k (nb V.mb (by simp))
    away := A.away.keep k (by rw [hab]; simp)
    awayN := A.awayN.keep k (by rw [hanb]; simp)
    ap1 := A.ap1
    ap2 := A.ap2
    ap3 := A.ap3 }⟩

theorem reps_chg (h : Heap) : ∀ l : List (Int × UInt64), (∀ p ∈ l, inI64 p.1) → Reps h (chgC l) (l.map fun p => (⟨p.1, p.2⟩ : Chg))
  | [], _ => rfl
  | p :: l, hl => ⟨[.int .i64 p.1, wv p.2], chgC l, rfl, ⟨rfl, hl p List.mem_cons_self⟩, reps_chg h l fun q hq => hl q (List.mem_cons_of_mem _ hq)⟩

theorem storeL_take (M : MemS) (l : List (Int × UInt64)) (i : Nat) (hi : i < l.length) : storeL M (l.take (i + 1)) = ((storeL M (l.take i)).store l[i].1 l[i].2).2 := by
  unfold storeL
  rw [List.take_succ_eq_append_getElem hi, List.foldl_append]
  rfl

/-- a file of the law's -/
def fileC (V : VL) (node : Int) (c : Crd) (s : ByteArray) : List Value := [.pointer (some ⟨V.v, 0, none⟩), .pointer (some ⟨V.mem.m, 0, none⟩), .int .i64 node] ++ c.cells ++ [.string s]

theorem fend_spec {h : Heap} {V : VL} {M : MemS} {X : VS} (A : At h V M X) (hab : V.ab = none) (hanb : V.anb = none) (hu : M.until_ = -1) (hs : M.sure.length = 2824) {f : Nat} {node : Int} {c0 : Crd} {s0 : ByteArray}
    (hf : h[f]? = some (.cells ⟨fileC V node c0 s0⟩ 41 (0, 0))) (hd : f ∉ V.blocks) (c1 : Crd) (s1 : ByteArray) (e g : Int) :
    CallH Tryz.prog 21 [.pointer (some ⟨f, 0, none⟩), .agg ⟨c1.cells⟩, .string s1, .int .i64 e, .int .i64 g] h (fun v h' => Keeps [f, V.v, V.mem.m, V.mem.lb] h h' ∧ v = .bool (decide (e = g) || (decide (e = 9) && decide (g = 0))) ∧
      ∃ ob sb mb M', h.size ≤ ob ∧ h.size ≤ sb ∧ h.size ≤ mb ∧ M'.until_ = -1 ∧ M'.sure.length = 2824 ∧ M'.read = (if e = 0 ∧ g = 0 then X.now else M.read) ∧ At h' { V with ob := ob, sb := sb, mb := mb } M' { X with now := M'.read, seen := [], mine := [] } ∧
        h'[f]? = some (.cells ⟨fileC V node (if e = 0 ∧ g = 0 then c1 else c0) (if e = 0 ∧ g = 0 then s1 else s0)⟩ 41 (0, 0))) := by
  have hfl := obj_lt hf
  have hfv : ∀ b ∈ V.blocks, b ≠ f := fun b hb e => hd (e ▸ hb)
  refine call_of hmix Tryz.func21 rfl ok21 (by simp [Tryz.f21]) ?_
  conv => whnf
  refine AllocR.i fun b1 h1 e1 s1' o1 k1 => ?_
  have A1 := A.on k1
  have hf1 := k1.obj hf (by simp)
  conv => whnf
  first | refine IfR.i (fun hc => ?_) (fun hc => ?_) | (refine MeetR.pass ?_; (conv => whnf); refine IfR.i (fun hc => ?_) (fun hc => ?_))
  · have hok : e = 0 ∧ g = 0 := by simp [bif_and] at hc; omega
    conv => whnf
    refine LoadR.o hf1 rfl ?_
    conv => whnf
    refine CallR.i (changes_spec sort_spec A1) fun v h2 k2 hv => ?_
    obtain ⟨a, ca, rfl, n2, O2⟩ := hv
    have A2 := A1.on k2
    have z1 := k1.size
    have z2 := k2.size
    have hin : ∀ p ∈ chgL X.now M.read, inI64 p.1 := fun p hp => by have := (chgL_mem hp).1; unfold inI64; omega
    have hcl : (chgL X.now M.read).length ≤ 2824 := by
      unfold chgL
      rw [List.length_map]
      exact Nat.le_trans (List.length_filter_le _ _) (by simp)
    have S2 : Sl h2 a (chgL X.now M.read).length ca ((chgL X.now M.read).map fun p => (⟨p.1, p.2⟩ : Chg)) := O2.sl (reps_chg h2 _ hin) rfl (by decide) (by rw [List.length_map]; omega)
    obtain ⟨N1, N2, N3⟩ := storeL_now A hu hs
    generalize hL : chgL X.now M.read = L at *
    conv => whnf
    refine LoopR.on [0, 2, 3, 4, 6, 11, 12] [6] (fun i : Nat => [(0, .v (.pointer (some ⟨f, 0, none⟩))), (2, .v (.string s1)), (3, .v (.int .i64 e)), (4, .v (.int .i64 g)), (6, .lp 6 0), (11, .v (.slice a L.length ca)), (12, .v (.int .i64 (i : Int)))]) (fun _ => [(6, b1, c1.cells)])
      (fun i h' => i ≤ L.length ∧ Keeps [V.mem.m, V.mem.lb] h2 h' ∧ ∃ now, At h' V (storeL M (L.take i)) { X with now := now }) (fun i => L.length - i) 0 ?_ ?_
    · conv => whnf
      exact ⟨0, rfl, rfl, rfl, Nat.zero_le _, Keeps.refl _ _, X.now, A2⟩
    · rintro i h3 ⟨hi, k3, nw, A3⟩
      have hml : V.mem.m < h.size ∧ V.mem.lb < h.size := ⟨A.blt _ (by simp [VL.blocks, ML.blocks]), A.blt _ (by simp [VL.blocks, ML.blocks])⟩
      have hf3 := k3.obj (k2.obj hf1 (by simp)) (by simp; exact ⟨fun e => hfv _ (by simp [VL.blocks, ML.blocks]) e.symm, fun e => hfv _ (by simp [VL.blocks, ML.blocks]) e.symm⟩)
      conv => whnf
      refine IfR.i (fun hd => ?_) (fun hd => ?_)
      · have hi1 : i < L.length := by simp at hd; omega
        have S3 := S2.keepM k3 (fun b hb hx => by have := n2 b hb; simp at hx; omega)
        obtain ⟨b4, o4, hb4, cs, ⟨rfl, _⟩, hc4⟩ := S3.at_ i (by simpa using hi1)
        simp only [List.getElem_map] at hc4
        conv => whnf
        refine LoadR.o hf3 rfl ?_
        conv => whnf
        refine IdxS.i i rfl (by omega) hb4 ?_
        conv => whnf
        refine LoadR.i (hc4 0 (by simp)) ?_
        conv => whnf
        refine IdxS.i i rfl (by omega) hb4 ?_
        conv => whnf
        refine LoadR.i (hc4 1 (by simp)) ?_
        conv => whnf
        refine CallR.m (store_spec A3.mem L[i].1 L[i].2) ?_ fun v h4 k4 hv => ?_
        · intro y hy hx
          have hy2 : y ∈ [b1] := hy
          simp at hy2 hx; omega
        obtain ⟨rfl, R4⟩ := hv
        conv => whnf
        refine ⟨L.length - (i + 1), by omega, ?_⟩
        conv => whnf
        obtain ⟨nw', A4⟩ := A3.store hab hanb k4 R4
        refine ⟨i + 1, rfl, by rw [wrapN (n := i + 1) (by simp) (by omega)], rfl, by omega, k3.trans k4, nw', ?_⟩
        rw [storeL_take M L i hi1]; exact A4
      · have hi1 : i = L.length := by simp at hd; omega
        subst hi1
        rw [List.take_length] at A3
        have hz3 := k3.size
        have nbf : ∀ b ∈ V.blocks, b ∉ [f] := fun b hb => by simpa using hfv b hb
        conv => whnf
        refine StoreR.i hf3 (Nat.le_of_ble_eq_true rfl) (by simp [blocksOf, setB]; omega) fun h4 s4 o4 k4 => ?_
        conv => whnf
        refine StoreR.i o4 (Nat.le_of_ble_eq_true rfl) (by simp [blocksOf, setB]; omega) fun h5 s5 o5 k5 => ?_
        have o5' : h5[f]? = some (.cells ⟨fileC V node c1 s1⟩ 41 (0, 0)) := o5
        have A5 := (A3.keep k4 nbf).keep k5 nbf
        conv => whnf
        refine LoadR.o o5' rfl ?_
        conv => whnf
        refine CallR.m (reset_spec A5) (by intro y hy hx; have hy2 : y ∈ [b1] := hy; have := A.blt V.v (by simp [VL.blocks]); simp at hy2 hx; omega) fun v h6 k6 hv => ?_
        obtain ⟨ob, sb, mb, g1, g2, g3, A6⟩ := hv
        conv => whnf
        have kk : Keeps [f, V.v, V.mem.m, V.mem.lb] h h6 := ((k1.trans k2).mono (by simp)).trans ((k3.mono (by simp)).trans ((k4.mono (by simp)).trans ((k5.mono (by simp)).trans (k6.mono (by simp)))))
        refine ⟨kk, ?_, ob, sb, mb, storeL M L, by omega, by omega, by omega, N1, N2, by rw [if_pos hok, N3], A6, ?_⟩
        · rw [hok.1, hok.2]; rfl
        · rw [if_pos hok, if_pos hok]
          exact k6.obj o5' (by simp; exact fun e => hfv V.v (by simp [VL.blocks]) e.symm)
  · have hno : ¬ (e = 0 ∧ g = 0) := by simp [bif_and] at hc; omega
    conv => whnf
    refine LoadR.o hf1 rfl ?_
    conv => whnf
    refine CallR.m (reset_spec A1) (by intro y hy hx; have hy2 : y ∈ [b1] := hy; have := A.blt V.v (by simp [VL.blocks]); simp at hy2 hx; omega) fun v h6 k6 hv => ?_
    obtain ⟨ob, sb, mb, g1, g2, g3, A6⟩ := hv
    conv => whnf
    refine ⟨(k1.mono (by simp)).trans (k6.mono (by simp)), ?_, ob, sb, mb, M, by omega, by omega, by omega, hu, hs, by rw [if_neg hno], A6, ?_⟩
    · congr 1
      rw [Bool.eq_iff_iff]
      simp [bif_and, bif_or]
    · rw [if_neg hno, if_neg hno]
      exact k6.obj hf1 (by simp; exact fun e => hfv V.v (by simp [VL.blocks]) e.symm)
end Go.Proofs.YtlloemmpnhoanaaGreat
