/-
  Layer 8: a view's changes.
-/
import Derived.Test.YtlloemmpnhoanaaGreatBodyX
set_option linter.all false
set_option maxRecDepth 100000
set_option maxHeartbeats 1000000
namespace Go.Proofs.YtlloemmpnhoanaaGreat
open Go Go.Eng

/-- changes as cells -/
def chgC (l : List (Int × UInt64)) : List Value := l.flatMap fun p => [.int .i64 p.1, wv p.2]
theorem chgC_len (l : List (Int × UInt64)) : (chgC l).length = l.length * 2 := by
  induction l with
  | nil => rfl
  | cons x l ih => simp only [chgC, List.flatMap_cons, List.length_append, List.length_cons, List.length_nil] at ih ⊢; omega
theorem chgC_app (l m : List (Int × UInt64)) : chgC (l ++ m) = chgC l ++ chgC m := by simp [chgC]

/-- what the library's sort does to changes -/
def SortS : Prop := ∀ (h : Heap) (a : Option Addr) (n c : Nat) (l : List (Int × UInt64)), Own h 89 2 a n c (chgC l) → l.length ≤ 2824 → (∀ p ∈ l, 0 ≤ p.1 ∧ p.1 < 4096) →
  CallH Tryz.prog 69 [.slice a n c, .func (.func 70) #[] #[]] h (fun v h' => Keeps (blkA a) h h' ∧ v = .tuple #[] ∧ ∃ l', l'.Perm l ∧ l'.Pairwise (fun x y => x.1 ≤ y.1) ∧ Own h' 89 2 a n c (chgC l'))

/-- the words that are changed, by their places -/
def chgL (now old : Int → UInt64) : List (Int × UInt64) := ((List.range 2824).filter fun (i : Nat) => decide (now (i : Int) ≠ old (i : Int))).map fun (i : Nat) => ((i : Int), now (i : Int))

theorem openW_lt {a : Int} (h : openW a = true) : 0 ≤ a ∧ a < 2824 := by
  simp [openW] at h; omega

theorem lk_of_mem : ∀ {l : List (Int × UInt64)} {p : Int × UInt64}, (l.map (·.1)).Nodup → p ∈ l → lk l p.1 = some p.2
  | [], p, _, h => nomatch h
  | (k, v) :: l, p, hn, h => by
    simp only [List.map_cons, List.nodup_cons] at hn
    unfold lk
    rcases List.mem_cons.1 h with rfl | h
    · rw [if_pos rfl]
    · rw [if_neg (fun e => hn.1 (by rw [← e]; exact List.mem_map_of_mem h))]
      exact lk_of_mem hn.2 h
theorem mem_of_lk : ∀ {l : List (Int × UInt64)} {k : Int} {w : UInt64}, lk l k = some w → (k, w) ∈ l
  | [], k, w, h => by cases h
  | (k', v) :: l, k, w, h => by
    unfold lk at h
    split at h
    · rename_i e; subst e; cases h; exact List.mem_cons_self
    · exact List.mem_cons_of_mem _ (mem_of_lk h)

theorem nodup_of_map {α β : Type} (f : α → β) : ∀ {l : List α}, (l.map f).Nodup → l.Nodup
  | [], _ => List.nodup_nil
  | x :: l, h => by
    simp only [List.map_cons, List.nodup_cons] at h
    exact List.nodup_cons.2 ⟨fun hx => h.1 (List.mem_map_of_mem hx), nodup_of_map f h.2⟩

/-- keys that are open are few -/
theorem own_len {l : List (Int × UInt64)} (hn : (l.map (·.1)).Nodup) (ho : ∀ p ∈ l, openW p.1 = true) : l.length ≤ 2824 := by
  have h1 : (l.map (·.1)) ⊆ (List.range 2824).map fun (i : Nat) => (i : Int) := by
    intro x hx
    obtain ⟨p, hp, rfl⟩ := List.mem_map.1 hx
    have := openW_lt (ho p hp)
    exact List.mem_map.2 ⟨p.1.toNat, by simp; omega, by omega⟩
  have := hn.length_le_of_subset h1
  simpa using this

theorem chgL_sorted (now old : Int → UInt64) : (chgL now old).Pairwise (fun x y => x.1 < y.1) := by
  unfold chgL
  rw [List.pairwise_map]
  exact (List.pairwise_lt_range.filter _).imp fun h => by simpa using h

/-- what a view's words come to, sorted -/
theorem chgL_of {own l : List (Int × UInt64)} {now old : Int → UInt64} (hn : (own.map (·.1)).Nodup) (ho : ∀ a, lk own a ≠ none → openW a = true) (hx : ∀ a, now a = (lk own a).getD (old a))
    (hp : l.Perm (own.filter fun p => decide (p.2 ≠ old p.1))) (hs : l.Pairwise (fun x y => x.1 ≤ y.1)) : l = chgL now old := by
  have hmem : ∀ p, p ∈ l ↔ p ∈ chgL now old := by
    intro p
    rw [hp.mem_iff, List.mem_filter]
    unfold chgL
    simp only [List.mem_map, List.mem_filter, List.mem_range, decide_eq_true_eq]
    constructor
    · rintro ⟨h1, h2⟩
      have hl := lk_of_mem hn h1
      have hr := openW_lt (ho p.1 (by rw [hl]; simp))
      have hw := hx p.1
      rw [hl] at hw
      have e : ((p.1.toNat : Nat) : Int) = p.1 := by omega
      refine ⟨p.1.toNat, ⟨by omega, ?_⟩, ?_⟩
      · rw [e, hw]; exact h2
      · rw [e, hw]; rfl
    · rintro ⟨i, ⟨_, h1⟩, rfl⟩
      have hw := hx (i : Int)
      cases hl : lk own (i : Int) with
      | none => rw [hl] at hw; exact absurd hw h1
      | some w =>
        rw [hl] at hw
        have hw' : now (i : Int) = w := hw
        rw [hw'] at h1 ⊢
        exact ⟨mem_of_lk hl, h1⟩
  have hnl : l.Nodup := hp.symm.nodup (nodup_of_map (·.1) hn |>.sublist List.filter_sublist)
  have hnc : (chgL now old).Nodup := (chgL_sorted now old).imp fun h e => by rw [e] at h; omega
  refine List.Perm.eq_of_pairwise (le := fun x y => x.1 ≤ y.1) ?_ hs ((chgL_sorted now old).imp fun h => Int.le_of_lt h) ((List.perm_ext_iff_of_nodup hnl hnc).2 hmem)
  intro x y h1 h2 h3 h4
  have e : x.1 = y.1 := by omega
  have k1 : x ∈ own := (List.mem_filter.1 (hp.mem_iff.1 h1)).1
  have k2 : y ∈ own := (List.mem_filter.1 (hp.mem_iff.1 ((hmem y).2 h2))).1
  have l1 := lk_of_mem hn k1
  have l2 := lk_of_mem hn k2
  rw [e, l2] at l1
  exact Prod.ext e (Option.some.inj l1).symm

theorem mapW_split {m : List (Int × UInt64)} {R1 R2 : List (Int × Value)} {p : Int × Value} (h : mapW m = R1 ++ p :: R2) : ∃ m1 q m2, m = m1 ++ q :: m2 ∧ R1 = mapW m1 ∧ R2 = mapW m2 ∧ p = (q.1, wv q.2) := by
  unfold mapW at h
  obtain ⟨m1, m', rfl, h1, h2⟩ := List.map_eq_append_iff.1 h
  obtain ⟨q, m2, rfl, h3, h4⟩ := List.map_eq_cons_iff.1 h2
  exact ⟨m1, q, m2, rfl, h1.symm, h4.symm, h3.symm⟩

theorem changes_spec (hsort : SortS) {h : Heap} {V : VL} {M : MemS} {X : VS} (A : At h V M X) : CallH Tryz.prog 45 [.pointer (some ⟨V.v, 0, none⟩)] h (fun v h' => Keeps [] h h' ∧
    ∃ a c, v = .slice a (chgL X.now M.read).length c ∧ (∀ b ∈ blkA a, h.size ≤ b) ∧ Own h' 89 2 a (chgL X.now M.read).length c (chgC (chgL X.now M.read))) := by
  obtain ⟨own, O, hx, ho⟩ := A.own
  have hn : (own.map (·.1)).Nodup := by
    obtain ⟨es, cl, _, _, g, _⟩ := O
    have : (mapW own).map (·.1) = own.map (·.1) := by simp [mapW]
    rw [this] at g; exact g
  have hop : ∀ p ∈ own, openW p.1 = true := fun p hp => ho p.1 (by rw [lk_of_mem hn hp]; simp)
  have hlen := own_len hn hop
  have holt := A.blt V.ob (by simp [VL.blocks])
  refine call_of hmix Tryz.func45 rfl ok45 (by simp [Tryz.f45]) ?_
  conv => whnf
  refine IfR.f rfl ?_
  conv => whnf
  refine LoadR.o A.obj rfl ?_
  conv => whnf
  refine SemR.range rfl O fun it hR ei si ki IR => ?_
  have AR := A.on ki
  conv => whnf
  refine LoopR.on [0, 3, 12] [] (fun q : List (Int × UInt64) × List (Int × UInt64) × Option Addr × Nat => [(0, .v (.pointer (some ⟨V.v, 0, none⟩))), (3, .v (.slice q.2.2.1 (q.2.1.filter fun p => decide (p.2 ≠ M.read p.1)).length q.2.2.2)), (12, .v (.pointer (some ⟨it, 0, none⟩)))])
    (fun _ => []) (fun q h' => Keeps [it] hR h' ∧ (∃ last, IterL h' it V.ob (mapW q.1) last) ∧ (q.2.1 ++ q.1).Perm own ∧ Own h' 89 2 q.2.2.1 (q.2.1.filter fun p => decide (p.2 ≠ M.read p.1)).length q.2.2.2 (chgC (q.2.1.filter fun p => decide (p.2 ≠ M.read p.1))) ∧ ∀ b ∈ blkA q.2.2.1, hR.size ≤ b) (fun q => q.1.length) (own, [], none, 0) ?_ ?_
  · conv => whnf
    exact ⟨(own, [], none, 0), rfl, rfl, rfl, Keeps.refl _ _, ⟨none, IR⟩, List.Perm.refl _, Own.nil _ _ _, by simp [blkA]⟩
  · rintro ⟨R, D, a, ca⟩ h2 ⟨k2, ⟨last, I2⟩, pm, O2, n2⟩
    simp only at I2 pm O2 n2
    have A2 := AR.keep k2 (by intro b hb hx; have := A.blt b hb; simp at hx; omega)
    conv => whnf
    refine SemR.next I2 (by simp [blocksOf]) (by omega) (fun hR0 => ?_) (fun R1 p R2 h3 hRR s3 k3 I3 => ?_)
    · have hR1 : R = [] := by simpa [mapW] using hR0
      subst hR1
      rw [List.append_nil] at pm
      conv => whnf
      refine IfR.f rfl ?_
      have pf := pm.filter fun p => decide (p.2 ≠ M.read p.1)
      have hpl := pf.length_eq
      have hfl : (own.filter fun p => decide (p.2 ≠ M.read p.1)).length ≤ own.length := List.length_filter_le _ _
      conv => whnf
      refine CallR.m (hsort h2 a _ ca _ O2 (by omega) (fun p hp => ?_)) (by simp [blocksOf]) fun v h4 k4 hv => ?_
      · have := openW_lt (hop p (List.mem_filter.1 (pf.mem_iff.1 hp)).1)
        omega
      obtain ⟨rfl, l', q1, q2, O4⟩ := hv
      conv => whnf
      have hl' : l' = chgL X.now M.read := chgL_of hn ho hx (q1.trans pf) q2
      have hll : (D.filter fun p => decide (p.2 ≠ M.read p.1)).length = (chgL X.now M.read).length := by rw [← hl']; exact q1.length_eq.symm
      rw [hl', hll] at O4
      rw [hll]
      have k04 : Keeps [] h h4 := (ki.new1 k2 (by omega)).nil_of k4 (fun x hx => by have := n2 x hx; omega)
      exact ⟨k04, a, ca, rfl, fun b hb => by have := n2 b hb; omega, O4⟩
    · obtain ⟨m1, q, m2, rfl, rfl, rfl, rfl⟩ := mapW_split hRR
      conv => whnf
      refine IfR.t rfl ?_
      conv => whnf
      refine SemR.entry I3 ?_
      have A3 := A2.keep k3 (by intro b hb hx; have := A.blt b hb; simp at hx; omega)
      conv => whnf
      refine LoadR.o A3.obj rfl ?_
      conv => whnf
      refine CallR.i (mread_spec A3.mem q.1) fun v h4 k4 hv => ?_
      subst hv
      have k24 := k3.trans_nil k4
      have z3 := k2.size
      have z4 := k4.size
      have I4 := I3.keep k4 (by simp) (by simp)
      have O4 := (O2.keep k3 (by intro b hb hx; have := n2 b hb; simp at hx; omega)).keep k4 (by simp)
      have pm' : ((D ++ [q]) ++ (m1 ++ m2)).Perm own := by
        refine List.Perm.trans ?_ pm
        rw [List.append_assoc]
        exact List.Perm.append_left D (show (q :: (m1 ++ m2)).Perm (m1 ++ q :: m2) from List.perm_middle.symm)
      have hmw : mapW m1 ++ mapW m2 = mapW (m1 ++ m2) := List.map_append.symm
      rw [hmw] at I4
      conv => whnf
      first | refine IfR.i (fun hc => ?_) (fun hc => ?_) | (refine MeetR.pass ?_; (conv => whnf); refine IfR.i (fun hc => ?_) (fun hc => ?_))
      · have hne : q.2 ≠ M.read q.1 := by
          intro e
          rw [e] at hc
          simp at hc
        conv => whnf
        refine AllocR.i fun b5 h5 e5 s5 o5 k5 => ?_
        have hlD : (D.filter fun p => decide (p.2 ≠ M.read p.1)).length ≤ 2824 := by
          have h1 := List.length_filter_le (fun p : Int × UInt64 => decide (p.2 ≠ M.read p.1)) D
          have h2 := pm.length_eq
          simp only [List.length_append] at h2
          omega
        conv => whnf
        refine append_own (e := 89) (sz := 2) (by_ := 16) (new := [.int .i64 q.1, wv q.2]) rfl rfl rfl rfl rfl rfl rfl (O4.keep k5 (by simp)) rfl ?_ rfl (by omega) (by omega) ?_ ?_
        · intro j hj
          have o5' : h5[b5]? = some (.cells ⟨[.int .i64 q.1, wv q.2]⟩ 89 (0, 0)) := o5
          simp only [Heap.cell?, o5', Nat.zero_add]
          simp
        · intro b hb hx
          cases hx
        intro a6 c6 h6 O6 k6 n6
        conv => whnf
        refine ⟨(m1 ++ m2).length, by simp, ?_⟩
        conv => whnf
        have hf : ((D ++ [q]).filter fun p => decide (p.2 ≠ M.read p.1)) = (D.filter fun p => decide (p.2 ≠ M.read p.1)) ++ [q] := by simp [List.filter_append, hne]
        refine ⟨(m1 ++ m2, D ++ [q], a6, c6), rfl, ?_, rfl, ?_, ⟨_, (I4.keep k5 (by simp) (by simp)).keep k6 (fun hx => by have := n2 _ hx; omega) (fun hx => by have := n2 _ hx; omega)⟩, pm', ?_, ?_⟩
        · simp only [hf, List.length_append, List.length_cons, List.length_nil]
        · exact ((k2.trans k24).trans_nil k5).trans_new k6 (fun x hx => .inr (n2 x hx))
        · simp only [hf, List.length_append, List.length_cons, List.length_nil, chgC_app]
          exact O6
        · intro b hb
          have z5 := k5.size
          rcases n6 b hb with h | h
          · exact n2 b h
          · omega
      · have he : q.2 = M.read q.1 := by
          simp at hc
          exact UInt64.toNat_inj.1 (by omega)
        conv => whnf
        refine ⟨(m1 ++ m2).length, by simp, ?_⟩
        conv => whnf
        have hf : ((D ++ [q]).filter fun p => decide (p.2 ≠ M.read p.1)) = D.filter fun p => decide (p.2 ≠ M.read p.1) := by simp [List.filter_append, he]
        refine ⟨(m1 ++ m2, D ++ [q], a, ca), rfl, ?_, rfl, k2.trans k24, ⟨_, I4⟩, pm', ?_, n2⟩
        · simp only [hf]
        · simp only [hf]; exact O4
end Go.Proofs.YtlloemmpnhoanaaGreat
