/-
  FindKinds: the law's walk, and its plain part.
-/
import Derived.Test.YtegagciipigkbaaFindI
set_option linter.all false
namespace Go.Proofs.Ytegagciipigkbaa
open Go Go.Eng

theorem fit_apart {N : List Nd} (fit : Fit N) : Apart N := by
  unfold Apart
  refine List.pairwise_iff_getElem.2 fun i j hi hj hij => ?_
  have := fit.rise i j (by simpa using hi) (by simpa using hj) hij
  simp
  omega

/-! ### Plain: a tree's paths lead to its nodes -/

theorem lookN_mem {N : List Nd} {k : Int} {n : Nd} (h : lookN N k = some n) : n ∈ N ∧ n.id = k := by
  induction N with
  | nil => cases h
  | cons x N ih =>
    simp only [lookN] at h
    split at h
    · rename_i hk; cases h; exact ⟨by simp, hk.symm⟩
    · have := ih h; exact ⟨by simp [this.1], this.2⟩

theorem getN_mem {N : List Nd} {k : Int} (h : lookN N k ≠ none) : getN N k ∈ N ∧ (getN N k).id = k := by
  cases hl : lookN N k with
  | none => exact absurd hl h
  | some n => unfold getN; rw [hl]; exact lookN_mem hl

theorem visitP_mem {N : List Nd} (hN : ∀ n ∈ N, NamesIn N n) : ∀ (F : Nat) (s : Spot) (acc : List Spot), s.node ∈ N → (∀ t ∈ acc, t.node ∈ N) → ∀ t ∈ visitP N F s acc, t.node ∈ N
  | 0, s, acc, _, h, t, ht => h t ht
  | F + 1, s, acc, hs, h, t, ht => by
    have fold : ∀ (l : List Ent) (acc : List Spot), (∀ x ∈ l, lookN N x.node ≠ none) → (∀ t ∈ acc, t.node ∈ N) → ∀ t ∈ l.foldl (fun acc x => visitP N F (childP N s x) acc) acc, t.node ∈ N := by
      intro l
      induction l with
      | nil => intro acc _ h t ht; exact h t ht
      | cons x l ih =>
        intro acc hl h t ht
        exact ih _ (fun y hy => hl y (by simp [hy])) (visitP_mem hN F _ _ (getN_mem (hl x (by simp))).1 h) t ht
    have app : ∀ t ∈ acc ++ [s], t.node ∈ N := by
      intro t ht
      simp only [List.mem_append, List.mem_singleton] at ht
      rcases ht with ht | rfl
      · exact h t ht
      · exact hs
    rw [visitP] at ht
    split at ht
    · exact h t ht
    · split at ht
      · rename_i hk
        exact fold _ _ (hN _ hs hk) app t ht
      · exact app t ht

theorem spotsP_mem (N : List Nd) : ∀ t ∈ spotsP N, t.node ∈ N := by
  unfold spotsP
  split
  · rename_i g
    have hr : lookN N 1 ≠ none := fun h => by
      have := g.1
      unfold getN at this
      rw [h] at this
      simp [noNd] at this
    exact visitP_mem g.2.1 501 _ [] (getN_mem hr).1 (by simp)
  · simp

/-- how many are wanted -/
def cntP (w : Wnt) (s : List Spot) : Nat := (pathsP (wantsP w) s).length

theorem cntP_eq (w : Wnt) (s : List Spot) : cntP w s = (s.filter (wantsP w)).length := by unfold cntP pathsP; simp

theorem kinds_sum (w : Wnt) (hw : w.kind = 0) : ∀ s : List Spot, (∀ t ∈ s, 1 ≤ t.node.kind ∧ t.node.kind ≤ 3) → cntP w s = cntP { w with kind := 1 } s + cntP { w with kind := 2 } s + cntP { w with kind := 3 } s
  | [], _ => rfl
  | t :: s, h => by
    have ih := kinds_sum w hw s (fun t ht => h t (by simp [ht]))
    rw [cntP_eq, cntP_eq, cntP_eq, cntP_eq] at ih ⊢
    have hk := h t (by simp)
    have e : t.node.kind = 1 ∨ t.node.kind = 2 ∨ t.node.kind = 3 := by omega
    simp only [List.filter_cons]
    have g0 : wantsP w t = (decide (sizeP t.node ≥ w.least) && (decide (w.most < 0) || decide (sizeP t.node ≤ w.most)) && decide (t.node.links ≥ w.links) && (decide (w.name = ⟨#[]⟩) || decide (w.name = t.name))) := by
      unfold wantsP; simp [hw]
    have g : ∀ k : Int, k ≠ 0 → wantsP { w with kind := k } t = (decide (k = t.node.kind) && wantsP w t) := by
      intro k hk0
      rw [g0]; unfold wantsP
      simp [hk0, Bool.and_assoc]
    rw [g 1 (by decide), g 2 (by decide), g 3 (by decide)]
    cases wantsP w t
    · simpa using ih
    · rcases e with e | e | e <;> simp [e] <;> omega

theorem less_all (w : Wnt) (s : List Spot) (h1 : w.kind = 0) (h2 : w.least ≤ 0) (h3 : w.most < 0) (h4 : w.links ≤ 0) (h5 : w.name = ⟨#[]⟩) (h : ∀ t ∈ s, 0 ≤ t.node.links) : cntP w s = s.length := by
  rw [cntP_eq, List.filter_eq_self.2]
  intro t ht
  have := h t ht
  have hs : 0 ≤ sizeP t.node := by unfold sizeP; split <;> omega
  unfold wantsP
  simp [h1, h3, h5]
  constructor <;> omega

theorem cntP_le (w : Wnt) (s : List Spot) : cntP w s ≤ s.length := by rw [cntP_eq]; exact List.length_filter_le _ _

theorem less_mono (w x : Wnt) (h1 : w.kind = 0) (h1' : x.kind = 0) (h2 : x.least ≤ w.least) (h3 : x.most < 0) (h4 : x.links ≤ w.links) (h5 : x.name = ⟨#[]⟩) : ∀ s : List Spot, cntP w s ≤ cntP x s
  | [] => Nat.le_refl _
  | t :: s => by
    have ih := less_mono w x h1 h1' h2 h3 h4 h5 s
    rw [cntP_eq, cntP_eq] at ih ⊢
    simp only [List.filter_cons]
    have g : wantsP w t = true → wantsP x t = true := by
      unfold wantsP
      simp [h1, h1', h3, h5]
      intro a b c d
      constructor <;> omega
    cases hw : wantsP w t
    · cases hx : wantsP x t
      · simpa using ih
      · simp; omega
    · rw [g hw]; simpa using ih

theorem visitP_few (N : List Nd) : ∀ (F : Nat) (s : Spot) (acc : List Spot), acc.length ≤ 500 → (visitP N F s acc).length ≤ 500
  | 0, s, acc, h => h
  | F + 1, s, acc, h => by
    have fold : ∀ (l : List Ent) (acc : List Spot), acc.length ≤ 500 → (l.foldl (fun acc x => visitP N F (childP N s x) acc) acc).length ≤ 500 := by
      intro l
      induction l with
      | nil => intro acc h; exact h
      | cons x l ih => intro acc h; exact ih _ (visitP_few N F _ _ h)
    rw [visitP]
    split
    · exact h
    · split
      · exact fold _ _ (by simp; omega)
      · simp; omega

theorem spotsP_few (N : List Nd) : (spotsP N).length ≤ 500 := by
  unfold spotsP
  split
  · exact visitP_few N _ _ _ (by simp)
  · simp

/-- the sum over kinds below -/
def sumK (w1 w2 w3 : Int) (s : List Spot) : Nat → Nat
  | 0 => 0
  | k + 1 => sumK w1 w2 w3 s k + cntP ⟨(k : Int) + 1, w1, w2, w3, ⟨#[]⟩⟩ s

theorem sumK_le (w1 w2 w3 : Int) (s : List Spot) (k : Nat) : sumK w1 w2 w3 s k ≤ k * s.length := by
  induction k with
  | zero => simp [sumK]
  | succ k ih =>
    have := cntP_le ⟨(k : Int) + 1, w1, w2, w3, ⟨#[]⟩⟩ s
    simp only [sumK, Nat.add_mul]; omega

theorem kinds_spec (l : List Nd) (a : Option Addr) (n c : Nat) (w0 w1 w2 w3 : Int) (i1 : inI64 w1) (i2 : inI64 w2) (i3 : inI64 w3) (h : Heap) (S : Sl h a n c l) :
    CallH Try.prog 4 [.slice a n c, .agg ⟨[.int .i64 w0, .int .i64 w1, .int .i64 w2, .int .i64 w3]⟩] h (fun v h' => Keeps [] h h' ∧ v = .bool true) := by
  have i0 : inI64 0 := by decide
  refine call_of hmix Try.func4 rfl ok4 (by simp [Try.f4]) ?_
  conv => whnf
  refine AllocR.i fun b1 h1 e1 s1 o1 k1 => ?_
  conv => whnf
  refine CallR.i (lives_spec h1) fun v h2 k2 hv => ?_
  subst hv
  conv => whnf
  refine IfR.f rfl ?_
  conv => whnf
  refine CallR.i (fitting_spec l a n c h2 (S.keep (k1.trans k2))) fun v h3 k3 hv => ?_
  obtain ⟨N, hrep, fit⟩ := hv
  obtain ⟨a3, n3, c3, hv, S3⟩ := hrep
  simp only [List.cons.injEq, and_true] at hv
  subst hv
  have ap := fit_apart fit
  have hn3 := S3.hlen
  have few := fit.few
  have k03 := k1.trans (k2.trans k3)
  clear S k1 k2 k3
  conv => whnf
  refine LoopR.on [0, 3, 5] [3] (fun i : Nat => [(0, .v (.slice a3 n3 c3)), (3, .lp 3 0), (5, .v (.int .i64 (i : Int)))]) (fun _ => [(3, b1, [.int .i64 w0, .int .i64 w1, .int .i64 w2, .int .i64 w3])])
    (fun i h' => h' = h3 ∧ i ≤ n3 ∧ ∀ j (hj : j < N.length), j < i → 1 ≤ N[j].kind ∧ N[j].kind ≤ 3) (fun i => n3 - i) 0 ?_ ?_
  · conv => whnf
    exact ⟨0, rfl, rfl, rfl, rfl, Nat.zero_le _, fun j _ h => absurd h (by omega)⟩
  · rintro i h3 ⟨rfl, hi, hk⟩
    conv => whnf
    refine IfR.i (fun hc => ?_) (fun hc => ?_)
    · have hi1 : i < N.length := by simp at hc; omega
      obtain ⟨bn, on, han, _, ⟨na, nn, nc, rfl, _⟩, hcn⟩ := S3.at_ i hi1
      conv => whnf
      refine IdxS.i i rfl (by omega) han ?_
      conv => whnf
      refine LoadR.i (hcn 1 (by simp)) ?_
      conv => whnf
      refine IdxS.u i bn on (fun _ => ⟨rfl, by omega, han⟩) ?_
      conv => whnf
      refine LoadR.u _ (fun _ => hcn 1 (by simp)) ?_
      conv => whnf
      refine IfR.i (fun hd => ?_) (fun hd => ?_)
      · conv => whnf
        exact ⟨k03, rfl⟩
      · conv => whnf
        refine ⟨n3 - (i + 1), by omega, ?_⟩
        conv => whnf
        refine ⟨i + 1, rfl, by rw [wrapN (x := (i : Int) + 1) (n := i + 1) (by simp) (by omega)], rfl, rfl, by omega, fun j hj hji => ?_⟩
        rcases Nat.lt_succ_iff_lt_or_eq.1 hji with h | rfl
        · exact hk j hj h
        · simp [bif_or] at hd
          omega
    · have hi1 : i = N.length := by simp at hc; omega
      have kinds : ∀ t ∈ spotsP N, 1 ≤ t.node.kind ∧ t.node.kind ≤ 3 := by
        intro t ht
        obtain ⟨j, hj, hje⟩ := List.mem_iff_getElem.1 (spotsP_mem N t ht)
        rw [← hje]
        exact hk j hj (by omega)
      clear hk
      conv => whnf
      refine IdxR.i 1 rfl (by decide) ?_
      conv => whnf
      refine NthR.i rfl ?_
      conv => whnf
      refine IdxR.i 2 rfl (by decide) ?_
      conv => whnf
      refine NthR.i rfl ?_
      conv => whnf
      refine IdxR.i 3 rfl (by decide) ?_
      conv => whnf
      refine NthR.i rfl ?_
      conv => whnf
      refine AllocR.i fun b4 h4 e4 s4 o4 k4 => ?_
      conv => whnf
      refine BoxR.i fun h5 s5 k5 => ?_
      have k35 : Keeps [] h3 h5 := k4.trans_new k5 (by intro x hx; simp at hx; right; omega)
      conv => whnf
      refine CallR.i (all_spec N a3 n3 c3 ⟨0, w1, w2, w3, ⟨#[]⟩⟩ _ h5 (S3.keep k35) fit ap ⟨rfl, i0, i1, i2, i3, (Nat.zero_le _ : okStr ⟨#[]⟩)⟩) fun v h6 k6 hv => ?_
      obtain ⟨a6, n6, c6, rfl, S6, few6⟩ := hv
      have c6e := S6.hlen
      have k36 := k35.trans k6
      have fewS := spotsP_few N
      have hall : n6 = cntP ⟨0, w1, w2, w3, ⟨#[]⟩⟩ (spotsP N) := c6e
      conv => whnf
      refine LoopR.on [0, 6, 7, 8, 9] [6] (fun k : Nat => [(0, .v (.slice a3 n3 c3)), (6, .lp 6 0), (7, .v (.int .i64 n6)), (8, .v (.int .i64 (sumK w1 w2 w3 (spotsP N) k : Int))), (9, .v (.int .i64 (((k + 1 : Nat) : Int))))])
        (fun _ => [(6, b4, [.int .i64 0, .int .i64 w1, .int .i64 w2, .int .i64 w3, .string ⟨#[]⟩])]) (fun k h' => k ≤ 3 ∧ Keeps [] h3 h') (fun k => 3 - k) 0 ?_ ?_
      · conv => whnf
        exact ⟨0, rfl, rfl, rfl, by omega, k36⟩
      · rintro k h7 ⟨hk, k37⟩
        conv => whnf
        refine IfR.i (fun hc => ?_) (fun hc => ?_)
        · have hk3 : k < 3 := by simp at hc; omega
          conv => whnf
          refine AllocR.i fun b8 h8 e8 s8 o8 k8 => ?_
          conv => whnf
          refine BoxR.i fun h9 s9 k9 => ?_
          conv => whnf
          refine BoxR.i fun h10 s10 k10 => ?_
          have k710 : Keeps [] h7 h10 := (k8.trans_new k9 (by intro x hx; simp at hx; right; omega)).trans_new k10 (by intro x hx; simp at hx; right; omega)
          conv => whnf
          refine CallR.i (all_spec N a3 n3 c3 ⟨((k + 1 : Nat) : Int), w1, w2, w3, ⟨#[]⟩⟩ _ h10 (S3.keep (k37.trans k710)) fit ap ⟨rfl, by unfold inI64; simp only; omega, i1, i2, i3, (Nat.zero_le _ : okStr ⟨#[]⟩)⟩) fun v h11 k11 hv => ?_
          obtain ⟨a11, n11, c11, rfl, S11, few11⟩ := hv
          have hn11 : n11 = cntP ⟨((k + 1 : Nat) : Int), w1, w2, w3, ⟨#[]⟩⟩ (spotsP N) := S11.hlen
          have hsk := sumK_le w1 w2 w3 (spotsP N) k
          have hst : sumK w1 w2 w3 (spotsP N) (k + 1) = sumK w1 w2 w3 (spotsP N) k + n11 := by rw [hn11]; rfl
          have hmul := Nat.mul_le_mul (show k ≤ 3 by omega) fewS
          conv => whnf
          refine ⟨3 - (k + 1), by omega, ?_⟩
          conv => whnf
          refine ⟨k + 1, rfl, ?_, rfl, by omega, (k37.trans k710).trans k11⟩
          rw [wrapN (x := (sumK w1 w2 w3 (spotsP N) k : Int) + n11) (n := sumK w1 w2 w3 (spotsP N) (k + 1)) (by omega) (by omega), wrapN (x := ((k + 1 : Nat) : Int) + 1) (n := k + 1 + 1) (by simp) (by omega)]
        · have hk3 : k = 3 := by simp at hc; omega
          subst hk3
          have hsum : sumK w1 w2 w3 (spotsP N) 3 = n6 := by
            rw [hall, kinds_sum ⟨0, w1, w2, w3, ⟨#[]⟩⟩ rfl _ kinds]
            simp [sumK]
          conv => whnf
          refine AllocR.i fun b8 h8 e8 s8 o8 k8 => ?_
          conv => whnf
          refine BoxR.i fun h9 s9 k9 => ?_
          conv => whnf
          refine BoxR.i fun h10 s10 k10 => ?_
          conv => whnf
          refine BoxR.i fun h11 s11 k11 => ?_
          conv => whnf
          refine BoxR.i fun h12 s12 k12 => ?_
          have k712 : Keeps [] h7 h12 := (((k8.trans_new k9 (by intro x hx; simp at hx; right; omega)).trans_new k10 (by intro x hx; simp at hx; right; omega)).trans_new k11 (by intro x hx; simp at hx; right; omega)).trans_new k12 (by intro x hx; simp at hx; right; omega)
          have k012 := k37.trans k712
          obtain ⟨X, hX, x1, x2, x3, x4, x5⟩ : ∃ X : Wnt, X = ⟨0, if 0 < w1 then 0 else w1, -1, if 0 < w3 then 0 else w3, ⟨#[]⟩⟩ ∧ X.kind = 0 ∧ (X.least ≤ w1 ∧ X.least ≤ 0) ∧ X.most < 0 ∧ (X.links ≤ w3 ∧ X.links ≤ 0) ∧ X.name = ⟨#[]⟩ :=
            ⟨_, rfl, rfl, by constructor <;> (simp only; split <;> omega), (show (-1 : Int) < 0 by decide), by constructor <;> (simp only; split <;> omega), rfl⟩
          have xrep : ∀ h, rep h [.int .i64 0, .int .i64 (if 0 < w1 then 0 else w1), .int .i64 (-1), .int .i64 (if 0 < w3 then 0 else w3), .string ⟨#[]⟩] X := fun h => by
            subst hX
            exact ⟨rfl, i0, by simp only; split; exact i0; exact i1, by simp only; decide, by simp only; split; exact i0; exact i3, (Nat.zero_le _ : okStr ⟨#[]⟩)⟩
          have hle : n6 ≤ cntP X (spotsP N) := by rw [hall]; exact less_mono _ X rfl x1 x2.1 x3 x4.1 x5 _
          conv => whnf
          refine IfR.t (by rw [hsum]; simp) ?_
          conv => whnf
          refine CallR.i (all_spec N a3 n3 c3 X _ h12 (S3.keep k012) fit ap (xrep _)) fun v h13 k13 hv => ?_
          obtain ⟨a13, n13, c13, rfl, S13, few13⟩ := hv
          have hn13 : n13 = cntP X (spotsP N) := S13.hlen
          conv => whnf
          refine IfR.t (by rw [hsum]; simp [bif_and]; omega) ?_
          conv => whnf
          refine CallR.i (all_spec N a3 n3 c3 X _ h13 (S3.keep (k012.trans k13)) fit ap (xrep _)) fun v h14 k14 hv => ?_
          obtain ⟨a14, n14, c14, rfl, S14, few14⟩ := hv
          have hn14 : n14 = cntP X (spotsP N) := S14.hlen
          conv => whnf
          refine IfR.t (by rw [hsum]; simp [bif_and]; omega) ?_
          conv => whnf
          refine CallR.i (paths_spec N a3 n3 c3 h14 (S3.keep ((k012.trans k13).trans k14)) fit ap) fun v h15 k15 hv => ?_
          obtain ⟨a15, n15, c15, rfl, S15, few15⟩ := hv
          have hn15 : n15 = (spotsP N).length := by
            have := S15.hlen
            rw [this]; unfold pathsP; rw [List.length_map, List.filter_eq_self.2 (fun _ _ => rfl)]
          have k015 := ((k012.trans k13).trans k14).trans k15
          conv => whnf
          refine IfR.i (fun hd => ?_) (fun hd => ?_)
          · conv => whnf
            refine CallR.i (anyBelow_spec N a3 n3 c3 h15 (S3.keep k015)) fun v h16 k16 hv => ?_
            subst hv
            have hbel : belowP N = true := Classical.byContradiction fun hb => by
              have hb' : ∀ x ∈ N, 0 ≤ x.links := by
                intro x hx
                have : belowP N = false := by simpa using hb
                unfold belowP at this
                rw [List.any_eq_false] at this
                have := this x hx
                simpa using this
              have := less_all X (spotsP N) x1 x2.2 x3 x4.2 x5 (fun t ht => hb' _ (spotsP_mem N t ht))
              rw [hsum] at hd
              simp [bif_and] at hd
              omega
            conv => whnf
            refine ⟨k03.trans (k015.trans k16), ?_⟩
            rw [hbel]
            simp [bif_or]
          · conv => whnf
            refine ⟨k03.trans k015, ?_⟩
            rw [hsum] at hd ⊢
            simp [bif_and, bif_or] at hd ⊢
            exact hd
end Go.Proofs.Ytegagciipigkbaa
