/-
  The engine, soundness, third part: regions, and code.
-/
import Derived.Test.YtlloemmpnhoanaaGreatEngT
import Derived.Scope
import Derived.Deep.LoopGhost
set_option linter.all false
namespace Go.Eng
open Go

theorem yielded_put {ops : Array Oper} {a : Act} {j d : Nat} {v : Value} (h : dstOf ops.toList j ≠ some d) : yielded ops (a.put (some d) v).tmps j = yielded ops a.tmps j := by
  rw [dstOf_eq] at h
  unfold yielded
  cases hd : (ops[j]?).bind (·.dst) with
  | none => rfl
  | some t =>
    have hne : d ≠ t := fun e => h (by subst e; simpa using hd)
    simp [Act.put, Array.getElem?_setIfInBounds_ne hne]

theorem freeG_ok {all : List Oper} {d : Nat} : ∀ (eg : EnvG), freeG all d eg = true → ∀ t j w c, lookG eg t = some (j, w, c) → t ≠ d ∧ dstOf all j ≠ some d
  | [], _, t, j, w, c, h => by cases h
  | (t', j', w', c') :: r, hf, t, j, w, c, h => by
    simp only [freeG] at hf
    split at hf
    · cases hf
    · rename_i hne
      have hne' : t' ≠ d := fun e => by subst e; simp [Nat.beq_refl] at hne
      have hrest : (∀ d', dstOf all j' = some d' → d' ≠ d) ∧ freeG all d r = true := by
        split at hf
        · rename_i d' hd'
          split at hf
          · cases hf
          · rename_i hb
            exact ⟨fun d'' h'' => (by rw [hd'] at h''; cases h''; intro e; subst e; simp [Nat.beq_refl] at hb), hf⟩
        · rename_i hd'
          exact ⟨fun d'' h'' => (by rw [hd'] at h''; cases h''), hf⟩
      simp only [lookG] at h
      split at h
      · rename_i hb
        have := Nat.eq_of_beq_eq_true hb
        subst this
        simp at h
        obtain ⟨rfl, rfl, rfl⟩ := h
        exact ⟨hne', fun e => hrest.1 d e rfl⟩
      · exact freeG_ok r hrest.2 t j w c h

theorem putE_ok {ops : Array Oper} {dst : Option Nat} {g : Option (Nat × Bool)} {x : Core} {e : EnvC} {eg : EnvG} {bx : Boxes} {a : Act} {K : EnvC → EnvG → Prop} {v : Value}
    (H : putE ops.toList dst g x e eg K) (A : Agree ops e eg bx a) (hx : coreOk bx x) (hd : ∀ d, dst = some d → d < a.tmps.size)
    (hv : match g with | none => v = x.val bx | some (j, w) => (yielded ops a.tmps j = some w → v = x.val bx) ∧ (yielded ops a.tmps j ≠ some w → v = undef)) :
    ∃ e' eg', K e' eg' ∧ Agree ops e' eg' bx (a.put dst v) := by
  unfold putE at H
  cases dst with
  | none => exact ⟨e, eg, H, A⟩
  | some d =>
    simp only at H
    split at H
    case h_2 => exact H.elim
    rename_i hf
    have hf' := freeG_ok eg hf
    have hdl := hd d rfl
    have same : ∀ t, t ≠ d → (a.put (some d) v).tmps[t]? = a.tmps[t]? := fun t ht => by simp [Act.put, Array.getElem?_setIfInBounds_ne (Ne.symm ht)]
    have here : (a.put (some d) v).tmps[d]? = some v := by simp [Act.put, hdl]
    have egOld : ∀ t j w c, lookG eg t = some (j, w, c) → (yielded ops (a.put (some d) v).tmps j = some w → (a.put (some d) v).tmps[t]? = some (c.val bx)) ∧
        (yielded ops (a.put (some d) v).tmps j ≠ some w → (a.put (some d) v).tmps[t]? = some undef) ∧ coreOk bx c := fun t j w c hl => by
      obtain ⟨h1, h2⟩ := hf' _ _ _ _ hl
      rw [yielded_put h2, same t h1]
      exact A.envg t j w c hl
    cases g with
    | none =>
      simp only at H hv
      refine ⟨_, _, H, ⟨A.defers, fun t c hl hg => ?_, egOld⟩⟩
      simp only [lookC] at hl
      split at hl
      · rename_i hb
        have := Nat.eq_of_beq_eq_true hb
        subst this
        simp at hl; subst hl
        exact ⟨by rw [here, hv], hx⟩
      · rename_i hb
        have hne : t ≠ d := fun e => by subst e; simp [Nat.beq_refl] at hb
        rw [same t hne]
        exact A.env t c hl hg
    | some p =>
      obtain ⟨j, w⟩ := p
      simp only at H hv
      split at H
      case h_2 => exact H.elim
      rename_i d' hd'
      split at H
      · exact H.elim
      · rename_i hb
        have hne' : d' ≠ d := fun e => by subst e; simp [Nat.beq_refl] at hb
        have hjd : dstOf ops.toList j ≠ some d := by rw [hd']; simpa using hne'
        refine ⟨_, _, H, ⟨A.defers, fun t c hl hg => ?_, fun t j' w' c hl => ?_⟩⟩
        · simp only [lookG] at hg
          split at hg
          · cases hg
          · rename_i hb
            have hne : t ≠ d := fun e => by subst e; simp [Nat.beq_refl] at hb
            rw [same t hne]
            exact A.env t c hl hg
        · simp only [lookG] at hl
          split at hl
          · rename_i hb
            have := Nat.eq_of_beq_eq_true hb
            subst this
            simp at hl
            obtain ⟨rfl, rfl, rfl⟩ := hl
            rw [yielded_put hjd, here]
            exact ⟨fun h => by rw [hv.1 h], fun h => by rw [hv.2 h], hx⟩
          · exact egOld t j' w' c hl

theorem coreOk_rd {ops : Array Oper} {e : EnvC} {eg : EnvG} {bx : Boxes} {a : Act} (A : Agree ops e eg bx a) {g : Option (Nat × Bool)} (x : Operand) (c : Core) (h : rd ops.toList g e eg x = some c) : coreOk bx c := by
  cases x with
  | tmp t =>
    simp only [rd] at h
    split at h
    · rename_i j w c' hl
      split at h
      · simp at h; subst h; exact (A.envg _ _ _ _ hl).2.2
      · cases h
    · rename_i hl
      exact (A.env _ _ h hl).2
  | const v => simp [rd] at h; subst h; trivial
  | global n => simp [rd] at h; subst h; trivial
  | func f => simp [rd] at h; subst h; trivial

theorem coreOk_v {bx : Boxes} {o : Option Value} {c : Core} (h : vOf o = some c) : coreOk bx c := by
  obtain ⟨v, _, rfl⟩ := vOf_some h; trivial

theorem coreOk_pure {P : Program} {op : Op} {ρ : Operand → Option Core} {bx : Boxes} {c : Core} (h : pureOp P op ρ = some c) (hρ : ∀ y c, ρ y = some c → coreOk bx c) : coreOk bx c := by
  unfold pureOp at h
  split at h
  · exact hρ _ _ h
  · exact hρ _ _ h
  · split at h
    · exact coreOk_v h
    · cases h
  · split at h
    · exact coreOk_v h
    · cases h
  · split at h
    · exact coreOk_v h
    · cases h
  · split at h
    · split at h
      · rename_i ha; simp at h; subst h; have := hρ _ _ ha; simpa [coreOk] using this
      · rename_i ha; simp at h; subst h; have := hρ _ _ ha; simpa [coreOk] using this
      · simp at h; subst h; trivial
      · cases h
    · cases h
  · split at h
    · split at h
      · exact coreOk_v h
      · cases h
    · cases h
  · exact coreOk_v h
  · split at h
    · simp at h; subst h; trivial
    · cases h
  · split at h
    · rename_i ha; simp at h; subst h; exact hρ _ _ ha
    · rename_i ha; simp at h; subst h; exact hρ _ _ ha
    · simp at h; subst h; trivial
    · simp at h; subst h; trivial
    · cases h
  · split at h
    · split at h
      · simp at h; subst h; trivial
      · cases h
    · split at h
      · simp at h; subst h; trivial
      · cases h
    · cases h
  · split at h
    · exact coreOk_v h
    · cases h
  · cases h

theorem pickOr_ok {P : Program} {ops : Array Oper} {e : EnvC} {eg : EnvG} {bx : Boxes} {a : Act} (A : Agree ops e eg bx a) {g : Option (Nat × Bool)} {o : Oper} {x : Core}
    (h : pickOr ops.toList P g e eg o.op = some x) : coreOk bx x ∧ ((∀ p, g = some p → yielded ops a.tmps p.1 = some p.2) → ∀ w, (execOp a.eval o).run P w = .ok (.value (x.val bx)) w) := by
  unfold pickOr at h
  split at h
  · rename_i c y z ho
    refine ⟨?_, fun hg w => pickOp_ok A hg ho h w⟩
    unfold pickOp at h
    split at h
    · split at h
      · simp at h; subst h; trivial
      · cases h
    · cases h
  · exact ⟨coreOk_pure h (fun y c hy => coreOk_rd A y c hy), fun hg w => pureOp_run (fun y c hy => rd_ok A hg y c hy) h w⟩

theorem wanted_none {ops : Array Oper} {o : Oper} {a : Act} (h : o.guard = none) : Region.wanted o (yielded ops a.tmps) = true := by simp [Region.wanted, h]
theorem wanted_some {ops : Array Oper} {o : Oper} {a : Act} {j : Nat} {w : Bool} (h : o.guard = some (j, w)) : (Region.wanted o (yielded ops a.tmps) = true ↔ yielded ops a.tmps j = some w) := by
  simp [Region.wanted, h]

/-- what stands at the end of a region -/
def RegQ (n : Nat) (w0 : World) (K : EnvC → EnvG → Boxes → Heap → Prop) (ops : Array Oper) : Exit → Act → World → Prop := fun x a w =>
  x = .normal ∧ ∃ e eg bx, Agree ops e eg bx a ∧ Boxed bx w.heap ∧ a.tmps.size = n ∧ SameOut w0 w ∧ K e eg bx w.heap

theorem put_size (a : Act) (d : Option Nat) (v : Value) : (a.put d v).tmps.size = a.tmps.size := by cases d <;> simp [Act.put]

theorem agree_after {ops : Array Oper} {e : EnvC} {eg : EnvG} {bx bx' : Boxes} {a : Act} (A : Agree ops e eg bx a) (hv : ∀ c, coreOk bx c → c.val bx' = c.val bx ∧ coreOk bx' c) : Agree ops e eg bx' a :=
  ⟨A.defers, fun t c hl hg => by obtain ⟨h1, h2⟩ := A.env t c hl hg; obtain ⟨h3, h4⟩ := hv c h2; exact ⟨by rw [h3]; exact h1, h4⟩,
   fun t j w c hl => by obtain ⟨h1, h2, h5⟩ := A.envg t j w c hl; obtain ⟨h3, h4⟩ := hv c h5; exact ⟨fun hy => by rw [h3]; exact h1 hy, h2, h4⟩⟩

section
variable {P : Program} {C : Cfg} {ops : Array Oper} {n : Nat} {w0 : World} {K : EnvC → EnvG → Boxes → Heap → Prop} {Q : Exit → Act → World → Prop} {F : (World → Prop) → Act → World → Prop}

/-- one operation that yields, whatever its class -/
theorem text_yield {k : Nat} {ks : List Nat} {o : Oper} {v : Value} {bx : Boxes} {a : Act} {w : World} (ho : ops[k]? = some o) (B : Boxed bx w.heap)
    (hy : YieldsIf P ops (fun w' => HypC (clsOf P C o) bx w.heap w') o v a) (he : isEff (clsOf P C o) = true → YieldsIf P ops (fun _ => True) o v a)
    (ht : TextRun P ops Q F (clsAt P C ops) ks (fun w => BoxIn bx w.heap) (a.put o.dst v) w) :
    TextRun P ops Q F (clsAt P C ops) (k :: ks) (fun w => BoxIn bx w.heap) a w := by
  have hc : clsAt P C ops k = clsOf P C o := by simp [clsAt, ho]
  simp only [TextRun, hc]
  cases hcl : clsOf P C o with
  | p0 => exact ⟨o, v, ho, by rw [hcl] at hy; exact hy.imp (fun ⟨h1, h2⟩ => ⟨h1, fun w _ => h2 w trivial⟩) id, ht⟩
  | pb => exact ⟨o, v, ho, by rw [hcl] at hy; exact hy, ht⟩
  | rd => exact ⟨o, v, ho, by rw [hcl] at hy; exact hy, ht⟩
  | al => exact (he (by simp [hcl, isEff])).wpOp ho trivial ⟨HExt.refl w, _, B.boxIn, fun _ h => h, ht⟩
  | ef => exact (he (by simp [hcl, isEff])).wpOp ho trivial ⟨B.boxIn, ht⟩
  | be => exact (he (by simp [hcl, isEff])).wpOp ho trivial ⟨_, B.boxIn, ht⟩

/-- one operation with an effect -/
theorem text_eff {k : Nat} {ks : List Nat} {o : Oper} {bx : Boxes} {a : Act} {w : World} (ho : ops[k]? = some o) (B : Boxed bx w.heap) (hw : Region.wanted o (yielded ops a.tmps) = true) (hc : isEff (clsOf P C o) = true)
    {K' : Core → Boxes → Heap → Prop} (h : EffGoal P (clsOf P C o) o bx w.heap K' a w Q)
    (ht : ∀ x bx' w', After (clsOf P C o) bx w.heap x bx' w'.heap → SameOut w w' → K' x bx' w'.heap → TextRun P ops Q F (clsAt P C ops) ks (fun w => BoxIn bx' w.heap) (a.put o.dst (x.val bx')) w') :
    TextRun P ops Q F (clsAt P C ops) (k :: ks) (fun w => BoxIn bx w.heap) a w := by
  have hcl' : clsAt P C ops k = clsOf P C o := by simp [clsAt, ho]
  unfold EffGoal at h
  have base : ∀ (R : Act → World → Prop), (∀ x bx' w', After (clsOf P C o) bx w.heap x bx' w'.heap → TextRun P ops Q F (clsAt P C ops) ks (fun w => BoxIn bx' w.heap) (a.put o.dst (x.val bx')) w' → R (a.put o.dst (x.val bx')) w') →
      wpOp P ops Q k R a w := by
    intro R hR
    unfold wpOp
    simp only [ho, hw, if_true]
    refine .inl (Oper.wp_mono (fun a' w' h' => ?_) h)
    obtain ⟨x, bx', rfl, hA, hs, hK⟩ := h'
    exact hR x bx' w' hA (ht x bx' w' hA hs hK)
  simp only [TextRun, hcl']
  cases hcl : clsOf P C o with
  | p0 => rw [hcl] at hc; cases hc
  | pb => rw [hcl] at hc; cases hc
  | rd => rw [hcl] at hc; cases hc
  | al =>
    refine base _ fun x bx' w' hA hT => ?_
    obtain ⟨h1, h2⟩ := hA.al hcl
    exact ⟨h1, _, hA.boxed.boxIn, fun x h => h2 x.heap h, hT⟩
  | ef =>
    refine base _ fun x bx' w' hA hT => ?_
    have := hA.ef hcl
    subst this
    exact ⟨hA.boxed.boxIn, hT⟩
  | be =>
    refine base _ fun x bx' w' hA hT => ?_
    exact ⟨_, hA.boxed.boxIn, hT⟩

theorem ops_text (hF : ∀ e eg bx a (w : World), K e eg bx w.heap → Agree ops e eg bx a → Boxed bx w.heap → a.tmps.size = n → SameOut w0 w → F (fun w => BoxIn bx w.heap) a w) : ∀ (ks : List Nat) (os : List Oper), ks.map (ops[·]?) = os.map some → (∀ o ∈ os, ∀ d, o.dst = some d → d < n) →
    ∀ (e : EnvC) (eg : EnvG) (bx : Boxes) (a : Act) (w : World), vcOps P C ops.toList K os e eg bx w.heap → Agree ops e eg bx a → Boxed bx w.heap → a.tmps.size = n → SameOut w0 w →
    TextRun P ops Q F (clsAt P C ops) ks (fun w => BoxIn bx w.heap) a w
  | [], [], _, _, e, eg, bx, a, w, H, A, B, hn, hs => hF e eg bx a w H A B hn hs
  | [], _ :: _, h, _, _, _, _, _, _, _, _, _, _, _ => by cases h
  | _ :: _, [], h, _, _, _, _, _, _, _, _, _, _, _ => by cases h
  | k :: ks, o :: os, hm, hd, e, eg, bx, a, w, H, A, B, hn, hs => by
    simp only [List.map_cons, List.cons.injEq] at hm
    obtain ⟨ho, hm⟩ := hm
    have hdo : ∀ d, o.dst = some d → d < a.tmps.size := fun d h => by rw [hn]; exact hd o (by simp) d h
    have rest : ∀ (e' : EnvC) (eg' : EnvG) (bx' : Boxes) (v : Value) (w' : World), vcOps P C ops.toList K os e' eg' bx' w'.heap → Agree ops e' eg' bx' (a.put o.dst v) → Boxed bx' w'.heap → SameOut w w' →
        TextRun P ops Q F (clsAt P C ops) ks (fun w => BoxIn bx' w.heap) (a.put o.dst v) w' := fun e' eg' bx' v w' h1 h2 h3 h4 =>
      ops_text hF ks os hm (fun o' ho' => hd o' (by simp [ho'])) e' eg' bx' _ w' h1 h2 h3 (by rw [put_size]; exact hn) (hs.trans h4)
    -- an effect, its guard standing
    have effCase : Region.wanted o (yielded ops a.tmps) = true → isEff (clsOf P C o) = true → (∀ (g : Option (Nat × Bool)), (∀ p, g = some p → yielded ops a.tmps p.1 = some p.2) →
        (vcEff P C (clsOf P C o) o (rd ops.toList g e eg) bx w.heap fun x bx h => putE ops.toList o.dst none x e eg fun e eg => vcOps P C ops.toList K os e eg bx h) →
        TextRun P ops Q F (clsAt P C ops) (k :: ks) (fun w => BoxIn bx w.heap) a w) := fun hw hE g hg H => by
      refine text_eff ho B hw hE (eff_ok H (fun y c hy => rd_ok A hg y c hy) B) fun x bx' w' hA hso hK => ?_
      obtain ⟨e', eg', h1, h2⟩ := putE_ok hK (agree_after A hA.val) hA.core hdo (v := x.val bx') rfl
      exact rest e' eg' bx' _ w' h1 h2 hA.boxed hso
    simp only [vcOps] at H
    split at H
    · rename_i hg
      have hw := wanted_none (ops := ops) (a := a) hg
      unfold vcOp at H
      split at H
      · rename_i x hx
        obtain ⟨h1, h2⟩ := pickOr_ok A hx
        have h2' := h2 (fun p hp => by cases hp)
        obtain ⟨e', eg', h3, h4⟩ := putE_ok H A h1 hdo (v := x.val bx) rfl
        exact text_yield ho B (.inl ⟨hw, fun w' _ => h2' w'⟩) (fun _ => .inl ⟨hw, fun w' _ => h2' w'⟩) (rest e' eg' bx _ w h3 h4 B (SameOut.refl w))
      · split at H
        · rename_i hE
          obtain ⟨x, hK, _, hco, hrun⟩ := read_ok H
          have hco' := hco (fun y c hy => coreOk_rd A y c hy)
          obtain ⟨e', eg', h3, h4⟩ := putE_ok hK A hco' hdo (v := x.val bx) rfl
          exact text_yield ho B (.inl ⟨hw, fun w' hw' => hrun a.eval w' (fun y c hy => rd_ok A (fun p hp => by cases hp) y c hy) hw'⟩) (fun h => by rw [hE] at h; cases h)
            (rest e' eg' bx _ w h3 h4 B (SameOut.refl w))
        · rename_i hE _
          exact effCase hw hE none (fun p hp => by cases hp) H
        · rename_i hnone; cases hnone
    · rename_i j wt hg
      have hwi := wanted_some (ops := ops) (a := a) hg
      split at H
      case h_2 => exact H.elim
      rename_i c hc
      have hcond := condOf_ok A 9 j wt c hc
      split at H
      · rename_i hE
        unfold vcOp at H
        split at H
        · rename_i x hx
          obtain ⟨h1, h2⟩ := pickOr_ok A hx
          by_cases hy : yielded ops a.tmps j = some wt
          · have h2' := h2 (fun p hp => by cases hp; exact hy)
            obtain ⟨e', eg', h3, h4⟩ := putE_ok H A h1 hdo (v := x.val bx) ⟨fun _ => rfl, fun h => absurd hy h⟩
            exact text_yield ho B (.inl ⟨hwi.2 hy, fun w' _ => h2' w'⟩) (fun h => by rw [hE] at h; cases h) (rest e' eg' bx _ w h3 h4 B (SameOut.refl w))
          · obtain ⟨e', eg', h3, h4⟩ := putE_ok H A h1 hdo (v := undef) ⟨fun h => absurd h hy, fun _ => rfl⟩
            have hwf : Region.wanted o (yielded ops a.tmps) = false := by
              cases hw : Region.wanted o (yielded ops a.tmps) with
              | false => rfl
              | true => exact absurd (hwi.1 hw) hy
            exact text_yield ho B (.inr ⟨hwf, rfl⟩) (fun h => by rw [hE] at h; cases h) (rest e' eg' bx _ w h3 h4 B (SameOut.refl w))
        · rename_i hnone
          split at H
          · obtain ⟨x, hK, _, hco, hrun⟩ := read_ok H
            have hco' := hco (fun y c hy => coreOk_rd A y c hy)
            by_cases hy : yielded ops a.tmps j = some wt
            · obtain ⟨e', eg', h3, h4⟩ := putE_ok hK A hco' hdo (v := x.val bx) ⟨fun _ => rfl, fun h => absurd hy h⟩
              have hct := hcond.1 hy
              exact text_yield ho B (.inl ⟨hwi.2 hy, fun w' hw' => hrun a.eval w' (fun y c hy' => rd_ok A (fun p hp => by cases hp; exact hy) y c hy') hw' hct⟩) (fun h => by rw [hE] at h; cases h)
                (rest e' eg' bx _ w h3 h4 B (SameOut.refl w))
            · obtain ⟨e', eg', h3, h4⟩ := putE_ok hK A hco' hdo (v := undef) ⟨fun h => absurd h hy, fun _ => rfl⟩
              have hwf : Region.wanted o (yielded ops a.tmps) = false := by
                cases hw : Region.wanted o (yielded ops a.tmps) with
                | false => rfl
                | true => exact absurd (hwi.1 hw) hy
              exact text_yield ho B (.inr ⟨hwf, rfl⟩) (fun h => by rw [hE] at h; cases h) (rest e' eg' bx _ w h3 h4 B (SameOut.refl w))
          · rename_i hE' hn'; cases hn'
          · rename_i hE' hn'; rw [hE] at hE'; cases hE'
      · rename_i hE
        unfold IfR at H
        by_cases hy : yielded ops a.tmps j = some wt
        · have H := H.1 (hcond.1 hy)
          unfold vcOps.vcOpE at H
          split at H
          · rename_i x hx
            obtain ⟨h1, h2⟩ := pickOr_ok A hx
            have h2' := h2 (fun p hp => by cases hp; exact hy)
            obtain ⟨e', eg', h3, h4⟩ := putE_ok H A h1 hdo (v := x.val bx) rfl
            exact text_yield ho B (.inl ⟨hwi.2 hy, fun w' _ => h2' w'⟩) (fun _ => .inl ⟨hwi.2 hy, fun w' _ => h2' w'⟩) (rest e' eg' bx _ w h3 h4 B (SameOut.refl w))
          · exact effCase (hwi.2 hy) hE (some (j, wt)) (fun p hp => by cases hp; exact hy) H
        · have hcf : c = false := by cases c with
            | false => rfl
            | true => exact absurd (hcond.2 rfl) hy
          have H := H.2 hcf
          obtain ⟨e', eg', h3, h4⟩ := putE_ok H A (x := .v _) trivial hdo (v := undef) ⟨fun h => absurd h hy, fun _ => rfl⟩
          have hwf : Region.wanted o (yielded ops a.tmps) = false := by
            cases hw : Region.wanted o (yielded ops a.tmps) with
            | false => rfl
            | true => exact absurd (hwi.1 hw) hy
          exact text_yield ho B (.inr ⟨hwf, rfl⟩) (fun _ => .inr ⟨hwf, rfl⟩) (rest e' eg' bx _ w h3 h4 B (SameOut.refl w))

/-- the orders that are looked at, one by one -/
theorem ops_tree : ∀ (t : Tr), (∀ o ∈ ops.toList, ∀ d, o.dst = some d → d < n) →
    ∀ (e : EnvC) (eg : EnvG) (bx : Boxes) (a : Act) (w : World), vcT P C ops.toList K t e eg bx w.heap → Agree ops e eg bx a → Boxed bx w.heap → a.tmps.size = n → SameOut w0 w →
    TreeRun P ops (RegQ n w0 K ops) (clsAt P C ops) t (fun w => BoxIn bx w.heap) a w
  | .nil, _, e, eg, bx, a, w, H, A, B, hn, hs => ⟨rfl, e, eg, bx, A, B, hn, hs, H⟩
  | .cons k t, hd, e, eg, bx, a, w, H, A, B, hn, hs => by
    simp only [vcT] at H
    split at H
    case h_2 => exact H.elim
    rename_i o ho
    have ho' : ops[k]? = some o := by
      have hn : ∀ (all : List Oper) (k : Nat), permL.nthO all k = all[k]? := by
        intro all
        induction all with
        | nil => intro k; simp [permL.nthO]
        | cons o r ih => intro k; cases k <;> simp [permL.nthO, ih]
      rw [hn] at ho
      simpa using ho
    simp only [TreeRun]
    exact ops_text (K := fun e eg bx h => vcT P C ops.toList K t e eg bx h) (fun e eg bx a w H A B hn hs => ops_tree t hd e eg bx a w H A B hn hs) [k] [o] (by simp [ho']) (fun o' h' => hd o' (by simp at h'; subst h'; exact Array.mem_toList_iff.2 (Array.mem_of_getElem? ho'))) e eg bx a w H A B hn hs
  | .both s t, hd, e, eg, bx, a, w, H, A, B, hn, hs => by
    simp only [vcT] at H
    unfold BothR at H
    exact ⟨ops_tree s hd e eg bx a w H.1 A B hn hs, ops_tree t hd e eg bx a w H.2 A B hn hs⟩

end
end Go.Eng
