/-
  The engine, soundness, last part: code, and functions.
-/
import Derived.Test.YtlloemmpnhoanaaGreatEngV
set_option linter.all false
namespace Go.Eng
open Go

/-- what is known of a frame between regions -/
structure AgreeC (n : Nat) (e : EnvC) (bx : Boxes) (a : Act) : Prop where
  size : a.tmps.size = n
  defers : a.defers = []
  env : ∀ t c, lookC e t = some c → a.tmps[t]? = some (c.val bx) ∧ coreOk bx c

theorem AgreeC.agree {n : Nat} {e : EnvC} {bx : Boxes} {a : Act} (A : AgreeC n e bx a) (ops : Array Oper) : Agree ops e [] bx a :=
  ⟨A.defers, fun t c h _ => A.env t c h, fun t j w c h => by cases h⟩

theorem AgreeC.fewer {n : Nat} {e e' : EnvC} {bx : Boxes} {a : Act} (A : AgreeC n e bx a) (h : ∀ t c, lookC e' t = some c → lookC e t = some c) : AgreeC n e' bx a :=
  ⟨A.size, A.defers, fun t c hl => A.env t c (h t c hl)⟩

theorem keepE_ok : ∀ (L : List Nat) (e : EnvC) (K : EnvC → Prop), keepE L e K → ∃ e', K e' ∧ ∀ t c, lookC e' t = some c → lookC e t = some c
  | [], e, K, h => ⟨[], h, fun t c hl => by cases hl⟩
  | t :: L, e, K, h => by
    simp only [keepE] at h
    split at h
    · rename_i c hc
      obtain ⟨e', h1, h2⟩ := keepE_ok L e _ h
      refine ⟨_, h1, fun t' c' hl => ?_⟩
      simp only [lookC] at hl
      split at hl
      · rename_i hb
        have := Nat.eq_of_beq_eq_true hb
        subst this
        simp at hl; subst hl; exact hc
      · exact h2 t' c' hl
    · exact keepE_ok L e K h

theorem keepG_ok : ∀ (L : List Nat) (e : EnvC) (eg : EnvG) (K : EnvC → Prop), keepG L e eg K → ∃ e', K e' ∧ ∀ t c, lookC e' t = some c → lookC e t = some c ∧ lookG eg t = none
  | [], e, eg, K, h => ⟨[], h, fun t c hl => by cases hl⟩
  | t :: L, e, eg, K, h => by
    simp only [keepG] at h
    split at h
    · exact keepG_ok L e eg K h
    · rename_i hg
      split at h
      · rename_i c hc
        obtain ⟨e', h1, h2⟩ := keepG_ok L e eg _ h
        refine ⟨_, h1, fun t' c' hl => ?_⟩
        simp only [lookC] at hl
        split at hl
        · rename_i hb
          have := Nat.eq_of_beq_eq_true hb
          subst this
          simp at hl; subst hl; exact ⟨hc, hg⟩
        · exact h2 t' c' hl
      · exact keepG_ok L e eg K h

theorem keepB_ok : ∀ (L : List Nat) (bx : Boxes) (K : Boxes → Prop), keepB L bx K → ∃ bx', K bx' ∧ ∀ k x, lookB bx' k = some x → lookB bx k = some x
  | [], bx, K, h => ⟨[], h, fun t c hl => by cases hl⟩
  | k :: L, bx, K, h => by
    simp only [keepB] at h
    split at h
    · rename_i b vs hc
      obtain ⟨bx', h1, h2⟩ := keepB_ok L bx _ h
      refine ⟨_, h1, fun k' x hl => ?_⟩
      simp only [lookB] at hl
      split at hl
      · rename_i hb
        have := Nat.eq_of_beq_eq_true hb
        subst this
        simp at hl; subst hl; exact hc
      · exact h2 k' x hl
    · exact keepB_ok L bx K h

theorem coresIn_ok {bx : Boxes} : ∀ (e : EnvC), coresIn bx e = true → ∀ t c, lookC e t = some c → coreOk bx c
  | [], _, t, c, h => by cases h
  | (t', c') :: r, hc, t, c, h => by
    have hr : coresIn bx r = true ∧ coreOk bx c' := by
      cases c' with
      | v x => exact ⟨hc, trivial⟩
      | lp k off => simp only [coresIn] at hc; split at hc
                    · rename_i hk; exact ⟨hc, by simp [coreOk, hk]⟩
                    · cases hc
      | li k off => simp only [coresIn] at hc; split at hc
                    · rename_i hk; exact ⟨hc, by simp [coreOk, hk]⟩
                    · cases hc
    simp only [lookC] at h
    split at h
    · simp at h; subst h; exact hr.2
    · exact coresIn_ok r hr.1 t c h

theorem properB_ok : ∀ (bx : Boxes), properB bx = true → Proper bx
  | [], _ => trivial
  | (k, _, _) :: r, h => by
    simp only [properB] at h
    split at h
    · cases h
    · rename_i hk; exact ⟨hk, properB_ok r h⟩

theorem keepS_ok {n : Nat} {L B : List Nat} {e : EnvC} {bx : Boxes} {a : Act} {h : Heap} {K : EnvC → Boxes → Prop} (H : keepS L B e bx K) (A : AgreeC n e bx a) (X : Boxed bx h) :
    ∃ e' bx', K e' bx' ∧ AgreeC n e' bx' a ∧ Boxed bx' h := by
  unfold keepS at H
  obtain ⟨e', H, he⟩ := keepE_ok L e _ H
  obtain ⟨bx', H, hb⟩ := keepB_ok B bx _ H
  split at H
  case h_2 => exact H.elim
  rename_i hc hp
  refine ⟨e', bx', H, ⟨A.size, A.defers, fun t c hl => ?_⟩, ⟨fun k b vs hk => X.boxIn k b vs (hb _ _ hk), fun k k' b b' vs vs' h1 h2 hne => X.distinct k k' b b' vs vs' (hb _ _ h1) (hb _ _ h2) hne, properB_ok _ hp⟩⟩
  have h1 := A.env t c (he t c hl)
  have h2 := coresIn_ok e' hc t c hl
  refine ⟨?_, h2⟩
  have hval : c.val bx' = c.val bx := by
    cases c with
    | v x => rfl
    | lp k off =>
      simp only [coreOk] at h2
      obtain ⟨x, hx⟩ := Option.isSome_iff_exists.1 h2
      simp [Core.val, blk, hx, hb _ _ hx]
    | li k off =>
      simp only [coreOk] at h2
      obtain ⟨x, hx⟩ := Option.isSome_iff_exists.1 h2
      simp [Core.val, blk, hx, hb _ _ hx]
  rw [hval]; exact h1.1

/-- what the model must come to -/
def EndQ (n : Nat) (w0 : World) (Q : Post) : Exit → Act → World → Prop := fun x a w =>
  (match x with | .normal => True | .exit _ => True | .ret => True | _ => False) ∧ ∃ e bx, AgreeC n e bx a ∧ Boxed bx w.heap ∧ SameOut w0 w ∧ Q x e bx w.heap

theorem EndQ.from {n : Nat} {w0 w1 : World} {Q : Post} (h : SameOut w0 w1) {x : Exit} {a : Act} {w : World} (hq : EndQ n w1 Q x a w) : EndQ n w0 Q x a w :=
  let ⟨h1, e, bx, h2, h3, h4, h5⟩ := hq
  ⟨h1, e, bx, h2, h3, h.trans h4, h5⟩

theorem perm_map (ops : Array Oper) : ∀ (l : List Nat), (∀ k ∈ l, k < ops.size) → l.map (ops[·]?) = (permL ops.toList l).map some
  | [], _ => rfl
  | k :: l, h => by
    have hk : k < ops.size := h k (by simp)
    have hn : ∀ (all : List Oper) (k : Nat), permL.nthO all k = all[k]? := by
      intro all
      induction all with
      | nil => intro k; simp [permL.nthO]
      | cons o r ih => intro k; cases k <;> simp [permL.nthO, ih]
    simp only [permL, List.map_cons, hn]
    have : ops.toList[k]? = some ops[k] := by simp [hk]
    rw [this]
    simp only [List.map_cons]
    rw [perm_map ops l (fun k hk => h k (by simp [hk]))]
    simp [hk]

theorem range_map (ops : Array Oper) : (List.range ops.size).map (ops[·]?) = ops.toList.map some := by
  apply List.ext_getElem
  · simp
  · intro i h1 h2
    simp at h1
    simp [h1]

/-- the text's order, where no order is drawn -/
theorem text_seq {P : Program} {ops : Array Oper} {Q : Exit → Act → World → Prop} {cls : Nat → Cls} : ∀ (l : List Nat) (B : World → Prop) (a : Act) (w : World), B w → TextRun P ops Q (fun _ a w => Q .normal a w) cls l B a w → wpOps P ops Q l a w
  | [], B, a, w, _, h => h
  | k :: l, B, a, w, hB, h => by
    rw [wpOps_cons]
    simp only [TextRun] at h
    split at h
    · obtain ⟨o, v, ho, hy, ht⟩ := h
      exact hy.wpOp ho trivial (text_seq l B _ w hB ht)
    · obtain ⟨o, v, ho, hy, ht⟩ := h
      exact hy.wpOp ho hB (text_seq l B _ w hB ht)
    · obtain ⟨o, v, ho, hy, ht⟩ := h
      exact hy.wpOp ho (HExt.refl w) (text_seq l B _ w hB ht)
    · exact wpOp_mono (fun a' w' h' => let ⟨_, B', h1, _, h3⟩ := h'; text_seq l B' a' w' h1 h3) h
    · exact wpOp_mono (fun a' w' h' => text_seq l B a' w' h'.1 h'.2) h
    · exact wpOp_mono (fun a' w' h' => let ⟨B', h1, h3⟩ := h'; text_seq l B' a' w' h1 h3) h

theorem regQ_end {n : Nat} {w0 : World} {C : Cfg} {Q : Post} {ops : Array Oper} {x : Exit} {a : Act} {w : World}
    (h : RegQ n w0 (fun e eg bx h => keepG C.keep e eg fun e => Q .normal e bx h) ops x a w) : EndQ n w0 Q x a w := by
  obtain ⟨rfl, e, eg, bx, A, B, hn, hs, hK⟩ := h
  obtain ⟨e', h1, h2⟩ := keepG_ok C.keep e eg _ hK
  exact ⟨trivial, e', bx, ⟨hn, A.defers, fun t c hl => A.env t c (h2 t c hl).1 (h2 t c hl).2⟩, B, hs, h1⟩

theorem vc_ok {P : Program} {C : Cfg} {n : Nat} (hm : P.follows .mixedOrders = true) : ∀ (c : Code) (Q : Post) (e : EnvC) (bx : Boxes) (a : Act) (w : World), codeOK P C n c = true →
    vc P C c Q e bx w.heap → AgreeC n e bx a → Boxed bx w.heap → c.wp P (EndQ n w Q) a w
  | .skip, Q, e, bx, a, w, _, H, A, B => wp_skip ⟨trivial, e, bx, A, B, SameOut.refl w, H⟩
  | .label _, Q, e, bx, a, w, _, H, A, B => wp_label ⟨trivial, e, bx, A, B, SameOut.refl w, H⟩
  | .exit id, Q, e, bx, a, w, _, H, A, B => wp_exit ⟨trivial, e, bx, A, B, SameOut.refl w, H⟩
  | .ret, Q, e, bx, a, w, _, H, A, B => wp_ret ⟨trivial, e, bx, A, B, SameOut.refl w, H⟩
  | .seq x y, Q, e, bx, a, w, hok, H, A, B => by
    simp only [codeOK, Bool.and_eq_true] at hok
    have main : vc P C x (fun z e bx h => match z with | .normal => vc P C y Q e bx h | z => Q z e bx h) e bx w.heap → (Code.seq x y).wp P (EndQ n w Q) a w := fun H => by
      refine wp_seq (wp_mono (vc_ok hm x _ e bx a w hok.1 H A B) fun z a' w' hq => ?_)
      obtain ⟨h1, e', bx', A', B', hs, hK⟩ := hq
      cases z with
      | normal => exact wp_mono (vc_ok hm y Q e' bx' a' w' hok.2 hK A' B') fun z a'' w'' hq => hq.from hs
      | exit id => exact ⟨trivial, e', bx', A', B', hs, hK⟩
      | ret => exact ⟨trivial, e', bx', A', B', hs, hK⟩
      | goto l => exact h1.elim
      | panic ch => exact h1.elim
      | outgrown => exact h1.elim
    simp only [vc] at H
    split at H
    · unfold MeetR at H; exact main H
    · exact main H
  | .cond c x y, Q, e, bx, a, w, hok, H, A, B => by
    simp only [codeOK, Bool.and_eq_true] at hok
    simp only [vc] at H
    split at H
    case h_2 => exact H.elim
    rename_i t hc
    have hev := rd_ok (A.agree #[]) (g := none) (fun p hp => by cases hp) c _ hc
    unfold IfR at H
    refine wp_cond_split hev (fun ht => ?_) (fun ht => ?_)
    · exact vc_ok hm x Q e bx a w hok.1 (H.1 ht) A B
    · exact vc_ok hm y Q e bx a w hok.2 (H.2 ht) A B
  | .block id x, Q, e, bx, a, w, hok, H, A, B => by
    simp only [codeOK] at hok
    simp only [vc] at H
    refine wp_block (wp_mono (vc_ok hm x _ e bx a w hok H A B) fun z a' w' hq => ?_)
    obtain ⟨h1, e', bx', A', B', hs, hK⟩ := hq
    cases z with
    | normal => exact ⟨trivial, e', bx', A', B', hs, hK⟩
    | exit j =>
      simp only at hK
      by_cases hj : j = id
      · subst hj
        simp only [Nat.beq_refl] at hK
        exact show Exit.inBlock _ _ _ _ _ from by simp only [Exit.inBlock, if_true]; exact ⟨trivial, e', bx', A', B', hs, hK⟩
      · have hb : Nat.beq j id = false := by cases hb : Nat.beq j id with | false => rfl | true => exact absurd (Nat.eq_of_beq_eq_true hb) hj
        rw [hb] at hK
        exact show Exit.inBlock _ _ _ _ _ from by simp only [Exit.inBlock, hj, if_false]; exact ⟨trivial, e', bx', A', B', hs, hK⟩
    | ret => exact ⟨trivial, e', bx', A', B', hs, hK⟩
    | goto l => exact h1.elim
    | panic ch => exact h1.elim
    | outgrown => exact h1.elim
  | .loop x, Q, e, bx, a, w, hok, H, A, B => by
    simp only [codeOK] at hok
    simp only [vc] at H
    unfold LoopR at H
    obtain ⟨L, Bs, I, ⟨d, h0⟩, round⟩ := H
    have start : ∀ (d : Nat) (e : EnvC) (bx : Boxes) (a' : Act) (w' : World), SameOut w w' → AgreeC n e bx a' → Boxed bx w'.heap → (keepS L Bs e bx fun e bx => I d e bx w'.heap) →
        ∃ e bx, AgreeC n e bx a' ∧ Boxed bx w'.heap ∧ SameOut w w' ∧ I d e bx w'.heap := fun d e bx a' w' hs A B h => by
      obtain ⟨e', bx', h1, h2, h3⟩ := keepS_ok h A B
      exact ⟨e', bx', h2, h3, hs, h1⟩
    refine wp_loop_ghost (fun d a' w' => ∃ e bx, AgreeC n e bx a' ∧ Boxed bx w'.heap ∧ SameOut w w' ∧ I d e bx w'.heap) d (start d e bx a w (SameOut.refl w) A B h0) fun d a' w' hI => ?_
    obtain ⟨e', bx', A', B', hs, hI⟩ := hI
    refine wp_mono (vc_ok hm x _ e' bx' a' w' hok (round d e' bx' w'.heap hI) A' B') fun z a'' w'' hq => ?_
    obtain ⟨h1, e'', bx'', A'', B'', hs', hK⟩ := hq
    cases z with
    | normal =>
      obtain ⟨d', hlt, hk⟩ := hK
      exact ⟨d', hlt, start d' e'' bx'' a'' w'' (hs.trans hs') A'' B'' hk⟩
    | exit id => exact ⟨trivial, e'', bx'', A'', B'', hs.trans hs', hK⟩
    | ret => exact ⟨trivial, e'', bx'', A'', B'', hs.trans hs', hK⟩
    | goto l => exact h1.elim
    | panic ch => exact h1.elim
    | outgrown => exact h1.elim
  | .scope x, Q, e, bx, a, w, hok, H, A, B => by
    simp only [codeOK] at hok
    simp only [vc] at H
    refine wp_scope_straight (wp_mono (vc_ok hm x _ e bx a w hok H A B) fun z a' w' hq => ?_)
    obtain ⟨h1, e', bx', A', B', hs, hK⟩ := hq
    cases z with
    | normal => exact ⟨trivial, e', bx', A', B', hs, hK⟩
    | exit id => exact ⟨trivial, e', bx', A', B', hs, hK⟩
    | ret => exact ⟨trivial, e', bx', A', B', hs, hK⟩
    | goto l => exact h1.elim
    | panic ch => exact h1.elim
    | outgrown => exact h1.elim
  | .region id ops false, Q, e, bx, a, w, hok, H, A, B => by
    simp only [codeOK, Bool.and_eq_true] at hok
    simp only [vc] at H
    have hd : ∀ o ∈ ops.toList, ∀ d, o.dst = some d → d < n := fun o ho d hd => by
      have := Array.all_eq_true'.1 hok.1 o (by simpa using ho)
      rw [hd] at this
      simpa using this
    have ht := ops_text (P := P) (C := C) (ops := ops) (n := n) (w0 := w) (Q := RegQ n w (fun e eg bx h => keepG C.keep e eg fun e => Q .normal e bx h) ops) (F := fun _ a' w' => RegQ n w (fun e eg bx h => keepG C.keep e eg fun e => Q .normal e bx h) ops .normal a' w') (fun e eg bx a w H A B hn hs => ⟨rfl, e, eg, bx, A, B, hn, hs, H⟩) (List.range ops.size) ops.toList (range_map ops) hd e [] bx a w H (A.agree ops) B A.size (SameOut.refl w)
    exact wp_mono (wp_region (text_seq _ _ a w B.boxIn ht)) fun z a' w' hq => regQ_end hq
  | .region id ops true, Q, e, bx, a, w, hok, H, A, B => by
    simp only [codeOK, Bool.and_eq_true, Bool.not_true, Bool.false_or, decide_eq_true_eq] at hok
    simp only [vc] at H
    obtain ⟨hok1, hok⟩ := hok
    cases htr : trOf C.trs id with
    | some t =>
    rw [htr] at hok H
    simp only [Bool.and_eq_true, decide_eq_true_eq] at hok
    obtain ⟨⟨hlen, hsel⟩, hdr⟩ := hok
    have hd : ∀ o ∈ ops.toList, ∀ d, o.dst = some d → d < n := fun o ho d hd => by
      have := Array.all_eq_true'.1 hok1 o (by simpa using ho)
      rw [hd] at this
      simpa using this
    have hB' : Boxed bx ({ w with drawn := w.drawn + 1 } : World).heap := B
    have ht := ops_tree (P := P) (C := C) (ops := ops) (n := n) (w0 := w) t hd e [] bx a { w with drawn := w.drawn + 1 } H (A.agree ops) hB' A.size ⟨rfl, rfl, rfl⟩
    exact wp_mono (wp_region_tree hm hlen hsel hdr (fun c a w i o v _ h => by obtain ⟨h1, _⟩ := h; cases h1) B.boxIn ht) fun z a' w' hq => regQ_end hq
    | none =>
    rw [htr] at hok H
    simp only [Bool.and_eq_true, decide_eq_true_eq] at hok
    obtain ⟨⟨⟨hlen, hall⟩, hsel⟩, hdr⟩ := hok
    simp only at H
    have hd : ∀ o ∈ ops.toList, ∀ d, o.dst = some d → d < n := fun o ho d hd => by
      have := Array.all_eq_true'.1 hok1 o (by simpa using ho)
      rw [hd] at this
      simpa using this
    have hB' : Boxed bx ({ w with drawn := w.drawn + 1 } : World).heap := B
    have fin : ∀ (l : List Nat) (os : List Oper), l.map (ops[·]?) = os.map some → (∀ o ∈ os, o ∈ ops.toList) → l.length = ops.size → (∀ k ∈ l, k < ops.size) → drawB ops (clsAt P C ops) l (Array.replicate ops.size false) = true →
        vcOps P C ops.toList (fun e eg bx h => keepG C.keep e eg fun e => Q .normal e bx h) os e [] bx w.heap → (Code.region id ops true).wp P (EndQ n w Q) a w := fun l os hmap hsub hlen hlt hdr H => by
      have ht := ops_text (P := P) (C := C) (ops := ops) (n := n) (w0 := w) (Q := RegQ n w (fun e eg bx h => keepG C.keep e eg fun e => Q .normal e bx h) ops) (F := fun _ a' w' => RegQ n w (fun e eg bx h => keepG C.keep e eg fun e => Q .normal e bx h) ops .normal a' w') (fun e eg bx a w H A B hn hs => ⟨rfl, e, eg, bx, A, B, hn, hs, H⟩) l os hmap (fun o ho => hd o (hsub o ho)) e [] bx a { w with drawn := w.drawn + 1 } H (A.agree ops) hB' A.size ⟨rfl, rfl, rfl⟩
      exact wp_mono (wp_region_text hm hlen hlt hsel hdr (fun c a w i o v _ h => by obtain ⟨h1, _⟩ := h; cases h1) B.boxIn ht) fun z a' w' hq => regQ_end hq
    have hmem : ∀ (l : List Nat), ∀ o ∈ permL ops.toList l, o ∈ ops.toList := by
      intro l
      have hn : ∀ (all : List Oper) (k : Nat), permL.nthO all k = all[k]? := by
        intro all
        induction all with
        | nil => intro k; simp [permL.nthO]
        | cons o r ih => intro k; cases k <;> simp [permL.nthO, ih]
      induction l with
      | nil => intro o ho; cases ho
      | cons k l ih =>
        intro o ho
        simp only [permL] at ho
        split at ho
        · rename_i o' ho'
          simp only [List.mem_cons] at ho
          rcases ho with rfl | ho
          · rw [hn] at ho'; exact List.mem_of_getElem? ho'
          · exact ih o ho
        · exact ih o ho
    split at H
    · rename_i hord
      rw [hord] at hlen hall hdr
      simp only [Option.getD_none] at hlen hall hdr
      exact fin (List.range ops.size) ops.toList (range_map ops) (fun o h => h) (by simp) (fun k hk => by simpa using hk) hdr H
    · rename_i l hord
      rw [hord] at hlen hall hdr
      simp only [Option.getD_some] at hlen hall hdr
      have hlt : ∀ k ∈ l, k < ops.size := fun k hk => by simpa using List.all_eq_true.1 hall k hk
      exact fin l (permL ops.toList l) (perm_map ops l hlt) (hmem l) hlen hlt hdr H
  | .rangeFunc _ _ _ _, Q, e, bx, a, w, _, H, A, B => H.elim
  | .goto _, Q, e, bx, a, w, _, H, A, B => H.elim
  | .refuse _, Q, e, bx, a, w, _, H, A, B => H.elim

/-- what a function hands back -/
def retV (P : Program) (e : EnvC) (bx : Boxes) (h : Heap) : List ResultVar → (List Value → Prop) → Prop
  | [], K => K []
  | .tmp t :: r, K => (match lookC e t with | some (.v x) => retV P e bx h r fun l => K (x :: l) | _ => False)
  | .cell t ty :: r, K => (match lieOf P ty, lookC e t with
    | some .one, some (.lp k off) => (match lookB bx k with
      | some (_, vs) => (match nth vs off with | some v => retV P e bx h r fun l => K (v :: l) | none => False)
      | none => False)
    | some (.agg n), some (.lp k off) => (match lookB bx k with
      | some (_, vs) => (match takeL n (dropL off vs) with | some c => retV P e bx h r fun l => K (.agg ⟨c⟩ :: l) | none => False)
      | none => False)
    | some .one, some (.v (.pointer (some ⟨b, off, none⟩))) => LoadR none h b off fun v => retV P e bx h r fun l => K (v :: l)
    | some (.agg n), some (.v (.pointer (some ⟨b, off, none⟩))) => LoadN none h b off n fun c => retV P e bx h r fun l => K (.agg ⟨c⟩ :: l)
    | _, _ => False)
def retK (P : Program) (e : EnvC) (bx : Boxes) (h : Heap) (K : Value → Prop) (rs : List ResultVar) : Prop :=
  retV P e bx h rs fun l => match l with | [x] => K x | l => K (.tuple ⟨l⟩)

def initE : Nat → List Value → EnvC
  | _, [] => []
  | n, v :: r => (n, .v v) :: initE (n + 1) r

/-- what is asked of a function -/
def vcFn (P : Program) (C : Cfg) (rs : List ResultVar) (c : Code) (args : List Value) (h : Heap) (K : Value → Heap → Prop) : Prop :=
  vc P C c (fun x e bx h => match x with | .normal => retK P e bx h (fun v => K v h) rs | .ret => retK P e bx h (fun v => K v h) rs | _ => False) (initE 0 args) [] h

theorem lookC_init : ∀ (l : List Value) (n t : Nat) (c : Core), lookC (initE n l) t = some c → ∃ i v, t = n + i ∧ l[i]? = some v ∧ c = .v v
  | [], n, t, c, h => by cases h
  | v :: r, n, t, c, h => by
    simp only [initE, lookC] at h
    split at h
    · rename_i hb
      have := Nat.eq_of_beq_eq_true hb
      simp at h
      exact ⟨0, v, by omega, by simp, h.symm⟩
    · obtain ⟨i, v', h1, h2, h3⟩ := lookC_init r (n + 1) t c h
      exact ⟨i + 1, v', by omega, by simpa using h2, h3⟩

theorem loadVar_of {P : Program} {t : TypeId} {b off : Nat} {v : Value} {w : World} (h : (Instr.loadAt t (.pointer (some ⟨b, off, none⟩))).run P w = .ok v w) : (loadVar t ⟨b, off, none⟩).run P w = .ok v w := by
  simpa [Instr.loadAt, Instr.sureAddr] using h

theorem retV_ok {P : Program} {n : Nat} {e : EnvC} {bx : Boxes} {a : Act} {w : World} (A : AgreeC n e bx a) (B : Boxed bx w.heap) : ∀ (rs : List ResultVar) (K : List Value → Prop), retV P e bx w.heap rs K →
    ∃ l, (rs.mapM (fun | .tmp t => pure (a.tmps.getD t undef) | .cell c t => do loadVar t (← asAddr (a.tmps.getD c undef)) : ResultVar → Sem Value)).run P w = .ok l w ∧ K l
  | [], K, h => ⟨[], by simp, h⟩
  | .tmp t :: r, K, h => by
    simp only [retV] at h
    split at h
    · rename_i x hl
      obtain ⟨l, h1, h2⟩ := retV_ok A B r _ h
      have hx := (A.env t _ hl).1
      refine ⟨x :: l, ?_, h2⟩
      simp only [List.mapM_cons, Sem.run_bind, Sem.run_pure, Result.andThen_ok, h1]
      simp [hx, Core.val]
    · exact h.elim
  | .cell t ty :: r, K, h => by
    simp only [retV] at h
    have fin : ∀ (b off : Nat) (v : Value), a.tmps[t]? = some (.pointer (some ⟨b, off, none⟩)) → (Instr.loadAt ty (.pointer (some ⟨b, off, none⟩))).run P w = .ok v w → retV P e bx w.heap r (fun l => K (v :: l)) →
        ∃ l, ((ResultVar.cell t ty :: r).mapM (fun | .tmp t => pure (a.tmps.getD t undef) | .cell c t => do loadVar t (← asAddr (a.tmps.getD c undef)) : ResultVar → Sem Value)).run P w = .ok l w ∧ K l := by
      intro b off v ht hv hr
      obtain ⟨l, h1, h2⟩ := retV_ok A B r _ hr
      refine ⟨v :: l, ?_, h2⟩
      simp only [List.mapM_cons, Sem.run_bind, Sem.run_pure, Result.andThen_ok]
      have : a.tmps.getD t undef = .pointer (some ⟨b, off, none⟩) := by simp [ht]
      rw [this]
      have hA : (asAddr (.pointer (some ⟨b, off, none⟩))).run P w = .ok ⟨b, off, none⟩ w := by simp [asAddr]
      simp only [hA, Result.andThen_ok, loadVar_of hv, h1]
    have bxc : ∀ k b vs, lookB bx k = some (b, vs) → ∀ off, Heap.cell? w.heap b off = vs[off]? := fun k b vs hb off => by
      obtain ⟨T, hT⟩ := B.boxIn k b vs hb
      simp [Heap.cell?, hT]
    split at h
    · rename_i k off hl hx
      split at h
      · rename_i b vs hb
        split at h
        · rename_i v hv
          rw [nth_eq] at hv
          refine fin b off v ?_ (load_one hl (by rw [bxc k b vs hb]; exact hv)) h
          have := (A.env t _ hx).1
          simpa [Core.val, blk_of hb] using this
        · exact h.elim
      · exact h.elim
    · rename_i n' k off hl hx
      split at h
      · rename_i b vs hb
        split at h
        · rename_i c hv
          obtain ⟨h1, h2⟩ := takeL_eq _ _ _ hv
          rw [dropL_eq] at h1
          refine fin b off _ ?_ (load_agg hl h2 (fun j hj => by rw [bxc k b vs hb, h1]; simp [hj])) h
          have := (A.env t _ hx).1
          simpa [Core.val, blk_of hb] using this
        · exact h.elim
      · exact h.elim
    · rename_i b off hl hx
      unfold LoadR at h
      obtain ⟨v, hv, hK⟩ := h
      exact fin b off v (by simpa [Core.val] using (A.env t _ hx).1) (load_one hl hv) hK
    · rename_i n' b off hl hx
      unfold LoadN at h
      obtain ⟨vs, hn, hv, hK⟩ := h
      exact fin b off _ (by simpa [Core.val] using (A.env t _ hx).1) (load_agg hl hn hv) hK
    · exact h.elim

theorem retK_ok {P : Program} {fn : Func} {n : Nat} {e : EnvC} {bx : Boxes} {a : Act} {w : World} {K : Value → Prop} (A : AgreeC n e bx a) (B : Boxed bx w.heap) (h : retK P e bx w.heap K fn.results.toList) :
    ∃ v, (results fn a.tmps).run P w = .ok v w ∧ K v := by
  obtain ⟨l, h1, h2⟩ := retV_ok A B _ _ h
  have h3 : (results fn a.tmps).run P w = .ok (if h : (⟨l⟩ : Array Value).size = 1 then (⟨l⟩ : Array Value)[0] else .tuple ⟨l⟩) w := by
    unfold results
    simp only [Sem.run_bind]
    rw [Array.mapM_eq_mapM_toList]
    simp only [Sem.run_map]
    erw [h1]
    rfl
  refine ⟨_, h3, ?_⟩
  match l, h2 with
  | [], h2 => exact h2
  | [x], h2 => exact h2
  | x :: y :: r, h2 => simpa using h2

theorem call_of {P : Program} (hm : P.follows .mixedOrders = true) {f : Nat} {fn : Func} {c : Code} {C : Cfg} (hf : P.funcs[f]? = some fn) (hb : fn.body = some c)
    (hok : codeOK P C fn.ntmps c = true) {args : List Value} (hlen : args.length ≤ fn.ntmps) {h : Heap} {K : Value → Heap → Prop} (H : vcFn P C fn.results.toList c args h K) : CallH P f args h K := by
  intro w hw
  subst hw
  refine calls_of_wp hf hb (wp_mono (vc_ok hm c _ (initE 0 args) [] _ w hok H ⟨?_, rfl, fun t cr hl => ?_⟩ ⟨fun k b vs hk => (by cases hk), fun k k' b b' vs vs' hk => (by cases hk), trivial⟩) fun z a' w' hq => ?_)
  · simp; omega
  · obtain ⟨i, v, rfl, hi, rfl⟩ := lookC_init args 0 t cr hl
    refine ⟨?_, trivial⟩
    have hlt : i < args.length := by
      rcases Nat.lt_or_ge i args.length with h | h
      · exact h
      · simp [List.getElem?_eq_none h] at hi
    simp [Array.getElem?_append, hlt, Core.val]
    simpa [hlt] using hi
  · obtain ⟨h1, e', bx', A', B', hs, hK⟩ := hq
    cases z with
    | normal =>
      obtain ⟨v, hv, hK⟩ := retK_ok (P := P) (w := w') A' B' hK
      exact ⟨A'.defers, v, hv, v, rfl, hs, hK⟩
    | ret =>
      obtain ⟨v, hv, hK⟩ := retK_ok (P := P) (w := w') A' B' hK
      exact ⟨A'.defers, v, hv, v, rfl, hs, hK⟩
    | exit id => exact hK.elim
    | goto l => exact h1.elim
    | panic ch => exact h1.elim
    | outgrown => exact h1.elim

end Go.Eng
