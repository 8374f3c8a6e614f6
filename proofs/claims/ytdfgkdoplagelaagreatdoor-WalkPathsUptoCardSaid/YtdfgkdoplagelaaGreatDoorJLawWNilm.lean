/-
  Joined texts: WldB, EntB, MemB, MemC, LayA, LayB, BegA, BegB, LivA, LivB, WlkA.
-/
import Derived.Test.YtdfgkdoplagelaaGreatDoorJLawWNill
import Derived.Test.YtdfgkdoplagelaaGreatDoorJLawWNilj
import Derived.Test.YtdfgkdoplagelaaGreatDoorJLawWNili
import Derived.Test.YtdfgkdoplagelaaGreatDoorJLawWNilk
import Derived.Test.YtdfgkdoplagelaaGreatDoorJLawWNilf
/-
  Layer 12's statements: a file is put.
-/
set_option linter.all false
set_option maxRecDepth 100000
set_option maxHeartbeats 8000000
namespace Go.Proofs.YtdfgkdoplagelaaGreatDoor
open Go Go.Eng

def datOf (f : Fil) : List UInt8 := if kindOf f = 2 then [] else f.data.take 130

/-- what a file that is put comes to -/
def PutT (T : List Nod) (num : List Int) (f : Fil) (T' : List Nod) (num' : List Int) : Prop :=
  (T' = T ∧ num' = num) ∨
  ∃ n, 2 ≤ n ∧ n < 24 ∧ (∀ i, inT T i → nu num i ≠ n) ∧ (∀ k, 2 ≤ k → k < n → ∃ i, inT T i ∧ nu num i = k) ∧
    T' = nset T (dirOf f T.length) (insL (tn T (dirOf f T.length)).names ⟨f.name, (T.length : Int)⟩) ++ [⟨n, kindOf f, 1, datOf f, []⟩] ∧ num' = num ++ [n]
def PutG (T : List Nod) (f : Fil) : Prop := (tn T (dirOf f T.length)).kind = 2 ∧ nameB f.name = true ∧ plT (tn T (dirOf f T.length)).names f.name = false ∧ (tn T (dirOf f T.length)).names.length < 10

theorem names_few {B : Int → UInt64} {X : VS} {S : FS} {T : List Nod} {num : List Int} (W : WI B X S T num) {i : Int} (hi : inT T i) (hk : (tn T i).kind = 2) : (tn T i).names.length ≤ 105 := by
  obtain ⟨q1, _, _⟩ := W.w.dir i hi hk
  have hr := W.w.rng i hi
  obtain ⟨m, D⟩ := (W.fs.node (nu num i) (by omega) hr.2).dir (by rw [(W.w.kind i hi).1]; exact hk)
  have h1 := D.few
  rw [q1, List.length_map] at h1
  exact h1

def putBk (V : VL) (w t : Nat) (aT aN : Option Addr) : List Nat := [V.ob, V.sb, V.mb] ++ ([t, w] ++ (blkA aT ++ blkA aN))
theorem putB_in {h : Heap} {z w t : Nat} {V : VL} {aT : Option Addr} {cT : Nat} {L : List NodH} {aN : Option Addr} {cN : Nat} {num : List Int} (H : WorldH h z w t V aT cT L aN cN num) : ∀ x ∈ putBk V w t aT aN, x ∈ V.blocks ∨ z ≤ x := by
  intro x hx
  obtain ⟨z1, z2, z3, z4⟩ := H.zw
  rcases List.mem_append.1 hx with hx | hx
  · left
    simp at hx
    rcases hx with rfl | rfl | rfl <;> simp [VL.blocks]
  · right
    rcases List.mem_append.1 hx with hx | hx
    · simp at hx; omega
    · rcases List.mem_append.1 hx with hx | hx
      · exact z3 x hx
      · exact z4 x hx

theorem subF (a b c d e f g : Nat) (l m : List Nat) : (∀ x ∈ [a, b, c] ++ [d, e], x ∈ [a, b, c] ++ ([d, e, f, g] ++ (l ++ m))) ∧ (∀ x ∈ [b], x ∈ [a, b, c] ++ ([d, e, f, g] ++ (l ++ m))) ∧ (∀ x ∈ [a], x ∈ [a, b, c] ++ ([d, e, f, g] ++ (l ++ m))) ∧ (∀ x ∈ [a, b, c], x ∈ [a, b, c] ++ ([d, e, f, g] ++ (l ++ m))) ∧
    (∀ x ∈ l, x ∈ [a, b, c] ++ ([d, e, f, g] ++ (l ++ m))) ∧ (∀ x ∈ [f], x ∈ [a, b, c] ++ ([d, e, f, g] ++ (l ++ m))) ∧ (∀ x ∈ m, x ∈ [a, b, c] ++ ([d, e, f, g] ++ (l ++ m))) ∧ (∀ x ∈ [g], x ∈ [a, b, c] ++ ([d, e, f, g] ++ (l ++ m))) := by
  refine ⟨fun x hx => ?_, fun x hx => ?_, fun x hx => ?_, fun x hx => ?_, fun x hx => ?_, fun x hx => ?_, fun x hx => ?_, fun x hx => ?_⟩
  · simp at hx ⊢
    rcases hx with h | h | h | h | h <;> simp [h]
  · simp at hx ⊢; simp [hx]
  · simp at hx ⊢; simp [hx]
  · simp at hx ⊢
    rcases hx with h | h | h <;> simp [h]
  · simp [hx]
  · simp at hx ⊢; simp [hx]
  · simp [hx]
  · simp at hx ⊢; simp [hx]

theorem put12_spec {h : Heap} {z w t : Nat} {V : VL} {aT : Option Addr} {cT : Nat} {L : List NodH} {aN : Option Addr} {cN : Nat} {num : List Int} (H : WorldH h z w t V aT cT L aN cN num) {M : MemS} {X : VS} (A : At h V M X) {S : FS} (W : WI M.read X S (nds L) num) (hL : L.length ≤ 20) (f : Fil) (hf : f.ok) :
    CallH Tryz.prog 16 [.pointer (some ⟨w, 0, none⟩), .agg ⟨f.cells⟩] h (fun v h' => ∃ (F : List Nat) (aT' : Option Addr) (cT' : Nat) (L' : List NodH) (aN' : Option Addr) (cN' : Nat) (num' : List Int) (X' : VS) (S' : FS),
      Keeps F h h' ∧ (∀ x ∈ F, x ∈ putBk V w t aT aN ∨ h.size ≤ x) ∧ WorldH h' z w t V aT' cT' L' aN' cN' num' ∧ At h' V M X' ∧ WI M.read X' S' (nds L') num' ∧ PutT (nds L) num f (nds L') num' ∧ (PutG (nds L) f → (nds L').length = (nds L).length + 1)) := by
  have htwo : 2 ≤ L.length := by have := W.w.two; rw [nds_len] at this; exact this
  have hdin := dirOf_in (f := f) htwo
  have hkin := kindOf_in f
  have hzw := H.zw
  -- where all stays
  have stay : ∀ (h' : Heap) (X' : VS) (S' : FS), Keeps [V.ob, V.sb, V.mb] h h' → At h' V M X' → WI M.read X' S' (nds L) num → ¬ PutG (nds L) f → ∃ (F : List Nat) (aT' : Option Addr) (cT' : Nat) (L' : List NodH) (aN' : Option Addr) (cN' : Nat) (num' : List Int) (X' : VS) (S' : FS),
      Keeps F h h' ∧ (∀ x ∈ F, x ∈ putBk V w t aT aN ∨ h.size ≤ x) ∧ WorldH h' z w t V aT' cT' L' aN' cN' num' ∧ At h' V M X' ∧ WI M.read X' S' (nds L') num' ∧ PutT (nds L) num f (nds L') num' ∧ (PutG (nds L) f → (nds L').length = (nds L).length + 1) := by
    intro h' X' S' k A' W' hg
    refine ⟨_, aT, cT, L, aN, cN, num, X', S', k, fun x hx => .inl (List.mem_append_left _ hx), H.keep k (fun x hx => H.zv x ?_), A', W', .inl ⟨rfl, rfl⟩, fun h => absurd h hg⟩
    simp at hx
    rcases hx with rfl | rfl | rfl <;> simp [VL.blocks]
  refine call_of hmix Tryz.func16 rfl ok16 (by simp [Tryz.f16]) ?_
  conv => whnf
  refine AllocR.i fun b1 h1 e1 s1 o1 k1 => ?_
  have H1 := H.keep k1 (by simp)
  have A1 := A.on k1
  have z0 : z ≤ h.size := by have := obj_lt H.obj; omega
  conv => whnf
  refine LoadR.o H1.obj rfl ?_
  conv => whnf
  refine LoadR.o H1.tr rfl ?_
  have ew : IntKind.u64.wrap (IntKind.i64.wrap ((L.length : Int) - 1)) = ((L.length - 1 : Nat) : Int) := by
    rw [wrapN (x := (L.length : Int) - 1) (n := L.length - 1) (by omega) (by omega), wrap_u64']; omega
  conv => whnf
  rw [ew]
  refine Need.i (by omega) ?_
  conv => whnf
  refine Need.i (by decide) ?_
  have hbs : (ba f.data).size = f.data.length := bs_size _
  have emin : (if (130 : Int) < ((ba f.data).size : Int) then (130 : Int) else ((ba f.data).size : Int)) = ((min f.data.length 130 : Nat) : Int) := by
    rw [hbs]; split <;> omega
  conv => whnf
  refine SliceR.i 0 (min f.data.length 130) rfl emin (Nat.zero_le _) (by rw [hbs]; omega) ?_
  have eda : ByteArray.extract (ba f.data) 0 (min f.data.length 130) = ba (f.data.take 130) := by
    have h1 : ByteArray.extract (ba f.data) 0 (min f.data.length 130) = ⟨((f.data.take (min f.data.length 130)).drop 0).toArray⟩ := bs_extract _ _ _
    rw [h1, List.drop_zero]
    have : f.data.take (min f.data.length 130) = f.data.take 130 := by
      rw [show min f.data.length 130 = min 130 f.data.length by omega, ← List.take_take, List.take_length]
    rw [this]; rfl
  have ed : IntKind.i64.wrap (1 + IntKind.i64.wrap ((IntKind.u64.wrap f.in_).tmod ((L.length - 1 : Nat) : Int))) = ((dirOf f L.length : Nat) : Int) := by
    have h1 : IntKind.u64.wrap f.in_ = ((u64N f.in_ : Nat) : Int) := by rw [wrap_u64']; unfold u64N; omega
    have h2 : ((u64N f.in_ : Nat) : Int).tmod ((L.length - 1 : Nat) : Int) = ((u64N f.in_ % (L.length - 1) : Nat) : Int) := rfl
    have h3 := Nat.mod_lt (u64N f.in_) (show 0 < L.length - 1 by omega)
    rw [h1, h2, wrapN (n := u64N f.in_ % (L.length - 1)) rfl (by omega)]
    unfold dirOf
    exact wrapN (by simp) (by omega)
  have ek : IntKind.i64.wrap (1 + IntKind.i64.wrap ((IntKind.u64.wrap f.kind).tmod 3)) = kindOf f := by
    have h1 : IntKind.u64.wrap f.kind = ((u64N f.kind : Nat) : Int) := by rw [wrap_u64']; unfold u64N; omega
    have h2 : ((u64N f.kind : Nat) : Int).tmod 3 = ((u64N f.kind % 3 : Nat) : Int) := rfl
    have h3 := Nat.mod_lt (u64N f.kind) (show 0 < 3 by decide)
    rw [h1, h2, wrapN (n := u64N f.kind % 3) rfl (by omega)]
    unfold kindOf
    exact wrapI (by omega) (by omega)
  conv => whnf
  refine LoadR.o H1.obj rfl ?_
  conv => whnf
  refine LoadR.o H1.tr rfl ?_
  conv => whnf
  rw [ed, ek, eda]
  have hd1 : dirOf f L.length < L.length := hdin.2
  have hdT : inT (nds L) (dirOf f L.length : Int) := by unfold inT; rw [nds_len]; omega
  have htn : tn (nds L) (dirOf f L.length : Int) = (L[dirOf f L.length]'hd1).nd := tn_nds hd1
  obtain ⟨bT, csT, haT, oT, hcT, htkT, hleT⟩ := own_cell H1.own (k := dirOf f L.length * 5 + 1) (by rw [nodC_len]; omega)
  have hgT : ∀ j, j < 5 → Heap.cell? h1 bT (0 + dirOf f L.length * 5 + j) = ((L[dirOf f L.length]'hd1).cells)[j]? := by
    intro j hj
    obtain ⟨b', cs', ha', o', hc', _⟩ := own_cell H1.own (k := dirOf f L.length * 5 + j) (by rw [nodC_len]; omega)
    rw [haT] at ha'
    cases ha'
    rw [Nat.zero_add, hc', nodC_get L _ j hd1 hj]
  refine IdxS.i (dirOf f L.length) rfl hd1 haT ?_
  conv => whnf
  refine LoadR.i (hgT 1 (by decide)) ?_
  by_cases hk2 : (L[dirOf f L.length]'hd1).nd.kind = 2
  · rw [hk2]
    conv => whnf
    refine IfR.f rfl ?_
    obtain ⟨nn1, nn2, nn3, nn4, nn5⟩ := H1.nam _ (List.getElem_mem hd1)
    have S1 := own_ents nn2 nn4 (by omega)
    conv => whnf
    refine LoadR.o H1.obj rfl ?_
    conv => whnf
    refine LoadR.o H1.tr rfl ?_
    conv => whnf
    refine IdxS.i (dirOf f L.length) rfl hd1 haT ?_
    conv => whnf
    refine LoadR.i (hgT 4 (by decide)) ?_
    conv => whnf
    refine CallR.i (refAdd_spec S1 (by rw [nn1]; omega) f.name hf.2.2.1 1 ⟨by decide, by decide⟩ nn4) fun v h2 k2 hv => ?_
    obtain ⟨a7, c7, rfl, O7, n7⟩ := hv
    have H2 := H1.keep k2 (by simp)
    have A2 := A1.on k2
    have z1 := k1.size
    have z2 := k2.size
    have nb1 : ∀ b ∈ V.blocks, b ≠ b1 := fun b hb => by have := H.zv b hb; omega
    conv => whnf
    refine LoadR.o H2.obj rfl ?_
    conv => whnf
    refine CallR.m (node_spec A2 (kindOf f)) (fun y hy hx => by
        have hy2 : y = b1 := by simpa [blocksOf, setB] using hy
        have q1 := nb1 V.ob (by simp [VL.blocks])
        have q2 := nb1 V.sb (by simp [VL.blocks])
        have q3 := nb1 V.mb (by simp [VL.blocks])
        simp at hx; omega) fun v h3 k3 hv => ?_
    obtain ⟨rfl, A3⟩ := hv
    have H3 := H2.keep k3 (fun x hx => by
      apply H.zv
      simp at hx
      rcases hx with rfl | rfl | rfl <;> simp [VL.blocks])
    have k03 : Keeps [V.ob, V.sb, V.mb] h h3 := ((k1.trans k2).mono (by simp)).trans k3
    have hTk : (tn (nds L) (dirOf f L.length : Int)).kind = 2 := by rw [htn]; exact hk2
    rcases node_found W hkin with ⟨hn9, hT20⟩ | ⟨n, ver, hnP, hn2, hn24, hn0, hleast⟩
    · rw [nds_len] at hT20
      omega
    · rw [hnP] at A3
      rw [hnP]
      simp only at A3 ⊢
      have e7 : (refAdd (L[dirOf f L.length]'hd1).nd.names f.name 1).2 = 0 ∧ nameB f.name = true ∧ plT (L[dirOf f L.length]'hd1).nd.names f.name = false ∧ (refAdd (L[dirOf f L.length]'hd1).nd.names f.name 1).1 = insL (L[dirOf f L.length]'hd1).nd.names ⟨f.name, 1⟩ ∨
          (refAdd (L[dirOf f L.length]'hd1).nd.names f.name 1).2 ≠ 0 ∧ (nameB f.name = false ∨ plT (L[dirOf f L.length]'hd1).nd.names f.name = true) := by
        unfold refAdd
        rw [if_neg (by decide)]
        by_cases q1 : nameB f.name = false
        · rw [if_pos q1]; exact .inr ⟨by decide, .inl q1⟩
        · rw [if_neg q1]
          by_cases q2 : plT (L[dirOf f L.length]'hd1).nd.names f.name = true
          · rw [if_pos q2]; exact .inr ⟨by decide, .inr q2⟩
          · rw [if_neg q2]; exact .inl ⟨rfl, by simpa using q1, by simpa using q2, rfl⟩
      rcases e7 with ⟨e70, hname, hpt, hins⟩ | ⟨e70, hbad⟩
      · rw [e70]
        rw [hins] at O7 ⊢
        conv => whnf
        refine IfR.f rfl ?_
        have hvin : ∀ y ∈ [V.ob, V.sb, V.mb], y < z := fun y hy => by
          apply H.zv
          simp at hy
          rcases hy with rfl | rfl | rfl <;> simp [VL.blocks]
        have hADD := W.added (data := datOf f) (v := ver) (by rw [nds_len]; exact hL) hdT hTk hkin ⟨hn2, hn24⟩ hn0 hname (by rw [htn]; exact hpt) (by
          unfold datOf
          split
          · simp
          · rw [List.length_take]; omega) (fun h => by unfold datOf; rw [if_pos h])
        have hnl := W.w.len
        rw [nds_len] at hnl
        obtain ⟨bN, csN, haN, oN, hcN, _, _⟩ := own_cell H3.nums (k := dirOf f L.length) (by rw [List.length_map]; omega)
        have hnu : nu num (dirOf f L.length : Int) = num[dirOf f L.length]'(by omega) := by
          unfold nu
          rw [Int.toNat_natCast, List.getElem?_eq_getElem (by omega)]; rfl
        have hcN2 : Heap.cell? h3 bN (0 + dirOf f L.length * 1) = some (.int .i64 (nu num (dirOf f L.length : Int))) := by
          rw [show 0 + dirOf f L.length * 1 = dirOf f L.length by omega, hcN, hnu, List.getElem?_map, List.getElem?_eq_getElem (by omega)]
          rfl
        conv => whnf
        refine LoadR.o H3.obj rfl ?_
        conv => whnf
        refine IdxS.i (dirOf f L.length) rfl (by omega) haN ?_
        conv => whnf
        refine LoadR.i hcN2 ?_
        generalize hat : nu num (dirOf f L.length : Int) = at_ at hADD
        have hatr : 0 ≤ at_ ∧ at_ < 24 := by have := W.w.rng _ hdT; omega
        conv => whnf
        refine LoadR.o H3.obj rfl ?_
        have z3 := k3.size
        conv => whnf
        refine CallR.m (vcard_spec A3 at_) (fun y hy hx => by
            have := hvin V.sb (by simp)
            have hy2 : y = b1 := by simpa [blocksOf, setB] using hy
            simp at hx; omega) fun v h4 k4 hv => ?_
        rw [if_pos hatr] at hv
        obtain ⟨rfl, A4⟩ := hv
        have hcAt := hADD.cAt
        rw [hat] at hcAt
        rw [hcAt]
        unfold cardT
        have z4 := k4.size
        have H4 := H3.keep k4 (fun x hx => by have := hvin V.sb (by simp); simp at hx; omega)
        conv => whnf
        refine AllocR.i fun b5 h5 e5 s5 o5 k5 => ?_
        conv => whnf
        refine BoxR.i fun h6 s6 k6 => ?_
        have k46 : Keeps [] h4 h6 := k5.new1 k6 (by omega)
        have A6 := A4.on k46
        have H6 := H4.keep k46 (by simp)
        have z46 := k46.size
        have hokAt := hADD.okAt
        rw [hat] at hokAt
        have hfail := hADD.fail
        have hgood := hADD.good
        rw [hat] at hfail hgood
        conv => whnf
        refine LoadR.o H6.obj rfl ?_
        have zh6 : z ≤ h6.size := by omega
        conv => whnf
        refine BothR.i ?c1 ?c2
        case' c1 =>
          conv => whnf
          refine CallR.m (add_spec A6 at_ (S.C at_) hokAt f.name hf.2.2.1 n) (fun y hy hx => by
              have := hvin V.ob (by simp)
              have hy2 : y = b1 ∨ y = b5 := by simpa [blocksOf, setB] using hy
              simp at hx; omega) fun v h7 k7 hv => ?_
          obtain ⟨rfl, A7⟩ := hv
          conv => whnf
          refine AllocR.i fun b8 h8 e8 s8 o8 k8 => ?_
          conv => whnf
          refine BoxR.i fun h9 s9 k9 => ?_
          have z7 := k7.size
          have z8 := k8.size
          have k69 : Keeps [V.ob] h6 h9 := (k7.trans_nil k8).m1 k9 (by omega)
          have A9 := (A7.on k8).keep k9 (fun b hb => by have := H.zv b hb; simp; omega)
          have hb8 : h6.size ≤ b8 := by omega
        case' c2 =>
          conv => whnf
          refine AllocR.i fun b8 h7 e8 s8 o8 k8 => ?_
          conv => whnf
          refine CallR.m (add_spec (A6.on k8) at_ (S.C at_) hokAt f.name hf.2.2.1 n) (fun y hy hx => by
              have := hvin V.ob (by simp)
              have hy2 : y = b1 ∨ y = b5 ∨ y = b8 := by simpa [blocksOf, setB] using hy
              simp at hx; omega) fun v h8 k7 hv => ?_
          obtain ⟨rfl, A7⟩ := hv
          conv => whnf
          refine BoxR.i fun h9 s9 k9 => ?_
          have z7 := k7.size
          have z8 := k8.size
          have k69 : Keeps [V.ob] h6 h9 := ((k8.mono (by simp)).trans k7).m1 k9 (by omega)
          have A9 := A7.keep k9 (fun b hb => by have := H.zv b hb; simp; omega)
          have hb8 : h6.size ≤ b8 := by omega
        all_goals
          generalize addP M.read (seeS (setS X n (freshC (kindOf f) ver)) at_) at_ (S.C at_) f.name n = r at *
          have H9 := H6.keep k69 (fun x hx => by have := hvin V.ob (by simp); simp at hx; omega)
          have z69 := k69.size
          have k09 : Keeps [V.ob, V.sb, V.mb] h h9 := ((k03.trans (k4.mono (by simp))).trans_nil k46).trans (k69.mono (by simp))
          by_cases hr0 : r.2.1 = 0
          · rw [hr0]
            conv => whnf
            refine IfR.f rfl ?_
            obtain ⟨ro, rr, hX4⟩ := hgood hr0
            obtain ⟨g1, g2, g3, g4, g5, S', g6⟩ := hX4 _ rfl
            conv => whnf
            refine LoadR.o H9.obj rfl ?_
            conv => whnf
            refine CallR.m (vset_spec A9 at_ hatr r.1 ro rr) (fun y hy hx => by
                have q1 := hvin y hx
                have hy2 : y = b1 ∨ y = b5 ∨ y = b8 := by simpa [blocksOf, setB] using hy
                omega) fun v h10 k10 hv => ?_
            obtain ⟨rfl, A10⟩ := hv
            generalize hX4e : setS r.2.2 at_ r.1 = X4 at *
            have z10 := k10.size
            have H10 := H9.keep k10 (fun x hx => hvin x hx)
            have k0_10 : Keeps [V.ob, V.sb, V.mb] h h10 := k09.trans k10
            have k2_10 : Keeps [V.ob, V.sb, V.mb] h2 h10 := (((k3.trans (k4.mono (by simp))).trans_nil k46).trans (k69.mono (by simp))).trans k10
            have nok : ∀ e ∈ insL (L[dirOf f L.length]'hd1).nd.names ⟨f.name, 1⟩, e.ok := fun e he => by
              rcases List.mem_cons.1 ((insL_perm _ _).mem_iff.1 he) with rfl | h
              · exact ⟨hf.2.2.1, (show (-9223372036854775808 : Int) ≤ 1 by decide), (show (1 : Int) ≤ 9223372036854775807 by decide)⟩
              · exact nn4 e h
            have O10 : Own h10 75 2 a7 (insL (L[dirOf f L.length]'hd1).nd.names ⟨f.name, 1⟩).length c7 (entC (insL (L[dirOf f L.length]'hd1).nd.names ⟨f.name, 1⟩)) := O7.keep k2_10 (fun b hb hx => by have := n7 b hb; have := hvin b hx; omega)
            have hl1 := insL_len (L[dirOf f L.length]'hd1).nd.names ⟨f.name, 1⟩
            have S10 := own_ents O10 nok (by omega)
            conv => whnf
            refine CallR.i (place_spec S10 (by omega) f.name hf.2.2.1) fun v h11 k11 hv => ?_
            subst hv
            rw [plK_ins]
            have z11 := k11.size
            have H11 := H10.keep k11 (by simp)
            have A11 := A10.on k11
            have O11 := O10.keep k11 (by simp)
            have hkle := plK_le (L[dirOf f L.length]'hd1).nd.names f.name
            obtain ⟨b7, cs7, ha7, o7, _, ht7, hl7⟩ := own_cell O11 (k := 0) (by rw [entC_len]; omega)
            have hb7 : h1.size ≤ b7 ∧ b7 < h2.size := by
              have hm : b7 ∈ blkA a7 := by rw [ha7]; simp [blkA]
              exact ⟨n7 b7 hm, O7.lt b7 hm⟩
            conv => whnf
            refine LoadR.o H11.obj rfl ?_
            conv => whnf
            refine LoadR.o H11.tr rfl ?_
            conv => whnf
            refine IdxS.i (plK (L[dirOf f L.length]'hd1).nd.names f.name) rfl (by omega) ha7 ?_
            have hkl : plK (L[dirOf f L.length]'hd1).nd.names f.name * 2 + 1 < (entC (insL (L[dirOf f L.length]'hd1).nd.names ⟨f.name, 1⟩)).length := by rw [entC_len, hl1]; omega
            conv => whnf
            refine StoreR.i o7 ?_ ?_ fun h12 s12 o12 k12 => ?_
            · show 0 + plK (L[dirOf f L.length]'hd1).nd.names f.name * 2 + 1 + 1 ≤ cs7.length
              omega
            · intro hy
              have hy2 : b7 = b1 ∨ b7 = b5 ∨ b7 = b8 := by simpa [blocksOf, setB] using hy
              omega
            have o12' : h12[b7]? = some (.cells ⟨spliceL (plK (L[dirOf f L.length]'hd1).nd.names f.name * 2 + 1) [.int .i64 (L.length : Int)] cs7⟩ 75 (0, 0)) := by
              have : 0 + plK (L[dirOf f L.length]'hd1).nd.names f.name * 2 + 1 = plK (L[dirOf f L.length]'hd1).nd.names f.name * 2 + 1 := by omega
              rw [← this]; exact o12
            have O12 := own_set (ha7 ▸ O11) hkl o7 o12'
            rw [ins_set] at O12
            have H12 := H.keepW H11 k12 (fun x hx => by simp at hx; omega)
            have A12 := A11.keep k12 (fun b hb => by have := H.zv b hb; simp; omega)
            have htk := htn ▸ hTk
            conv => whnf
            refine LoadR.o H12.obj rfl ?_
            conv => whnf
            refine LoadR.o H12.tr rfl ?_
            have oT12 : h12[bT]? = some (.cells ⟨csT⟩ 48 (0, 0)) := by
              have q1 : bT < h.size := by
                obtain ⟨_, _, o3, _⟩ := H.old
                exact o3 bT (by rw [haT]; simp [blkA])
              have q2 : z ≤ bT := hzw.2.2.1 bT (by rw [haT]; simp [blkA])
              have r1 := (k2.obj oT (by simp))
              have r2 := k2_10.obj r1 (fun hx => by have := hvin bT hx; omega)
              have r3 := k11.obj r2 (by simp)
              exact k12.obj r3 (by simp; omega)
            conv => whnf
            refine IdxS.i (dirOf f L.length) rfl hd1 haT ?_
            conv => whnf
            refine StoreR.i oT12 ?_ ?_ fun h13 s13 o13 k13 => ?_
            · show 0 + dirOf f L.length * 5 + 4 + 1 ≤ csT.length
              rw [nodC_len] at hleT
              omega
            · intro hy
              have q1 : bT < h.size := by
                obtain ⟨_, _, o3, _⟩ := H.old
                exact o3 bT (by rw [haT]; simp [blkA])
              have hy2 : bT = b1 ∨ bT = b5 ∨ bT = b8 := by simpa [blocksOf, setB] using hy
              omega
            have o13' : h13[bT]? = some (.cells ⟨spliceL (dirOf f L.length * 5 + 4) [.slice a7 (insL (L[dirOf f L.length]'hd1).nd.names ⟨f.name, 1⟩).length c7] csT⟩ 48 (0, 0)) := by
              have : 0 + dirOf f L.length * 5 + 4 = dirOf f L.length * 5 + 4 := by omega
              rw [← this]; exact o13
            have hnlen : (insL (L[dirOf f L.length]'hd1).nd.names ⟨f.name, 1⟩).length = (insL (L[dirOf f L.length]'hd1).nd.names ⟨f.name, (L.length : Int)⟩).length := by rw [insL_len, insL_len]
            have hLT : (nds L).length = L.length := nds_len L
            have hnfew : (insL (L[dirOf f L.length]'hd1).nd.names ⟨f.name, (L.length : Int)⟩).length ≤ 105 := by
              have hts := tn_set hdT (insL (L[dirOf f L.length]'hd1).nd.names ⟨f.name, (L.length : Int)⟩) ⟨n, kindOf f, 1, datOf f, []⟩ (i := (dirOf f L.length : Int)) ⟨hdT.1, by have := hdT.2; omega⟩
              rw [if_neg (by omega), if_pos rfl] at hts
              have q0 := g6
              rw [htn, hLT] at q0
              have q2 := names_few q0 (i := (dirOf f L.length : Int)) ⟨hdT.1, by unfold nset; simp; have := hdT.2; omega⟩ (by rw [hts]; exact hTk)
              rw [hts] at q2
              exact q2
            have H13 := H12.setNames hd1 haT oT12 k13 ⟨{ (L[dirOf f L.length]'hd1).nd with names := insL (L[dirOf f L.length]'hd1).nd.names ⟨f.name, (L.length : Int)⟩ }, a7, (insL (L[dirOf f L.length]'hd1).nd.names ⟨f.name, 1⟩).length, c7⟩ rfl rfl rfl rfl o13'
              ⟨hnlen, by rw [ha7]; exact O12, fun b hb => by have := n7 b hb; omega, fun e he => by
                rcases List.mem_cons.1 ((insL_perm _ _).mem_iff.1 he) with rfl | h
                · exact ⟨hf.2.2.1, by show (-9223372036854775808 : Int) ≤ (L.length : Int); omega, by show (L.length : Int) ≤ 9223372036854775807; omega⟩
                · exact nn4 e h, hnfew⟩
            have A13 := A12.keep k13 (fun b hb => by
              have := H.zv b hb
              have q2 : z ≤ bT := hzw.2.2.1 bT (by rw [haT]; simp [blkA])
              simp; omega)
            generalize hL1 : L.set (dirOf f L.length) ⟨{ (L[dirOf f L.length]'hd1).nd with names := insL (L[dirOf f L.length]'hd1).nd.names ⟨f.name, (L.length : Int)⟩ }, a7, (insL (L[dirOf f L.length]'hd1).nd.names ⟨f.name, 1⟩).length, c7⟩ = L1 at H13
            have hL1l : L1.length = L.length := by rw [← hL1, List.length_set]
            have hnds : nds L1 = nset (nds L) (dirOf f L.length : Int) (insL (tn (nds L) (dirOf f L.length : Int)).names ⟨f.name, ((nds L).length : Int)⟩) := by
              unfold nset
              rw [Int.toNat_natCast, htn, hLT, ← hL1]
              unfold nds
              rw [List.map_set]
            have hnds2 : nds (L1 ++ [⟨⟨n, kindOf f, 1, datOf f, []⟩, none, 0, 0⟩]) = nset (nds L) (dirOf f L.length : Int) (insL (tn (nds L) (dirOf f L.length : Int)).names ⟨f.name, ((nds L).length : Int)⟩) ++ [⟨n, kindOf f, 1, datOf f, []⟩] := by
              rw [← hnds]; unfold nds; rw [List.map_append]; rfl
            have hnnew : ∀ i, inT (nds L) i → nu num i ≠ n := fun i hi e => by
              have q1 := W.w.kind i hi
              rw [e, hn0] at q1
              omega
            have hnleast : ∀ k, 2 ≤ k → k < n → ∃ i, inT (nds L) i ∧ nu num i = k := fun k q1 q2 => W.all k (by omega) (by omega) (hleast k q1 q2)
            by_cases hk3 : kindOf f = 2
            case' pos =>
              conv => whnf
              first | refine IfR.t (by simp; exact hk3) ?_ | (refine MeetR.pass ?_; (conv => whnf); refine IfR.t (by simp; exact hk3) ?_)
              conv => whnf
              have hdat : datOf f = [] := by unfold datOf; rw [if_pos hk3]
              have e0 : (Value.string ⟨#[]⟩) = Value.string (ba (datOf f)) := by rw [hdat]; rfl
              rw [e0]
            case' neg =>
              conv => whnf
              first | refine IfR.f (by simp; exact hk3) ?_ | (refine MeetR.pass ?_; (conv => whnf); refine IfR.f (by simp; exact hk3) ?_)
              conv => whnf
              have hdat : datOf f = f.data.take 130 := by unfold datOf; rw [if_neg hk3]
              rw [← hdat]
            all_goals
              have hdl : (datOf f).length ≤ 130 := by
                rw [hdat]
                first
                  | simp; done
                  | (rw [List.length_take]; omega)
              refine LoadR.o H13.obj rfl ?_
              have k0_13 : Keeps ([V.ob, V.sb, V.mb] ++ [b7, bT]) h h13 := (((k0_10.trans_nil k11).mono (by simp)).trans (k12.mono (by simp))).trans (k13.mono (by simp))
              have z0_13 := k0_13.size
              have zT := H.old
              conv => whnf
              refine CallR.m (vcard_spec A13 n) (fun y hy hx => by
                  have := hvin V.sb (by simp)
                  have hy2 : y = b1 ∨ y = b5 ∨ y = b8 := by simpa [blocksOf, setB] using hy
                  simp at hx; omega) fun v h14 k14 hv => ?_
              rw [if_pos (show 0 ≤ n ∧ n < 24 by omega)] at hv
              obtain ⟨rfl, A14⟩ := hv
              rw [g1]
              unfold cardT
              have z14 := k14.size
              have H14 := H13.keep k14 (fun x hx => by have := hvin V.sb (by simp); simp at hx; omega)
              conv => whnf
              refine AllocR.i fun b15 h15 e15 s15 o15 k15 => ?_
              conv => whnf
              refine BoxR.i fun h16 s16 k16 => ?_
              have k14_16 : Keeps [] h14 h16 := k15.new1 k16 (by omega)
              have A16 := A14.on k14_16
              have H16 := H14.keep k14_16 (by simp)
              have z14_16 := k14_16.size
              conv => whnf
              refine LoadR.o H16.obj rfl ?_
              conv => whnf
              refine BothR.i ?_ ?_
              case' refine_1 =>
                conv => whnf
                refine CallR.m (write_spec A16 n (freshC (kindOf f) ver) (freshC_ok hkin ver).1 g2 0 (datOf f)) (fun y hy hx => by
                    have := hvin V.ob (by simp)
                    have hy2 : y = b1 ∨ y = b5 ∨ y = b8 ∨ y = b15 := by simpa [blocksOf, setB] using hy
                    simp at hx; omega) fun v h17 k17 hv => ?_
                obtain ⟨rfl, A17⟩ := hv
                conv => whnf
                refine AllocR.i fun b18 h18 e18 s18 o18 k18 => ?_
                conv => whnf
                refine BoxR.i fun h19 s19 k19 => ?_
                have z17 := k17.size
                have z18 := k18.size
                have k16_19 : Keeps [V.ob] h16 h19 := (k17.trans_nil k18).m1 k19 (by omega)
                have A19 := (A17.on k18).keep k19 (fun b hb => by have := H.zv b hb; simp; omega)
                have hb18 : h16.size ≤ b18 := by omega
              case' refine_2 =>
                conv => whnf
                refine AllocR.i fun b18 h17 e18 s18 o18 k18 => ?_
                conv => whnf
                refine CallR.m (write_spec (A16.on k18) n (freshC (kindOf f) ver) (freshC_ok hkin ver).1 g2 0 (datOf f)) (fun y hy hx => by
                    have := hvin V.ob (by simp)
                    have hy2 : y = b1 ∨ y = b5 ∨ y = b8 ∨ y = b15 ∨ y = b18 := by simpa [blocksOf, setB] using hy
                    simp at hx; omega) fun v h18 k17 hv => ?_
                obtain ⟨rfl, A17⟩ := hv
                conv => whnf
                refine BoxR.i fun h19 s19 k19 => ?_
                have z17 := k17.size
                have z18 := k18.size
                have k16_19 : Keeps [V.ob] h16 h19 := ((k18.mono (by simp)).trans k17).m1 k19 (by omega)
                have A19 := A17.keep k19 (fun b hb => by have := H.zv b hb; simp; omega)
                have hb18 : h16.size ≤ b18 := by omega
              all_goals
                generalize writeP M.read (seeS X4 n) n (freshC (kindOf f) ver) 0 (datOf f) = r2 at *
                have H19 := H16.keep k16_19 (fun x hx => by have := hvin V.ob (by simp); simp at hx; omega)
                have z16_19 := k16_19.size
                rw [g3]
                conv => whnf
                first | refine IfR.t rfl ?_ | (refine MeetR.pass ?_; (conv => whnf); refine IfR.t rfl ?_)
                conv => whnf
                refine LoadR.o H19.obj rfl ?_
                conv => whnf
                refine CallR.m (vset_spec A19 n (by omega) r2.1 g4 g5) (fun y hy hx => by
                  have q1 := hvin y hx
                  have hy2 : y = b1 ∨ y = b5 ∨ y = b8 ∨ y = b15 ∨ y = b18 := by simpa [blocksOf, setB] using hy
                  omega) fun v h20 k20 hv => ?_
                obtain ⟨rfl, A20⟩ := hv
                have z20 := k20.size
                have H20 := H19.keep k20 (fun x hx => hvin x hx)
                conv => whnf
                refine LoadR.o H20.obj rfl ?_
                conv => whnf
                refine LoadR.o H20.tr rfl ?_
                obtain ⟨zT1, zT2, zT3, zT4, zT5⟩ := zT
                conv => whnf
                refine BothR.i ?_ ?_
                case' refine_1 =>
                  conv => whnf
                  refine LoadR.o H20.obj rfl ?_
                  conv => whnf
                  refine AllocR.i fun b21 h21 e21 s21 o21 k21 => ?_
                  have z21 := k21.size
                  have H21 := H20.keep k21 (by simp)
                  conv => whnf
                case' refine_2 =>
                  conv => whnf
                  refine AllocR.i fun b21 h21 e21 s21 o21 k21 => ?_
                  have z21 := k21.size
                  have H21 := H20.keep k21 (by simp)
                  conv => whnf
                  refine BothR.i ?_ ?_
                  case' refine_1 =>
                    conv => whnf
                    refine LoadR.o H21.obj rfl ?_
                    conv => whnf
                  case' refine_2 =>
                    conv => whnf
                all_goals
                  refine append_own (e := 48) (sz := 5) (by_ := 64) (new := NodH.cells ⟨⟨n, kindOf f, 1, datOf f, []⟩, none, 0, 0⟩) rfl rfl rfl rfl rfl rfl rfl H21.own rfl ?_ rfl (by omega) (by omega) ?_ ?_
                  · intro j hj
                    unfold Heap.cell?
                    rw [o21]
                    have : j = 0 ∨ j = 1 ∨ j = 2 ∨ j = 3 ∨ j = 4 := by simp [NodH.cells] at hj; omega
                    rcases this with rfl | rfl | rfl | rfl | rfl <;> rfl
                  · intro y hy hx2
                    have := zT3 y hy
                    have hx3 : y = b1 ∨ y = b5 ∨ y = b8 ∨ y = b15 ∨ y = b18 := by simpa [blocksOf, setB] using hx2
                    omega
                  · intro a22 c22 h22 O22 k22 n22
                    have z22 := k22.size
                    have obj22 := k22.obj H21.obj (fun hb => by
                      obtain ⟨cs, oc⟩ := own_ty H21.own w hb
                      exact cells_ne H21.obj oc (by decide) rfl)
                    have tr22 := k22.obj H21.tr (fun hb => by
                      obtain ⟨cs, oc⟩ := own_ty H21.own t hb
                      exact cells_ne H21.tr oc (by decide) rfl)
                    have htb : t ∉ ([] : List Nat) := by simp
                    first
                      | ((conv => whnf); refine StoreR.i tr22 (Nat.le_of_ble_eq_true rfl) ?_ fun h23 s23 o23 k23 => ?_)
                      | ((conv => whnf); refine LoadR.o obj22 rfl ?_; (conv => whnf); refine StoreR.i tr22 (Nat.le_of_ble_eq_true rfl) ?_ fun h23 s23 o23 k23 => ?_)
                    · intro hx2
                      have hx3 : t = b1 ∨ t = b5 ∨ t = b8 ∨ t = b15 ∨ t = b18 := by simpa [blocksOf, setB] using hx2
                      omega
                    · have H23 := H21.pushNode k22 n22 ⟨⟨n, kindOf f, 1, datOf f, []⟩, none, 0, 0⟩ O22 k23 o23 ⟨rfl, rfl, rfl, rfl⟩
                      have z23 := k23.size
                      conv => whnf
                      refine LoadR.o H23.obj rfl ?_
                      conv => whnf
                      refine AllocR.i fun b24 h24 e24 s24 o24 k24 => ?_
                      have z24 := k24.size
                      have H24 := H23.keep k24 (by simp)
                      have hnl := W.w.len
                      conv => whnf
                      refine append_own (e := 3) (sz := 1) (by_ := 8) (new := [.int .i64 n]) rfl rfl rfl rfl rfl rfl rfl H24.nums rfl ?_ rfl (by omega) (by decide) ?_ ?_
                      · intro j hj
                        have hj0 : j = 0 := by simpa using hj
                        subst hj0
                        simp only [Heap.cell?, o24]; rfl
                      · intro y hy hx2
                        have := zT4 y hy
                        have hx3 : y = b1 ∨ y = b5 ∨ y = b8 ∨ y = b15 ∨ y = b18 := by simpa [blocksOf, setB] using hx2
                        omega
                      · intro a25 c25 h25 O25 k25 n25
                        have z25 := k25.size
                        have obj25 := k25.obj H24.obj (fun hb => by
                          obtain ⟨cs, oc⟩ := own_ty H24.nums w hb
                          exact cells_ne H24.obj oc (by decide) rfl)
                        conv => whnf
                        refine StoreR.i obj25 (Nat.le_of_ble_eq_true rfl) ?_ fun h26 s26 o26 k26 => ?_
                        · intro hx2
                          have hx3 : w = b1 ∨ w = b5 ∨ w = b8 ∨ w = b15 ∨ w = b18 := by simpa [blocksOf, setB] using hx2
                          omega
                        · have H26 := H24.pushNum k25 n25 n (by rw [List.map_append]; exact O25) k26 o26
                          have z26 := k26.size
                          have A26 := ((((A20.on k21).keep k22 (fun b hb hx => by have := H.zv b hb; have := hzw.2.2.1 b hx; omega)).keep k23 (fun b hb hx => by have := H.zv b hb; simp at hx; omega)).on k24).keep k25 (fun b hb hx => by have := H.zv b hb; have := hzw.2.2.2 b hx; omega)
                          have A26 := A26.keep k26 (fun b hb hx => by have := H.zv b hb; simp at hx; omega)
                          conv => whnf
                          obtain ⟨m1, m2, m3, m4, m5, m6, m7, m8⟩ := subF V.ob V.sb V.mb b7 bT t w (blkA aT) (blkA aN)
                          refine ⟨[V.ob, V.sb, V.mb] ++ ([b7, bT, t, w] ++ (blkA aT ++ blkA aN)), _, _, _, _, _, _, _, S', ?_, ?_, H26, A26, ?_, ?_, ?_⟩
                          · exact ((((((((((k0_13.mono m1).trans (k14.mono m2)).trans_nil k14_16).trans (k16_19.mono m3)).trans (k20.mono m4)).trans_nil k21).trans (k22.mono m5)).trans (k23.mono m6)).trans_nil k24).trans (k25.mono m7)).trans (k26.mono m8)
                          · intro x hx
                            rcases List.mem_append.1 hx with hx | hx
                            · exact .inl (List.mem_append_left _ hx)
                            · rcases List.mem_append.1 hx with hx | hx
                              · have q2 : bT ∈ blkA aT := by rw [haT]; simp [blkA]
                                have q3 : x = b7 ∨ x = bT ∨ x = t ∨ x = w := by simpa using hx
                                rcases q3 with rfl | rfl | rfl | rfl
                                · right; omega
                                · exact .inl (List.mem_append_right _ (List.mem_append_right _ (List.mem_append_left _ q2)))
                                · exact .inl (List.mem_append_right _ (List.mem_append_left _ (by simp)))
                                · exact .inl (List.mem_append_right _ (List.mem_append_left _ (by simp)))
                              · exact .inl (List.mem_append_right _ (List.mem_append_right _ hx))
                          · rw [hnds2]; exact g6
                          · exact .inr ⟨n, hn2, hn24, hnnew, hnleast, by rw [hnds2, nds_len], rfl⟩
                          · intro _
                            rw [nds_len, nds_len, List.length_append, hL1l]; rfl
          · obtain ⟨f1, f2⟩ := hfail hr0
            conv => whnf
            refine IfR.t (by simp; exact hr0) ?_
            conv => whnf
            refine LoadR.o H9.obj rfl ?_
            conv => whnf
            refine CallR.m (release_spec A9 n) (fun y hy hx => by
                have q1 := hvin y (by simpa using hx)
                have hy2 : y = b1 ∨ y = b5 ∨ y = b8 := by simpa [blocksOf, setB] using hy
                omega) fun v h10 k10 hv => ?_
            obtain ⟨rfl, A10⟩ := hv
            conv => whnf
            rw [f1] at A10
            obtain ⟨_, S', W'⟩ := rel_plain (Y := seeS (setS X n (freshC (kindOf f) ver)) at_) W ⟨hn2, hn24⟩ hn0 hkin rfl rfl rfl
            exact stay h10 _ S' (k09.trans k10) A10 W' (fun hg => by
              have := hg.2.2.2
              rw [nds_len] at this
              omega)
      · conv => whnf
        first | refine IfR.t (by simp [bif_or]; exact e70) ?_ | (refine MeetR.pass ?_; (conv => whnf); refine IfR.t (by simp [bif_or]; exact e70) ?_)
        conv => whnf
        first | refine IfR.t rfl ?_ | (refine MeetR.pass ?_; (conv => whnf); refine IfR.t rfl ?_)
        conv => whnf
        refine LoadR.o H3.obj rfl ?_
        conv => whnf
        refine CallR.m (release_spec A3 n) (fun y hy hx => by
            have hy2 : y = b1 := by simpa [blocksOf, setB] using hy
            have q1 := nb1 V.ob (by simp [VL.blocks])
            have q2 := nb1 V.sb (by simp [VL.blocks])
            have q3 := nb1 V.mb (by simp [VL.blocks])
            simp at hx; omega) fun v h4 k4 hv => ?_
        obtain ⟨rfl, A4⟩ := hv
        conv => whnf
        obtain ⟨_, S', W'⟩ := rel_plain (Y := setS X n (freshC (kindOf f) ver)) W ⟨hn2, hn24⟩ hn0 hkin rfl rfl rfl
        exact stay h4 _ S' (k03.trans k4) A4 W' (fun hg => by
          obtain ⟨g1, g2, g3, _⟩ := hg
          rw [nds_len, htn] at g3
          rcases hbad with hb | hb
          · rw [g2] at hb; cases hb
          · rw [g3] at hb; cases hb)
  · conv => whnf
    refine IfR.t (by simp; exact hk2) ?_
    conv => whnf
    exact stay h1 X S (k1.mono (by simp)) A1 W (fun hg => hk2 (by
      have := hg.1
      rw [nds_len, htn] at this
      exact this))

theorem put12_spec' {h : Heap} {z w t : Nat} {V : VL} {aT : Option Addr} {cT : Nat} {L : List NodH} {aN : Option Addr} {cN : Nat} {num : List Int} (H : WorldH h z w t V aT cT L aN cN num) {M : MemS} {X : VS} (A : At h V M X) {S : FS} (W : WI M.read X S (nds L) num) (hL : L.length ≤ 20) (f : Fil) (hf : f.ok) :
    CallH Tryz.prog 16 [.pointer (some ⟨w, 0, none⟩), .agg ⟨f.cells⟩] h (fun v h' => Keeps (putBk V w t aT aN) h h' ∧ ∃ (aT' : Option Addr) (cT' : Nat) (L' : List NodH) (aN' : Option Addr) (cN' : Nat) (num' : List Int) (X' : VS) (S' : FS),
      WorldH h' z w t V aT' cT' L' aN' cN' num' ∧ At h' V M X' ∧ WI M.read X' S' (nds L') num' ∧ PutT (nds L) num f (nds L') num' ∧ (PutG (nds L) f → (nds L').length = (nds L).length + 1)) := by
  refine (put12_spec H A W hL f hf).mono fun v h' ⟨F, aT', cT', L', aN', cN', num', X', S', k, hF, r1, r2, r3, r4, r5⟩ => ⟨?_, aT', cT', L', aN', cN', num', X', S', r1, r2, r3, r4, r5⟩
  exact (Keeps.refl _ h).trans_new k hF
end Go.Proofs.YtdfgkdoplagelaaGreatDoor
/-
  The engine: an entry of a map is deleted; a map is cleared.
-/
set_option linter.all false
set_option maxRecDepth 100000
set_option maxHeartbeats 1000000
namespace Go.Eng

theorem eraseIdx_mp {α β : Type} (f : α → β) : ∀ (l : List α) (j : Nat), (l.map f).eraseIdx j = (l.eraseIdx j).map f
  | [], _ => rfl
  | _ :: _, 0 => rfl
  | x :: l, j + 1 => by simp [eraseIdx_mp f l j]

theorem SemR.del {P : Program} {T kT eT kT' ty : TypeId} (hu : P.underlying T = some (.map kT eT)) (hk : P.underlying kT = some (.int .i64)) {h : Heap} {r : Nat} {m : List (Int × Value)} (o : MapL h r m) {n : Int} (hn : lookI m n ≠ none) {bs : List Nat} (hb : r ∉ bs)
    {K : Value → Heap → Prop} (H : ∀ h' j, j < m.length → (m[j]?).map (·.1) = some n → h'.size = h.size → MapL h' r (m.eraseIdx j) → Keeps [r] h h' → K (.tuple #[]) h') : SemR P (Builtin.delete_ #[T, kT'] ty ⟨[.map (some r), .int .i64 n]⟩) bs h K := by
  unfold SemR
  intro hlt w hw
  subst hw
  have hr := o.lt
  obtain ⟨es, cl, h1, h2, h3, h4, h5⟩ := o
  obtain ⟨q, h6, h7, h8⟩ := findNow_look es.toList m n 0 h2
  obtain ⟨p, rfl⟩ : ∃ p, q = some p := by
    cases q with
    | none => exact absurd (by simpa using h7.symm) hn
    | some p => exact ⟨p, rfl⟩
  obtain ⟨j, hj1, hj2, hj3⟩ := h8 p rfl
  have hj : p.1 = j := by omega
  have hjl : j < es.size := by simpa using hj2
  have hml : m.length = es.size := by
    have := congrArg List.length h2
    simpa using this.symm
  have hel : (es.eraseIdxIfInBounds j).toList = es.toList.eraseIdx j := by
    rw [Array.eraseIdxIfInBounds, dif_pos hjl, Array.toList_eraseIdx]
  refine ⟨.tuple #[], { w with heap := w.heap.setIfInBounds r (.map (es.eraseIdxIfInBounds j) cl) }, ?_, ⟨rfl, rfl, rfl⟩, fun b hb' => ?_, H _ j (by omega) hj3 (by simp) ⟨es.eraseIdxIfInBounds j, cl, by rw [set_get _ _ _ _ hr, if_pos rfl], ?_, ?_, ?_, ?_⟩ (keeps_set _ _ _ hr)⟩
  · simp only [Builtin.delete_, Sem.run_bind, underlying_run P T w hu, Result.andThen_ok, getObj_run h1, List.getElem?_toArray, List.getElem?_cons_zero, List.getElem?_cons_succ]
    rw [checkKey_plain hk (.inl ⟨_, rfl⟩)]
    simp only [Result.andThen_ok, findKey_now hk h6 w, hj, Sem.run_bind, setObj_run h1, Sem.run_pure]
  · show (w.heap.setIfInBounds r _)[b]? = _
    rw [set_get _ _ _ _ hr, if_neg (by intro e; subst e; exact hb hb')]
  · rw [hel, ← eraseIdx_mp, h2, eraseIdx_mp]
  · rw [← eraseIdx_mp]; exact h3.sublist (List.eraseIdx_sublist _ _)
  · rw [hel, ← eraseIdx_mp]; exact h4.sublist (List.eraseIdx_sublist _ _)
  · intro e he
    rw [hel] at he
    exact h5 e (List.mem_of_mem_eraseIdx he)

theorem SemR.clearM {P : Program} {T kT eT ty : TypeId} (hu : P.underlying T = some (.map kT eT)) {h : Heap} {r : Nat} {m : List (Int × Value)} (o : MapL h r m) {bs : List Nat} (hb : r ∉ bs)
    {K : Value → Heap → Prop} (H : ∀ h', h'.size = h.size → MapL h' r [] → Keeps [r] h h' → K (.tuple #[]) h') : SemR P (Builtin.clear_ #[T] ty ⟨[.map (some r)]⟩) bs h K := by
  unfold SemR
  intro hlt w hw
  subst hw
  have hr := o.lt
  obtain ⟨es, cl, h1, h2, h3, h4, h5⟩ := o
  refine ⟨.tuple #[], { w with heap := w.heap.setIfInBounds r (.map #[] cl) }, ?_, ⟨rfl, rfl, rfl⟩, fun b hb' => ?_, H _ (by simp) ⟨#[], cl, by rw [set_get _ _ _ _ hr, if_pos rfl], rfl, List.nodup_nil, List.nodup_nil, by simp⟩ (keeps_set _ _ _ hr)⟩
  · simp [Builtin.clear_, Sem.run_bind, underlying_run P T w hu, getObj_run h1, setObj_run h1]
  · show (w.heap.setIfInBounds r _)[b]? = _
    rw [set_get _ _ _ _ hr, if_neg (by intro e; subst e; exact hb hb')]
end Go.Eng
/-
  Layer 2: a memory's loose words are on their way, and made sure.
-/
set_option linter.all false
set_option maxRecDepth 100000
set_option maxHeartbeats 1000000
namespace Go.Proofs.YtdfgkdoplagelaaGreatDoor
open Go Go.Eng

/-- a memory's sure words lie in a block of its own -/
def MemO (h : Heap) (L : ML) (M : MemS) : Prop := Own h 26 1 L.sa L.len L.cap (M.sure.map wv)

theorem cloneO_spec {h : Heap} {b off n c : Nat} {ws : List UInt64} (S : Sl h (some ⟨b, off, none⟩) n c ws) (hn : n ≤ 1099511627776) : CallH Tryz.prog 51 [.slice (some ⟨b, off, none⟩) n c] h (fun v h' => Keeps [] h h' ∧ ∃ a' c', v = .slice a' n c' ∧ Own h' 26 1 a' n c' (ws.map wv) ∧ Sl h' a' n c' ws ∧ ∀ x ∈ blkA a', h.size ≤ x ∧ x < h'.size) := by
  refine call_of hmix Tryz.func51 rfl ok51 (by simp [Tryz.f51]) ?_
  conv => whnf
  refine IfR.f rfl ?_
  conv => whnf
  refine AllocR.i fun b1 h1 e1 s1 o1 k1 => ?_
  conv => whnf
  have hl := S.hlen
  have O : Own h1 26 1 (some ⟨b1, 0, none⟩) 0 0 [] := .inr ⟨b1, [], rfl, o1, rfl, rfl, rfl, Nat.le_refl _⟩
  refine append_own (e := 26) (sz := 1) (by_ := 8) (new := ws.map wv) rfl rfl rfl rfl rfl rfl rfl O (by simp [hl]) ((S.keep k1).cells1) (allOne_wv ws) (by omega) (by decide) (by simp [blocksOf]) ?_
  intro a2 c2 h2 O2 k2 n2
  conv => whnf
  rw [Nat.zero_add] at O2
  have nb : ∀ x ∈ blkA a2, h.size ≤ x ∧ x < h2.size := fun x hx => by
    refine ⟨?_, O2.lt x hx⟩
    rcases n2 x hx with h | h
    · simp [blkA] at h; omega
    · omega
  refine ⟨k1.nil_of k2 (by intro x hx; simp [blkA] at hx; omega), a2, c2, by rw [Nat.zero_add], O2, ?_, nb⟩
  have R : Reps h2 ([] ++ ws.map wv) ws := by
    rw [List.nil_append]
    exact reps_w h2 ws
  exact O2.sl R rfl (by decide) (by omega)

theorem loadO_spec {h : Heap} {b off n c : Nat} {ws : List UInt64} (S : Sl h (some ⟨b, off, none⟩) n c ws) (hn : n ≤ 4096) : CallH Tryz.prog 24 [.slice (some ⟨b, off, none⟩) n c] h (fun v h' => Keeps [] h h' ∧ ∃ L : ML, v = .pointer (some ⟨L.m, 0, none⟩) ∧ MemAt h' L ⟨ws, [], [], 0, -1⟩ ∧ MemO h' L ⟨ws, [], [], 0, -1⟩ ∧ ∀ x ∈ L.blocks, h.size ≤ x) := by
  refine call_of hmix Tryz.func24 rfl ok24 (by simp [Tryz.f24]) ?_
  conv => whnf
  have hm : (if (4096 : Int) < (n : Int) then (4096 : Int) else (n : Int)) = (n : Int) := if_neg (by omega)
  have hl := S.hlen
  refine SliceR.i 0 n rfl hm (Nat.zero_le _) S.hcap ?_
  conv => whnf
  have S1 := S.part (l := 0) (r := n) (Nat.zero_le _) (Nat.le_refl _)
  have e1 : ∀ s, slA (some ⟨b, off, none⟩) c 0 s = some ⟨b, off, none⟩ := fun s => by
    unfold slA; split
    · rfl
    · simp [Addr.add]
  rw [e1, Nat.sub_zero, Nat.sub_zero, List.drop_zero, hl, List.take_length, ← hl] at S1
  rw [e1, Nat.sub_zero, Nat.sub_zero]
  refine CallR.i (cloneO_spec S1 (by omega)) fun v h1 k1 hv => ?_
  obtain ⟨a', c', rfl, O2, S2, nb⟩ := hv
  conv => whnf
  refine AllocR.i fun b2 h2 e2 s2 o2 k2 => ?_
  conv => whnf
  refine AllocR.i fun b3 h3 e3 s3 o3 k3 => ?_
  conv => whnf
  refine AllocR.i fun b4 h4 e4 s4 o4 k4 => ?_
  conv => whnf
  have z1 := k1.size
  refine ⟨k1.trans (k2.trans (k3.trans k4)), ⟨b4, a', n, c', b2, b3⟩, rfl, ⟨o4, S2.keep (k2.trans (k3.trans k4)), (MapL.new o2).keep (k3.trans k4) (by simp), (MapL.new o3).keep k4 (by simp), by show b2 ≠ b3; omega, fun x hx => ?_, fun x hx => by have := nb x hx; omega⟩, O2.keep (k2.trans (k3.trans k4)) (by simp), ?_⟩
  · have := nb x hx
    show x ≠ b4 ∧ x ≠ b2 ∧ x ≠ b3
    omega
  · intro x hx
    simp only [ML.blocks, List.mem_cons] at hx
    rcases hx with hx | hx | hx | hx
    · have hx : x = b4 := hx; omega
    · have hx : x = b2 := hx; omega
    · have hx : x = b3 := hx; omega
    · exact (nb x hx).1

theorem mnew_spec (n : Nat) (hp : 0 < n) (hn : n ≤ 4096) (h : Heap) : CallH Tryz.prog 12 [.int .i64 (n : Int)] h (fun v h' => Keeps [] h h' ∧ ∃ L : ML, v = .pointer (some ⟨L.m, 0, none⟩) ∧ MemAt h' L ⟨List.replicate n 0, [], [], 0, -1⟩ ∧ MemO h' L ⟨List.replicate n 0, [], [], 0, -1⟩ ∧ ∀ x ∈ L.blocks, h.size ≤ x) := by
  refine call_of hmix Tryz.func12 rfl ok12 (by simp [Tryz.f12]) ?_
  conv => whnf
  have e1 : (if (4096 : Int) < (if (n : Int) < 0 then 0 else (n : Int)) then (4096 : Int) else (if (n : Int) < 0 then 0 else (n : Int))) = (n : Int) := by
    rw [if_neg (show ¬ ((n : Int) < 0) by omega), if_neg (by omega)]
  have e2 : (if (4096 : Int) < (if (0 : Int) > (n : Int) then 0 else (n : Int)) then (4096 : Int) else (if (0 : Int) > (n : Int) then 0 else (n : Int))) = (n : Int) := e1
  rw [e2]
  refine SemR.make (n := n) rfl rfl rfl rfl rfl (by show 8 * n ≤ _; omega) (by omega) fun b1 h1 e3 s1 o1 k1 => ?_
  have o1' : h1[b1]? = some (.cells ⟨(List.replicate n (0 : UInt64)).map wv⟩ 26 (0, 0)) := by
    rw [o1, List.map_replicate]; rfl
  have S1 : Sl h1 (some ⟨b1, 0, none⟩) n n (List.replicate n (0 : UInt64)) := Sl.of1' o1' (by simp [One.ok]) (by simp) (by simp; omega)
  conv => whnf
  refine CallR.i (loadO_spec S1 hn) fun v h2 k2 hv => ?_
  obtain ⟨L, rfl, A2, O2, nb⟩ := hv
  conv => whnf
  exact ⟨k1.trans k2, L, rfl, A2, O2, fun x hx => by have := nb x hx; omega⟩

/-! ### On the way -/

def flushN (loose way : List (Int × UInt64)) (first : Int) : Nat → List (Int × UInt64)
  | 0 => way
  | k + 1 => match lk loose (first + (k : Int)) with | some v => putW (flushN loose way first k) (first + (k : Int)) v | none => flushN loose way first k
theorem lk_flushN (loose way : List (Int × UInt64)) (first : Int) : ∀ (k : Nat) (x : Int), lk (flushN loose way first k) x = if first ≤ x ∧ x < first + (k : Int) then (match lk loose x with | some v => some v | none => lk way x) else lk way x
  | 0, x => by rw [if_neg (by omega)]; rfl
  | k + 1, x => by
    have ih := lk_flushN loose way first k x
    unfold flushN
    cases hl : lk loose (first + (k : Int)) with
    | none =>
      simp only
      rw [ih]
      by_cases e : x = first + (k : Int)
      · subst e
        rw [if_neg (by omega), if_pos (by omega), hl]
      · by_cases h2 : first ≤ x ∧ x < first + (k : Int)
        · rw [if_pos h2, if_pos (by omega)]
        · rw [if_neg h2, if_neg (by omega)]
    | some v =>
      simp only
      rw [lk_put]
      by_cases e : x = first + (k : Int)
      · rw [if_pos e, e, if_pos (by omega), hl]
      · rw [if_neg e, ih]
        by_cases h2 : first ≤ x ∧ x < first + (k : Int)
        · rw [if_pos h2, if_pos (by omega)]
        · rw [if_neg h2, if_neg (by omega)]

def lineOf (i : Int) : Int := i - i.tmod 8

theorem flush_spec {h : Heap} {L : ML} {M : MemS} (A : MemAt h L M) (i : Int) (hi : 0 ≤ i ∧ i < 1000000) (h0 : (M.call (M.there i)).1 = 0) : CallH Tryz.prog 29 [.pointer (some ⟨L.m, 0, none⟩), .int .i64 i] h (fun v h' => Keeps [L.m, L.wb] h h' ∧ v = .int .i64 0 ∧ MemAt h' L { (M.call (M.there i)).2 with way := flushN (M.call (M.there i)).2.loose (M.call (M.there i)).2.way (lineOf i) 8 }) := by
  refine call_of hmix Tryz.func29 rfl ok29 (by simp [Tryz.f29]) ?_
  conv => whnf
  refine CallR.i (there_spec A i) fun v h1 k1 hv => ?_
  subst hv
  have A1 := A.on k1
  conv => whnf
  refine CallR.m (call_spec A1 (M.there i)) (by simp [blocksOf]) fun v h2 k2 hv => ?_
  obtain ⟨rfl, A2⟩ := hv
  generalize (M.call (M.there i)).2 = N at A2 ⊢
  rw [h0]
  conv => whnf
  refine IfR.f rfl ?_
  have hm8 : 0 ≤ i.tmod 8 ∧ i.tmod 8 < 8 := by
    rw [Int.tmod_eq_emod_of_nonneg hi.1]; omega
  have ew : IntKind.i64.wrap (i - i.tmod 8) = lineOf i := wrapI (by omega) (by omega)
  have hlo : 0 ≤ lineOf i ∧ lineOf i < 1000000 := by
    unfold lineOf
    have : i.tmod 8 ≤ i := by rw [Int.tmod_eq_emod_of_nonneg hi.1]; omega
    omega
  conv => whnf
  refine Need.i (by decide) ?_
  conv => whnf
  rw [ew]
  generalize lineOf i = q at hlo ⊢
  refine LoopR.on [0, 6, 7] [] (fun k : Nat => [(0, .v (.pointer (some ⟨L.m, 0, none⟩))), (6, .v (.int .i64 q)), (7, .v (.int .i64 (q + (k : Int))))]) (fun _ => [])
    (fun k h' => k ≤ 8 ∧ Keeps [L.m, L.wb] h h' ∧ MemAt h' L { N with way := flushN N.loose N.way q k }) (fun k => 8 - k) 0 ?_ ?_
  · conv => whnf
    refine ⟨0, rfl, by simp, rfl, Nat.zero_le _, ?_, A2⟩
    exact (k1.mono (by simp)).trans (k2.mono (by simp))
  · rintro k h3 ⟨hk, k3, A3⟩
    have e8 : IntKind.i64.wrap (q + 8) = q + 8 := wrapI (by omega) (by omega)
    conv => whnf
    rw [e8]
    refine IfR.i (fun hc => ?_) (fun hc => ?_)
    · have hk1 : k < 8 := by simp at hc; omega
      conv => whnf
      first | refine LoadR.o A3.obj rfl ?_ | (refine MeetR.pass ?_; (conv => whnf); refine LoadR.o A3.obj rfl ?_)
      have en : IntKind.i64.wrap (q + (k : Int) + 1) = q + ((k + 1 : Nat) : Int) := by
        rw [wrapI (by omega) (by omega)]; simp; omega
      cases hl : lk N.loose (q + (k : Int)) with
      | some w =>
        conv => whnf
        refine LookR.is A3.loose (by rw [lookI_mapW, hl]) ?_
        conv => whnf
        first | refine IfR.t rfl ?_ | (refine MeetR.pass ?_; (conv => whnf); refine IfR.t rfl ?_)
        conv => whnf
        refine LoadR.o A3.obj rfl ?_
        conv => whnf
        refine SemR.put rfl rfl A3.way (by simp [blocksOf]) fun h4 s4 M4 k4 => ?_
        conv => whnf
        refine ⟨8 - (k + 1), by omega, ?_⟩
        conv => whnf
        refine ⟨k + 1, rfl, by rw [en], rfl, by omega, k3.trans (k4.mono (by simp)), ?_⟩
        have hfl : flushN N.loose N.way q (k + 1) = putW (flushN N.loose N.way q k) (q + (k : Int)) w := by
          conv => lhs; unfold flushN
          rw [hl]
        rw [hfl]
        have a3 := A3.ap3
        exact ⟨k4.obj A3.obj (by simpa using a3.2), A3.sure.keepM k4 (fun b hb => by simpa using (A3.ap2 b hb).2.2), A3.loose.keep k4 (by simpa using A3.ap1), by rw [← putI_mapW]; exact M4, A3.ap1, A3.ap2, fun b hb => Nat.lt_of_lt_of_le (A3.lt b hb) k4.size⟩
      | none =>
        conv => whnf
        refine LookR.is A3.loose (by rw [lookI_mapW, hl]) ?_
        conv => whnf
        first | refine IfR.f rfl ?_ | (refine MeetR.pass ?_; (conv => whnf); refine IfR.f rfl ?_)
        conv => whnf
        refine ⟨8 - (k + 1), by omega, ?_⟩
        conv => whnf
        refine ⟨k + 1, rfl, by rw [en], rfl, by omega, k3, ?_⟩
        have hfl : flushN N.loose N.way q (k + 1) = flushN N.loose N.way q k := by
          conv => lhs; unfold flushN
          rw [hl]
        rw [hfl]; exact A3
    · have hk1 : k = 8 := by simp at hc; omega
      subst hk1
      conv => whnf
      exact ⟨k3, rfl, A3⟩
end Go.Proofs.YtdfgkdoplagelaaGreatDoor
/-
  Layer 2: what is on its way is made sure.
-/
set_option linter.all false
set_option maxRecDepth 100000
set_option maxHeartbeats 2000000
namespace Go.Proofs.YtdfgkdoplagelaaGreatDoor
open Go Go.Eng

theorem nodup_mid {a : Int} {l1 l2 : List Int} : (l1 ++ a :: l2).Nodup ↔ (a :: (l1 ++ l2)).Nodup := List.perm_middle.nodup_iff

theorem own_sl {h : Heap} {a : Option Addr} {n c : Nat} {ws : List UInt64} (O : Own h 26 1 a n c (ws.map wv)) (hb : ws.length ≤ 281474976710656) : Sl h a n c ws := by
  exact O.sl (α := UInt64) (reps_w h ws) rfl (by decide) hb

theorem lk_erase {l : List (Int × UInt64)} {j : Nat} {n : Int} (hn : (l.map (·.1)).Nodup) (hj : (l[j]?).map (·.1) = some n) (k : Int) : lk (l.eraseIdx j) k = if k = n then none else lk l k := by
  induction l generalizing j with
  | nil => simp at hj
  | cons p l ih =>
    obtain ⟨a, v⟩ := p
    simp only [List.map_cons, List.nodup_cons] at hn
    cases j with
    | zero =>
      simp at hj
      subst hj
      simp only [List.eraseIdx_cons_zero, lk]
      by_cases e : k = a
      · rw [if_pos e, e]
        cases h : lk l a with
        | none => rfl
        | some w =>
          exfalso
          apply hn.1
          clear ih hn
          induction l with
          | nil => cases h
          | cons q l ih =>
            obtain ⟨b, u⟩ := q
            simp only [lk] at h
            simp only [List.map_cons, List.mem_cons]
            split at h
            · rename_i e; exact .inl e
            · exact .inr (ih h)
      · rw [if_neg e, if_neg e]
    | succ j =>
      have hj' : (l[j]?).map (·.1) = some n := by simpa using hj
      have hna : n ≠ a := by
        rintro rfl
        apply hn.1
        simp only [Option.map_eq_some_iff] at hj'
        obtain ⟨q, hq, rfl⟩ := hj'
        exact List.mem_map.2 ⟨q, List.mem_of_getElem? hq, rfl⟩
      simp only [List.eraseIdx_cons_succ, lk]
      rw [ih hn.2 hj']
      by_cases e : k = a
      · rw [if_pos e, if_pos e, if_neg (fun x => hna (x.symm.trans e))]
      · rw [if_neg e, if_neg e]

theorem mapW_erase (l : List (Int × UInt64)) (j : Nat) : (mapW l).eraseIdx j = mapW (l.eraseIdx j) := by
  unfold mapW
  exact eraseIdx_mp _ l j

theorem keysW {h : Heap} {r : Nat} {l : List (Int × UInt64)} (o : MapL h r (mapW l)) : (l.map (·.1)).Nodup := by
  obtain ⟨es, cl, _, _, g, _⟩ := o
  have : (mapW l).map (·.1) = l.map (·.1) := by simp [mapW]
  rw [this] at g; exact g

theorem fence_spec {h : Heap} {L : ML} {M : MemS} (A : MemAt h L M) (O : MemO h L M) (hu : M.until_ = -1) (hs : M.sure.length ≤ 1000000) (hw : ∀ p ∈ M.way, lk M.loose p.1 = some p.2 ∧ M.there p.1 = true) : CallH Tryz.prog 30 [.pointer (some ⟨L.m, 0, none⟩)] h (fun v h' => Keeps L.blocks h h' ∧ v = .int .i64 0 ∧
    ∃ N : MemS, MemAt h' L N ∧ MemO h' L N ∧ N.until_ = -1 ∧ N.sure.length = M.sure.length ∧ N.way = [] ∧ (∀ i, N.read i = M.read i)) := by
  have hc1 : (M.call true).1 = 0 := by
    unfold MemS.call
    rw [hu]
    simp
  have hc2 : (M.call true).2 = { M with calls := IntKind.i64.wrap (M.calls + 1) } := by
    unfold MemS.call
    rw [hu]
    simp
  refine call_of hmix Tryz.func30 rfl ok30 (by simp [Tryz.f30]) ?_
  conv => whnf
  refine CallR.m (call_spec A true) (by simp [blocksOf]) fun v h1 k1 hv => ?_
  obtain ⟨rfl, A1⟩ := hv
  rw [hc1]
  rw [hc2] at A1
  have O1 : MemO h1 L { M with calls := IntKind.i64.wrap (M.calls + 1) } := O.keep k1 (fun b hb => by simp; exact (A.ap2 b hb).1)
  conv => whnf
  refine IfR.f rfl ?_
  conv => whnf
  refine LoadR.o A1.obj rfl ?_
  conv => whnf
  refine SemR.range rfl A1.way fun it hR ei si ki IR => ?_
  have AR := A1.on ki
  have OR : MemO hR L { M with calls := IntKind.i64.wrap (M.calls + 1) } := Own.keep O1 ki (by simp)
  have bl := A1.blt
  have hwn := keysW A1.way
  generalize hM1 : ({ M with calls := IntKind.i64.wrap (M.calls + 1) } : MemS) = M1 at *
  have hread1 : ∀ i, M1.read i = M.read i := fun i => by subst hM1; rfl
  have hsure1 : M1.sure = M.sure := by subst hM1; rfl
  have hway1 : M1.way = M.way := by subst hM1; rfl
  have hloose1 : M1.loose = M.loose := by subst hM1; rfl
  have hunt1 : M1.until_ = -1 := by subst hM1; exact hu
  have itne : ∀ b ∈ L.blocks, b ≠ it := fun b hb => by have := bl b hb; omega
  conv => whnf
  refine LoopR.on [0, 15] [] (fun q : List (Int × UInt64) × MemS => [(0, .v (.pointer (some ⟨L.m, 0, none⟩))), (15, .v (.pointer (some ⟨it, 0, none⟩)))])
    (fun _ => []) (fun q h' => Keeps (it :: L.blocks) hR h' ∧ (∃ last, IterL h' it L.wb (mapW q.1) last) ∧ MemAt h' L q.2 ∧ MemO h' L q.2 ∧ q.2.until_ = -1 ∧ q.2.sure.length = M.sure.length ∧ (∀ i, q.2.read i = M.read i) ∧ (q.1.map (·.1)).Nodup ∧ (∀ p ∈ q.1, lk q.2.loose p.1 = some p.2 ∧ q.2.there p.1 = true)) (fun q => q.1.length) (M1.way, M1) ?_ ?_
  · conv => whnf
    refine ⟨(M1.way, M1), rfl, rfl, rfl, Keeps.refl _ _, ⟨none, IR⟩, AR, OR, hunt1, by rw [hsure1], hread1, hwn, fun p hp => ?_⟩
    rw [hway1] at hp
    have := hw p hp
    rw [hloose1]
    refine ⟨this.1, ?_⟩
    unfold MemS.there
    rw [hsure1]; exact this.2
  · rintro ⟨R, N⟩ h2 ⟨k2, ⟨last, I2⟩, A2, O2, u2, s2, r2, n2, w2⟩
    simp only at I2 A2 O2 u2 s2 r2 n2 w2
    have wbit : it ≠ L.wb := fun e => itne L.wb (by simp [ML.blocks]) e.symm
    conv => whnf
    refine SemR.next I2 (by simp [blocksOf]) wbit (fun hR0 => ?_) (fun R1 p R2 h3 hRR s3 k3 I3 => ?_)
    · conv => whnf
      refine IfR.f rfl ?_
      conv => whnf
      refine LoadR.o A2.obj rfl ?_
      conv => whnf
      refine SemR.clearM rfl A2.way (by simp [blocksOf]) fun h3 s3 M3 k3 => ?_
      conv => whnf
      have a3 := A2.ap3
      refine ⟨?_, rfl, { N with way := [] }, ⟨k3.obj A2.obj (by simpa using a3.2), A2.sure.keepM k3 (fun b hb => by simpa using (A2.ap2 b hb).2.2), A2.loose.keep k3 (by simpa using A2.ap1), M3, A2.ap1, A2.ap2, fun b hb => Nat.lt_of_lt_of_le (A2.lt b hb) k3.size⟩, Own.keep O2 k3 (fun b hb => by simpa using (A2.ap2 b hb).2.2), u2, s2, rfl, r2⟩
      have ka : Keeps L.blocks h hR := (k1.mono (by simp [ML.blocks])).trans_nil ki
      have kb : Keeps L.blocks h h2 := ka.trans_new k2 (fun x hx => by
        rcases List.mem_cons.1 hx with rfl | hx
        · right; have := k1.size; omega
        · exact .inl hx)
      exact kb.trans (k3.mono (by simp [ML.blocks]))
    · obtain ⟨m1, q, m2, rfl, rfl, rfl, rfl⟩ := mapW_split hRR
      obtain ⟨ql, qt⟩ := w2 q (by simp)
      conv => whnf
      refine IfR.t rfl ?_
      conv => whnf
      refine SemR.entry I3 ?_
      have A3 := A2.keep k3 (fun b hb => by simp; exact itne b hb)
      have O3 : MemO h3 L N := Own.keep O2 k3 (fun b hb => by simp; exact itne b (by simp [ML.blocks, hb]))
      conv => whnf
      refine LoadR.o A3.obj rfl ?_
      have hq0 : 0 ≤ q.1 ∧ q.1 < N.sure.length := by simpa [MemS.there] using qt
      have hlen := A3.sure.hlen
      have hO := O3
      rcases hO with ⟨_, h0, _⟩ | ⟨b, cs, hb, ob, ht, hcl, hll, hcc⟩
      · omega
      obtain ⟨i, hi⟩ : ∃ i : Nat, q.1 = (i : Int) := ⟨q.1.toNat, by omega⟩
      have hi1 : i < N.sure.length := by omega
      have hbm : b ∈ blkA L.sa := by rw [hb]; simp [blkA]
      have ap := A2.ap2 b hbm
      conv => whnf
      refine IdxS.i i (by exact hi) (by omega) hb ?_
      conv => whnf
      refine StoreR.i ob ?_ (by simp [blocksOf]) fun h4 s4 o4 k4 => ?_
      · show 0 + i * 1 + 1 ≤ cs.length
        omega
      have hset : (cs.set i (wv q.2)).take (N.sure.set i q.2).length = (N.sure.set i q.2).map wv := by
        rw [List.length_set, List.take_set, List.map_set]
        rw [List.length_map] at ht
        rw [ht]
      have o4' : h4[b]? = some (.cells ⟨cs.set i (wv q.2)⟩ 26 (0, 0)) := by
        rw [o4]
        have e : spliceL (0 + i * 1) [wv q.2] cs = cs.set i (wv q.2) := by
          rw [show 0 + i * 1 = i by omega, splice_set1 _ _ _ (by omega)]
        exact congrArg (fun x => some (Obj.cells ⟨x⟩ 26 (0, 0))) e
      have O4 : MemO h4 L { N with sure := N.sure.set i q.2 } := .inr ⟨b, _, hb, o4', by simpa using hset, by rw [List.length_set]; exact hcl, by simpa using hll, hcc⟩
      have kb4 : ∀ x ∈ L.blocks, x ≠ b → x ∉ [b] := fun x _ hx => by simpa using hx
      have A4 : MemAt h4 L { N with sure := N.sure.set i q.2 } := ⟨k4.obj A3.obj (by simpa using fun e => ap.1 e.symm), own_sl O4 (by rw [List.length_set]; omega), A3.loose.keep k4 (by simpa using fun e => ap.2.1 e.symm), A3.way.keep k4 (by simpa using fun e => ap.2.2 e.symm), A3.ap1, A3.ap2, fun x hx => Nat.lt_of_lt_of_le (A3.lt x hx) k4.size⟩
      conv => whnf
      refine LoadR.o A4.obj rfl ?_
      conv => whnf
      refine LookR.is A4.loose (by rw [lookI_mapW, ql]) ?_
      conv => whnf
      first | refine IfR.t (by simp) ?_ | (refine MeetR.pass ?_; (conv => whnf); refine IfR.t (by simp) ?_)
      conv => whnf
      refine LoadR.o A4.obj rfl ?_
      conv => whnf
      refine SemR.del rfl rfl A4.loose (n := q.1) (by rw [lookI_mapW, ql]; simp) (by simp [blocksOf]) fun h5 j hj hjn s5 M5 k5 => ?_
      have hjn' : (N.loose[j]?).map (·.1) = some q.1 := by
        have : ((mapW N.loose)[j]?).map (·.1) = some q.1 := hjn
        unfold mapW at this
        rw [List.getElem?_map, Option.map_map] at this
        exact this
      have hln := keysW A4.loose
      rw [mapW_erase] at M5
      have a3 := A3.ap3
      conv => whnf
      refine ⟨(m1 ++ m2).length, by simp, ?_⟩
      conv => whnf
      have hN5 : ∀ x, lk (N.loose.eraseIdx j) x = if x = q.1 then none else lk N.loose x := fun x => lk_erase hln hjn' x
      refine ⟨(m1 ++ m2, { N with sure := N.sure.set i q.2, loose := N.loose.eraseIdx j }), rfl, rfl, rfl, ?_, ⟨some (q.1, wv q.2), ?_⟩, ⟨k5.obj A4.obj (by simpa using a3.1), A4.sure.keepM k5 (fun x hx => by simpa using (A3.ap2 x hx).2.1), M5, A4.way.keep k5 (by simpa using A3.ap1.symm), A3.ap1, A3.ap2, fun x hx => Nat.lt_of_lt_of_le (A4.lt x hx) k5.size⟩, Own.keep O4 k5 (fun x hx => by simpa using (A3.ap2 x hx).2.1), u2, by simp only [List.length_set]; exact s2, fun x => ?_, ?_, fun p hp => ?_⟩
      · exact ((k2.trans (k3.mono (by simp))).trans (k4.mono (by simp; right; simp [ML.blocks, hbm]))).trans (k5.mono (by simp [ML.blocks]))
      · have : mapW m1 ++ mapW m2 = mapW (m1 ++ m2) := List.map_append.symm
        have I3' : IterL h3 it L.wb (mapW (m1 ++ m2)) (some (q.1, wv q.2)) := by rw [← this]; exact I3
        refine (I3'.keep k4 ?_ (by simpa using fun e => ap.2.2 e.symm)).keep k5 ?_ (by simpa using A3.ap1.symm)
        · have := itne b (by simp [ML.blocks, hbm])
          simpa using fun e => this e.symm
        · have := itne L.lb (by simp [ML.blocks])
          simpa using fun e => this e.symm
      · rw [← r2 x]
        unfold MemS.read MemS.there
        simp only [List.length_set]
        split
        · rename_i hx
          rw [hN5]
          by_cases e : x = q.1
          · rw [if_pos e, e, ql, hi]
            simp [hi1]
          · rw [if_neg e]
            have hne : x.toNat ≠ i := by
              intro e2
              apply e
              have : 0 ≤ x := by simp at hx; exact hx.1
              omega
            rw [List.getElem?_set_ne (fun e => hne e.symm)]
        · rfl
      · have : (m1 ++ q :: m2).map (·.1) = m1.map (·.1) ++ q.1 :: m2.map (·.1) := by simp
        rw [this] at n2
        rw [List.map_append]
        exact (List.nodup_cons.1 (nodup_mid.1 n2)).2
      · have hp' : p ∈ m1 ++ q :: m2 := by
          simp only [List.mem_append, List.mem_cons] at hp ⊢
          rcases hp with h | h
          · exact .inl h
          · exact .inr (.inr h)
        obtain ⟨p1, p2⟩ := w2 p hp'
        refine ⟨?_, ?_⟩
        · show lk (N.loose.eraseIdx j) p.1 = some p.2
          have hne : p.1 ≠ q.1 := by
            intro e
            have : (m1 ++ q :: m2).map (·.1) = m1.map (·.1) ++ q.1 :: m2.map (·.1) := by simp
            rw [this] at n2
            have hnq := nodup_mid.1 n2
            rw [List.nodup_cons] at hnq
            apply hnq.1
            rw [← e, ← List.map_append]
            exact List.mem_map.2 ⟨p, hp, rfl⟩
          rw [hN5, if_neg hne]; exact p1
        · unfold MemS.there at p2 ⊢
          simp only [List.length_set]
          exact p2
end Go.Proofs.YtdfgkdoplagelaaGreatDoor
/-
  Layer 12: a memory is laid out.
-/
set_option linter.all false
set_option maxRecDepth 100000
set_option maxHeartbeats 2000000
namespace Go.Proofs.YtdfgkdoplagelaaGreatDoor
open Go Go.Eng

/-- the words of a memory that is laid out -/
def laidL : List UInt64 := ([7021221306412823411, 2824, 0, 0, 0, 0, 0, 0] : List UInt64) ++ (List.replicate 8 0 ++ (cardW (freshC 2 1) ++ List.replicate 2800 0))
theorem laidL_len : laidL.length = 2824 := by
  unfold laidL
  simp [cardW]

theorem laid_spec (h : Heap) : CallH Tryz.prog 25 [] h (fun v h' => Keeps [] h h' ∧ ∃ b, v = .slice (some ⟨b, 0, none⟩) 2824 2824 ∧ h.size ≤ b ∧ h'[b]? = some (.cells ⟨laidL.map wv⟩ 26 (0, 0))) := by
  refine call_of hmix Tryz.func25 rfl ok25 (by simp [Tryz.f25]) ?_
  conv => whnf
  refine CallR.i (size_spec h) fun v h1 k1 hv => ?_
  subst hv
  conv => whnf
  refine SemR.make (n := 2824) rfl rfl rfl rfl rfl (by decide) (by decide) fun b2 h2 e2 s2 o2 k2 => ?_
  conv => whnf
  refine CallR.i (head_spec h2) fun v h3 k3 hv => ?_
  obtain ⟨b3, rfl, hb3, _, o3⟩ := hv
  have z1 := k1.size
  have z2 := k2.size
  have z3 := k3.size
  have hhl : (([7021221306412823411, 2824, 0, 0, 0, 0, 0, 0] : List UInt64).map wv).length = 8 := rfl
  conv => whnf
  refine SemR.copy (sz := 1) (new := ([7021221306412823411, 2824, 0, 0, 0, 0, 0, 0] : List UInt64).map wv) rfl rfl rfl (k3.obj o2 (by simp)) rfl (fun j hj => by simp only [Heap.cell?, o3]; simp) (allOne_wv _) (by rw [hhl, List.length_replicate]; decide) (by simp [blocksOf]) fun h4 s4 o4 k4 => ?_
  have hz : List.replicate 2824 (Value.int .u64 0) = List.replicate 8 (.int .u64 0) ++ (List.replicate 8 (.int .u64 0) ++ (List.replicate 8 (.int .u64 0) ++ List.replicate 2800 (.int .u64 0))) := by
    rw [List.replicate_append_replicate, List.replicate_append_replicate, List.replicate_append_replicate]
  have e4 : spliceL 0 (([7021221306412823411, 2824, 0, 0, 0, 0, 0, 0] : List UInt64).map wv) (List.replicate 2824 (.int .u64 0)) = (([7021221306412823411, 2824, 0, 0, 0, 0, 0, 0] : List UInt64).map wv) ++ (List.replicate 8 (.int .u64 0) ++ (List.replicate 8 (.int .u64 0) ++ List.replicate 2800 (.int .u64 0))) := by
    rw [hz]
    have := splice_head (A := ([7021221306412823411, 2824, 0, 0, 0, 0, 0, 0] : List UInt64).map wv) (x := Value.int .u64 0) (B := List.replicate 8 (.int .u64 0) ++ (List.replicate 8 (.int .u64 0) ++ List.replicate 2800 (.int .u64 0)))
    rw [hhl] at this
    exact this
  rw [e4] at o4
  conv => whnf
  refine CallR.i (fresh6_spec 2 1 h4) fun v h5 k5 hv => ?_
  rw [if_pos (by decide)] at hv
  subst hv
  conv => whnf
  refine AllocR.i fun b6 h6 e6 s6 o6 k6 => ?_
  conv => whnf
  refine BoxR.i fun h7 s7 k7 => ?_
  have k47 : Keeps [] h4 h7 := (k5.trans k6).new1 k7 (by have := k5.size; omega)
  obtain ⟨fo, fr⟩ := freshC_ok (kind := 2) (by decide) 1
  conv => whnf
  refine CallR.i (write6_spec (freshC 2 1) fo h7) fun v h8 k8 hv => ?_
  rw [if_pos fr] at hv
  obtain ⟨b8, rfl, hb8, o8⟩ := hv
  conv => whnf
  refine CallR.i (cardAt_spec 1 h8) fun v h9 k9 hv => ?_
  subst hv
  conv => whnf
  refine SliceR.i 16 2824 rfl rfl (by decide) (by decide) ?_
  conv => whnf
  have eA : slA (some ⟨b2, 0, none⟩) 2824 16 1 = some ⟨b2, 0 + 16 * 1, none⟩ := by
    unfold slA
    rw [if_neg (by omega)]
    simp [addr_add]
  have eA' : slA (some ⟨b2, 0, none⟩) 2824 16 Tryz.prog.types[26].size = some ⟨b2, 0 + 16 * 1, none⟩ := eA
  rw [eA']
  have k49 := k47.trans (k8.trans k9)
  have hcw : (cardW (freshC 2 1)).length = 8 := rfl
  refine SemR.copy (sz := 1) (new := (cardW (freshC 2 1)).map wv) rfl rfl rfl (k49.obj o4 (by simp)) (by rw [List.length_map]; rfl) (fun j hj => by simp only [Heap.cell?, k9.obj o8 (by simp)]; simp) (allOne_wv _) (by simp [hcw]) ?_ fun h10 s10 o10 k10 => ?_
  · have := k3.size
    have := k4.size
    have := k5.size
    simp [blocksOf, setB]; omega
  conv => whnf
  have e10 : spliceL (0 + 16 * 1) ((cardW (freshC 2 1)).map wv) (([7021221306412823411, 2824, 0, 0, 0, 0, 0, 0] : List UInt64).map wv ++ (List.replicate 8 (.int .u64 0) ++ (List.replicate 8 (.int .u64 0) ++ List.replicate 2800 (.int .u64 0)))) = laidL.map wv := by
    have h1 : ([7021221306412823411, 2824, 0, 0, 0, 0, 0, 0] : List UInt64).map wv ++ (List.replicate 8 (Value.int .u64 0) ++ (List.replicate 8 (.int .u64 0) ++ List.replicate 2800 (.int .u64 0))) = (([7021221306412823411, 2824, 0, 0, 0, 0, 0, 0] : List UInt64).map wv ++ List.replicate 8 (.int .u64 0)) ++ (List.replicate 8 (.int .u64 0) ++ List.replicate 2800 (.int .u64 0)) := by rw [List.append_assoc]
    rw [h1]
    have h2 := splice_drop (A := ([7021221306412823411, 2824, 0, 0, 0, 0, 0, 0] : List UInt64).map wv ++ List.replicate 8 (.int .u64 0)) (N := (cardW (freshC 2 1)).map wv) (L := List.replicate 8 (.int .u64 0) ++ List.replicate 2800 (.int .u64 0))
    have hl : (([7021221306412823411, 2824, 0, 0, 0, 0, 0, 0] : List UInt64).map wv ++ List.replicate 8 (Value.int .u64 0)).length = 0 + 16 * 1 := by simp
    rw [hl] at h2
    rw [h2]
    have h3 := splice_head (A := (cardW (freshC 2 1)).map wv) (x := Value.int .u64 0) (B := List.replicate 2800 (.int .u64 0))
    rw [List.length_map, hcw] at h3
    rw [h3]
    unfold laidL
    simp only [List.map_append, List.map_replicate, List.append_assoc]
    rfl
  rw [e10] at o10
  refine ⟨?_, b2, rfl, by omega, o10⟩
  exact ((k1.trans (k2.trans k3)).new1 k4 (by omega)).trans k49 |>.new1 k10 (by omega)

def laidR (i : Int) : UInt64 := if 0 ≤ i ∧ i < 2824 then laidL[i.toNat]?.getD 0 else 0
theorem laidR_low {i : Int} : laidR i = if i = 0 then 7021221306412823411 else if i = 1 then 2824 else if 16 ≤ i ∧ i < 24 then (cardW (freshC 2 1))[(i - 16).toNat]?.getD 0 else 0 := by
  unfold laidR
  by_cases h : 0 ≤ i ∧ i < 2824
  · rw [if_pos h]
    obtain ⟨n, rfl⟩ : ∃ n : Nat, i = (n : Int) := ⟨i.toNat, by omega⟩
    rw [Int.toNat_natCast]
    unfold laidL
    have hl0 : ([7021221306412823411, 2824, 0, 0, 0, 0, 0, 0] : List UInt64).length = 8 := rfl
    have hl2 : (cardW (freshC 2 1)).length = 8 := rfl
    by_cases h8 : n < 8
    · rw [List.getElem?_append_left (by rw [hl0]; exact h8)]
      have : n = 0 ∨ n = 1 ∨ n = 2 ∨ n = 3 ∨ n = 4 ∨ n = 5 ∨ n = 6 ∨ n = 7 := by omega
      rcases this with rfl | rfl | rfl | rfl | rfl | rfl | rfl | rfl <;> rfl
    · rw [List.getElem?_append_right (by rw [hl0]; omega), hl0, if_neg (by omega), if_neg (by omega)]
      by_cases h16 : n < 16
      · rw [List.getElem?_append_left (by simp; omega), if_neg (by omega), List.getElem?_replicate, if_pos (by omega)]; rfl
      · rw [List.getElem?_append_right (by simp; omega), List.length_replicate]
        by_cases h24 : n < 24
        · rw [List.getElem?_append_left (by rw [hl2]; omega), if_pos (by omega)]
          congr 2
          omega
        · rw [List.getElem?_append_right (by rw [hl2]; omega), if_neg (by omega), List.getElem?_replicate]
          split <;> rfl
  · rw [if_neg h, if_neg (by omega), if_neg (by omega), if_neg (by omega)]
end Go.Proofs.YtdfgkdoplagelaaGreatDoor
/-
  Layer 12: a memory is laid out.
-/
set_option linter.all false
set_option maxRecDepth 100000
set_option maxHeartbeats 2000000
namespace Go.Proofs.YtdfgkdoplagelaaGreatDoor
open Go Go.Eng

/-- a memory that is being laid out: so many words are right -/
structure LayI (B : Int → UInt64) (at_ : Nat) (N : MemS) : Prop where
  u : N.until_ = -1
  len : N.sure.length = 2824
  read : ∀ i, N.read i = if i < at_ then laidR i else B i
  way : ∀ i, lk N.way i = lk N.loose i
  rng : ∀ i, lk N.loose i ≠ none → 0 ≤ i ∧ i < 2824

theorem call_calm {N : MemS} (hu : N.until_ = -1) (t : Bool) : N.call t = (if t then 0 else 1, { N with calls := IntKind.i64.wrap (N.calls + 1) }) := by
  unfold MemS.call
  rw [hu]
  cases t <;> rfl

theorem lineOf_in {i : Int} (hi : 0 ≤ i) : lineOf i ≤ i ∧ i < lineOf i + 8 := by
  unfold lineOf
  rw [Int.tmod_eq_emod_of_nonneg hi]
  omega

theorem LayI.step {B : Int → UInt64} {a : Nat} {N : MemS} (I : LayI B a N) (ha : a < 2824) : ∀ (c1 c2 : Int), LayI B (a + 1) { N with calls := c2, loose := putW N.loose a (laidR a), way := flushN (putW N.loose a (laidR a)) N.way (lineOf a) 8 } := by
  intro c1 c2
  have hl := lineOf_in (i := (a : Int)) (by omega)
  refine ⟨I.u, I.len, fun i => ?_, fun i => ?_, fun i hi => ?_⟩
  · have hr := I.read i
    unfold MemS.read MemS.there at hr ⊢
    simp only at hr ⊢
    rw [lk_put]
    by_cases e : i = (a : Int)
    · rw [if_pos e]
      have h1 : (decide (0 ≤ i) && decide (i < (N.sure.length : Int))) = true := by rw [I.len]; simp; omega
      rw [if_pos h1, if_pos (by omega), e]; rfl
    · rw [if_neg e, hr]
      by_cases h2 : i < (a : Int)
      · rw [if_pos h2, if_pos (by omega)]
      · rw [if_neg h2, if_neg (by omega)]
  · show lk (flushN _ _ _ 8) i = lk (putW _ _ _) i
    rw [lk_flushN, lk_put, I.way i]
    by_cases h1 : lineOf (a : Int) ≤ i ∧ i < lineOf (a : Int) + ((8 : Nat) : Int)
    · rw [if_pos h1]
      by_cases e : i = (a : Int)
      · rw [if_pos e]
      · rw [if_neg e]
        cases lk N.loose i <;> rfl
    · rw [if_neg h1, if_neg (by intro e; apply h1; omega)]
  · have hi' : lk (putW N.loose (a : Int) (laidR (a : Int))) i ≠ none := hi
    rw [lk_put] at hi'
    by_cases e : i = (a : Int)
    · omega
    · rw [if_neg e] at hi'
      exact I.rng i hi'

theorem LayI.skip {B : Int → UInt64} {a : Nat} {N : MemS} (I : LayI B a N) (h : N.read a = laidR a) : LayI B (a + 1) N := by
  refine ⟨I.u, I.len, fun i => ?_, I.way, I.rng⟩
  by_cases e : i = (a : Int)
  · rw [if_pos (by omega), e]; exact h
  · rw [I.read i]
    by_cases h2 : i < (a : Int)
    · rw [if_pos h2, if_pos (by omega)]
    · rw [if_neg h2, if_neg (by omega)]

theorem lay_spec {h : Heap} {L : ML} {M : MemS} (A : MemAt h L M) (O : MemO h L M) (hu : M.until_ = -1) (hs : M.sure.length = 2824) (hl0 : M.loose = []) (hw0 : M.way = []) : CallH Tryz.prog 13 [.pointer (some ⟨L.m, 0, none⟩)] h (fun v h' => Keeps L.blocks h h' ∧ v = .int .i64 0 ∧
    ∃ N : MemS, MemAt h' L N ∧ N.until_ = -1 ∧ N.sure.length = 2824 ∧ (∀ i, N.read i = laidR i)) := by
  have bl := A.blt
  refine call_of hmix Tryz.func13 rfl ok13 (by simp [Tryz.f13]) ?_
  conv => whnf
  refine CallR.i (laid_spec h) fun v h1 k1 hv => ?_
  obtain ⟨b1, rfl, hb1, o1⟩ := hv
  conv => whnf
  refine CallR.i (msize_spec (A.on k1)) fun v h2 k2 hv => ?_
  subst hv
  rw [hs]
  conv => whnf
  refine IfR.f rfl ?_
  have I0 : LayI M.read 0 M := ⟨hu, hs, fun i => by
    by_cases h : i < ((0 : Nat) : Int)
    · rw [if_pos h]
      have h1 : laidR i = 0 := by
        unfold laidR
        rw [if_neg (by omega)]
      have h2 : M.there i = false := by
        unfold MemS.there
        rw [decide_eq_false (by omega)]; rfl
      unfold MemS.read
      rw [h1, h2]; rfl
    · rw [if_neg h], fun i => by rw [hl0, hw0], fun i hi => by rw [hl0] at hi; exact absurd rfl hi⟩
  have nb1 : ∀ b ∈ L.blocks, b ≠ b1 := fun b hb => by have := bl b hb; omega
  have k12 := k1.trans k2
  have oll := laidL_len
  conv => whnf
  refine LoopR.on [0, 13, 14, 15] [] (fun q : Nat × MemS => [(0, .v (.pointer (some ⟨L.m, 0, none⟩))), (13, .v (.slice (some ⟨b1, 0, none⟩) 2824 2824)), (14, .v (.int .i64 2824)), (15, .v (.int .i64 (q.1 : Int)))]) (fun _ => [])
    (fun q h' => q.1 ≤ 2824 ∧ Keeps L.blocks h h' ∧ h'[b1]? = some (.cells ⟨laidL.map wv⟩ 26 (0, 0)) ∧ MemAt h' L q.2 ∧ MemO h' L q.2 ∧ LayI M.read q.1 q.2) (fun q => 2824 - q.1) (0, M) ?_ ?_
  · conv => whnf
    exact ⟨(0, M), rfl, rfl, rfl, Nat.zero_le _, k12.mono (by simp), k2.obj o1 (by simp), A.on k12, Own.keep O k12 (by simp), I0⟩
  · rintro ⟨a, N⟩ h3 ⟨ha, k3, o3, A3, O3, I3⟩
    simp only at ha A3 O3 I3
    conv => whnf
    refine IfR.i (fun hc => ?_) (fun hc => ?_)
    · have ha1 : a < 2824 := by
        have : (a : Int) < 2824 := by simpa using hc
        omega
      have hla : (laidL[a]'(by omega)) = laidR (a : Int) := by
        unfold laidR
        rw [if_pos (by omega), Int.toNat_natCast, List.getElem?_eq_getElem (by omega)]; rfl
      have hth : N.there (a : Int) = true := by unfold MemS.there; rw [I3.len]; simp; omega
      conv => whnf
      first | refine IdxS.i a rfl ha1 rfl ?_ | (refine MeetR.pass ?_; (conv => whnf); refine IdxS.i a rfl ha1 rfl ?_)
      conv => whnf
      refine LoadR.o (v := wv (laidL[a]'(by omega))) o3 ?_ ?_
      · rw [nth_eq]
        show (laidL.map wv)[0 + a * 1]? = _
        rw [show 0 + a * 1 = a by omega]
        simp [oll, ha1]
      rw [hla]
      conv => whnf
      refine CallR.i (mread_spec A3 (a : Int)) fun v h4 k4 hv => ?_
      subst hv
      have A4 := A3.on k4
      have O4 : MemO h4 L N := Own.keep O3 k4 (by simp)
      have o4 := k4.obj o3 (by simp)
      conv => whnf
      refine IfR.i (fun hd => ?_) (fun hd => ?_)
      · have he : N.read (a : Int) = laidR (a : Int) := by
          have : (((N.read (a : Int)).toNat : Nat) : Int) = (((laidR (a : Int)).toNat : Nat) : Int) := by simpa using hd
          exact UInt64.toNat_inj.1 (by omega)
        conv => whnf
        refine ⟨2824 - (a + 1), by omega, ?_⟩
        conv => whnf
        exact ⟨(a + 1, N), rfl, by rw [wrapN (x := (a : Int) + 1) (n := a + 1) (by simp) (by omega)], rfl, by simp only; omega, k3.trans_nil k4, o4, A4, O4, I3.skip he⟩
      · have hst : N.store (a : Int) (laidR (a : Int)) = (0, { N with calls := IntKind.i64.wrap (N.calls + 1), loose := putW N.loose (a : Int) (laidR (a : Int)) }) := by
          unfold MemS.store
          rw [call_calm I3.u, hth]
          rfl
        conv => whnf
        refine CallR.m (store_spec A4 (a : Int) (laidR (a : Int))) (by simp [blocksOf]) fun v h5 k5 hv => ?_
        rw [hst] at hv
        obtain ⟨rfl, A5⟩ := hv
        conv => whnf
        first | refine IfR.t rfl ?_ | (refine MeetR.pass ?_; (conv => whnf); refine IfR.t rfl ?_)
        have I5 := I3.step ha1
        generalize hN5 : ({ N with calls := IntKind.i64.wrap (N.calls + 1), loose := putW N.loose (a : Int) (laidR (a : Int)) } : MemS) = N5 at A5
        have hth5 : N5.there (a : Int) = true := by subst hN5; exact hth
        have hu5 : N5.until_ = -1 := by subst hN5; exact I3.u
        have O5 : MemO h5 L N5 := by
          have : MemO h5 L N := Own.keep O4 k5 (fun b hb => by have := A4.ap2 b hb; simp; exact ⟨this.1, this.2.1⟩)
          subst hN5; exact this
        have o5 := k5.obj o4 (by
          have q1 := nb1 L.m (by simp [ML.blocks])
          have q2 := nb1 L.lb (by simp [ML.blocks])
          simp; exact ⟨fun e => q1 e.symm, fun e => q2 e.symm⟩)
        conv => whnf
        refine CallR.m (flush_spec A5 (a : Int) (by omega) (by rw [call_calm hu5, hth5]; rfl)) (by simp [blocksOf]) fun v h6 k6 hv => ?_
        obtain ⟨rfl, A6⟩ := hv
        rw [call_calm hu5] at A6
        conv => whnf
        refine IfR.f rfl ?_
        conv => whnf
        refine ⟨2824 - (a + 1), by omega, ?_⟩
        conv => whnf
        have hN6 : ({ ({ N5 with calls := IntKind.i64.wrap (N5.calls + 1) } : MemS) with way := flushN ({ N5 with calls := IntKind.i64.wrap (N5.calls + 1) } : MemS).loose ({ N5 with calls := IntKind.i64.wrap (N5.calls + 1) } : MemS).way (lineOf (a : Int)) 8 } : MemS) = { N with calls := IntKind.i64.wrap (IntKind.i64.wrap (N.calls + 1) + 1), loose := putW N.loose (a : Int) (laidR (a : Int)), way := flushN (putW N.loose (a : Int) (laidR (a : Int))) N.way (lineOf (a : Int)) 8 } := by subst hN5; rfl
        have A6' : MemAt h6 L { N with calls := IntKind.i64.wrap (IntKind.i64.wrap (N.calls + 1) + 1), loose := putW N.loose (a : Int) (laidR (a : Int)), way := flushN (putW N.loose (a : Int) (laidR (a : Int))) N.way (lineOf (a : Int)) 8 } := by rw [← hN6]; exact A6
        refine ⟨(a + 1, _), rfl, by rw [wrapN (x := (a : Int) + 1) (n := a + 1) (by simp) (by omega)], rfl, by simp only; omega, ?_, ?_, A6', ?_, I5 0 _⟩
        · exact ((k3.trans_nil k4).trans (k5.mono (by simp [ML.blocks]))).trans (k6.mono (by simp [ML.blocks]))
        · refine k6.obj o5 ?_
          have q1 := nb1 L.m (by simp [ML.blocks])
          have q2 := nb1 L.wb (by simp [ML.blocks])
          simp; exact ⟨fun e => q1 e.symm, fun e => q2 e.symm⟩
        · have : MemO h6 L N5 := Own.keep O5 k6 (fun b hb => by have := A5.ap2 b hb; simp; exact ⟨this.1, this.2.2⟩)
          subst hN5; exact this
    · have ha1 : a = 2824 := by
        have : ¬ ((a : Int) < 2824) := by simpa using hc
        omega
      subst ha1
      have hkw := keysW A3.way
      conv => whnf
      refine CallR.m (fence_spec A3 O3 I3.u (by rw [I3.len]; decide) (fun p hp => ?_)) (by simp [blocksOf]) fun v h4 k4 hv => ?_
      · have h1 := lk_of_mem hkw hp
        rw [I3.way] at h1
        have h2 := I3.rng p.1 (by rw [h1]; simp)
        refine ⟨h1, ?_⟩
        unfold MemS.there
        rw [I3.len]; simp; omega
      obtain ⟨rfl, N', A4, _, u4, l4, _, r4⟩ := hv
      conv => whnf
      refine ⟨k3.trans k4, rfl, N', A4, u4, by rw [l4, I3.len], fun i => ?_⟩
      rw [r4, I3.read]
      by_cases h : i < ((2824 : Nat) : Int)
      · rw [if_pos h]
      · rw [if_neg h]
        have h1 : laidR i = 0 := by
          unfold laidR
          rw [if_neg (by omega)]
        have h2 : M.there i = false := by
          unfold MemS.there
          rw [hs, decide_eq_false (show ¬ (i < ((2824 : Nat) : Int)) from h)]; simp
        unfold MemS.read
        rw [h1, h2]; rfl
end Go.Proofs.YtdfgkdoplagelaaGreatDoor
/-
  Layer 12's statements: a world that is begun, plain; the files that are put into it.
-/
set_option linter.all false
set_option maxRecDepth 100000
set_option maxHeartbeats 1000000
namespace Go.Proofs.YtdfgkdoplagelaaGreatDoor
open Go Go.Eng

def T0 : List Nod := [⟨0, 0, 0, [], []⟩, ⟨1, 2, 1, [], []⟩]
def S0 : FS := ⟨fun n => if n = 1 then freshC 2 1 else noneC 0, fun _ => [], fun _ => []⟩

theorem laid_own {k : Int} (h0 : 0 ≤ k) : laidR (200 + k) = 0 := by
  rw [laidR_low, if_neg (by omega), if_neg (by omega), if_neg (by omega)]
theorem laid_cards : ∀ n : Fin 24, rdL laidR (8 + (n.val : Int) * 8) 8 = cardW (if (n.val : Int) = 1 then freshC 2 1 else noneC 0) := by decide +kernel

theorem fs0 : FsI laidR S0 := by
  have hno : ∀ n : Int, 0 ≤ n → n < 24 → ∀ x, 0 ≤ x → x < 96 → laidR (200 + x) ≠ w64 (n + 1) := by
    intro n n0 n1 x x0 x1 e
    rw [laid_own x0] at e
    have h1 : (w64 (n + 1)).toNat = (n + 1).toNat := by
      unfold w64
      rw [UInt64.toNat_ofNat']
      omega
    rw [← e] at h1
    have : (0 : UInt64).toNat = 0 := rfl
    omega
  refine ⟨fun n n0 n1 => ?_, fun n n0 n1 => ?_, rfl, fun k k0 k1 => .inl (laid_own k0)⟩
  · have := laid_cards ⟨n.toNat, by omega⟩
    simp only [Int.toNat_of_nonneg n0] at this
    exact this
  · by_cases h : n = 1
    · have : S0.C n = freshC 2 1 := if_pos h
      rw [this]
      exact fresh_node (by decide) 1 (hno n n0 n1)
    · have : S0.C n = noneC 0 := if_neg h
      rw [this]
      exact none_node 0 (hno n n0 n1)

theorem wi0 : WI laidR ⟨laidR, [], [], [], []⟩ S0 T0 [0, 1] := by
  have one : ∀ i, inT T0 i → i = 1 := fun i hi => by have h1 := hi.1; have h2 := hi.2; have : T0.length = 2 := rfl; omega
  refine ⟨fs0, ⟨rfl, by decide, ⟨rfl, rfl⟩, fun i hi => ?_, fun i j hi hj _ => by rw [one i hi, one j hj], fun i hi => ?_, fun i hi _ => ?_, fun i hi _ => ?_, fun i hi _ => ?_⟩, fun n n0 n1 hk => ?_, ?_, rfl⟩
  · rw [one i hi]; decide
  · rw [one i hi]; decide
  · rw [one i hi]
    exact ⟨rfl, (fun e he => nomatch (show e ∈ ([] : List Ent) from he)), List.Pairwise.nil⟩
  · rw [one i hi]; rfl
  · rw [one i hi]; rfl
  · refine ⟨1, ⟨by decide, by decide⟩, ?_⟩
    by_cases h : n = 1
    · rw [h]; rfl
    · have : S0.C n = noneC 0 := if_neg h
      rw [this] at hk
      exact absurd rfl hk
  · have : freeN laidR ⟨laidR, [], [], [], []⟩ 96 = 96 := by
      unfold freeN
      rw [List.filter_eq_self.2 (fun j hj => ?_), List.length_range]
      have hj := List.mem_range.1 hj
      unfold freshB
      have h0 : laidR (200 + (j : Int)) = 0 := laid_own (by omega)
      simp [h0]
      omega
    rw [this]; decide

/-- files that are put, one behind the other -/
inductive RunT : List Fil → List Nod → List Int → Prop
  | nil : RunT [] T0 [0, 1]
  | put {fs : List Fil} {T : List Nod} {num : List Int} {f : Fil} {T' : List Nod} {num' : List Int} : RunT fs T num → PutT T num f T' num' → (PutG T f → T'.length = T.length + 1) → RunT (fs ++ [f]) T' num'

theorem PutT.len {T : List Nod} {num : List Int} {f : Fil} {T' : List Nod} {num' : List Int} (P : PutT T num f T' num') : T'.length ≤ T.length + 1 := by
  rcases P with ⟨rfl, rfl⟩ | ⟨n, _, _, _, _, rfl, rfl⟩
  · omega
  · unfold nset; simp
theorem RunT.len {fs : List Fil} {T : List Nod} {num : List Int} (R : RunT fs T num) : T.length ≤ 2 + fs.length := by
  induction R with
  | nil => decide
  | put _ P _ ih => have := P.len; rw [List.length_append]; show _ ≤ 2 + (_ + 1); omega
end Go.Proofs.YtdfgkdoplagelaaGreatDoor
/-
  Layer 12's statements: a world is begun.
-/
set_option linter.all false
set_option maxRecDepth 100000
set_option maxHeartbeats 4000000
namespace Go.Proofs.YtdfgkdoplagelaaGreatDoor
open Go Go.Eng

instance : Rp Fil where
  n := 4
  rep _ vs x := vs = x.cells ∧ x.ok
  len h := by rw [h.1]; rfl
  keep _ h := h
instance : Flat Fil := ⟨fun h => h⟩

section
variable {H : Type} {enc : TypeId × Value → H} {W : World} {sp : Nat → Bool} {held : Bool}
theorem opens_fil : Opens enc Tryz.prog W sp held 56 Fil := by
  intro fuel cs x h hw
  obtain ⟨hl, f', hp⟩ := trod_parts Tryz.underlying56 h hw
  obtain ⟨a, b, c, d, rfl⟩ : ∃ a b c d, cs = [a, b, c, d] := by
    match cs, hl with
    | [a, b, c, d], _ => exact ⟨a, b, c, d, rfl⟩
  obtain ⟨y0, h0, w0⟩ := hp _ (List.mem_cons_self)
  obtain ⟨y1, h1, w1⟩ := hp _ (List.mem_cons_of_mem _ List.mem_cons_self)
  obtain ⟨y2, h2, w2⟩ := hp _ (List.mem_cons_of_mem _ (List.mem_cons_of_mem _ List.mem_cons_self))
  obtain ⟨y3, h3, w3⟩ := hp _ (List.mem_cons_of_mem _ (List.mem_cons_of_mem _ (List.mem_cons_of_mem _ List.mem_cons_self)))
  obtain ⟨n, e0, g0⟩ := opens_int (W := W) Tryz.underlying3 f' _ _ h0 w0
  obtain ⟨m, e1, g1⟩ := opens_int (W := W) Tryz.underlying3 f' _ _ h1 w1
  obtain ⟨s, e2, g2⟩ := opens_string (W := W) Tryz.underlying9 f' _ _ h2 w2
  obtain ⟨t, e3, g3⟩ := opens_string (W := W) Tryz.underlying9 f' _ _ h3 w3
  cases e0; cases e1; cases e2; cases e3
  obtain ⟨l, rfl⟩ : ∃ l : List UInt8, s = ⟨l.toArray⟩ := ⟨s.data.toList, rfl⟩
  obtain ⟨k, rfl⟩ : ∃ l : List UInt8, t = ⟨l.toArray⟩ := ⟨t.data.toList, rfl⟩
  exact ⟨⟨n, m, l, k⟩, rfl, g0, g1, by have := g2; unfold okStr at this; rwa [bs_size] at this, by have := g3; unfold okStr at this; rwa [bs_size] at this⟩
theorem opens_fils : Opens enc Tryz.prog W sp held 22 (List Fil) := opens_slice Tryz.underlying22 (by kernel_rfl) (by decide) (of_decide_eq_true (by kernel_rfl)) opens_fil
end

def L0 : List NodH := [⟨⟨0, 0, 0, [], []⟩, none, 0, 0⟩, ⟨⟨1, 2, 1, [], []⟩, none, 0, 0⟩]

theorem new12_spec (h : Heap) : CallH Tryz.prog 15 [] h (fun v h' => Keeps [] h h' ∧ ∃ bT t, v = .pointer (some ⟨t, 0, none⟩) ∧ h.size ≤ bT ∧ h.size ≤ t ∧ h'[t]? = some (.cells ⟨[.slice (some ⟨bT, 0, none⟩) 2 2]⟩ 51 (0, 0)) ∧ h'[bT]? = some (.cells ⟨nodC L0⟩ 48 (0, 0))) := by
  refine call_of hmix Tryz.func15 rfl ok15 (by simp [Tryz.f15]) ?_
  conv => whnf
  refine AllocR.i fun b1 h1 e1 s1 o1 k1 => ?_
  conv => whnf
  refine AllocR.i fun b2 h2 e2 s2 o2 k2 => ?_
  conv => whnf
  exact ⟨k1.trans k2, b1, b2, rfl, by omega, by omega, o2, k2.obj o1 (by simp)⟩

theorem begin12_spec {h : Heap} {a : Option Addr} {n c : Nat} {fs : List Fil} (S : Sl h a n c fs) : CallH Tryz.prog 7 [.slice a n c] h (fun v h' => Keeps [] h h' ∧ ∃ (z w t : Nat) (V : VL) (aT : Option Addr) (cT : Nat) (L : List NodH) (aN : Option Addr) (cN : Nat) (num : List Int) (M : MemS) (X : VS) (S : FS),
      v = .pointer (some ⟨w, 0, none⟩) ∧ h.size ≤ z ∧ (∀ b ∈ V.blocks, h.size ≤ b) ∧ WorldH h' z w t V aT cT L aN cN num ∧ At h' V M X ∧ WI M.read X S (nds L) num ∧ RunT (fs.take 18) (nds L) num) := by
  have hl := S.hlen
  have hc := S.hcap
  have hn := S.hbig
  refine call_of hmix Tryz.func7 rfl ok7 (by simp [Tryz.f7]) ?_
  conv => whnf
  refine CallR.i (mnew_spec 2824 (by decide) (by decide) h) fun v h1 k1 hv => ?_
  obtain ⟨ML1, rfl, A1, O1, n1⟩ := hv
  have z1 := k1.size
  conv => whnf
  refine CallR.m (lay_spec A1 O1 rfl rfl rfl rfl) (by simp [blocksOf]) fun v h2 k2 hv => ?_
  obtain ⟨rfl, N, A2, hu, hs, hr⟩ := hv
  have z2 := k2.size
  conv => whnf
  refine IfR.f rfl ?_
  conv => whnf
  refine CallR.i (new_spec A2) fun v h3 k3 hv => ?_
  rw [if_pos hs] at hv
  obtain ⟨V, rfl, hVm, hab, hanb, hVn, A3⟩ := hv
  have z3 := k3.size
  have hr2 : N.read = laidR := funext hr
  rw [hr2] at A3
  conv => whnf
  refine CallR.i (new12_spec h3) fun v h4 k4 hv => ?_
  obtain ⟨bT, t, rfl, hbT, ht, o4t, o4b⟩ := hv
  have z4 := k4.size
  conv => whnf
  refine AllocR.i fun b5 h5 e5 s5 o5 k5 => ?_
  conv => whnf
  refine AllocR.i fun w h6 e6 s6 o6 k6 => ?_
  have z5 := k5.size
  have z6 := k6.size
  have k36 : Keeps [] h3 h6 := k4.trans (k5.trans k6)
  have A6 := A3.on k36
  have hVlt : ∀ b ∈ V.blocks, b < h3.size := A3.blt
  have hVge : ∀ b ∈ V.blocks, h.size ≤ b := by
    intro b hb
    have hb2 : b ∈ [V.v, V.ob, V.sb, V.mb] ∨ b ∈ ML1.blocks := by
      unfold VL.blocks at hb
      rw [hVm, hab, hanb] at hb
      simp only [List.mem_cons, List.mem_append, Option.toList, List.not_mem_nil, or_false] at hb ⊢
      rcases hb with h | h | h | h | h <;> simp [h]
    rcases hb2 with h | h
    · have := hVn b h; omega
    · exact n1 b h
  have W6 : WorldH h6 h3.size w t V (some ⟨bT, 0, none⟩) 2 L0 (some ⟨b5, 0, none⟩) 2 [0, 1] := by
    refine ⟨o6, (k5.trans k6).obj o4t (by simp), .inr ⟨bT, _, rfl, (k5.trans k6).obj o4b (by simp), rfl, rfl, rfl, by decide⟩, .inr ⟨b5, _, rfl, k6.obj o5 (by simp), rfl, rfl, rfl, by decide⟩, fun x hx => ?_, ⟨by omega, by omega, fun b hb => ?_, fun b hb => ?_⟩, hVlt⟩
    · have : x = ⟨⟨0, 0, 0, [], []⟩, none, 0, 0⟩ ∨ x = ⟨⟨1, 2, 1, [], []⟩, none, 0, 0⟩ := by simpa [L0] using hx
      rcases this with rfl | rfl
      · exact ⟨rfl, .inl ⟨rfl, rfl, rfl, rfl⟩, by simp [blkA], by simp, by simp⟩
      · exact ⟨rfl, .inl ⟨rfl, rfl, rfl, rfl⟩, by simp [blkA], by simp, by simp⟩
    · have : b = bT := by simpa [blkA] using hb
      omega
    · have : b = b5 := by simpa [blkA] using hb
      omega
  have k06 : Keeps [] h h6 := (k1.nil_of k2 (fun b hb => n1 b hb)).trans (k3.trans k36)
  have R6 : WI N.read ⟨N.read, [], [], [], []⟩ S0 (nds L0) [0, 1] := by rw [hr2]; exact wi0
  rw [← hr2] at A6
  conv => whnf
  refine LoadR.o o6 rfl ?_
  conv => whnf
  refine IfR.f rfl ?_
  conv => whnf
  refine LoopR.on [0, 4, 5] [] (fun i : Nat => [(0, .v (.slice a n c)), (4, .v (.pointer (some ⟨w, 0, none⟩))), (5, .v (.int .i64 (i : Int)))]) (fun _ => []) (fun i h' => i ≤ n ∧ i ≤ 18 ∧ Keeps [] h h' ∧ ∃ (aT : Option Addr) (cT : Nat) (L : List NodH) (aN : Option Addr) (cN : Nat) (num : List Int) (X : VS) (S : FS), WorldH h' h3.size w t V aT cT L aN cN num ∧ At h' V N X ∧ WI N.read X S (nds L) num ∧ RunT (fs.take i) (nds L) num) (fun i => n - i) 0 ?_ ?_
  · conv => whnf
    exact ⟨0, rfl, rfl, rfl, Nat.zero_le _, Nat.zero_le _, k06, _, _, _, _, _, _, _, _, W6, A6, R6, .nil⟩
  · rintro i h7 ⟨hi, hi18, k07, aT, cT, L, aN, cN, num, X, S', W7, A7, I7, R7⟩
    conv => whnf
    refine IfR.i (fun hd => ?_) (fun hd => ?_)
    · have hd1 : i < n ∧ i < 18 := by
        rw [bif_and] at hd
        simp at hd
        omega
      have hi1 : i < fs.length := by omega
      have S7 := S.keep k07
      obtain ⟨b8, o8, hb8, _, ⟨rfl, hok⟩, hc8⟩ := S7.at_ i hi1
      have hlen : L.length ≤ 20 := by
        have := R7.len
        rw [nds_len, List.length_take] at this
        omega
      conv => whnf
      first | refine IdxS.i i rfl (by omega) hb8 ?_ | (refine MeetR.pass ?_; (conv => whnf); refine IdxS.i i rfl (by omega) hb8 ?_)
      conv => whnf
      refine LoadN.i (vs := fs[i].cells) rfl (fun j hj => hc8 j hj) ?_
      conv => whnf
      refine CallR.m (put12_spec' W7 A7 I7 hlen fs[i] hok) (by simp [blocksOf]) fun v h9 k9 hv => ?_
      obtain ⟨aT', cT', L', aN', cN', num', X', S'', W9, A9, I9, P9, G9⟩ := hv
      conv => whnf
      refine ⟨n - (i + 1), by omega, ?_⟩
      conv => whnf
      refine ⟨i + 1, rfl, by rw [wrapN (x := (i : Int) + 1) (n := i + 1) (by simp) (by omega)], rfl, by omega, by omega, k07.nil_of k9 (fun x hx => ?_), aT', cT', L', aN', cN', num', X', S'', W9, A9, I9, ?_⟩
      · rcases putB_in W7 x hx with h | h
        · exact hVge x h
        · omega
      · have : fs.take (i + 1) = fs.take i ++ [fs[i]] := by rw [List.take_succ_eq_append_getElem hi1]
        rw [this]
        exact .put R7 P9 G9
    · have hd1 : ¬ (i < n ∧ i < 18) := by
        rw [bif_and] at hd
        simp at hd
        omega
      conv => whnf
      refine ⟨k07, h3.size, w, t, V, aT, cT, L, aN, cN, num, N, X, S', rfl, by omega, hVge, W7, A7, I7, ?_⟩
      have : fs.take 18 = fs.take i := by
        by_cases h18 : i = 18
        · rw [h18]
        · rw [List.take_of_length_le (by omega), List.take_of_length_le (by omega)]
      rw [this]; exact R7
end Go.Proofs.YtdfgkdoplagelaaGreatDoor
/-
  Layer 12's statements: a link is lived through.
-/
set_option linter.all false
set_option maxRecDepth 100000
set_option maxHeartbeats 4000000
namespace Go.Proofs.YtdfgkdoplagelaaGreatDoor
open Go Go.Eng

theorem RunT.inv {fs : List Fil} {f : Fil} {T' : List Nod} {num' : List Int} (R : RunT (fs ++ [f]) T' num') : ∃ T num, RunT fs T num ∧ PutT T num f T' num' ∧ (PutG T f → T'.length = T.length + 1) := by
  generalize he : fs ++ [f] = gs at R
  cases R with
  | nil => simp at he
  | put R P G =>
    obtain ⟨rfl, e2⟩ := List.append_inj' he rfl
    cases e2
    exact ⟨_, _, R, P, G⟩
theorem RunT.inv0 {T' : List Nod} {num' : List Int} (R : RunT [] T' num') : T' = T0 ∧ num' = [0, 1] := by
  generalize he : ([] : List Fil) = gs at R
  cases R with
  | nil => exact ⟨rfl, rfl⟩
  | put R P G => simp at he

/-- the next tree -/
def nextT (T : List Nod) (f : Fil) : List Nod := nset T (dirOf f T.length) (insL (tn T (dirOf f T.length)).names ⟨f.name, (T.length : Int)⟩) ++ [⟨T.length, kindOf f, 1, datOf f, []⟩]

theorem put_next {T : List Nod} {num : List Int} {f : Fil} {T' : List Nod} {num' : List Int} (hid : ∀ i, inT T i → nu num i = i) (h2 : 2 ≤ T.length) (P : PutT T num f T' num') (G : PutG T f → T'.length = T.length + 1) (g : PutG T f) :
    T' = nextT T f ∧ num' = num ++ [(T.length : Int)] := by
  have hl := G g
  rcases P with ⟨rfl, _⟩ | ⟨n, n2, n24, hnew, hleast, rfl, rfl⟩
  · omega
  · have hge : (T.length : Int) ≤ n := by
      apply Classical.byContradiction
      intro h
      have hi : inT T n := ⟨by omega, by omega⟩
      exact hnew n hi (hid n hi)
    have hle : n ≤ (T.length : Int) := by
      apply Classical.byContradiction
      intro h
      obtain ⟨i, hi, he⟩ := hleast (T.length : Int) (by omega) (by omega)
      rw [hid i hi] at he
      have := hi.2
      omega
    have : n = (T.length : Int) := by omega
    subst this
    exact ⟨rfl, rfl⟩

def f1 : Fil := ⟨0, 1, [98], []⟩
def f2 : Fil := ⟨0, 2, [97], [47, 98]⟩
def f3 : Fil := ⟨1, 0, [99], []⟩
def T3 : List Nod := nextT (nextT (nextT T0 f1) f2) f3

theorem run3 {T : List Nod} {num : List Int} (R : RunT [f1, f2, f3] T num) : T = T3 ∧ num = [0, 1, 2, 3, 4] := by
  obtain ⟨U2, m2, R2, P2, G2⟩ := RunT.inv (fs := [f1, f2]) (f := f3) R
  obtain ⟨U1, m1, R1, P1, G1⟩ := RunT.inv (fs := [f1]) (f := f2) R2
  obtain ⟨U0, m0, R0, P0, G0⟩ := RunT.inv (fs := []) (f := f1) R1
  obtain ⟨rfl, rfl⟩ := R0.inv0
  have ids : ∀ (T : List Nod) (num : List Int), (∀ k : Fin T.length, num[k.val]?.getD 0 = (k.val : Int)) → ∀ i, inT T i → nu num i = i := by
    intro T num h i hi
    have h1 := hi.1
    have h2 := hi.2
    have := h ⟨i.toNat, by omega⟩
    unfold nu
    rw [this]
    simp; omega
  obtain ⟨rfl, rfl⟩ := put_next (ids _ _ (by decide +kernel)) (by decide) P0 G0 (by unfold PutG; decide +kernel)
  obtain ⟨rfl, rfl⟩ := put_next (ids _ _ (by decide +kernel)) (by decide +kernel) P1 G1 (by unfold PutG; decide +kernel)
  obtain ⟨rfl, rfl⟩ := put_next (ids _ _ (by decide +kernel)) (by decide +kernel) P2 G2 (by unfold PutG; decide +kernel)
  exact ⟨rfl, by decide +kernel⟩

theorem path_ac : pathP [47, 97, 47, 99] = some [[97], [99]] := by decide +kernel
theorem path_a : pathP [47, 97] = some [[97]] := by decide +kernel
theorem walk_ac : walkA (docFs T3) 1 true 600 1 0 [[97], [99]] = (4, 0) := by decide +kernel
theorem walk_a : walkA (docFs T3) 1 false 600 1 0 [[97]] = (3, 0) := by decide +kernel

/-- a path, in a world -/
theorem WI.path {B : Int → UInt64} {X : VS} {S : FS} {T : List Nod} {num : List Int} (W : WI B X S T num) (path : List UInt8) (follow : Bool) :
    (pathA (viewFs S) path follow).2 = (pathA (docFs T) path follow).2 ∧ ((pathA (docFs T) path follow).2 = 0 → (pathA (viewFs S) path follow).1 = nu num (pathA (docFs T) path follow).1 ∧ inT T (pathA (docFs T) path follow).1) := by
  unfold pathA
  cases pathP path with
  | none => exact ⟨rfl, fun h => by cases h⟩
  | some l =>
    have h1 : inT T 1 := by have := W.w.two; exact ⟨by omega, by omega⟩
    have := walkA_alike W.w.alike (root := 1) (follow := follow) h1 600 1 0 l h1
    rw [W.w.root.1] at this
    exact this
end Go.Proofs.YtdfgkdoplagelaaGreatDoor
/-
  Layer 12's statements: a link is lived through, walked.
-/
set_option linter.all false
set_option maxRecDepth 100000
set_option maxHeartbeats 4000000
namespace Go.Proofs.YtdfgkdoplagelaaGreatDoor
open Go Go.Eng

theorem fil_ok (f : Fil) (h : inI64 f.in_ ∧ inI64 f.kind ∧ f.name.length ≤ 100 ∧ f.data.length ≤ 100) : f.ok := ⟨h.1, h.2.1, by omega, by omega⟩

theorem lives12_spec (h : Heap) : CallH Tryz.prog 6 [] h (fun v h' => Keeps [] h h' ∧ v = .bool true) := by
  refine call_of hmix Tryz.func6 rfl ok6 (by simp [Tryz.f6]) ?_
  conv => whnf
  refine AllocR.i fun b1 h1 e1 s1 o1 k1 => ?_
  have S1 : Sl h1 (some ⟨b1, 0, none⟩) 3 3 [f1, f2, f3] := by
    refine ⟨rfl, Nat.le_refl _, by decide, fun i hi => ⟨b1, 0, rfl, ([f1, f2, f3][i]).cells, ⟨rfl, ?_⟩, fun j hj => ?_⟩⟩
    · have hall : ∀ f ∈ [f1, f2, f3], f.ok := by
        intro f hf
        have : f = f1 ∨ f = f2 ∨ f = f3 := by simpa using hf
        rcases this with rfl | rfl | rfl <;> exact fil_ok _ ⟨by unfold inI64; decide, by unfold inI64; decide, by decide, by decide⟩
      exact hall _ (List.getElem_mem hi)
    · unfold Heap.cell?
      rw [o1]
      have h4 : j = 0 ∨ j = 1 ∨ j = 2 ∨ j = 3 := by simp [Fil.cells] at hj; omega
      have : i = 0 ∨ i = 1 ∨ i = 2 := by simp at hi; omega
      rcases this with rfl | rfl | rfl <;> rcases h4 with rfl | rfl | rfl | rfl <;> rfl
  conv => whnf
  refine CallR.i (begin12_spec S1) fun v h2 k2 hv => ?_
  obtain ⟨z, w, t, V, aT, cT, L, aN, cN, num, M, X, S, rfl, hz, hVg, H2, A2, W2, R2⟩ := hv
  have R3 : RunT [f1, f2, f3] (nds L) num := R2
  obtain ⟨hT, hnum⟩ := run3 R3
  have z1 := k1.size
  have z2 := k2.size
  conv => whnf
  refine IfR.f rfl ?_
  conv => whnf
  refine LoadR.o H2.obj rfl ?_
  have hVz := H2.zv
  conv => whnf
  refine CallR.m (vpath_spec A2 W2.fs W2.fc [47, 97, 47, 99] (by decide) true) (by simp [blocksOf]) fun v h3 k3 hv => ?_
  obtain ⟨rfl, s3, A3⟩ := hv
  obtain ⟨p1, p2⟩ := W2.path [47, 97, 47, 99] true
  have pe : pathA (docFs (nds L)) [47, 97, 47, 99] true = (4, 0) := by
    unfold pathA
    rw [path_ac, hT]
    exact walk_ac
  rw [pe] at p1 p2
  obtain ⟨p3, p4⟩ := p2 rfl
  have hn4 : nu num 4 = 4 := by rw [hnum]; rfl
  have hc4 : (S.C 4).kind = 1 := by
    have := (W2.w.kind 4 p4).1
    rw [hn4, hT] at this
    rw [this]
    decide +kernel
  have er : pathA (viewFs S) [47, 97, 47, 99] true = (4, 0) := Prod.ext (by rw [p3]; exact hn4) p1
  rw [er]
  have k03 : Keeps [V.sb] h2 h3 := k3
  have z3 := k3.size
  have hsb : V.sb < z := hVz V.sb (by simp [VL.blocks])
  have H3 := H2.keep k3 (fun x hx => by simp at hx; omega)
  unfold walkV
  rw [if_pos rfl]
  conv => whnf
  refine AllocR.i fun b4 h4 e4 s4 o4 k4 => ?_
  conv => whnf
  refine BoxR.i fun h5 s5 k5 => ?_
  have k35 : Keeps [] h3 h5 := k4.new1 k5 (by omega)
  have A5 := A3.on k35
  have H5 := H3.keep k35 (by simp)
  have z5 := k35.size
  conv => whnf
  refine LoadR.o H5.obj rfl ?_
  conv => whnf
  refine CallR.m (vpath_spec (X := { X with seen := s3 }) A5 W2.fs W2.fc [47, 97] (by decide) false) (fun y hy hx => by
      have hy2 : y = b4 := by simpa [blocksOf, setB] using hy
      have := H2.old
      have h2z : z ≤ h2.size := by have := H2.zw; have := this.1; omega
      simp at hx; omega) fun v h6 k6 hv => ?_
  obtain ⟨rfl, s6, A6⟩ := hv
  have hz2 : z ≤ h2.size := by have := H2.old; have := H2.zw; omega
  have H6 := H5.keep k6 (fun x hx => by simp at hx; omega)
  have z6 := k6.size
  obtain ⟨q1, q2⟩ := W2.path [47, 97] false
  have qe : pathA (docFs (nds L)) [47, 97] false = (3, 0) := by
    unfold pathA
    rw [path_a, hT]
    exact walk_a
  rw [qe] at q1 q2
  obtain ⟨q3, q4⟩ := q2 rfl
  have hn3 : nu num 3 = 3 := by rw [hnum]; rfl
  have er2 : pathA (viewFs S) [47, 97] false = (3, 0) := Prod.ext (by rw [q3]; exact hn3) q1
  rw [er2]
  unfold walkV
  rw [if_pos rfl]
  conv => whnf
  refine AllocR.i fun b7 h7 e7 s7 o7 k7 => ?_
  conv => whnf
  refine BoxR.i fun h8 s8 k8 => ?_
  have k68 : Keeps [] h6 h8 := k7.new1 k8 (by omega)
  have H8 := H6.keep k68 (by simp)
  conv => whnf
  refine LoadR.o H8.obj rfl ?_
  conv => whnf
  refine LoadR.o H8.tr rfl ?_
  conv => whnf
  have hLl : L.length = 5 := by
    have := nds_len L
    rw [hT] at this
    exact this.symm
  have hsbg : h1.size ≤ V.sb := hVg V.sb (by simp [VL.blocks])
  have k0_6 : Keeps [] h h6 := (((k1.trans k2).new1 k3 (by omega)).trans k35).new1 k6 (by omega)
  refine ⟨k0_6.trans k68, ?_⟩
  have e1 : ((S.C (4, (0 : Int)).fst).kind == 1) = true := by
    show ((S.C 4).kind == 1) = true
    rw [hc4]; rfl
  rw [e1, hLl]
  rfl
end Go.Proofs.YtdfgkdoplagelaaGreatDoor
/-
  Layer 12's laws: without a view.
-/
set_option linter.all false
set_option maxRecDepth 100000
set_option maxHeartbeats 4000000
namespace Go.Proofs.YtdfgkdoplagelaaGreatDoor
open Go Go.Eng

def spot0 : List Value := [.int .i64 0] ++ Crd.zero.cells ++ [.string ⟨#[]⟩, .int .i64 0]

theorem npath_spec (path : List UInt8) (follow : Bool) (h : Heap) : CallH Tryz.prog 8 [.pointer none, .string (ba path), .bool follow] h (fun v h' => Keeps [] h h' ∧ v = .tuple #[.int .i64 0, .agg ⟨Crd.zero.cells⟩, .int .i64 1]) := by
  refine call_of hmix Tryz.func8 rfl ok8 (by simp [Tryz.f8]) ?_
  conv => whnf
  refine AllocR.i fun b1 h1 e1 s1 o1 k1 => ?_
  conv => whnf
  refine IfR.t rfl ?_
  conv => whnf
  refine BoxR.i fun h2 s2 k2 => ?_
  conv => whnf
  exact ⟨k1.new1 k2 (by omega), rfl⟩
theorem nplace_spec (path : List UInt8) (h : Heap) : CallH Tryz.prog 10 [.pointer none, .string (ba path)] h (fun v h' => Keeps [] h h' ∧ v = .tuple #[.agg ⟨spot0⟩, .int .i64 1]) := by
  refine call_of hmix Tryz.func10 rfl ok10 (by simp [Tryz.f10]) ?_
  conv => whnf
  refine AllocR.i fun b1 h1 e1 s1 o1 k1 => ?_
  conv => whnf
  refine IfR.t rfl ?_
  conv => whnf
  refine BoxR.i fun h2 s2 k2 => ?_
  conv => whnf
  exact ⟨k1.new1 k2 (by omega), rfl⟩

theorem nil12_law (path : List UInt8) (h : Heap) : CallH Tryz.prog 4 [.string (ba path)] h (fun v h' => Keeps [] h h' ∧ v = .bool true) := by
  refine call_of hmix Tryz.func4 rfl ok4 (by simp [Tryz.f4]) ?_
  conv => whnf
  refine CallR.i (lives12_spec h) fun v h1 k1 hv => ?_
  subst hv
  conv => whnf
  refine IfR.f rfl ?_
  conv => whnf
  refine CallR.i (npath_spec path true h1) fun v h2 k2 hv => ?_
  subst hv
  conv => whnf
  refine AllocR.i fun b3 h3 e3 s3 o3 k3 => ?_
  conv => whnf
  refine BoxR.i fun h4 s4 k4 => ?_
  conv => whnf
  refine CallR.i (nplace_spec path h4) fun v h5 k5 hv => ?_
  subst hv
  conv => whnf
  refine AllocR.i fun b6 h6 e6 s6 o6 k6 => ?_
  conv => whnf
  refine BoxR.i fun h7 s7 k7 => ?_
  conv => whnf
  have z1 := k1.size
  have z2 := k2.size
  have z3 := k3.size
  have z4 := k4.size
  have z5 := k5.size
  exact ⟨((((k1.trans k2).trans k3).new1 k4 (by omega)).trans (k5.trans k6)).new1 k7 (by omega), rfl⟩
end Go.Proofs.YtdfgkdoplagelaaGreatDoor
