/-
  Joined texts: VieA, NamA, NamB, NamC, NamD, WalC, PthA.
-/
import Derived.Test.YtkjkdnphikendaaGreatDoorJLawCLinksj
import Derived.Test.YtkjkdnphikendaaGreatDoorJLawCLinksg
import Derived.Test.YtkjkdnphikendaaGreatDoorJLawCLinksf
/-
  Layers 8, 9: a view's cards; numbers for files.
-/
set_option linter.all false
set_option maxRecDepth 100000
set_option maxHeartbeats 1000000
namespace Go.Proofs.YtkjkdnphikendaaGreatDoor
open Go Go.Eng

def seeS (X : VS) (n : Int) : VS := { X with seen := addS X.seen n }
def setS (X : VS) (n : Int) (c : Crd) : VS := { X with now := setW X.now n c, seen := addS X.seen n, mine := addS X.mine n }

theorem At.see {h h' : Heap} {V : VL} {M : MemS} {X : VS} (A : At h V M X) {s : List Int} (k : Keeps [V.sb] h h') (m : MapL h' V.sb (setV s)) (hs : ∀ x ∈ s, 0 ≤ x ∧ x < 24) : At h' V M { X with seen := s } := by
  have a1 := A.ap1
  have ne := A.vne
  refine ⟨A.mem.keep k (fun b hb hx => ?_), k.obj A.obj (by simp; exact ne.2.1), ?_, m, A.mine.keep k (by simp; exact fun e => a1.2.2 e.symm), A.away.keep k (fun b hb => ?_), A.awayN.keep k (fun b hb => ?_), A.ap1, A.ap2, A.ap3, fun x hx => by
    rcases List.mem_append.1 hx with h | h
    · exact hs x h
    · exact A.rng x (List.mem_append_right _ h)⟩
  · have e : b = V.sb := by simpa using hx
    exact A.ap2 V.sb (by simp) (e ▸ hb)
  · obtain ⟨own, q1, q2⟩ := A.own
    exact ⟨own, q1.keep k (by simp; exact a1.1), q2⟩
  · have := A.ap3 b (by simp at hb ⊢; exact .inl hb)
    simp; exact this.2.1
  · have := A.ap3 b (by simp at hb ⊢; exact .inr hb)
    simp; exact this.2.1
theorem At.min_ {h h' : Heap} {V : VL} {M : MemS} {X : VS} (A : At h V M X) {s : List Int} (k : Keeps [V.mb] h h') (m : MapL h' V.mb (setV s)) (hs : ∀ x ∈ s, 0 ≤ x ∧ x < 24) : At h' V M { X with mine := s } := by
  have a1 := A.ap1
  have ne := A.vne
  refine ⟨A.mem.keep k (fun b hb hx => ?_), k.obj A.obj (by simp; exact ne.2.2), ?_, A.seen.keep k (by simp; exact a1.2.2), m, A.away.keep k (fun b hb => ?_), A.awayN.keep k (fun b hb => ?_), A.ap1, A.ap2, A.ap3, fun x hx => by
    rcases List.mem_append.1 hx with h | h
    · exact A.rng x (List.mem_append_left _ h)
    · exact hs x h⟩
  · have e : b = V.mb := by simpa using hx
    exact A.ap2 V.mb (by simp) (e ▸ hb)
  · obtain ⟨own, q1, q2⟩ := A.own
    exact ⟨own, q1.keep k (by simp; exact a1.2.1), q2⟩
  · have := A.ap3 b (by simp at hb ⊢; exact .inl hb)
    simp; exact this.2.2.1
  · have := A.ap3 b (by simp at hb ⊢; exact .inr hb)
    simp; exact this.2.2.1

theorem At.rngS {h : Heap} {V : VL} {M : MemS} {X : VS} (A : At h V M X) {n : Int} (hn : 0 ≤ n ∧ n < 24) : ∀ x ∈ addS X.seen n, 0 ≤ x ∧ x < 24 := fun x hx => by
  rcases addS_mem.1 hx with h | rfl
  · exact A.rng x (List.mem_append_left _ h)
  · exact hn
theorem At.rngM {h : Heap} {V : VL} {M : MemS} {X : VS} (A : At h V M X) {n : Int} (hn : 0 ≤ n ∧ n < 24) : ∀ x ∈ addS X.mine n, 0 ≤ x ∧ x < 24 := fun x hx => by
  rcases addS_mem.1 hx with h | rfl
  · exact A.rng x (List.mem_append_right _ h)
  · exact hn

def cardT (o : Option Crd) : Value := match o with | some c => .tuple #[.agg ⟨c.cells⟩, .int .i64 0] | none => .tuple #[.agg ⟨Crd.zero.cells⟩, .int .i64 15]

theorem vcard_spec {h : Heap} {V : VL} {M : MemS} {X : VS} (A : At h V M X) (n : Int) : CallH Tryz.prog 66 [.pointer (some ⟨V.v, 0, none⟩), .int .i64 n] h (fun v h' => Keeps [V.sb] h h' ∧
    (if 0 ≤ n ∧ n < 24 then v = cardT (cardR (rdL X.now (8 + n * 8) 8)) ∧ At h' V M (seeS X n) else v = .tuple #[.agg ⟨Crd.zero.cells⟩, .int .i64 1] ∧ At h' V M X)) := by
  have bl := A.blt
  refine call_of hmix Tryz.func66 rfl ok66 (by simp [Tryz.f66]) ?_
  conv => whnf
  refine AllocR.i fun b1 h1 e1 s1 o1 k1 => ?_
  conv => whnf
  refine CallR.i (cardAt_spec n h1) fun v h2 k2 hv => ?_
  subst hv
  have A2 := A.on (k1.trans k2)
  by_cases hn : 0 ≤ n ∧ n < 24
  · rw [if_pos hn, if_pos hn]
    conv => whnf
    refine IfR.f rfl ?_
    conv => whnf
    refine LoadR.o A2.obj rfl ?_
    conv => whnf
    refine SemR.put rfl rfl A2.seen (by simp [blocksOf, setB]; have := bl V.sb (by simp [VL.blocks]); omega) fun h3 s3 M3 k3 => ?_
    have A3 := A2.see k3 (by rw [← putI_set]; exact M3) (A2.rngS hn)
    conv => whnf
    refine CallR.i (read_spec A3 (8 + n * 8) 8 (by omega) (by decide)) fun v h4 k4 hv => ?_
    obtain ⟨b4, rfl, q1, q2, o4⟩ := hv
    have S4 : Sl h4 (some ⟨b4, 0, none⟩) 8 8 (rdL X.now (8 + n * 8) 8) := Sl.of1' o4 (by simp [One.ok]) (by simp [rdL]) (by simp [rdL])
    conv => whnf
    refine CallR.i (read6_spec S4) fun v h5 k5 hv => ?_
    have kk : Keeps [V.sb] h h5 := (((k1.trans k2).mono (by simp)).trans k3).trans_nil (k4.trans k5)
    have A5 := A3.on (k4.trans k5)
    have hb1 : ∀ b ∈ V.blocks, b ≠ b1 := fun b hb => by have := bl b hb; omega
    cases hc : cardR (rdL X.now (8 + n * 8) 8) with
    | some c =>
      rw [hc] at hv
      subst hv
      conv => whnf
      refine BoxR.i fun h6 s6 k6 => ?_
      conv => whnf
      refine ⟨kk.m1 k6 (by omega), ?_⟩
      rw [if_pos hn]
      exact ⟨rfl, A5.keep k6 (fun b hb => by simp; exact hb1 b hb)⟩
    | none =>
      rw [hc] at hv
      subst hv
      conv => whnf
      refine BoxR.i fun h6 s6 k6 => ?_
      conv => whnf
      refine ⟨kk.m1 k6 (by omega), ?_⟩
      rw [if_pos hn]
      exact ⟨rfl, A5.keep k6 (fun b hb => by simp; exact hb1 b hb)⟩
  · rw [if_neg hn, if_neg hn]
    conv => whnf
    refine IfR.t rfl ?_
    conv => whnf
    refine BoxR.i fun h3 s3 k3 => ?_
    conv => whnf
    have hb1 : ∀ b ∈ V.blocks, b ≠ b1 := fun b hb => by have := bl b hb; omega
    refine ⟨((k1.trans k2).mono (by simp)).m1 k3 (by omega), ?_⟩
    rw [if_neg hn]
    exact ⟨rfl, A2.keep k3 (fun b hb => by simp; exact hb1 b hb)⟩

theorem vset_spec {h : Heap} {V : VL} {M : MemS} {X : VS} (A : At h V M X) (n : Int) (hn : 0 ≤ n ∧ n < 24) (c : Crd) (hc : c.ok) (hr : rightC c = true) : CallH Tryz.prog 71 [.pointer (some ⟨V.v, 0, none⟩), .int .i64 n, .agg ⟨c.cells⟩] h (fun v h' => Keeps [V.ob, V.sb, V.mb] h h' ∧ v = .int .i64 0 ∧ At h' V M (setS X n c)) := by
  have bl := A.blt
  refine call_of hmix Tryz.func71 rfl ok71 (by simp [Tryz.f71]) ?_
  conv => whnf
  refine AllocR.i fun b1 h1 e1 s1 o1 k1 => ?_
  conv => whnf
  refine CallR.i (cardAt_spec n h1) fun v h2 k2 hv => ?_
  subst hv
  rw [if_pos hn, if_pos hn]
  conv => whnf
  refine CallR.i (write6_spec c hc h2) fun v h3 k3 hv => ?_
  rw [if_pos hr] at hv
  obtain ⟨b3, rfl, hb3, o3⟩ := hv
  have A3 := A.on (k1.trans (k2.trans k3))
  conv => whnf
  refine IfR.f rfl ?_
  conv => whnf
  refine LoadR.o A3.obj rfl ?_
  conv => whnf
  refine LoadR.o A3.obj rfl ?_
  have z1 := k1.size
  have z2 := k2.size
  have z3 := k3.size
  have nb1 : ∀ b ∈ V.blocks, b ≠ b1 := fun b hb => by have := bl b hb; omega
  have msb : V.sb ∈ V.blocks := by simp [VL.blocks]
  have mmb : V.mb ∈ V.blocks := by simp [VL.blocks]
  have a1 := A.ap1
  conv => whnf
  refine SemR.entryAny rfl rfl rfl rfl A3.seen (by simp [blocksOf, setB]; exact nb1 _ msb) fun h4 v4 born4 s4 Q4 k4 => ?_
  conv => whnf
  refine SemR.entryStoreAny Q4 (by simp [blocksOf, setB]; exact nb1 _ msb) fun h5 s5 M5 k5 => ?_
  rw [putI_set] at M5
  have A5 := A3.see (k4.trans k5) M5 (A3.rngS hn)
  conv => whnf
  refine SemR.entryAny rfl rfl rfl rfl A5.mine (by simp [blocksOf, setB]; exact nb1 _ mmb) fun h6 v6 born6 s6 Q6 k6 => ?_
  conv => whnf
  refine SemR.entryStoreAny Q6 (by simp [blocksOf, setB]; exact nb1 _ mmb) fun h7 s7 M7 k7 => ?_
  rw [putI_set] at M7
  have A7 := A5.min_ (k6.trans k7) M7 (A5.rngM hn)
  have nb3 : ∀ b ∈ V.blocks, b ≠ b3 := fun b hb => by have := bl b hb; omega
  have o7 := (k6.trans k7).obj ((k4.trans k5).obj o3 (by simp; exact fun e => nb3 _ msb e.symm)) (by simp; exact fun e => nb3 _ mmb e.symm)
  have S7 : Sl h7 (some ⟨b3, 0, none⟩) 8 8 (cardW c) := Sl.of1' o7 (by simp [One.ok]) rfl (by show 8 ≤ 281474976710656; decide)
  conv => whnf
  refine CallR.m (writes_spec A7 (8 + n * 8) S7 (by omega) (by decide) (fun i hi => by simp [openW]; omega) (by simp [blkA]; exact nb3 V.ob (by simp [VL.blocks]))) (fun y hy hx => by
    have hy2 : y = b1 := by simpa [blocksOf, setB] using hy
    have hx2 : y = V.ob := by simpa using hx
    exact nb1 V.ob (by simp [VL.blocks]) (hx2.symm.trans hy2)) fun v h8 k8 hv => ?_
  conv => whnf
  refine ⟨?_, rfl, hv⟩
  exact ((((k1.trans (k2.trans k3)).mono (by simp)).trans ((k4.trans k5).mono (by simp))).trans ((k6.trans k7).mono (by simp))).trans (k8.mono (by simp))

theorem avoidsN_spec {h : Heap} {V : VL} {M : MemS} {X : VS} (A : At h V M X) (k : Int) : CallH Tryz.prog 115 [.pointer (some ⟨V.v, 0, none⟩), .int .i64 k] h (fun v h' => Keeps [] h h' ∧ v = .bool (decide (k ∈ X.awayN))) := by
  have ha := A.awayN
  have ho := A.obj
  cases hab : V.anb with
  | none =>
    rw [hab] at ha ho
    refine call_of hmix Tryz.func115 rfl ok115 (by simp [Tryz.f115]) ?_
    conv => whnf
    refine LoadR.u (.map none) (fun _ => by unfold Heap.cell?; rw [ho]; rfl) ?_
    conv => whnf
    have : X.awayN = [] := ha
    exact ⟨Keeps.refl _ _, by rw [this]; rfl⟩
  | some r =>
    rw [hab] at ha ho
    refine call_of hmix Tryz.func115 rfl ok115 (by simp [Tryz.f115]) ?_
    conv => whnf
    refine LoadR.u (.map (some r)) (fun _ => by unfold Heap.cell?; rw [ho]; rfl) ?_
    conv => whnf
    refine LookR.z (.bool false) ha rfl (setV_get _ _) ?_
    conv => whnf
    exact ⟨Keeps.refl _ _, rfl⟩

/-! ### Numbers for files -/

/-- is a number free? -/
def freeC (X : VS) (n : Int) : Bool := decide (getF (X.now (8 + n * 8)) 0 8 = 0) && !decide (n ∈ X.awayN)
def firstC (X : VS) : Nat → Nat → Option Nat
  | 0, _ => none
  | f + 1, i => if freeC X (i : Int) then some i else firstC X f (i + 1)
theorem firstC_is {X : VS} : ∀ {f i k : Nat}, firstC X f i = some k → freeC X (k : Int) = true ∧ i ≤ k ∧ k < i + f
  | 0, _, _, h => by cases h
  | f + 1, i, k, h => by
    unfold firstC at h
    split at h
    · cases h; rename_i hh; exact ⟨hh, Nat.le_refl _, by omega⟩
    · have := firstC_is h; exact ⟨this.1, by omega, by omega⟩
def nodeP (X : VS) (kind : Int) : Int × Int × VS :=
  if 1 ≤ kind ∧ kind ≤ 3 then (match firstC X 22 2 with | some n => ((n : Int), 0, setS X n (freshC kind (X.now (8 + (n : Int) * 8 + 1) + 1))) | none => (0, 9, X)) else (0, 1, X)

theorem freshC_ok {kind : Int} (hk : 1 ≤ kind ∧ kind ≤ 3) (v : UInt64) : (freshC kind v).ok ∧ rightC (freshC kind v) = true := by
  have e1 : (freshC kind v).kind = kind := rfl
  have hr : rightC (freshC kind v) = true := by
    unfold rightC
    rw [e1, if_neg (by omega)]
    have : (freshC kind v).direct.all blockC = true := rfl
    rw [this]
    have e2 : (freshC kind v).links = 1 := rfl
    have e3 : (freshC kind v).size = 0 := rfl
    have e4 : (freshC kind v).more = -1 := rfl
    rw [e2, e3, e4]
    simp [blockC]; omega
  exact ⟨crdB_ok (rightC_b hr), hr⟩

theorem wv_succ (w : UInt64) : Value.int .u64 (IntKind.u64.wrap ((w.toNat : Int) + 1)) = wv (w + 1) := by
  have h : IntKind.u64.wrap ((w.toNat : Int) + 1) = (((w + 1).toNat : Nat) : Int) := by
    have h1 : (1 : UInt64).toNat = 1 := rfl
    rw [wrap_u64', UInt64.toNat_add, h1]
    have := w.toNat_lt
    omega
  rw [h]; rfl

theorem node_spec {h : Heap} {V : VL} {M : MemS} {X : VS} (A : At h V M X) (kind : Int) : CallH Tryz.prog 65 [.pointer (some ⟨V.v, 0, none⟩), .int .i64 kind] h (fun v h' => Keeps [V.ob, V.sb, V.mb] h h' ∧ v = .tuple #[.int .i64 (nodeP X kind).1, .int .i64 (nodeP X kind).2.1] ∧ At h' V M (nodeP X kind).2.2) := by
  have bl := A.blt
  refine call_of hmix Tryz.func65 rfl ok65 (by simp [Tryz.f65]) ?_
  conv => whnf
  refine CallR.i (fresh6_spec kind 0 h) fun v h1 k1 hv => ?_
  subst hv
  unfold nodeP
  by_cases hk : 1 ≤ kind ∧ kind ≤ 3
  · rw [if_pos hk, if_pos hk]
    conv => whnf
    refine AllocR.i fun b2 h2 e2 s2 o2 k2 => ?_
    conv => whnf
    refine BoxR.i fun h3 s3 k3 => ?_
    conv => whnf
    refine IfR.f rfl ?_
    have kk : Keeps [] h h3 := (k1.trans k2).new1 k3 (by have := k1.size; omega)
    conv => whnf
    refine LoopR.on [0, 1, 8] [] (fun i : Nat => [(0, .v (.pointer (some ⟨V.v, 0, none⟩))), (1, .v (.int .i64 kind)), (8, .v (.int .i64 (i : Int)))]) (fun _ => [])
      (fun i h' => 2 ≤ i ∧ i ≤ 24 ∧ Keeps [] h h' ∧ firstC X 22 2 = firstC X (24 - i) i) (fun i => 24 - i) 2 ?_ ?_
    · conv => whnf
      exact ⟨2, rfl, rfl, rfl, by decide, by decide, kk, rfl⟩
    · rintro i h4 ⟨hi2, hi, k4, hf⟩
      have A4 := A.on k4
      conv => whnf
      refine IfR.i (fun hc => ?_) (fun hc => ?_)
      · have hi1 : i < 24 := by simp at hc; omega
        rw [show 24 - i = (24 - (i + 1)) + 1 by omega] at hf
        have hstep : firstC X (24 - (i + 1) + 1) i = if freeC X (i : Int) then some i else firstC X (24 - (i + 1)) (i + 1) := rfl
        rw [hstep] at hf
        conv => whnf
        refine CallR.i (cardAt_spec (i : Int) h4) fun v h5 k5 hv => ?_
        subst hv
        rw [if_pos (show 0 ≤ (i : Int) ∧ (i : Int) < 24 by omega), if_pos (show 0 ≤ (i : Int) ∧ (i : Int) < 24 by omega)]
        have A5 := A4.on k5
        conv => whnf
        refine CallR.i (vread_spec A5 (8 + (i : Int) * 8)) fun v h6 k6 hv => ?_
        subst hv
        have A6 := A5.on k6
        conv => whnf
        refine CallR.i (get_spec (X.now (8 + (i : Int) * 8)) 0 8 (by unfold fldOk; decide) h6) fun v h7 k7 hv => ?_
        subst hv
        have A7 := A6.on k7
        have hz0 : (((getF (X.now (8 + (i : Int) * 8)) 0 8).toNat : Int) = 0) ↔ getF (X.now (8 + (i : Int) * 8)) 0 8 = 0 := by
          constructor
          · intro e
            exact UInt64.toNat_inj.1 (by simpa using e)
          · intro e; rw [e]; rfl
        have next : ∀ h8, Keeps [] h7 h8 → freeC X (i : Int) = false → Keeps [] h h8 ∧ firstC X 22 2 = firstC X (24 - (i + 1)) (i + 1) := by
          intro h8 k8 hfree
          refine ⟨k4.trans (k5.trans (k6.trans (k7.trans k8))), ?_⟩
          rw [hf, if_neg (by rw [hfree]; simp)]
        conv => whnf
        refine IfR.i (fun hq => ?_) (fun hq => ?_)
        · have hw0 : getF (X.now (8 + (i : Int) * 8)) 0 8 = 0 := hz0.1 (by simpa using hq)
          conv => whnf
          refine CallR.i (avoidsN_spec A7 (i : Int)) fun v h8 k8 hv => ?_
          subst hv
          have A8 := A7.on k8
          by_cases hav : (i : Int) ∈ X.awayN
          · conv => whnf
            refine IfR.t (by simp [hav, bif_or]) ?_
            conv => whnf
            refine ⟨24 - (i + 1), by omega, ?_⟩
            conv => whnf
            obtain ⟨n1, n2⟩ := next h8 k8 (by unfold freeC; rw [decide_eq_true hav]; simp)
            exact ⟨i + 1, rfl, by rw [wrapN (x := (i : Int) + 1) (n := i + 1) (by simp) (by omega)], rfl, by omega, by omega, n1, n2⟩
          · conv => whnf
            refine IfR.f (by simp [hav, bif_or, hw0]) ?_
            have hfree : freeC X (i : Int) = true := by unfold freeC; rw [decide_eq_true hw0, decide_eq_false hav]; rfl
            rw [if_pos hfree] at hf
            rw [hf]
            have e1 : IntKind.i64.wrap (8 + (i : Int) * 8 + 1) = 8 + (i : Int) * 8 + 1 := wrapI (by omega) (by omega)
            conv => whnf
            rw [e1]
            refine CallR.i (vread_spec A8 (8 + (i : Int) * 8 + 1)) fun v h9 k9 hv => ?_
            subst hv
            have A9 := A8.on k9
            conv => whnf
            rw [wv_succ]
            refine CallR.i (fresh6_spec kind _ h9) fun v h10 k10 hv => ?_
            rw [if_pos hk] at hv
            subst hv
            have A10 := A9.on k10
            conv => whnf
            refine AllocR.i fun b11 h11 e11 s11 o11 k11 => ?_
            conv => whnf
            refine BoxR.i fun h12 s12 k12 => ?_
            have A11 := A10.on k11
            have z11 : ∀ b ∈ V.blocks, b < h10.size := fun b hb => A10.blt b hb
            have A12 := A11.keep k12 (fun b hb => by simp; have := z11 b hb; omega)
            obtain ⟨fo, fr⟩ := freshC_ok hk (X.now (8 + (i : Int) * 8 + 1) + 1)
            conv => whnf
            refine CallR.m (vset_spec A12 (i : Int) (by omega) (freshC kind (X.now (8 + (i : Int) * 8 + 1) + 1)) fo fr) (fun y hy hx => by
                have hy2 : y = b11 := by simpa [blocksOf, setB] using hy
                have q1 := z11 V.ob (by simp [VL.blocks])
                have q2 := z11 V.sb (by simp [VL.blocks])
                have q3 := z11 V.mb (by simp [VL.blocks])
                simp at hx; omega) fun v h13 k13 hv => ?_
            obtain ⟨rfl, A13⟩ := hv
            conv => whnf
            have k0 : Keeps [] h h10 := k4.trans (k5.trans (k6.trans (k7.trans (k8.trans (k9.trans k10)))))
            have z0 := k0.size
            exact ⟨((k0.trans k11).new1 k12 (by omega)).mono (by simp) |>.trans k13, rfl, A13⟩
        · have hw0 : ¬ getF (X.now (8 + (i : Int) * 8)) 0 8 = 0 := fun e => by
            have := hz0.2 e
            rw [this] at hq; simp at hq
          conv => whnf
          refine IfR.t (by
              have : ¬ ((getF (X.now (8 + (i : Int) * 8)) 0 8).toNat : Int) = 0 := fun e => hw0 (hz0.1 e)
              simp [bif_or]
              omega) ?_
          conv => whnf
          refine ⟨24 - (i + 1), by omega, ?_⟩
          conv => whnf
          obtain ⟨n1, n2⟩ := next h7 (Keeps.refl _ _) (by unfold freeC; rw [decide_eq_false hw0]; rfl)
          exact ⟨i + 1, rfl, by rw [wrapN (x := (i : Int) + 1) (n := i + 1) (by simp) (by omega)], rfl, by omega, by omega, n1, n2⟩
      · have hi1 : i = 24 := by simp at hc; omega
        subst hi1
        conv => whnf
        have hf0 : firstC X 22 2 = none := hf
        rw [hf0]
        exact ⟨k4.mono (by simp), rfl, A4⟩
  · rw [if_neg hk, if_neg hk]
    conv => whnf
    refine AllocR.i fun b2 h2 e2 s2 o2 k2 => ?_
    conv => whnf
    refine BoxR.i fun h3 s3 k3 => ?_
    conv => whnf
    refine IfR.t rfl ?_
    conv => whnf
    have kk : Keeps [] h h3 := (k1.trans k2).new1 k3 (by have := k1.size; omega)
    exact ⟨kk.mono (by simp), rfl, A.on kk⟩

/-! ### A number is given back -/

def releaseP (X : VS) (n : Int) : Int × VS :=
  if 0 ≤ n ∧ n < 24 then (match cardR (rdL X.now (8 + n * 8) 8) with | none => (15, seeS X n) | some c => if c.kind = 0 then (15, seeS X n) else (0, setS (seeS X n) n (noneC (c.ver + 1)))) else (1, X)

theorem noneC_ok (v : UInt64) : (noneC v).ok ∧ rightC (noneC v) = true := by
  have hr : rightC (noneC v) = true := by
    unfold rightC
    rw [if_pos (show (noneC v).kind = 0 from rfl)]
    exact decide_eq_true rfl
  exact ⟨crdB_ok (rightC_b hr), hr⟩

theorem release_spec {h : Heap} {V : VL} {M : MemS} {X : VS} (A : At h V M X) (n : Int) : CallH Tryz.prog 150 [.pointer (some ⟨V.v, 0, none⟩), .int .i64 n] h (fun v h' => Keeps [V.ob, V.sb, V.mb] h h' ∧ v = .int .i64 (releaseP X n).1 ∧ At h' V M (releaseP X n).2) := by
  refine call_of hmix Tryz.func150 rfl ok150 (by simp [Tryz.f150]) ?_
  conv => whnf
  refine CallR.m (vcard_spec A n) (by simp [blocksOf]) fun v h1 k1 hv => ?_
  unfold releaseP
  have fin : ∀ (e : Int) (Y : VS) (h2 h3 : Heap) (b2 : Nat), b2 = h1.size → Keeps [] h1 h2 → Keeps [b2] h2 h3 → At h1 V M Y → Keeps [V.ob, V.sb, V.mb] h h3 ∧ At h3 V M Y := by
    intro e Y h2 h3 b2 e2 k2 k3 AY
    have kk : Keeps [] h1 h3 := k2.new1 k3 (by omega)
    exact ⟨(k1.mono (by simp)).trans_nil kk, AY.on kk⟩
  by_cases hn : 0 ≤ n ∧ n < 24
  · rw [if_pos hn] at hv ⊢
    obtain ⟨rfl, A1⟩ := hv
    cases hc : cardR (rdL X.now (8 + n * 8) 8) with
    | none =>
      unfold cardT
      conv => whnf
      refine AllocR.i fun b2 h2 e2 s2 o2 k2 => ?_
      conv => whnf
      refine BoxR.i fun h3 s3 k3 => ?_
      conv => whnf
      refine IfR.t rfl ?_
      conv => whnf
      obtain ⟨f1, f2⟩ := fin 0 _ h2 h3 b2 e2 k2 k3 A1
      exact ⟨f1, rfl, f2⟩
    | some c =>
      unfold cardT
      conv => whnf
      refine AllocR.i fun b2 h2 e2 s2 o2 k2 => ?_
      conv => whnf
      refine BoxR.i fun h3 s3 k3 => ?_
      conv => whnf
      refine IfR.f rfl ?_
      obtain ⟨f1, f2⟩ := fin 0 _ h2 h3 b2 e2 k2 k3 A1
      conv => whnf
      refine IfR.i (fun hk => ?_) (fun hk => ?_)
      · conv => whnf
        have h0 : c.kind = 0 := by simpa using hk
        refine ⟨f1, ?_⟩
        simp only
        rw [if_pos h0]
        exact ⟨rfl, f2⟩
      · have h0 : ¬ c.kind = 0 := by simpa using hk
        conv => whnf
        rw [wv_succ]
        refine CallR.i (none6_spec _ h3) fun v h4 k4 hv => ?_
        subst hv
        obtain ⟨no, nr⟩ := noneC_ok (c.ver + 1)
        have A4 := f2.on k4
        have z1 := fun b hb => A1.blt b hb
        conv => whnf
        refine CallR.m (vset_spec A4 n hn (noneC (c.ver + 1)) no nr) (fun y hy hx => by
            have hy2 : y = b2 := by simpa [blocksOf, setB] using hy
            have q1 := z1 V.ob (by simp [VL.blocks])
            have q2 := z1 V.sb (by simp [VL.blocks])
            have q3 := z1 V.mb (by simp [VL.blocks])
            simp at hx; omega) fun v h5 k5 hv => ?_
        obtain ⟨rfl, A5⟩ := hv
        conv => whnf
        refine ⟨(f1.trans_nil k4).trans k5, ?_⟩
        simp only
        rw [if_neg h0]
        exact ⟨rfl, A5⟩
  · rw [if_neg hn] at hv ⊢
    obtain ⟨rfl, A1⟩ := hv
    conv => whnf
    refine AllocR.i fun b2 h2 e2 s2 o2 k2 => ?_
    conv => whnf
    refine BoxR.i fun h3 s3 k3 => ?_
    conv => whnf
    refine IfR.t rfl ?_
    conv => whnf
    obtain ⟨f1, f2⟩ := fin 0 _ h2 h3 b2 e2 k2 k3 A1
    exact ⟨f1, rfl, f2⟩
end Go.Proofs.YtkjkdnphikendaaGreatDoor
/-
  Layer 4: a path's names; functions of package strings that cut texts.
-/
set_option linter.all false
set_option maxRecDepth 100000
set_option maxHeartbeats 1000000
namespace Go.Proofs.YtkjkdnphikendaaGreatDoor
open Go Go.Eng

/-- texts, as a program has them -/
def ba (l : List UInt8) : ByteArray := ⟨l.toArray⟩
def bas (l : List (List UInt8)) : List ByteArray := l.map ba
theorem ba_list (l : List UInt8) : (ba l).data.toList = l := by simp [ba]

theorem odd4_spec (l : List UInt8) (hl : l.length ≤ 140737488351232) (h : Heap) : CallH Tryz.prog 104 [.string (ba l)] h (fun v h' => Keeps [] h h' ∧ v = .bool (!nameB l)) := by
  refine call_of hmix Tryz.func104 rfl ok104 (by simp [Tryz.f104]) ?_
  conv => whnf
  refine CallR.i (right4_spec l hl h) fun v h1 k1 hv => ?_
  subst hv
  conv => whnf
  exact ⟨k1, rfl⟩

def idxO : List (List UInt8) → Nat → Int
  | [], _ => -1
  | x :: l, i => if nameB x = false then (i : Int) else idxO l (i + 1)
theorem idxO_all : ∀ (l : List (List UInt8)) (i : Nat), decide (0 ≤ idxO l i) = !(l.all nameB)
  | [], i => rfl
  | x :: l, i => by
    simp only [idxO, List.all_cons]
    split
    · rename_i hp; rw [hp]; simp
    · rename_i hp
      rw [idxO_all l (i + 1)]
      simp [hp]

theorem indexOdd_spec {h : Heap} {a : Option Addr} {n c : Nat} {xs : List (List UInt8)} (S : Sl h a n c (bas xs)) (hn : n ≤ 1000000000) (hx : ∀ x ∈ xs, x.length ≤ 140737488351232) :
    CallH Tryz.prog 161 [.slice a n c, .func (.func 104) #[] #[]] h (fun v h' => Keeps [] h h' ∧ v = .int .i64 (idxO xs 0)) := by
  have hl := S.hlen
  have hb : (bas xs).length = xs.length := by simp [bas]
  refine call_of hmix Tryz.func161 rfl ok161 (by simp [Tryz.f161]) ?_
  conv => whnf
  refine LoopR.on [0, 1, 7, 8] [] (fun i : Nat => [(0, .v (.slice a n c)), (1, .v (.func (.func 104) #[] #[])), (7, .v (.int .i64 (n : Int))), (8, .v (.int .i64 (i : Int)))]) (fun _ => [])
    (fun i h' => i ≤ n ∧ Keeps [] h h' ∧ idxO xs 0 = idxO (xs.drop i) i) (fun i => n - i) 0 ?_ ?_
  · conv => whnf
    exact ⟨0, rfl, rfl, rfl, Nat.zero_le _, Keeps.refl _ _, rfl⟩
  · rintro i h2 ⟨hi, k2, hI⟩
    conv => whnf
    refine IfR.i (fun hc => ?_) (fun hc => ?_)
    · have hi1 : i < xs.length := by simp at hc; omega
      obtain ⟨b, off, hb', _, hcell⟩ := (S.keep k2).at1 i (by omega)
      have e : (bas xs)[i]'(by omega) = ba xs[i] := by simp [bas]
      rw [e] at hcell
      rw [List.drop_eq_getElem_cons hi1] at hI
      simp only [idxO] at hI
      conv => whnf
      refine IdxS.i i rfl (by omega) hb' ?_
      conv => whnf
      refine LoadR.i hcell ?_
      conv => whnf
      refine CallR.i (odd4_spec xs[i] (hx _ (List.getElem_mem _)) h2) fun v h3 k3 hv => ?_
      subst hv
      conv => whnf
      refine IfR.i (fun hd => ?_) (fun hd => ?_)
      · conv => whnf
        rw [if_pos (by simpa using hd)] at hI
        exact ⟨k2.trans k3, by rw [hI]⟩
      · rw [if_neg (by simpa using hd)] at hI
        conv => whnf
        refine ⟨n - (i + 1), by omega, ?_⟩
        conv => whnf
        exact ⟨i + 1, rfl, by rw [wrapN (n := i + 1) (by simp) (by omega)], rfl, by omega, k2.trans k3, hI⟩
    · have hi1 : i = xs.length := by simp at hc; omega
      conv => whnf
      refine ⟨k2, ?_⟩
      rw [hI, hi1, List.drop_length]; rfl
theorem containsOdd_spec {h : Heap} {a : Option Addr} {n c : Nat} {xs : List (List UInt8)} (S : Sl h a n c (bas xs)) (hn : n ≤ 1000000000) (hx : ∀ x ∈ xs, x.length ≤ 140737488351232) :
    CallH Tryz.prog 103 [.slice a n c, .func (.func 104) #[] #[]] h (fun v h' => Keeps [] h h' ∧ v = .bool (!(xs.all nameB))) := by
  refine call_of hmix Tryz.func103 rfl ok103 (by simp [Tryz.f103]) ?_
  conv => whnf
  refine CallR.i (indexOdd_spec S hn hx) fun v h1 k1 hv => ?_
  subst hv
  conv => whnf
  refine ⟨k1, ?_⟩
  rw [← idxO_all xs 0]

/-! ### Cutting -/

theorem hasPrefix_spec (l : List UInt8) (hl : l.length ≤ 140737488351232) (h : Heap) : CallH Tryz.prog 207 [.string (ba l), .string ⟨#[47]⟩] h (fun v h' => Keeps [] h h' ∧ v = .bool (decide (l.head? = some 47))) := by
  have hs : (ba l).size = l.length := bs_size l
  refine call_of hmix Tryz.func207 rfl ok207 (by simp [Tryz.f207]) ?_
  conv => whnf
  refine SliceR.u 0 1 (fun hg => ?_) ?_
  · have hz : (ByteArray.mk #[47]).size = 1 := rfl
    rw [hz] at hg
    simp at hg
    exact ⟨rfl, rfl, by omega, by omega⟩
  conv => whnf
  refine ⟨Keeps.refl _ _, ?_⟩
  have e0 : (ByteArray.mk #[47]) = ⟨([47] : List UInt8).toArray⟩ := rfl
  have e1 : (ba l).extract 0 1 = ⟨((l.take 1).drop 0).toArray⟩ := bs_extract l 0 1
  rw [e1, e0, bs_eq, hs, bs_size]
  congr 1
  cases l with
  | nil => simp
  | cons c r =>
    simp [bif_and]
    intro _; omega

theorem cutPre_spec (l : List UInt8) (hl : l.length ≤ 140737488351232) (h : Heap) : CallH Tryz.prog 101 [.string (ba l), .string ⟨#[47]⟩] h (fun v h' => Keeps [] h h' ∧ v = if l.head? = some 47 then .tuple #[.string (ba (l.drop 1)), .bool true] else .tuple #[.string (ba l), .bool false]) := by
  have hs : (ba l).size = l.length := bs_size l
  refine call_of hmix Tryz.func101 rfl ok101 (by simp [Tryz.f101]) ?_
  conv => whnf
  refine CallR.i (?_ : CallH Tryz.prog 159 [.string (ba l), .string ⟨#[47]⟩] h (fun v h' => Keeps [] h h' ∧ v = if l.head? = some 47 then .tuple #[.string (ba (l.drop 1)), .bool true] else .tuple #[.string (ba l), .bool false])) fun v h1 k1 hv => ?_
  · refine call_of hmix Tryz.func159 rfl ok159 (by simp [Tryz.f159]) ?_
    conv => whnf
    refine CallR.i (hasPrefix_spec l hl h) fun v h1 k1 hv => ?_
    subst hv
    conv => whnf
    refine IfR.i (fun hc => ?_) (fun hc => ?_)
    · conv => whnf
      have : ¬ l.head? = some 47 := by simpa using hc
      rw [if_neg this]
      exact ⟨k1, rfl⟩
    · have hh : l.head? = some 47 := by simpa using hc
      have hpos : 1 ≤ l.length := by
        cases l with
        | nil => simp at hh
        | cons c r => simp
      conv => whnf
      refine SliceR.i 1 l.length rfl (by rw [hs]) (by omega) (by omega) ?_
      conv => whnf
      rw [if_pos hh]
      refine ⟨k1, ?_⟩
      have e1 : (ba l).extract 1 l.length = ⟨((l.take l.length).drop 1).toArray⟩ := bs_extract l 1 l.length
      rw [e1, List.take_length]; rfl
  · subst hv
    by_cases hh : l.head? = some 47
    · rw [if_pos hh]
      conv => whnf
      exact ⟨k1, rfl⟩
    · rw [if_neg hh]
      conv => whnf
      exact ⟨k1, rfl⟩

theorem index47_spec (l : List UInt8) (h : Heap) : CallH Tryz.prog 240 [.string ⟨l.toArray⟩, .string ⟨#[47]⟩] h (fun v h' => Keeps [] h h' ∧ v = .int .i64 (Lib.indexByte l 47)) := by
  refine call_of hmix Tryz.func240 rfl ok240 (by simp [Tryz.f240]) ?_
  conv => whnf
  have e0 : (ByteArray.mk #[47]) = ⟨([47] : List UInt8).toArray⟩ := rfl
  refine IfR.i (fun h1 => ?_) (fun h1 => ?_)
  · conv => whnf
    refine ⟨Keeps.refl _ _, ?_⟩
    have : l = [47] := by
      have h1 : ((ByteArray.mk #[47]).toList == (ByteArray.mk l.toArray).toList) = true := h1
      rw [e0, bs_eq] at h1
      simpa [eq_comm] using h1
    subst this; rfl
  · conv => whnf
    refine IfR.t rfl ?_
    conv => whnf
    refine IdxR.i 0 rfl (by decide) ?_
    conv => whnf
    refine CallR.i (slIndexByte_spec l 47 h) fun v h1 k1 hv => ?_
    subst hv
    conv => whnf
    exact ⟨k1, rfl⟩
theorem strIndex_spec (l : List UInt8) (h : Heap) : CallH Tryz.prog 210 [.string ⟨l.toArray⟩, .string ⟨#[47]⟩] h (fun v h' => Keeps [] h h' ∧ v = .int .i64 (Lib.indexByte l 47)) := by
  refine call_of hmix Tryz.func210 rfl ok210 (by simp [Tryz.f210]) ?_
  conv => whnf
  refine CallR.i (index47_spec l h) fun v h1 k1 hv => ?_
  subst hv
  conv => whnf
  exact ⟨k1, rfl⟩
theorem count_spec (l : List UInt8) (h : Heap) : CallH Tryz.prog 209 [.string ⟨l.toArray⟩, .string ⟨#[47]⟩] h (fun v h' => Keeps [] h h' ∧ v = .int .i64 (l.count 47 : Nat)) := by
  refine call_of hmix Tryz.func209 rfl ok209 (by simp [Tryz.f209]) ?_
  conv => whnf
  refine IfR.f rfl ?_
  conv => whnf
  refine IfR.t rfl ?_
  conv => whnf
  refine IdxR.i 0 rfl (by decide) ?_
  conv => whnf
  refine SemR.ext rfl (by kernel_rfl) (by kernel_rfl) (by kernel_rfl) (e := Extern.BytealgCount.count) (by kernel_rfl) (SemR.pure (fun w _ => Lib.run_countString (P := Tryz.prog) _ _ w) ?_)
  conv => whnf
  refine ⟨Keeps.refl _ _, ?_⟩
  have e1 : (byteN (ByteArray.mk #[47]) 0).toNat.toUInt8 = 47 := by decide
  rw [e1]
  simp [Lib.countByte]

theorem cutS_index : ∀ s : List UInt8, (Lib.indexByte s 47 = -1 ∧ cutS s = [s] ∧ s.count 47 = 0) ∨ (∃ i : Nat, i < s.length ∧ Lib.indexByte s 47 = (i : Int) ∧ cutS s = s.take i :: cutS (s.drop (i + 1)) ∧ s.count 47 = (s.drop (i + 1)).count 47 + 1)
  | [] => .inl ⟨rfl, rfl, rfl⟩
  | c :: l => by
    by_cases hc : c = 47
    · subst hc
      exact .inr ⟨0, by simp, by simp [Lib.indexByte], by simp [cutS], by simp⟩
    · rcases cutS_index l with ⟨h1, h2, h3⟩ | ⟨i, h1, h2, h3, h4⟩
      · refine .inl ⟨by simp [Lib.indexByte, hc, h1], ?_, by rw [List.count_cons_of_ne hc]; exact h3⟩
        unfold cutS
        rw [if_neg hc, h2]
      · refine .inr ⟨i + 1, by simpa using h1, by simp [Lib.indexByte, hc, h2], ?_, ?_⟩
        · have e : cutS (c :: l) = (match cutS l with | [] => [[c]] | x :: r => (c :: x) :: r) := by
            conv => lhs; unfold cutS
            rw [if_neg hc]
            rfl
          rw [e, h3]
          simp
        · rw [List.count_cons_of_ne hc, h4]
          simp

theorem cutS_count : ∀ s : List UInt8, (cutS s).length = s.count 47 + 1
  | [] => rfl
  | c :: l => by
    have ih := cutS_count l
    unfold cutS
    by_cases h : c = 47
    · rw [if_pos h, h]; simp [ih]
    · rw [if_neg h, List.count_cons_of_ne h]
      cases hc : cutS l with
      | nil => exact absurd hc (cutS_ne l)
      | cons x r => rw [hc] at ih; simpa using ih

theorem split_spec (l : List UInt8) (hl : l.length ≤ 10000) (h : Heap) : CallH Tryz.prog 160 [.string ⟨l.toArray⟩, .string ⟨#[47]⟩, .int .i64 0, .int .i64 (-1)] h (fun v h' => Keeps [] h h' ∧ ∃ b, v = .slice (some ⟨b, 0, none⟩) (l.count 47 + 1) (l.count 47 + 1) ∧ h.size ≤ b ∧ h'[b]? = some (.cells ⟨(bas (cutS l)).map fun x => .string x⟩ 9 (0, 0))) := by
  have hcl : l.count 47 ≤ l.length := List.count_le_length
  refine call_of hmix Tryz.func160 rfl ok160 (by simp [Tryz.f160]) ?_
  conv => whnf
  refine IfR.f rfl ?_
  conv => whnf
  refine IfR.f (by rw [toList_beq]; rfl) ?_
  conv => whnf
  first | refine IfR.t rfl ?_ | (refine MeetR.pass ?_; (conv => whnf); refine IfR.t rfl ?_)
  conv => whnf
  refine CallR.i (count_spec l h) fun v h1 k1 hv => ?_
  subst hv
  conv => whnf
  have hs : (ByteArray.mk l.toArray).size = l.length := bs_size l
  have e1 : IntKind.i64.wrap ((l.count 47 : Nat) + 1 : Int) = ((l.count 47 + 1 : Nat) : Int) := wrapN (by omega) (by omega)
  have e2 : IntKind.i64.wrap (((ByteArray.mk l.toArray).size : Int) + 1) = ((l.length + 1 : Nat) : Int) := by rw [hs]; exact wrapN (by omega) (by omega)
  have e4 : (if IntKind.i64.wrap (((ByteArray.mk l.toArray).size : Int) + 1) < IntKind.i64.wrap ((l.count 47 : Nat) + 1 : Int) then IntKind.i64.wrap (((ByteArray.mk l.toArray).size : Int) + 1) else IntKind.i64.wrap ((l.count 47 : Nat) + 1 : Int)) = ((l.count 47 + 1 : Nat) : Int) := by
    rw [e1, e2]; split <;> omega
  rw [e4]
  refine SemR.make (n := l.count 47 + 1) rfl rfl rfl rfl rfl (by show 16 * _ ≤ _; omega) (by omega) fun b2 h2 e2' s2 o2 k2 => ?_
  conv => whnf
  have e5 : IntKind.i64.wrap (((l.count 47 + 1 : Nat) : Int) - 1) = ((l.count 47 : Nat) : Int) := wrapN (by omega) (by omega)
  rw [e5]
  generalize hm : l.count 47 = m at *
  refine MeetR.pass ?_
  conv => whnf
  refine LoopR.on [0, 1, 2, 3, 9, 10] [] (fun q : Nat × List UInt8 => [(0, .v (.string ⟨q.2.toArray⟩)), (1, .v (.string ⟨#[47]⟩)), (2, .v (.int .i64 0)), (3, .v (.int .i64 (m : Int))), (9, .v (.slice (some ⟨b2, 0, none⟩) (m + 1) (m + 1))), (10, .v (.int .i64 (q.1 : Int)))]) (fun _ => [])
    (fun q h' => q.1 + q.2.count 47 = m ∧ q.2.length ≤ l.length ∧ Keeps [] h h' ∧ ∃ done : List (List UInt8), done.length = q.1 ∧ cutS l = done ++ cutS q.2 ∧ h'[b2]? = some (.cells ⟨((bas done).map fun x => .string x) ++ List.replicate (m + 1 - q.1) (.string ⟨#[]⟩)⟩ 9 (0, 0))) (fun q => m - q.1) (0, l) ?_ ?_
  · conv => whnf
    refine ⟨(0, l), rfl, rfl, rfl, by simp [hm], Nat.le_refl _, k1.trans k2, [], rfl, rfl, ?_⟩
    exact o2
  · rintro ⟨i, s⟩ h3 ⟨hi, hsl, k3, done, hd, hcut, o3⟩
    simp only at hi hsl hd hcut o3
    conv => whnf
    refine IfR.i (fun hc => ?_) (fun hc => ?_)
    · have hi1 : i < m := by simpa using hc
      conv => whnf
      refine CallR.i (strIndex_spec s h3) fun v h4 k4 hv => ?_
      subst hv
      rcases cutS_index s with ⟨c1, c2, c3⟩ | ⟨j, c1, c2, c3, c4⟩
      · omega
      · rw [c2]
        conv => whnf
        refine IfR.f (by simp) ?_
        have hj0 : IntKind.i64.wrap ((j : Int) + 0) = (j : Int) := wrapN (by omega) (by omega)
        have hss : (ByteArray.mk s.toArray).size = s.length := bs_size s
        conv => whnf
        refine SliceR.i 0 j rfl hj0 (Nat.zero_le _) (by rw [hss]; omega) ?_
        conv => whnf
        refine IdxS.i i rfl (by omega) rfl ?_
        have er : List.replicate (m + 1 - i) (Value.string ⟨#[]⟩) = .string ⟨#[]⟩ :: List.replicate (m + 1 - (i + 1)) (.string ⟨#[]⟩) := by
          rw [show m + 1 - i = (m + 1 - (i + 1)) + 1 by omega, List.replicate_succ]
        rw [er] at o3
        have hlen : ((bas done).map fun x => Value.string x).length = i := by simp [bas, hd]
        conv => whnf
        refine StoreR.i (k4.obj o3 (by simp)) ?_ (by simp [blocksOf]) fun h5 s5 o5 k5 => ?_
        · simp only [List.length_append, List.length_cons, hlen, List.length_replicate]
          show 0 + i * 1 + 1 ≤ _
          omega
        have hj1 : IntKind.i64.wrap ((j : Int) + 1) = ((j + 1 : Nat) : Int) := wrapN (by omega) (by omega)
        conv => whnf
        refine SliceR.i (j + 1) s.length hj1 (by rw [hss]) (by omega) (by rw [hss]; omega) ?_
        conv => whnf
        refine ⟨m - (i + 1), by omega, ?_⟩
        conv => whnf
        refine ⟨(i + 1, s.drop (j + 1)), rfl, ?_, rfl, by simp only; omega, by simp only [List.length_drop]; omega, (k3.trans k4).new1 k5 (by have := k1.size; omega), done ++ [s.take j], by simp [hd], by rw [hcut, c3]; simp, ?_⟩
        · simp only
          rw [wrapN (x := (i : Int) + 1) (n := i + 1) (by simp) (by omega), bs_extract, List.take_length]
        · have e5 : spliceL (0 + i * 1) [Value.string (ByteArray.extract ⟨s.toArray⟩ 0 j)] (((bas done).map fun x => Value.string x) ++ .string ⟨#[]⟩ :: List.replicate (m + 1 - (i + 1)) (.string ⟨#[]⟩)) = ((bas (done ++ [s.take j])).map fun x => Value.string x) ++ List.replicate (m + 1 - (i + 1)) (.string ⟨#[]⟩) := by
            have := splice_at (A := (bas done).map fun x => Value.string x) (x := .string ⟨#[]⟩) (v := Value.string (ByteArray.extract ⟨s.toArray⟩ 0 j)) (B := List.replicate (m + 1 - (i + 1)) (.string ⟨#[]⟩))
            rw [hlen] at this
            rw [show 0 + i * 1 = i by omega, this, bs_extract, List.drop_zero]
            simp [bas, ba]
          rw [← e5]; exact o5
    · have hi1 : i = m := by
        have : ¬ (i < m) := by simpa using hc
        omega
      subst hi1
      conv => whnf
      refine IdxS.i i rfl (by omega) rfl ?_
      have er : List.replicate (i + 1 - i) (Value.string ⟨#[]⟩) = [.string ⟨#[]⟩] := by
        rw [show i + 1 - i = 1 by omega]; rfl
      rw [er] at o3
      have hlen : ((bas done).map fun x => Value.string x).length = i := by simp [bas, hd]
      conv => whnf
      refine StoreR.i o3 ?_ (by simp [blocksOf]) fun h5 s5 o5 k5 => ?_
      · simp only [List.length_append, List.length_cons, hlen]
        show 0 + i * 1 + 1 ≤ _
        omega
      conv => whnf
      refine SliceR.i 0 (i + 1) rfl (wrapN (by simp) (by omega)) (Nat.zero_le _) (Nat.le_refl _) ?_
      conv => whnf
      have hlast : cutS s = [s] := by
        rcases cutS_index s with ⟨_, c2, _⟩ | ⟨j, _, _, _, c4⟩
        · exact c2
        · omega
      rw [slA_zero]
      refine ⟨k3.new1 k5 (by have := k1.size; omega), b2, rfl, by have := k1.size; omega, ?_⟩
      rw [hcut, hlast]
      have e5 : spliceL (0 + i * 1) [Value.string ⟨s.toArray⟩] (((bas done).map fun x => Value.string x) ++ [.string ⟨#[]⟩]) = (bas (done ++ [s])).map fun x => Value.string x := by
        have := splice_at (A := (bas done).map fun x => Value.string x) (x := .string ⟨#[]⟩) (v := Value.string ⟨s.toArray⟩) (B := [])
        rw [hlen] at this
        rw [show 0 + i * 1 = i by omega, this]
        simp [bas, ba]
      rw [← e5]; exact o5

theorem bas_len (l : List (List UInt8)) : (bas l).length = l.length := by simp [bas]
theorem bas_ok {l : List (List UInt8)} (h : ∀ x ∈ l, x.length ≤ 140737488351232) : ∀ x ∈ bas l, One.ok x := by
  intro x hx
  obtain ⟨y, hy, rfl⟩ := List.mem_map.1 hx
  show okStr (ba y)
  unfold okStr
  have := h y hy
  have e : (ba y).size = y.length := bs_size y
  omega
theorem cutS_short : ∀ {s x : List UInt8}, x ∈ cutS s → x.length ≤ s.length
  | [], x, h => by simp [cutS] at h; simp [h]
  | c :: l, x, h => by
    unfold cutS at h
    by_cases hc : c = 47
    · rw [if_pos hc] at h
      rcases List.mem_cons.1 h with rfl | h
      · simp
      · have := cutS_short h; simp only [List.length_cons]; omega
    · rw [if_neg hc] at h
      cases hl : cutS l with
      | nil => exact absurd hl (cutS_ne l)
      | cons y r =>
        rw [hl] at h
        rcases List.mem_cons.1 h with rfl | h
        · have := cutS_short (s := l) (x := y) (by rw [hl]; simp)
          simp only [List.length_cons]; omega
        · have := cutS_short (s := l) (x := x) (by rw [hl]; simp [h])
          simp only [List.length_cons]; omega

theorem strSplit_spec (l : List UInt8) (hl : l.length ≤ 10000) (h : Heap) : CallH Tryz.prog 102 [.string ⟨l.toArray⟩, .string ⟨#[47]⟩] h (fun v h' => Keeps [] h h' ∧ ∃ b, v = .slice (some ⟨b, 0, none⟩) (l.count 47 + 1) (l.count 47 + 1) ∧ h.size ≤ b ∧ h'[b]? = some (.cells ⟨(bas (cutS l)).map fun x => .string x⟩ 9 (0, 0))) := by
  refine call_of hmix Tryz.func102 rfl ok102 (by simp [Tryz.f102]) ?_
  conv => whnf
  refine CallR.i (split_spec l hl h) fun v h1 k1 hv => ?_
  obtain ⟨b, rfl, h1, h2⟩ := hv
  conv => whnf
  exact ⟨k1, b, rfl, h1, h2⟩

end Go.Proofs.YtkjkdnphikendaaGreatDoor
/-
  Layer 4: a path's names; names' path.
-/
set_option linter.all false
set_option maxRecDepth 100000
set_option maxHeartbeats 1000000
namespace Go.Proofs.YtkjkdnphikendaaGreatDoor
open Go Go.Eng

/-- what a path's names come to -/
def SplitR (p : Option (List (List UInt8))) (h : Heap) (v : Value) (h' : Heap) : Prop :=
  match p with
  | none => v = .tuple #[.slice none 0 0, .int .i64 3]
  | some l => ∃ a c, v = .tuple #[.slice a l.length c, .int .i64 0] ∧ Sl h' a l.length c (bas l) ∧ ∀ b ∈ blkA a, h.size ≤ b

theorem nsplit_spec (l : List UInt8) (hl : l.length ≤ 140737488351232) (h : Heap) : CallH Tryz.prog 56 [.string (ba l)] h (fun v h' => Keeps [] h h' ∧ SplitR (pathP l) h v h') := by
  have hs : (ba l).size = l.length := bs_size l
  refine call_of hmix Tryz.func56 rfl ok56 (by simp [Tryz.f56]) ?_
  conv => whnf
  refine CallR.i (cutPre_spec l hl h) fun v h1 k1 hv => ?_
  by_cases hh : l.head? = some 47
  · rw [if_pos hh] at hv
    subst hv
    obtain ⟨r, rfl⟩ : ∃ r, l = 47 :: r := by
      cases l with
      | nil => simp at hh
      | cons c r => simp at hh; exact ⟨r, by rw [hh]⟩
    have hd : (47 :: r).drop 1 = r := rfl
    rw [hd]
    conv => whnf
    refine IfR.i (fun hc => ?_) (fun hc => ?_)
    · conv => whnf
      have h120 : 120 < (47 :: r).length := by
        rw [hs] at hc
        simp at hc
        simp only [List.length_cons]; omega
      refine ⟨k1, ?_⟩
      have : pathP (47 :: r) = none := by
        unfold pathP
        simp only
        rw [if_pos (.inr h120)]
      rw [this]; rfl
    · have h120 : ¬ 120 < (47 :: r).length := by
        rw [hs] at hc
        simp at hc
        simp only [List.length_cons]; omega
      have hcond : ¬ ((47 : UInt8) ≠ 47 ∨ 120 < (47 :: r).length) := by
        rintro (h | h)
        · exact h rfl
        · exact h120 h
      have e0 : (ByteArray.mk #[]) = ⟨([] : List UInt8).toArray⟩ := rfl
      conv => whnf
      refine IfR.i (fun hd => ?_) (fun hd => ?_)
      · conv => whnf
        have hr : r = [] := by
          have hd : ((ByteArray.mk r.toArray).toList == (ByteArray.mk #[]).toList) = true := hd
          rw [e0, bs_eq] at hd
          simpa using hd
        refine ⟨k1, ?_⟩
        have : pathP (47 :: r) = some [] := by
          unfold pathP
          simp only
          rw [if_neg hcond, if_pos hr]
        rw [this]
        exact ⟨none, 0, rfl, Sl.nil, by simp [blkA]⟩
      · have hr : ¬ r = [] := by
          have hd : ((ByteArray.mk r.toArray).toList == (ByteArray.mk #[]).toList) = false := hd
          rw [e0, bs_eq] at hd
          simpa using hd
        have hrl : r.length ≤ 120 := by simp only [List.length_cons] at h120; omega
        conv => whnf
        refine CallR.i (strSplit_spec r (by omega) h1) fun v h2 k2 hv => ?_
        obtain ⟨b, rfl, hb, o2⟩ := hv
        have hcl := cutS_count r
        have hcc : r.count 47 ≤ r.length := List.count_le_length
        have hsh : ∀ x ∈ cutS r, x.length ≤ 140737488351232 := fun x hx => by have := cutS_short hx; omega
        have S2 : Sl h2 (some ⟨b, 0, none⟩) (r.count 47 + 1) (r.count 47 + 1) (bas (cutS r)) := Sl.of1' o2 (bas_ok hsh) (by rw [bas_len, hcl]) (by rw [bas_len, hcl]; omega)
        conv => whnf
        refine CallR.i (containsOdd_spec S2 (by omega) hsh) fun v h3 k3 hv => ?_
        subst hv
        have hp : pathP (47 :: r) = if (cutS r).all nameB = true then some (cutS r) else none := by
          unfold pathP
          simp only
          rw [if_neg hcond, if_neg hr]
        conv => whnf
        refine IfR.i (fun he => ?_) (fun he => ?_)
        · conv => whnf
          have : ¬ (cutS r).all nameB = true := by
            intro h; rw [h] at he; cases he
          refine ⟨k1.trans (k2.trans k3), ?_⟩
          rw [hp, if_neg this]; rfl
        · conv => whnf
          have : (cutS r).all nameB = true := by
            cases h : (cutS r).all nameB with
            | true => rfl
            | false => rw [h] at he; cases he
          refine ⟨k1.trans (k2.trans k3), ?_⟩
          rw [hp, if_pos this]
          refine ⟨some ⟨b, 0, none⟩, r.count 47 + 1, by rw [hcl], ?_, fun x hx => ?_⟩
          · rw [hcl]; exact S2.keep k3
          · simp [blkA] at hx
            have := k1.size
            omega
  · rw [if_neg hh] at hv
    subst hv
    conv => whnf
    refine IfR.t rfl ?_
    conv => whnf
    refine ⟨k1, ?_⟩
    have : pathP l = none := by
      unfold pathP
      cases l with
      | nil => rfl
      | cons c r =>
        simp only
        rw [if_pos (.inl (by simpa using hh))]
    rw [this]; rfl
end Go.Proofs.YtkjkdnphikendaaGreatDoor
/-
  Layer 4: the path of names; a path without its last name.
-/
set_option linter.all false
set_option maxRecDepth 100000
set_option maxHeartbeats 1000000
namespace Go.Proofs.YtkjkdnphikendaaGreatDoor
open Go Go.Eng

theorem joinS_app (a b : List (List UInt8)) : joinS (a ++ b) = joinS a ++ joinS b := by simp [joinS]
theorem joinS_cons (x : List UInt8) (r : List (List UInt8)) : joinS (x :: r) = 47 :: (x ++ joinS r) := by simp [joinS]
theorem joinS_le {x : List UInt8} {l : List (List UInt8)} (h : x ∈ l) : x.length ≤ (joinS l).length := by
  induction l with
  | nil => cases h
  | cons y r ih =>
    rw [joinS_cons]
    simp only [List.length_cons, List.length_append]
    rcases List.mem_cons.1 h with rfl | h
    · omega
    · have := ih h; omega
theorem joinS_take (l : List (List UInt8)) (i : Nat) : (joinS (l.take i)).length ≤ (joinS l).length := by
  have : joinS l = joinS (l.take i) ++ joinS (l.drop i) := by rw [← joinS_app, List.take_append_drop]
  rw [this]; simp

theorem strJoin_spec {h : Heap} {a : Option Addr} {n c : Nat} {l : List (List UInt8)} (S : Sl h a n c (bas l)) (hb : (joinS l).length ≤ 10000) : CallH Tryz.prog 214 [.slice a n c, .string ⟨#[47]⟩] h (fun v h' => Keeps [] h h' ∧ v = .string (ba ((joinS l).drop 1))) := by
  have hl := S.hlen
  rw [bas_len] at hl
  have hn : n ≤ 10000 := by
    have : l.length ≤ (joinS l).length := by
      clear S hl hb
      induction l with
      | nil => simp
      | cons x r ih => rw [joinS_cons]; simp only [List.length_cons, List.length_append]; omega
    omega
  refine call_of hmix Tryz.func214 rfl ok214 (by simp [Tryz.f214]) ?_
  conv => whnf
  refine IfR.i (fun hc => ?_) (fun hc => ?_)
  · conv => whnf
    have h0 : l = [] := List.eq_nil_of_length_eq_zero (by simp at hc; omega)
    subst h0
    exact ⟨Keeps.refl _ _, rfl⟩
  · conv => whnf
    first | refine IfR.i (fun hd => ?_) (fun hd => ?_) | (refine MeetR.pass ?_; (conv => whnf); refine IfR.i (fun hd => ?_) (fun hd => ?_))
    · obtain ⟨x, rfl⟩ : ∃ x, l = [x] := by
        have : l.length = 1 := by simp at hd; omega
        match l, this with
        | [x], _ => exact ⟨x, rfl⟩
      obtain ⟨b, off, hb', _, hcell⟩ := S.at1 0 (by simp [bas])
      conv => whnf
      refine IdxS.i 0 rfl (by simp at hd; omega) hb' ?_
      conv => whnf
      refine LoadR.i hcell ?_
      conv => whnf
      refine ⟨Keeps.refl _ _, ?_⟩
      simp [bas, joinS, One.val]
    · have h2 : 2 ≤ l.length := by
        simp at hc hd; omega
      conv => whnf
      first | refine IfR.t rfl ?_ | (refine MeetR.pass ?_; (conv => whnf); refine IfR.t rfl ?_)
      have e1 : IntKind.i64.wrap ((n : Int) - 1) = ((n - 1 : Nat) : Int) := wrapN (by omega) (by omega)
      have hq : 922337203685477 ≤ IntKind.i64.wrap ((9223372036854775807 : Int).tdiv ((n - 1 : Nat) : Int)) := by
        have h3 : (9223372036854775807 : Int).tdiv ((n - 1 : Nat) : Int) = ((9223372036854775807 / (n - 1) : Nat) : Int) := rfl
        have h4 : 9223372036854775807 / 10000 ≤ 9223372036854775807 / (n - 1) := Nat.div_le_div_left (by omega) (by omega)
        have h5 : 9223372036854775807 / (n - 1) ≤ 9223372036854775807 := Nat.div_le_self _ _
        rw [h3, wrapI (by omega) (by omega)]
        have : 9223372036854775807 / 10000 = 922337203685477 := by decide
        omega
      conv => whnf
      refine MeetR.pass ?_
      conv => whnf
      rw [e1]
      refine Need.i (by omega) ?_
      conv => whnf
      refine IfR.f ?_ ?_
      · have h1 : (ByteArray.mk #[47]).size = 1 := rfl
        rw [h1]
        simp only [decide_eq_false_iff_not]
        omega
      have jl : ∀ i, i ≤ n → i ≤ (joinS (l.take i)).length := fun i hi => by
        have hgen : ∀ r : List (List UInt8), r.length ≤ (joinS r).length := fun r => by
          induction r with
          | nil => simp
          | cons x r ih => rw [joinS_cons]; simp only [List.length_cons, List.length_append]; omega
        have := hgen (l.take i)
        rw [List.length_take] at this
        omega
      have jb : ∀ i, (joinS (l.take i)).length ≤ 10000 := fun i => Nat.le_trans (joinS_take l i) hb
      have js : ∀ i (hi : i < l.length), (joinS (l.take (i + 1))).length = (joinS (l.take i)).length + (l[i].length + 1) := fun i hi => by
        rw [List.take_succ_eq_append_getElem hi, joinS_app, List.length_append, joinS_cons]
        simp [joinS]
      conv => whnf
      refine LoopR.on [0, 1, 5, 39, 40, 41] [] (fun i : Nat => [(0, .v (.slice a n c)), (1, .v (.string ⟨#[47]⟩)), (5, .v (.int .i64 ((n - 1 + (joinS (l.take i)).length - i : Nat) : Int))), (39, .v (.slice a n c)), (40, .v (.int .i64 (n : Int))), (41, .v (.int .i64 (i : Int)))]) (fun _ => [])
        (fun i h' => i ≤ n ∧ Keeps [] h h') (fun i => n - i) 0 ?_ ?_
      · conv => whnf
        refine ⟨0, rfl, ?_, rfl, Nat.zero_le _, Keeps.refl _ _⟩
        have h1 : (ByteArray.mk #[47]).size = 1 := rfl
        rw [h1, e1, wrapN (x := ((1 : Nat) : Int) * ((n - 1 : Nat) : Int)) (n := n - 1) (by omega) (by omega), wrapN (n := n - 1) (by omega) (by omega)]
        simp [joinS]
      · rintro i h3 ⟨hi, k3⟩
        conv => whnf
        refine IfR.i (fun hf => ?_) (fun hf => ?_)
        · have hi1 : i < l.length := by simp at hf; omega
          obtain ⟨b, off, hb', _, hcell⟩ := (S.keep k3).at1 i (by rw [bas_len]; exact hi1)
          have e : (bas l)[i]'(by rw [bas_len]; exact hi1) = ba l[i] := by simp [bas]
          rw [e] at hcell
          have hsz : (ba l[i]).size = l[i].length := bs_size _
          have j1 := jl i (by omega)
          have j2 := jb (i + 1)
          have j3 := js i hi1
          conv => whnf
          refine IdxS.i i rfl (by omega) hb' ?_
          conv => whnf
          refine LoadR.i hcell ?_
          conv => whnf
          first | refine IfR.f ?_ ?_ | (refine MeetR.pass ?_; (conv => whnf); refine IfR.f ?_ ?_)
          · rw [wrapI (by omega) (by omega), hsz]
            simp only [decide_eq_false_iff_not]
            omega
          conv => whnf
          refine ⟨n - (i + 1), by omega, ?_⟩
          conv => whnf
          refine ⟨i + 1, rfl, ?_, rfl, by omega, k3⟩
          rw [hsz, wrapN (x := (i : Int) + 1) (n := i + 1) (by simp) (by omega), wrapN (n := n - 1 + (joinS (l.take (i + 1))).length - (i + 1)) (by omega) (by omega)]
        · have hi1 : i = n := by simp at hf; omega
          subst hi1
          have hlt : l.take i = l := by rw [hl]; exact List.take_length
          rw [hlt]
          have jn := jl i (Nat.le_refl _)
          rw [hlt] at jn
          generalize hN : i - 1 + (joinS l).length - i = N
          have hN1 : (joinS l).length = N + 1 := by omega
          conv => whnf
          refine AllocR.i fun b4 h4 e4 s4 o4 k4 => ?_
          have B4 : Bld h4 b4 none none 0 0 [] := ⟨o4, .inl ⟨rfl, rfl, rfl, rfl⟩, by simp [blkA], .inl rfl⟩
          conv => whnf
          refine CallR.m (Grow_spec B4 N (by omega) (by omega)) (by simp [blocksOf]) fun v h5 k5 hv => ?_
          obtain ⟨g, cg, B5, hcg, hg⟩ := hv
          have k05 : Keeps [] h h5 := (k3.trans k4).nil_of k5 (by simp; have := k3.size; omega)
          obtain ⟨x, r, rfl⟩ : ∃ x r, l = x :: r := by
            match l, h2 with
            | x :: r, _ => exact ⟨x, r, rfl⟩
          obtain ⟨b, off, hb', _, hcell⟩ := (S.keep k05).at1 0 (by simp [bas])
          have ex : (bas (x :: r))[0]'(by simp [bas]) = ba x := by simp [bas]
          rw [ex] at hcell
          have hsz : (ba x).size = x.length := bs_size _
          rw [joinS_cons] at hN1 hb
          simp only [List.length_cons, List.length_append] at hN1 hb hl
          conv => whnf
          refine IdxS.i 0 rfl (by omega) hb' ?_
          conv => whnf
          refine LoadR.i hcell ?_
          conv => whnf
          refine CallR.m (writeString_spec B5 (ba x) (by rw [hsz]; omega)) (by simp [blocksOf]) fun v h6 k6 hv => ?_
          obtain ⟨rfl, a6, c6, B6, n6, q6⟩ := hv
          obtain ⟨rfl, rfl⟩ := q6 (by rw [hsz]; omega)
          have z3 := k3.size
          have z4 := k4.size
          have z5 := k5.size
          have k06 : Keeps [] h h6 := k05.nil_of k6 (fun y hy => by simp [blkA] at hy; omega)
          rw [hsz, ba_list, Nat.zero_add, List.nil_append] at B6
          conv => whnf
          refine SliceR.i 1 i rfl rfl (by omega) S.hcap ?_
          have P := S.part (l := 1) (r := i) (by omega) (Nat.le_refl _)
          have hbr : ((bas (x :: r)).take i).drop 1 = bas r := by
            have : (bas (x :: r)).length = i := by rw [bas_len]; simp; omega
            rw [← this, List.take_length]; simp [bas]
          rw [hbr] at P
          conv => whnf
          have P1 : Sl h (slA a c 1 1) (i - 1) (c - 1) (bas r) := P
          clear P
          have rb : ∀ j, (joinS (r.take j)).length ≤ (joinS r).length := fun j => joinS_take r j
          refine LoopR.on [1, 8, 63, 64, 65] [] (fun j : Nat => [(1, .v (.string ⟨#[47]⟩)), (8, .v (.pointer (some ⟨b4, 0, none⟩))), (63, .v (.slice (slA a c 1 1) (i - 1) (c - 1))), (64, .v (.int .i64 ((i - 1 : Nat) : Int))), (65, .v (.int .i64 (j : Int)))]) (fun _ => [])
            (fun j h' => j ≤ i - 1 ∧ Keeps [] h h' ∧ Bld h' b4 (some ⟨b4, 0, none⟩) (some ⟨g, 0, none⟩) (x ++ joinS (r.take j)).length c6 (x ++ joinS (r.take j))) (fun j => i - j) 0 ?_ ?_
          · conv => whnf
            refine ⟨0, rfl, rfl, rfl, Nat.zero_le _, k06, ?_⟩
            have e : x ++ joinS (r.take 0) = x := by simp [joinS]
            rw [e]; exact B6
          · rintro j h7 ⟨hj, k7, B7⟩
            conv => whnf
            refine IfR.i (fun hf => ?_) (fun hf => ?_)
            · have hj1 : j < r.length := by simp at hf; omega
              obtain ⟨b, off, hb', _, hcell⟩ := (P1.keep k7).at1 j (by rw [bas_len]; exact hj1)
              have e : (bas r)[j]'(by rw [bas_len]; exact hj1) = ba r[j] := by simp [bas]
              rw [e] at hcell
              have hsj : (ba r[j]).size = r[j].length := bs_size _
              have jt : r.take (j + 1) = r.take j ++ [r[j]] := List.take_succ_eq_append_getElem hj1
              have j2 := rb (j + 1)
              rw [jt, joinS_app, joinS_cons] at j2
              have jz : joinS ([] : List (List UInt8)) = [] := rfl
              rw [jz] at j2
              simp only [List.length_append, List.length_cons, List.length_nil] at j2
              conv => whnf
              refine IdxS.i j rfl (by omega) hb' ?_
              conv => whnf
              refine LoadR.i hcell ?_
              conv => whnf
              refine CallR.m (writeString_spec B7 ⟨#[47]⟩ (by
                  have : (ByteArray.mk #[47]).size = 1 := rfl
                  rw [this, List.length_append]; omega)) (by simp [blocksOf]) fun v h8 k8 hv => ?_
              obtain ⟨rfl, a8, c8, B8, n8, q8⟩ := hv
              have s47 : (ByteArray.mk #[47]).size = 1 := rfl
              rw [s47] at B8 q8
              obtain ⟨rfl, rfl⟩ := q8 (by rw [List.length_append]; omega)
              conv => whnf
              refine CallR.m (writeString_spec B8 (ba r[j]) (by rw [hsj, List.length_append]; omega)) (by simp [blocksOf]) fun v h9 k9 hv => ?_
              obtain ⟨rfl, a9, c9, B9, n9, q9⟩ := hv
              rw [hsj] at B9 q9
              obtain ⟨rfl, rfl⟩ := q9 (by rw [List.length_append]; omega)
              rw [ba_list] at B9
              conv => whnf
              refine ⟨i - (j + 1), by omega, ?_⟩
              conv => whnf
              refine ⟨j + 1, rfl, by rw [wrapN (x := (j : Int) + 1) (n := j + 1) (by simp) (by omega)], rfl, by omega, (k7.nil_of k8 (fun y hy => by simp [blkA] at hy; omega)).nil_of k9 (fun y hy => by simp [blkA] at hy; omega), ?_⟩
              have e : x ++ joinS (r.take (j + 1)) = x ++ joinS (r.take j) ++ [47] ++ r[j] := by
                rw [jt, joinS_app, joinS_cons, jz]; simp
              have e2 : (x ++ joinS (r.take (j + 1))).length = (x ++ joinS (r.take j)).length + 1 + r[j].length := by rw [e]; simp only [List.length_append, List.length_cons, List.length_nil]
              rw [e2, e]
              exact B9
            · have hj1 : j = r.length := by simp at hf; omega
              subst hj1
              rw [List.take_length] at B7
              conv => whnf
              refine CallR.m (bstring_spec B7 (by rw [List.length_append]; omega)) (by simp [blocksOf]) fun v h9 k9 hv => ?_
              obtain ⟨rfl, B9⟩ := hv
              conv => whnf
              refine ⟨k7.nil_of k9 (fun y hy => by simp [blkA] at hy; omega), ?_⟩
              rw [joinS_cons]; rfl
end Go.Proofs.YtkjkdnphikendaaGreatDoor
/-
  Layer 4: a path of names, a path without its last name, names behind a link's.
-/
set_option linter.all false
set_option maxRecDepth 100000
set_option maxHeartbeats 1000000
namespace Go.Proofs.YtkjkdnphikendaaGreatDoor
open Go Go.Eng

def pathJ (l : List (List UInt8)) : List UInt8 := if l = [] then [47] else joinS l

theorem njoin_spec {h : Heap} {a : Option Addr} {n c : Nat} {l : List (List UInt8)} (S : Sl h a n c (bas l)) (hl : l.all nameB = true) (hb : (joinS l).length ≤ 120) : CallH Tryz.prog 172 [.slice a n c] h (fun v h' => Keeps [] h h' ∧ v = .tuple #[.string (ba (pathJ l)), .int .i64 0]) := by
  have hn := S.hlen
  rw [bas_len] at hn
  have hll : l.length ≤ 120 := by
    have := joinS_len (l := l) fun x hx => nameB_ne (List.all_eq_true.1 hl x hx)
    omega
  have hx : ∀ x ∈ l, x.length ≤ 140737488351232 := fun x hx => by have := joinS_le hx; omega
  refine call_of hmix Tryz.func172 rfl ok172 (by simp [Tryz.f172]) ?_
  conv => whnf
  refine CallR.i (strJoin_spec S (by omega)) fun v h1 k1 hv => ?_
  subst hv
  have e : (ByteArray.mk #[47]) ++ ba ((joinS l).drop 1) = ba (pathJ l) := by
    have e1 : (ByteArray.mk #[47]) ++ ba ((joinS l).drop 1) = ba (47 :: (joinS l).drop 1) := by
      apply ByteArray.ext
      rw [ByteArray.data_append]
      simp [ba]
    rw [e1]
    unfold pathJ
    cases l with
    | nil => rfl
    | cons x r => rw [if_neg (by simp), joinS_cons]; rfl
  have hp : (pathJ l).length ≤ 120 := by
    unfold pathJ
    split
    · simp
    · exact hb
  have hsz : (ByteArray.mk #[47]).size = 1 := rfl
  have hsb : (ba ((joinS l).drop 1)).size = ((joinS l).drop 1).length := bs_size _
  conv => whnf
  refine Need.i (by rw [hsz, hsb, List.length_drop]; omega) ?_
  conv => whnf
  rw [e]
  have hpz : (ba (pathJ l)).size = (pathJ l).length := bs_size _
  refine IfR.t (by simp; omega) ?_
  conv => whnf
  refine CallR.i (containsOdd_spec (S.keep k1) (by omega) hx) fun v h2 k2 hv => ?_
  subst hv
  rw [hl]
  conv => whnf
  refine IfR.f (by simp [bif_or]; omega) ?_
  conv => whnf
  exact ⟨k1.trans k2, rfl⟩

theorem parent_spec (l : List UInt8) (hl : l.length ≤ 140737488351232) (h : Heap) : CallH Tryz.prog 122 [.string (ba l)] h (fun v h' => Keeps [] h h' ∧ v = match pathP l with
    | none => .tuple #[.string ⟨#[]⟩, .string ⟨#[]⟩, .int .i64 3]
    | some m => if m = [] then .tuple #[.string ⟨#[]⟩, .string ⟨#[]⟩, .int .i64 1] else .tuple #[.string (ba (pathJ m.dropLast)), .string (ba (m.getLast?.getD [])), .int .i64 0]) := by
  refine call_of hmix Tryz.func122 rfl ok122 (by simp [Tryz.f122]) ?_
  conv => whnf
  refine CallR.i (nsplit_spec l hl h) fun v h1 k1 hv => ?_
  cases hp : pathP l with
  | none =>
    rw [hp] at hv
    have hv : v = .tuple #[.slice none 0 0, .int .i64 3] := hv
    subst hv
    conv => whnf
    refine IfR.t rfl ?_
    conv => whnf
    exact ⟨k1, rfl⟩
  | some m =>
    rw [hp] at hv
    obtain ⟨a, c, rfl, S, nb⟩ := hv
    obtain ⟨p1, p2, p3, p4⟩ := pathP_len hp
    have hm := S.hlen
    conv => whnf
    refine IfR.f rfl ?_
    conv => whnf
    refine IfR.i (fun hc => ?_) (fun hc => ?_)
    · conv => whnf
      have : m = [] := List.eq_nil_of_length_eq_zero (by simpa using hc)
      refine ⟨k1, ?_⟩
      simp only
      rw [if_pos this]
    · have hne : ¬ m = [] := by
        intro e
        rw [e] at hc; simp at hc
      have hpos : 0 < m.length := List.length_pos_iff.2 hne
      have e1 : IntKind.i64.wrap ((m.length : Int) - 1) = ((m.length - 1 : Nat) : Int) := wrapN (by omega) (by omega)
      conv => whnf
      rw [e1]
      refine SliceR.i 0 (m.length - 1) rfl rfl (Nat.zero_le _) (by have := S.hcap; omega) ?_
      have P := S.part (l := 0) (r := m.length - 1) (Nat.zero_le _) (by omega)
      rw [List.drop_zero, slA_zero] at P
      have hbt : (bas m).take (m.length - 1) = bas m.dropLast := by
        rw [List.dropLast_eq_take]; simp [bas]
      rw [hbt] at P
      have hall : m.dropLast.all nameB = true := List.all_eq_true.2 fun x hx => List.all_eq_true.1 p2 x (List.dropLast_subset _ hx)
      have hjl : (joinS m.dropLast).length ≤ 120 := by
        rw [List.dropLast_eq_take]
        have := joinS_take m (m.length - 1)
        rw [if_neg hne] at p4
        rw [p4] at this
        omega
      conv => whnf
      rw [slA_zero]
      refine CallR.i (njoin_spec P hall hjl) fun v h2 k2 hv => ?_
      subst hv
      obtain ⟨b, off, hb', _, hcell⟩ := (S.keep k2).at1 (m.length - 1) (by rw [bas_len]; omega)
      have e : (bas m)[m.length - 1]'(by rw [bas_len]; omega) = ba (m.getLast?.getD []) := by
        rw [List.getLast?_eq_getElem?, List.getElem?_eq_getElem (by omega)]; simp [bas]
      rw [e] at hcell
      conv => whnf
      refine IdxS.i (m.length - 1) rfl (by omega) hb' ?_
      conv => whnf
      refine LoadR.i hcell ?_
      conv => whnf
      refine ⟨k1.trans k2, ?_⟩
      simp only
      rw [if_neg hne]; rfl

/-! ### Names behind a link's -/

theorem growS_spec (n : Nat) (hn : n ≤ 1000000) (h : Heap) : CallH Tryz.prog 213 [.slice none 0 0, .int .i64 (n : Int)] h (fun v h' => Keeps [] h h' ∧ ∃ a c, v = .slice a 0 c ∧ Own h' 9 1 a 0 c [] ∧ ∀ b ∈ blkA a, h.size ≤ b) := by
  have e1 : IntKind.i64.wrap ((n : Int) - IntKind.i64.wrap (((0 : Nat) : Int) - ((0 : Nat) : Int))) = (n : Int) := by
    rw [wrapN (x := ((0 : Nat) : Int) - ((0 : Nat) : Int)) (n := 0) (by simp) (by omega), wrapN (n := n) (by simp) (by omega)]
  refine call_of hmix Tryz.func213 rfl ok213 (by simp [Tryz.f213]) ?_
  conv => whnf
  refine MeetR.pass ?_
  conv => whnf
  refine IfR.f (by simp) ?_
  conv => whnf
  refine MeetR.pass ?_
  conv => whnf
  rw [e1]
  refine IfR.i (fun hc => ?_) (fun hc => ?_)
  · have hp : 0 < n := by simp at hc; omega
    conv => whnf
    refine SliceR.i 0 0 rfl rfl (Nat.le_refl _) (Nat.zero_le _) ?_
    conv => whnf
    rw [slA_zero]
    refine SemR.appendMake (by_ := 16) rfl rfl rfl rfl rfl rfl rfl hp (by omega) (by decide) fun b c h1 e1 s1 o1 hc k1 => ?_
    conv => whnf
    refine SliceR.i 0 0 rfl rfl (Nat.le_refl _) (Nat.zero_le _) ?_
    conv => whnf
    refine ⟨k1, some ⟨b, 0, none⟩, c, ?_, .inr ⟨b, _, rfl, o1, rfl, by simp, rfl, Nat.zero_le _⟩, by simp [blkA]; omega⟩
    rw [slA_zero]; rfl
  · conv => whnf
    exact ⟨Keeps.refl _ _, none, 0, rfl, .inl ⟨rfl, rfl, rfl, rfl⟩, by simp [blkA]⟩

theorem allOne_strs : ∀ l : List ByteArray, allOne (l.map fun x => Value.string x) = true
  | [] => rfl
  | x :: l => by simpa [allOne, oneV] using allOne_strs l

theorem concatS_spec {h : Heap} {a : Option Addr} {n c : Nat} {xss : List (List ByteArray)} (S : Sl h a n c xss) (hb : xss.flatten.length ≤ 1000) (hn : n ≤ 1000) : CallH Tryz.prog 171 [.slice a n c] h
    (fun v h' => Keeps [] h h' ∧ ∃ a' c', v = .slice a' xss.flatten.length c' ∧ Own h' 9 1 a' xss.flatten.length c' (xss.flatten.map fun x => .string x) ∧ ∀ b ∈ blkA a', h.size ≤ b) := by
  have hl := S.hlen
  have flen : ∀ i (hi : i < xss.length), (xss.take (i + 1)).flatten = (xss.take i).flatten ++ xss[i] := by
    intro i hi
    rw [List.take_succ_eq_append_getElem hi, List.flatten_append]; simp
  have fle : ∀ i, (xss.take i).flatten.length ≤ xss.flatten.length := by
    intro i
    have : xss.flatten = (xss.take i).flatten ++ (xss.drop i).flatten := by rw [← List.flatten_append, List.take_append_drop]
    rw [this, List.length_append]; omega
  refine call_of hmix Tryz.func171 rfl ok171 (by simp [Tryz.f171]) ?_
  conv => whnf
  refine LoopR.on [0, 3, 9, 10, 11] [] (fun i : Nat => [(0, .v (.slice a n c)), (3, .v (.int .i64 ((xss.take i).flatten.length : Int))), (9, .v (.slice a n c)), (10, .v (.int .i64 (n : Int))), (11, .v (.int .i64 (i : Int)))]) (fun _ => [])
    (fun i h' => i ≤ n ∧ h' = h) (fun i => n - i) 0 ?_ ?_
  · conv => whnf
    exact ⟨0, rfl, rfl, rfl, Nat.zero_le _, rfl⟩
  · rintro i h2 ⟨hi, rfl⟩
    conv => whnf
    refine IfR.i (fun hc => ?_) (fun hc => ?_)
    · have hi1 : i < xss.length := by simp at hc; omega
      obtain ⟨b, off, hb', cs, ⟨xa, xn, xc, rfl, SX⟩, hcell⟩ := S.at_ i hi1
      conv => whnf
      first | refine IdxS.i i rfl (by omega) hb' ?_ | (refine MeetR.pass ?_; (conv => whnf); refine IdxS.i i rfl (by omega) hb' ?_)
      conv => whnf
      refine LoadR.i (hcell 0 (by simp)) ?_
      have f1 := flen i hi1
      have f2 := fle (i + 1)
      have f3 : (xss.take (i + 1)).flatten.length = (xss.take i).flatten.length + xn := by rw [f1, List.length_append, SX.hlen]
      conv => whnf
      rw [wrapN (n := (xss.take (i + 1)).flatten.length) (by rw [f3]; simp) (by omega)]
      refine IfR.f (by simp) ?_
      conv => whnf
      refine ⟨n - (i + 1), by omega, ?_⟩
      conv => whnf
      exact ⟨i + 1, rfl, by rw [wrapN (x := (i : Int) + 1) (n := i + 1) (by simp) (by omega)], rfl, by omega, rfl⟩
    · have hi1 : i = xss.length := by simp at hc; omega
      subst hi1
      conv => whnf
      rw [List.take_length]
      refine CallR.i (growS_spec xss.flatten.length (by omega) h2) fun v h3 k3 hv => ?_
      obtain ⟨a3, c3, rfl, O3, n3⟩ := hv
      conv => whnf
      refine LoopR.on [6, 25, 26, 27] [] (fun q : Nat × Option Addr × Nat => [(6, .v (.slice q.2.1 (xss.take q.1).flatten.length q.2.2)), (25, .v (.slice a n c)), (26, .v (.int .i64 (n : Int))), (27, .v (.int .i64 (q.1 : Int)))]) (fun _ => [])
        (fun q h' => q.1 ≤ n ∧ Keeps [] h2 h' ∧ Own h' 9 1 q.2.1 (xss.take q.1).flatten.length q.2.2 ((xss.take q.1).flatten.map fun x => .string x) ∧ ∀ b ∈ blkA q.2.1, h2.size ≤ b) (fun q => n - q.1) (0, a3, c3) ?_ ?_
      · conv => whnf
        exact ⟨(0, a3, c3), rfl, rfl, rfl, Nat.zero_le _, k3, O3, n3⟩
      · rintro ⟨i, ai, ci⟩ h4 ⟨hi, k4, O4, n4⟩
        simp only at hi O4 n4
        conv => whnf
        refine IfR.i (fun hc => ?_) (fun hc => ?_)
        · have hi1 : i < xss.length := by simp at hc; omega
          obtain ⟨b, off, hb', cs, ⟨xa, xn, xc, rfl, SX⟩, hcell⟩ := S.at_ i hi1
          have hc4 := hcell.keep k4
          conv => whnf
          refine IdxS.i i rfl (by omega) hb' ?_
          conv => whnf
          refine LoadR.i (hc4 0 (by simp)) ?_
          have f1 := flen i hi1
          have f2 := fle (i + 1)
          have f3 : (xss.take (i + 1)).flatten.length = (xss.take i).flatten.length + xn := by rw [f1, List.length_append, SX.hlen]
          have SX4 := SX.keep k4
          have lenX := SX.hlen
          conv => whnf
          rcases Nat.eq_zero_or_pos xn with h0 | h0
          · subst h0
            have hx0 : xss[i] = [] := List.eq_nil_of_length_eq_zero lenX.symm
            have hcap : (xss.take i).flatten.length ≤ ci := by
              rcases O4 with ⟨rfl, h1, rfl, h2⟩ | ⟨b, c, _, _, _, _, _, h6⟩
              · omega
              · exact h6
            refine SemR.append0 rfl rfl rfl hcap ?_
            conv => whnf
            refine ⟨n - (i + 1), by omega, ?_⟩
            conv => whnf
            refine ⟨(i + 1, ai, ci), rfl, ?_, rfl, by simp only; omega, k4, ?_, n4⟩
            · have e : (xss.take (i + 1)).flatten.length = (xss.take i).flatten.length := by rw [f3, Nat.add_zero]
              simp only [e, Nat.add_zero]
              rw [wrapN (x := (i : Int) + 1) (n := i + 1) (by simp) (by omega)]
            · simp only
              rw [f1, hx0, List.append_nil]; exact O4
          · obtain ⟨xb, xo, rfl⟩ := SX.nonnil h0
            refine append_own (e := 9) (sz := 1) (by_ := 16) (new := xss[i].map fun x => .string x) rfl rfl rfl rfl rfl rfl rfl O4 (by simp [lenX]) (SX4.cells1) (allOne_strs _) (by omega) (by decide) (by simp [blocksOf]) ?_
            intro a5 c5 h5 O5 k5 n5
            conv => whnf
            refine ⟨n - (i + 1), by omega, ?_⟩
            conv => whnf
            refine ⟨(i + 1, a5, c5), rfl, ?_, rfl, by simp only; omega, k4.nil_of k5 n4, ?_, fun b hb => ?_⟩
            · simp only [f3]
              rw [wrapN (x := (i : Int) + 1) (n := i + 1) (by simp) (by omega)]
            · simp only
              rw [f1, List.length_append, ← lenX, List.map_append]; exact O5
            · rcases n5 b hb with h | h
              · exact n4 b h
              · have := k4.size; omega
        · have hi1 : i = xss.length := by simp at hc; omega
          subst hi1
          conv => whnf
          rw [List.take_length] at O4
          refine ⟨k4, ai, ci, ?_, O4, n4⟩
          rw [List.take_length]


theorem reps_strs (h : Heap) : ∀ xs : List ByteArray, (∀ x ∈ xs, okStr x) → Reps h (xs.map fun x => Value.string x) xs
  | [], _ => rfl
  | x :: l, hx => ⟨[.string x], _, rfl, ⟨rfl, hx x (by simp)⟩, reps_strs h l (fun y hy => hx y (by simp [hy]))⟩

theorem lead_spec {h : Heap} {a b : Option Addr} {n c m d : Nat} {x y : List (List UInt8)} (S : Sl h a n c (bas x)) (T : Sl h b m d (bas y)) (hb : x.length + y.length ≤ 1000) (hx : ∀ z ∈ x ++ y, z.length ≤ 140737488351232) : CallH Tryz.prog 121 [.slice a n c, .slice b m d] h (fun v h' => Keeps [] h h' ∧ ∃ a' c', v = .slice a' (x ++ y).length c' ∧ Sl h' a' (x ++ y).length c' (bas (x ++ y)) ∧ ∀ z ∈ blkA a', h.size ≤ z) := by
  refine call_of hmix Tryz.func121 rfl ok121 (by simp [Tryz.f121]) ?_
  conv => whnf
  refine AllocR.i fun b4 h4 e4 s4 o4 k4 => ?_
  have o4' : h4[b4]? = some (.cells ⟨[.slice a n c, .slice b m d]⟩ 22 (0, 0)) := o4
  have S2 : Sl h4 (some ⟨b4, 0, none⟩) 2 2 [bas x, bas y] := ⟨rfl, Nat.le_refl _, by simp, fun i hi => ⟨b4, 0, rfl, [if i = 0 then .slice a n c else .slice b m d], by
    have hi' : i < 2 := hi
    have : i = 0 ∨ i = 1 := by omega
    rcases this with rfl | rfl
    · exact ⟨_, _, _, rfl, S.keep k4⟩
    · exact ⟨_, _, _, rfl, T.keep k4⟩, fun j hj => by
    have hj0 : j = 0 := by simpa using hj
    subst hj0
    have hi' : i < 2 := hi
    have : i = 0 ∨ i = 1 := by omega
    simp only [Heap.cell?, o4']
    rcases this with rfl | rfl <;> rfl⟩⟩
  have hfl : [bas x, bas y].flatten = bas (x ++ y) := by simp [bas]
  have hlen : (bas (x ++ y)).length = (x ++ y).length := bas_len _
  conv => whnf
  refine CallR.i (concatS_spec S2 (by rw [hfl, hlen, List.length_append]; omega) (by decide)) fun v h5 k5 hv => ?_
  obtain ⟨a5, c5, rfl, O5, n5⟩ := hv
  rw [hfl, hlen] at O5
  rw [hfl, hlen]
  conv => whnf
  have R := O5.sl (α := ByteArray) (xs := bas (x ++ y)) (reps_strs _ _ (fun z hz => bas_ok hx z hz)) rfl (by decide) (by rw [hlen, List.length_append]; omega)
  exact ⟨k4.trans k5, a5, c5, rfl, R, fun z hz => by have := n5 z hz; omega⟩
end Go.Proofs.YtkjkdnphikendaaGreatDoor
/-
  Layer 12: names are walked in a view.
-/
set_option linter.all false
set_option maxRecDepth 100000
set_option maxHeartbeats 2000000
namespace Go.Proofs.YtkjkdnphikendaaGreatDoor
open Go Go.Eng

/-- what a directory names is there -/
structure FsC (S : FS) : Prop where
  root : (S.C 1).kind = 2
  names : ∀ n, 0 ≤ n → n < 24 → (S.C n).kind = 2 → ∀ e ∈ S.nm n, 0 ≤ e.node ∧ e.node < 24 ∧ (S.C e.node).kind ≠ 0

theorem vget_spec {h : Heap} {V : VL} {M : MemS} {X : VS} (A : At h V M X) {S : FS} (I : FsI X.now S) {n : Int} (hn : 0 ≤ n ∧ n < 24) (hk : (S.C n).kind ≠ 0) : CallH Tryz.prog 118 [.pointer (some ⟨V.v, 0, none⟩), .int .i64 n] h (fun v h' => Keeps [V.sb] h h' ∧ v = .tuple #[.agg ⟨(S.C n).cells⟩, .int .i64 0] ∧ At h' V M (seeS X n)) := by
  have bl := A.blt
  have hcr : cardR (rdL X.now (8 + n * 8) 8) = some (S.C n) := by rw [I.card n hn.1 hn.2]; exact cardR_W (I.node n hn.1 hn.2).right
  refine call_of hmix Tryz.func118 rfl ok118 (by simp [Tryz.f118]) ?_
  conv => whnf
  refine AllocR.i fun b1 h1 e1 s1 o1 k1 => ?_
  have nb1 : ∀ b ∈ V.blocks, b ≠ b1 := fun b hb => by have := bl b hb; omega
  conv => whnf
  refine CallR.m (vcard_spec (A.on k1) n) (by simp [blocksOf, setB]; exact fun e => nb1 V.sb (by simp [VL.blocks]) e.symm) fun v h2 k2 hv => ?_
  rw [if_pos hn] at hv
  obtain ⟨rfl, A2⟩ := hv
  rw [hcr]
  unfold cardT
  conv => whnf
  refine AllocR.i fun b3 h3 e3 s3 o3 k3 => ?_
  conv => whnf
  refine BoxR.i fun h4 s4 k4 => ?_
  conv => whnf
  refine IfR.f ?_ ?_
  · simp [bif_or]; exact hk
  conv => whnf
  refine BoxR.i fun h5 s5 k5 => ?_
  conv => whnf
  have z2 := k2.size
  have bl2 := A2.blt
  have A5 : At h5 V M (seeS X n) := ((A2.on k3).keep k4 (fun b hb => by have := bl2 b hb; simp; omega)).keep k5 (fun b hb => by simp; exact nb1 b hb)
  refine ⟨?_, rfl, A5⟩
  exact (((k1.mono (by simp)).trans k2).trans_nil k3).m1 k4 (by omega) |>.m1 k5 (by omega)

theorem pathP_take (s : List UInt8) : pathP (s.take 121) = pathP s := by
  by_cases h : s.length ≤ 121
  · rw [List.take_of_length_le h]
  · have h1 : ∀ t : List UInt8, 120 < t.length → pathP t = none := by
      intro t ht
      unfold pathP
      cases t with
      | nil => rfl
      | cons c r => simp only; rw [if_pos (.inr ht)]
    rw [h1 _ (by rw [List.length_take]; omega), h1 _ (by omega)]

theorem vtarget_spec {h : Heap} {V : VL} {M : MemS} {X : VS} (A : At h V M X) {n : Int} {c : Crd} {m : List Int} {s : List UInt8} (F : FileI X.now n c m s) : CallH Tryz.prog 120 [.pointer (some ⟨V.v, 0, none⟩), .agg ⟨c.cells⟩] h (fun v h' => Keeps [] h h' ∧ match pathP s with
    | none => v = .tuple #[.slice none 0 0, .int .i64 15]
    | some l => ∃ a k, v = .tuple #[.slice a l.length k, .int .i64 0] ∧ Sl h' a l.length k (bas l) ∧ ∀ b ∈ blkA a, h.size ≤ b) := by
  have hfit := F.fits
  refine call_of hmix Tryz.func120 rfl ok120 (by simp [Tryz.f120]) ?_
  conv => whnf
  refine AllocR.i fun b1 h1 e1 s1 o1 k1 => ?_
  conv => whnf
  refine CallR.i (bread_spec (A.on k1) c F.ok F.szr F.okMap 0 121) fun v h2 k2 hv => ?_
  have hrd : readP X.now c 0 121 = (s.take 121, 0) := by
    rw [readP_plain F]
    unfold refReadL
    rw [if_neg (by omega)]
    by_cases h0 : (s.length : Int) ≤ 0
    · rw [if_pos h0]
      have : s = [] := List.eq_nil_of_length_eq_zero (by omega)
      rw [this]; rfl
    · rw [if_neg h0]
      congr 1
      rw [show (0 : Int).toNat = 0 from rfl, List.drop_zero]
      have : (min (s.length : Int) (0 + 121)).toNat = min s.length 121 := by omega
      rw [this]
      rw [show min s.length 121 = min 121 s.length by omega, ← List.take_take, List.take_length]
  rw [hrd] at hv
  subst hv
  conv => whnf
  refine IfR.f rfl ?_
  conv => whnf
  refine CallR.i (nsplit_spec (s.take 121) (by rw [List.length_take]; omega) h2) fun v h3 k3 hv => ?_
  rw [pathP_take] at hv
  have z1 := k1.size
  have z2 := k2.size
  cases hp : pathP s with
  | none =>
    rw [hp] at hv
    have hv : v = .tuple #[.slice none 0 0, .int .i64 3] := hv
    subst hv
    conv => whnf
    refine IfR.t rfl ?_
    conv => whnf
    exact ⟨k1.trans (k2.trans k3), rfl⟩
  | some l =>
    rw [hp] at hv
    obtain ⟨a, k, rfl, S3, nb⟩ := hv
    conv => whnf
    refine IfR.f rfl ?_
    conv => whnf
    exact ⟨k1.trans (k2.trans k3), a, k, rfl, S3, fun b hb => by have := nb b hb; omega⟩

theorem viewFs_find {S : FS} {n : Int} {name : List UInt8} : (viewFs S).find n name = (findE (S.nm n) name).map (·.node) := rfl

theorem walkA_cons {F : Fs} {root : Int} {follow : Bool} {f : Nat} {at_ : Int} {links : Nat} {name : List UInt8} {rest : List (List UInt8)} : walkA F root follow (f + 1) at_ links (name :: rest) = (if F.kind at_ ≠ 2 then (0, 6)
      else (match F.find at_ name with
        | none => (0, 4)
        | some next =>
          if F.kind next ≠ 3 ∨ (rest = [] ∧ follow = false) then walkA F root follow f next links rest
          else if 8 < links + 1 then (0, 11)
          else (match pathP (F.data next) with
            | none => (0, 15)
            | some head => walkA F root follow f root (links + 1) (head ++ rest)))) := rfl

structure WS where
  f : Nat
  links : Nat
  l : List (List UInt8)
  a : Option Addr
  n : Nat
  c : Nat
  s : List Int

/-- what walking tells, as the code has it -/
def walkV (S : FS) (r : Int × Int) : Value := .tuple #[.int .i64 r.1, .agg ⟨(if r.2 = 0 then S.C r.1 else Crd.zero).cells⟩, .int .i64 r.2]

theorem vwalkS_spec {h : Heap} {V : VL} {M : MemS} {X : VS} (A : At h V M X) {S : FS} (I : FsI X.now S) (C : FsC S) (follow : Bool) {a : Option Addr} {n c : Nat} {l : List (List UInt8)} (T : Sl h a n c (bas l)) (ha : ∀ b ∈ blkA a, b ≠ V.sb) (hl : l.length ≤ 60) (hx : ∀ x ∈ l, x.length ≤ 200) :
    CallH Tryz.prog 67 [.pointer (some ⟨V.v, 0, none⟩), .slice a n c, .bool follow] h (fun v h' => Keeps [V.sb] h h' ∧ v = walkV S (walkA (viewFs S) 1 follow 600 1 0 l) ∧ ∃ s, At h' V M { X with seen := s } ∧ 1 ∈ s ∧ ((walkA (viewFs S) 1 follow 600 1 0 l).2 = 0 → (walkA (viewFs S) 1 follow 600 1 0 l).1 ∈ s)) := by
  have bl := A.blt
  have hE : (walkA (viewFs S) 1 follow 600 1 0 l).2 ≠ -1 := walkA_ends 600 1 0 l (by decide) (by omega)
  generalize hR : walkA (viewFs S) 1 follow 600 1 0 l = R at hE
  have hk1 : (S.C 1).kind ≠ 0 := by rw [C.root]; decide
  refine call_of hmix Tryz.func67 rfl ok67 (by simp [Tryz.f67]) ?_
  conv => whnf
  refine AllocR.i fun b1 h1 e1 s1 o1 k1 => ?_
  have nb1 : ∀ b ∈ V.blocks, b ≠ b1 := fun b hb => by have := bl b hb; omega
  have msb : V.sb ∈ V.blocks := by simp [VL.blocks]
  conv => whnf
  refine LoopR.on [0, 1, 2, 7, 9] [7] (fun q : WS => [(0, .v (.pointer (some ⟨V.v, 0, none⟩))), (1, .v (.slice q.a q.n q.c)), (2, .v (.bool follow)), (7, .lp 7 0), (9, .v (.int .i64 (q.links : Int)))]) (fun _ => [(7, b1, Crd.zero.cells)])
    (fun q h' => q.links ≤ 8 ∧ Keeps [V.sb] h h' ∧ h1.size ≤ h'.size ∧ At h' V M { X with seen := q.s } ∧ Sl h' q.a q.n q.c (bas q.l) ∧ (∀ b ∈ blkA q.a, b ≠ V.sb) ∧ (∀ x ∈ q.l, x.length ≤ 200) ∧ q.l.length ≤ 60 + 60 * q.links ∧ walkA (viewFs S) 1 follow q.f 1 q.links q.l = R) (fun q => q.f) ⟨600, 0, l, a, n, c, X.seen⟩ ?_ ?_
  · conv => whnf
    exact ⟨⟨600, 0, l, a, n, c, X.seen⟩, rfl, rfl, rfl, Nat.zero_le _, k1.mono (by simp), Nat.le_refl _, A.on k1, T.keep k1, ha, hx, by simpa using hl, hR⟩
  · rintro ⟨f, links, l, a, n, c, s0⟩ h2 ⟨q1, k2, z2, A2, T2, a2, x2, l2, r2⟩
    simp only at q1 A2 T2 a2 x2 l2 r2
    have bl2 := A2.blt
    have nl := T2.hlen
    rw [bas_len] at nl
    conv => whnf
    refine CallR.m (vget_spec A2 I (n := 1) (by decide) hk1) (by simp [blocksOf, setB]; exact fun e => nb1 V.sb msb e.symm) fun v h3 k3 hv => ?_
    obtain ⟨rfl, A3⟩ := hv
    conv => whnf
    refine AllocR.i fun b4 h4 e4 s4 o4 k4 => ?_
    conv => whnf
    refine BoxR.i fun h5 s5 k5 => ?_
    conv => whnf
    refine IfR.f rfl ?_
    have z3 := k3.size
    have k35 : Keeps [] h3 h5 := k4.new1 k5 (by omega)
    have A5 := A3.on k35
    have T5 := (T2.keepM k3 (fun b hb => by simpa using a2 b hb)).keep k35
    have bl3 := A3.blt
    have hb4 : ∀ b ∈ V.blocks, b ≠ b4 := fun b hb => by have := bl3 b hb; omega
    conv => whnf
    refine LoopR.on [0, 1, 2, 7, 9, 10, 11, 29, 30, 31] [7, 11] (fun q : Nat × Int × List Int => [(0, .v (.pointer (some ⟨V.v, 0, none⟩))), (1, .v (.slice a n c)), (2, .v (.bool follow)), (7, .lp 7 0), (9, .v (.int .i64 (links : Int))), (10, .v (.int .i64 q.2.1)), (11, .lp 11 0), (29, .v (.slice a n c)), (30, .v (.int .i64 (n : Int))), (31, .v (.int .i64 (q.1 : Int)))]) (fun q => [(7, b1, Crd.zero.cells), (11, b4, (S.C q.2.1).cells)])
      (fun q h' => q.1 ≤ n ∧ Keeps [V.sb] h h' ∧ h5.size ≤ h'.size ∧ At h' V M { X with seen := q.2.2 } ∧ Sl h' a n c (bas l) ∧ (0 ≤ q.2.1 ∧ q.2.1 < 24) ∧ (S.C q.2.1).kind ≠ 0 ∧ (1 ∈ q.2.2 ∧ q.2.1 ∈ q.2.2) ∧ walkA (viewFs S) 1 follow (f - q.1) q.2.1 links (l.drop q.1) = R) (fun q => n - q.1) (0, 1, addS s0 1) ?_ ?_
    · conv => whnf
      refine ⟨(0, 1, addS s0 1), rfl, rfl, rfl, Nat.zero_le _, ?_, Nat.le_refl _, A5, T5, (show (0 : Int) ≤ 1 ∧ (1 : Int) < 24 by decide), hk1, ⟨addS_mem.2 (.inr rfl), addS_mem.2 (.inr rfl)⟩, by simpa using r2⟩
      exact (k2.trans k3).trans_nil k35
    · rintro ⟨i, at_, s6⟩ h6 ⟨hi, k6, z6, A6, T6, rat, kat, m6, r6⟩
      simp only at hi A6 rat kat m6 r6
      have bl6 := A6.blt
      obtain ⟨f', hf'⟩ : ∃ f', f - i = f' + 1 := by
        cases hfi : f - i with
        | zero =>
          exfalso
          rw [hfi] at r6
          apply hE
          rw [← r6]; rfl
        | succ f' => exact ⟨f', rfl⟩
      rw [hf'] at r6
      -- what is told where it ends
      have stop : ∀ (e : Int) (h7 h8 : Heap), e ≠ 0 → Keeps [V.sb] h h7 → h1.size ≤ h7.size → (∃ s, At h7 V M { X with seen := s } ∧ 1 ∈ s) → Keeps [b1] h7 h8 → R = (0, e) → Keeps [V.sb] h h8 ∧ Value.tuple #[.int .i64 0, .agg ⟨Crd.zero.cells⟩, .int .i64 e] = walkV S R ∧ ∃ s, At h8 V M { X with seen := s } ∧ 1 ∈ s ∧ (R.2 = 0 → R.1 ∈ s) := by
        intro e h7 h8 he k7 z7 ⟨s, A7, m7⟩ k8 hRe
        refine ⟨k7.m1 k8 (by omega), ?_, s, A7.keep k8 (fun b hb => by simp; exact nb1 b hb), m7, fun h => by rw [hRe] at h; exact absurd h he⟩
        subst hRe
        unfold walkV
        simp only
        rw [if_neg he]
      conv => whnf
      refine IfR.i (fun hc => ?_) (fun hc => ?_)
      · have hi1 : i < l.length := by
          have : (i : Int) < (n : Int) := by simpa using hc
          omega
        rw [List.drop_eq_getElem_cons hi1] at r6
        obtain ⟨b7, off7, hb7, _, hcell⟩ := T6.at1 i (by rw [bas_len]; exact hi1)
        have en : (bas l)[i]'(by rw [bas_len]; exact hi1) = ba l[i] := by simp [bas]
        rw [en] at hcell
        have N6 := I.node at_ rat.1 rat.2
        conv => whnf
        refine IdxS.i i rfl (by omega) hb7 ?_
        conv => whnf
        refine LoadR.i hcell ?_
        conv => whnf
        refine CallR.i (ffind_spec A6 (S.C at_) N6.ok l[i]) fun v h7 k7 hv => ?_
        have A7 := A6.on k7
        have T7 := T6.keep k7
        have k07 : Keeps [V.sb] h h7 := k6.trans_nil k7
        have z7 := k7.size
        have z5 := k35.size
        by_cases hk2 : (S.C at_).kind = 2
        · obtain ⟨m, D⟩ := N6.dir hk2
          rw [dir_find D l[i]] at hv
          simp only at hv
          have hk2' : ¬ ((viewFs S).kind at_ ≠ 2) := fun h => h hk2
          rw [walkA_cons, if_neg hk2', viewFs_find] at r6
          have hplc := find_place (name := l[i]) D.str
          cases hfe : findE (S.nm at_) l[i] with
          | none =>
            have hfr : findR (S.nm at_) l[i] = (0, false) := by unfold findR; rw [hfe]
            rw [hfr] at hv hplc
            rw [← hplc] at hv
            subst hv
            rw [hfe] at r6
            conv => whnf
            first | refine IfR.f rfl ?_ | (refine MeetR.pass ?_; (conv => whnf); refine IfR.f rfl ?_)
            conv => whnf
            first | refine IfR.t rfl ?_ | (refine MeetR.pass ?_; (conv => whnf); refine IfR.t rfl ?_)
            conv => whnf
            refine BoxR.i fun h8 s8 k8 => ?_
            conv => whnf
            exact stop 4 h7 h8 (by decide) k07 (by omega) ⟨_, A7, m6.1⟩ k8 r6.symm
          | some e =>
            have hfr : findR (S.nm at_) l[i] = (e.node, true) := by unfold findR; rw [hfe]
            rw [hfr] at hv hplc
            rw [← hplc] at hv
            subst hv
            rw [hfe] at r6
            simp only [Option.map_some] at r6
            obtain ⟨en0, en1, enk⟩ := C.names at_ rat.1 rat.2 hk2 e (List.mem_of_find?_eq_some hfe)
            conv => whnf
            first | refine IfR.f rfl ?_ | (refine MeetR.pass ?_; (conv => whnf); refine IfR.f rfl ?_)
            conv => whnf
            first | refine IfR.f rfl ?_ | (refine MeetR.pass ?_; (conv => whnf); refine IfR.f rfl ?_)
            conv => whnf
            refine CallR.m (vget_spec A7 I (n := e.node) ⟨en0, en1⟩ enk) (by
                have q1 := fun e => nb1 V.sb msb e
                have q2 := fun e => hb4 V.sb msb e
                simp [blocksOf, setB]; exact ⟨fun e => q1 e.symm, fun e => q2 e.symm⟩) fun v h8 k8 hv => ?_
            obtain ⟨rfl, A8⟩ := hv
            conv => whnf
            refine BoxR.i fun h9 s9 k9 => ?_
            have A9 := A8.keep k9 (fun b hb => by simp; exact hb4 b hb)
            have T9 : Sl h9 a n c (bas l) := (T7.keepM k8 (fun b hb => by simpa using a2 b hb)).keepM k9 (fun b hb => by
              have hlt : b < h2.size := by
                obtain ⟨bb, oo, hbb, _, hcc⟩ := T2.at1 i (by rw [bas_len]; exact hi1)
                rw [hbb] at hb
                simp [blkA] at hb
                subst hb
                exact cell_lt hcc
              simp; omega)
            have k09 : Keeps [V.sb] h h9 := (k07.trans k8).m1 k9 (by omega)
            have z8 := k8.size
            conv => whnf
            refine IfR.f rfl ?_
            have hdr : (l.drop (i + 1) = []) ↔ i + 1 = n := by
              rw [List.drop_eq_nil_iff]; omega
            have ewn : IntKind.i64.wrap ((n : Int) - 1) = ((n - 1 : Nat) : Int) := wrapN (by omega) (by omega)
            conv => whnf
            by_cases hcnd : (viewFs S).kind e.node ≠ 3 ∨ (l.drop (i + 1) = [] ∧ follow = false)
            · rw [if_pos hcnd] at r6
              refine IfR.t ?_ ?_
              · rw [ewn]
                rcases hcnd with h | ⟨h, h'⟩
                · have h : (S.C e.node).kind ≠ 3 := h
                  simp [bif_or, h]
                · have := hdr.1 h
                  have h2 : ((i : Int) == ((n - 1 : Nat) : Int)) = true := by simp; omega
                  rw [h', h2]
                  simp [bif_or]
              conv => whnf
              refine ⟨n - (i + 1), by omega, ?_⟩
              conv => whnf
              exact ⟨(i + 1, e.node, addS s6 e.node), rfl, by rw [wrapN (x := (i : Int) + 1) (n := i + 1) (by simp) (by omega)], rfl, by simp only; omega, k09, by omega, A9, T9, ⟨en0, en1⟩, enk, ⟨addS_mem.2 (.inl m6.1), addS_mem.2 (.inr rfl)⟩, by
                have : f - (i + 1) = f' := by omega
                simp only [this]; exact r6⟩
            · rw [if_neg hcnd] at r6
              have h3 : (S.C e.node).kind = 3 := by
                apply Classical.byContradiction
                intro h; exact hcnd (.inl h)
              have hnf : ¬ (i + 1 = n ∧ follow = false) := fun h => hcnd (.inr ⟨hdr.2 h.1, h.2⟩)
              refine IfR.f ?_ ?_
              · rw [ewn, h3]
                by_cases hin : i + 1 = n
                · have : follow = true := by
                    cases follow with
                    | true => rfl
                    | false => exact absurd ⟨hin, rfl⟩ hnf
                  rw [this]
                  simp [bif_or, bif_and]
                · have h2 : ((i : Int) == ((n - 1 : Nat) : Int)) = false := by simp; omega
                  rw [h2]
                  simp [bif_or]
              have ewl : IntKind.i64.wrap ((links : Int) + 1) = ((links + 1 : Nat) : Int) := wrapN (by omega) (by omega)
              conv => whnf
              rw [ewl]
              by_cases h8 : 8 < links + 1
              · rw [if_pos h8] at r6
                refine IfR.t (by simp; omega) ?_
                conv => whnf
                refine BoxR.i fun h10 s10 k10 => ?_
                conv => whnf
                exact stop 11 h9 h10 (by decide) k09 (by omega) ⟨_, A9, addS_mem.2 (.inl m6.1)⟩ k10 r6.symm
              · rw [if_neg h8] at r6
                refine IfR.f (by simp; omega) ?_
                obtain ⟨mm, FF⟩ := (I.node e.node en0 en1).file (.inr h3)
                conv => whnf
                refine CallR.i (vtarget_spec A9 FF) fun v h10 k10 hv => ?_
                have A10 := A9.on k10
                have k010 := k09.trans_nil k10
                have z10 := k10.size
                have hdat : (viewFs S).data e.node = S.by_ e.node := rfl
                rw [hdat] at r6
                cases hp : pathP (S.by_ e.node) with
                | none =>
                  rw [hp] at hv r6
                  simp only at hv r6
                  subst hv
                  conv => whnf
                  refine IfR.t rfl ?_
                  conv => whnf
                  refine BoxR.i fun h11 s11 k11 => ?_
                  conv => whnf
                  exact stop 15 h10 h11 (by decide) k010 (by omega) ⟨_, A10, addS_mem.2 (.inl m6.1)⟩ k11 r6.symm
                | some head =>
                  rw [hp] at hv r6
                  simp only at hv r6
                  obtain ⟨ah, kh, rfl, Th, nh⟩ := hv
                  obtain ⟨p1, p2, p3, p4⟩ := pathP_len hp
                  conv => whnf
                  refine IfR.f rfl ?_
                  have ewi : IntKind.i64.wrap ((i : Int) + 1) = ((i + 1 : Nat) : Int) := wrapN (by simp) (by omega)
                  have T10 := T9.keep k10
                  conv => whnf
                  refine SliceR.i (i + 1) n ewi rfl (by omega) T10.hcap ?_
                  have P := T10.part (l := i + 1) (r := n) (by omega) (Nat.le_refl _)
                  have hbr : ((bas l).take n).drop (i + 1) = bas (l.drop (i + 1)) := by
                    have : (bas l).length = n := by rw [bas_len]; omega
                    rw [← this, List.take_length]; simp [bas]
                  rw [hbr] at P
                  have hhs : ∀ x ∈ head, x.length ≤ 200 := by
                    intro x hx
                    have h1 := joinS_le hx
                    by_cases hh : head = []
                    · rw [hh] at hx; cases hx
                    · rw [if_neg hh] at p4
                      rw [p4] at h1; omega
                  have hxs : ∀ x ∈ head ++ l.drop (i + 1), x.length ≤ 200 := by
                    intro x hx
                    rcases List.mem_append.1 hx with h | h
                    · exact hhs x h
                    · exact x2 x (List.mem_of_mem_drop h)
                  conv => whnf
                  refine CallR.i (lead_spec Th P (by rw [List.length_drop]; omega) (fun z hz => by have := hxs z hz; omega)) fun v h11 k11 hv => ?_
                  obtain ⟨a', c', rfl, T11, n11⟩ := hv
                  have bl10 := A10.blt V.sb msb
                  conv => whnf
                  refine ⟨f', by show f' < f; omega, ?_⟩
                  conv => whnf
                  refine ⟨⟨f', links + 1, head ++ l.drop (i + 1), a', (head ++ l.drop (i + 1)).length, c', addS s6 e.node⟩, rfl, rfl, rfl, by simp only; omega, k010.trans_nil k11, by have := k11.size; omega, A10.on k11, T11, fun b hb => by have := n11 b hb; omega, hxs, ?_, r6⟩
                  simp only [List.length_append, List.length_drop]
                  omega
        · have hop : findP X.now (S.C at_) l[i] = (0, false, 6) := by
            unfold findP openP
            rw [if_pos hk2]
            rfl
          have hop' : findP ({ X with seen := s6 } : VS).now (S.C at_) l[i] = (0, false, 6) := hop
          rw [hop'] at hv
          subst hv
          conv => whnf
          first | refine IfR.t rfl ?_ | (refine MeetR.pass ?_; (conv => whnf); refine IfR.t rfl ?_)
          conv => whnf
          refine BoxR.i fun h8 s8 k8 => ?_
          conv => whnf
          refine stop 6 h7 h8 (by decide) k07 (by omega) ⟨_, A7, m6.1⟩ k8 ?_
          rw [← r6]
          rw [walkA_cons, if_pos (show (viewFs S).kind at_ ≠ 2 from hk2)]
      · have hi1 : i = n := by
          have : ¬ ((i : Int) < (n : Int)) := by simpa using hc
          omega
        subst hi1
        conv => whnf
        refine BoxR.i fun h7 s7 k7 => ?_
        conv => whnf
        rw [nl, List.drop_length] at r6
        have hR2 : R = (at_, 0) := by rw [← r6]; rfl
        have z5 := k35.size
        refine ⟨k6.m1 k7 (by omega), ?_, s6, A6.keep k7 (fun b hb => by simp; exact nb1 b hb), m6.1, fun _ => by rw [hR2]; exact m6.2⟩
        rw [hR2]
        unfold walkV
        simp only
        rw [if_pos trivial]; rfl

end Go.Proofs.YtkjkdnphikendaaGreatDoor
/-
  Layer 12: the file that a path names; where a name stands.
-/
set_option linter.all false
set_option maxRecDepth 100000
set_option maxHeartbeats 2000000
namespace Go.Proofs.YtkjkdnphikendaaGreatDoor
open Go Go.Eng

/-- the file that a path names, over files -/
def pathA (F : Fs) (path : List UInt8) (follow : Bool) : Int × Int := match pathP path with | none => (0, 3) | some l => walkA F 1 follow 600 1 0 l

theorem walkV_in {X : VS} {S : FS} (C : FsC S) {follow : Bool} (f : Nat) (at_ : Int) (links : Nat) (l : List (List UInt8)) (h : 0 ≤ at_ ∧ at_ < 24 ∧ (S.C at_).kind ≠ 0) (he : (walkA (viewFs S) 1 follow f at_ links l).2 = 0) :
    0 ≤ (walkA (viewFs S) 1 follow f at_ links l).1 ∧ (walkA (viewFs S) 1 follow f at_ links l).1 < 24 ∧ (S.C (walkA (viewFs S) 1 follow f at_ links l).1).kind ≠ 0 := by
  have A : Alike (viewFs S) (viewFs S) id (fun n => 0 ≤ n ∧ n < 24 ∧ (S.C n).kind ≠ 0) := by
    refine ⟨fun x _ => rfl, fun x n _ _ => by simp, fun x n y hx hk hf => ?_, fun x _ _ => rfl⟩
    have hf' : (findE (S.nm x) n).map (·.node) = some y := hf
    cases hfe : findE (S.nm x) n with
    | none => rw [hfe] at hf'; cases hf'
    | some e =>
      rw [hfe] at hf'
      have : e.node = y := by simpa using hf'
      rw [← this]
      exact C.names x hx.1 hx.2.1 hk e (List.mem_of_find?_eq_some hfe)
  exact ((walkA_alike A (root := 1) ⟨by decide, by decide, by rw [C.root]; decide⟩ f at_ links l h).2 he).2

theorem pathP_names {path : List UInt8} {l : List (List UInt8)} (h : pathP path = some l) : ∀ x ∈ l, x.length ≤ 200 := by
  obtain ⟨p1, p2, p3, p4⟩ := pathP_len h
  intro x hx
  have h1 := joinS_le hx
  by_cases hh : l = []
  · rw [hh] at hx; cases hx
  · rw [if_neg hh] at p4
    rw [p4] at h1; omega

theorem vpathS_spec {h : Heap} {V : VL} {M : MemS} {X : VS} (A : At h V M X) {S : FS} (I : FsI X.now S) (C : FsC S) (path : List UInt8) (hp : path.length ≤ 140737488351232) (follow : Bool) :
    CallH Tryz.prog 27 [.pointer (some ⟨V.v, 0, none⟩), .string (ba path), .bool follow] h (fun v h' => Keeps [V.sb] h h' ∧ v = walkV S (pathA (viewFs S) path follow) ∧ ∃ s, At h' V M { X with seen := s } ∧ (pathP path ≠ none → 1 ∈ s ∧ ((pathA (viewFs S) path follow).2 = 0 → (pathA (viewFs S) path follow).1 ∈ s))) := by
  have bl := A.blt
  have msb : V.sb ∈ V.blocks := by simp [VL.blocks]
  refine call_of hmix Tryz.func27 rfl ok27 (by simp [Tryz.f27]) ?_
  conv => whnf
  refine AllocR.i fun b1 h1 e1 s1 o1 k1 => ?_
  have nb1 : ∀ b ∈ V.blocks, b ≠ b1 := fun b hb => by have := bl b hb; omega
  conv => whnf
  refine IfR.f rfl ?_
  conv => whnf
  refine CallR.i (nsplit_spec path hp h1) fun v h2 k2 hv => ?_
  have k02 := k1.trans k2
  have z1 := k1.size
  have z2 := k2.size
  unfold pathA
  cases hpp : pathP path with
  | none =>
    rw [hpp] at hv
    have hv : v = .tuple #[.slice none 0 0, .int .i64 3] := hv
    subst hv
    conv => whnf
    refine IfR.t rfl ?_
    conv => whnf
    refine BoxR.i fun h3 s3 k3 => ?_
    conv => whnf
    exact ⟨(k02.mono (by simp)).m1 k3 (by omega), rfl, X.seen, (A.on k02).keep k3 (fun b hb => by simp; exact nb1 b hb), fun h => absurd rfl h⟩
  | some l =>
    rw [hpp] at hv
    obtain ⟨a, c, rfl, T2, n2⟩ := hv
    obtain ⟨p1, p2, p3, p4⟩ := pathP_len hpp
    conv => whnf
    refine IfR.f rfl ?_
    conv => whnf
    refine CallR.m (vwalkS_spec (A.on k02) I C follow T2 (fun b hb => by have := n2 b hb; have := bl V.sb msb; omega) p1 (pathP_names hpp)) (by simp [blocksOf, setB]; exact fun e => nb1 V.sb msb e.symm) fun v h3 k3 hv => ?_
    obtain ⟨rfl, s, A3, m3⟩ := hv
    unfold walkV
    conv => whnf
    refine BoxR.i fun h4 s4 k4 => ?_
    conv => whnf
    exact ⟨((k02.mono (by simp)).trans k3).m1 k4 (by omega), rfl, s, A3.keep k4 (fun b hb => by simp; exact nb1 b hb), fun _ => m3⟩

theorem vpath_spec {h : Heap} {V : VL} {M : MemS} {X : VS} (A : At h V M X) {S : FS} (I : FsI X.now S) (C : FsC S) (path : List UInt8) (hp : path.length ≤ 140737488351232) (follow : Bool) :
    CallH Tryz.prog 27 [.pointer (some ⟨V.v, 0, none⟩), .string (ba path), .bool follow] h (fun v h' => Keeps [V.sb] h h' ∧ v = walkV S (pathA (viewFs S) path follow) ∧ ∃ s, At h' V M { X with seen := s }) :=
  (vpathS_spec A I C path hp follow).mono fun _ _ ⟨k, e, s, A', _⟩ => ⟨k, e, s, A'⟩

/-- where a name stands, over files: the directory, its name, the file that has it, the error -/
def placeA (F : Fs) (path : List UInt8) : Int × List UInt8 × Int × Int :=
  match pathP path with
  | none => (0, [], 0, 3)
  | some l => if l = [] then (0, [], 0, 1) else
    let r := walkA F 1 true 600 1 0 l.dropLast
    if r.2 ≠ 0 then (0, [], 0, r.2) else if F.kind r.1 ≠ 2 then (0, [], 0, 6) else (r.1, l.getLast?.getD [], (F.find r.1 (l.getLast?.getD [])).getD 0, 0)

/-- a spot's cells -/
def spotC (S : FS) (r : Int × List UInt8 × Int × Int) : List Value := if r.2.2.2 = 0 then [.int .i64 r.1] ++ (S.C r.1).cells ++ [.string (ba r.2.1), .int .i64 r.2.2.1] else [.int .i64 0] ++ Crd.zero.cells ++ [.string ⟨#[]⟩, .int .i64 0]

theorem vplace_spec {h : Heap} {V : VL} {M : MemS} {X : VS} (A : At h V M X) {S : FS} (I : FsI X.now S) (C : FsC S) (path : List UInt8) (hp : path.length ≤ 140737488351232) :
    CallH Tryz.prog 68 [.pointer (some ⟨V.v, 0, none⟩), .string (ba path)] h (fun v h' => Keeps [V.sb] h h' ∧ v = .tuple #[.agg ⟨spotC S (placeA (viewFs S) path)⟩, .int .i64 (placeA (viewFs S) path).2.2.2] ∧ ∃ s, At h' V M { X with seen := s }) := by
  have bl := A.blt
  have msb : V.sb ∈ V.blocks := by simp [VL.blocks]
  refine call_of hmix Tryz.func68 rfl ok68 (by simp [Tryz.f68]) ?_
  conv => whnf
  refine AllocR.i fun b1 h1 e1 s1 o1 k1 => ?_
  have nb1 : ∀ b ∈ V.blocks, b ≠ b1 := fun b hb => by have := bl b hb; omega
  conv => whnf
  refine IfR.f rfl ?_
  conv => whnf
  refine CallR.i (parent_spec path hp h1) fun v h2 k2 hv => ?_
  have k02 := k1.trans k2
  have z1 := k1.size
  have z2 := k2.size
  have stop : ∀ (h2 h3 : Heap) (r : Int × List UInt8 × Int × Int), Keeps [V.sb] h h2 → (∃ s, At h2 V M { X with seen := s }) → Keeps [b1] h2 h3 → r.2.2.2 ≠ 0 → placeA (viewFs S) path = r →
      Keeps [V.sb] h h3 ∧ Value.tuple #[.agg ⟨[.int .i64 0] ++ Crd.zero.cells ++ [.string ⟨#[]⟩, .int .i64 0]⟩, .int .i64 r.2.2.2] = .tuple #[.agg ⟨spotC S (placeA (viewFs S) path)⟩, .int .i64 (placeA (viewFs S) path).2.2.2] ∧ ∃ s, At h3 V M { X with seen := s } := by
    intro h2 h3 r k2 ⟨s, A2⟩ k3 hr he
    refine ⟨k2.m1 k3 (by omega), ?_, s, A2.keep k3 (fun b hb => by simp; exact nb1 b hb)⟩
    rw [he]
    unfold spotC
    rw [if_neg hr]
  have hpl : placeA (viewFs S) path = placeA (viewFs S) path := rfl
  conv at hpl => rhs; unfold placeA
  cases hpp : pathP path with
  | none =>
    rw [hpp] at hv hpl
    simp only at hv hpl
    subst hv
    conv => whnf
    refine IfR.t rfl ?_
    conv => whnf
    refine BoxR.i fun h3 s3 k3 => ?_
    conv => whnf
    exact stop h2 h3 _ (k02.mono (by simp)) ⟨X.seen, A.on k02⟩ k3 (by decide) hpl
  | some l =>
    rw [hpp] at hv hpl
    simp only at hv hpl
    obtain ⟨p1, p2, p3, p4⟩ := pathP_len hpp
    by_cases h0 : l = []
    · rw [if_pos h0] at hv hpl
      subst hv
      conv => whnf
      refine IfR.t rfl ?_
      conv => whnf
      refine BoxR.i fun h3 s3 k3 => ?_
      conv => whnf
      exact stop h2 h3 _ (k02.mono (by simp)) ⟨X.seen, A.on k02⟩ k3 (by decide) hpl
    · rw [if_neg h0] at hv hpl
      subst hv
      have hall : l.dropLast.all nameB = true := List.all_eq_true.2 fun x hx => List.all_eq_true.1 p2 x (List.dropLast_subset _ hx)
      have hjl : (joinS l.dropLast).length ≤ 120 := by
        rw [List.dropLast_eq_take]
        have := joinS_take l (l.length - 1)
        rw [if_neg h0] at p4
        rw [p4] at this
        omega
      have hup : pathP (pathJ l.dropLast) = some l.dropLast := pathP_join hall hjl
      have hul : (pathJ l.dropLast).length ≤ 120 := by
        unfold pathJ
        split
        · simp
        · exact hjl
      conv => whnf
      refine IfR.f rfl ?_
      conv => whnf
      refine CallR.m (vpath_spec (A.on k02) I C (pathJ l.dropLast) (by omega) true) (by simp [blocksOf, setB]; exact fun e => nb1 V.sb msb e.symm) fun v h3 k3 hv => ?_
      obtain ⟨rfl, s, A3⟩ := hv
      have hpa : pathA (viewFs S) (pathJ l.dropLast) true = walkA (viewFs S) 1 true 600 1 0 l.dropLast := by
        unfold pathA
        rw [hup]
      rw [hpa]
      generalize hr : walkA (viewFs S) 1 true 600 1 0 l.dropLast = r at hpl
      unfold walkV
      conv => whnf
      refine AllocR.i fun b4 h4 e4 s4 o4 k4 => ?_
      conv => whnf
      refine BoxR.i fun h5 s5 k5 => ?_
      have z3 := k3.size
      have k35 : Keeps [] h3 h5 := k4.new1 k5 (by omega)
      have A5 := A3.on k35
      have k05 : Keeps [V.sb] h h5 := ((k02.mono (by simp)).trans k3).trans_nil k35
      by_cases hr2 : r.2 = 0
      · rw [if_neg (fun h => h hr2)] at hpl
        have hin := walkV_in (X := X) C (follow := true) 600 1 0 l.dropLast ⟨by decide, by decide, by rw [C.root]; decide⟩
        rw [hr] at hin
        obtain ⟨r0, r1, rk⟩ := hin hr2
        rw [hr2]
        conv => whnf
        refine IfR.f rfl ?_
        have N5 := I.node r.1 r0 r1
        conv => whnf
        refine CallR.i (ffind_spec A5 (S.C r.1) N5.ok (l.getLast?.getD [])) fun v h6 k6 hv => ?_
        have A6 := A5.on k6
        have k06 := k05.trans_nil k6
        by_cases hk2 : (S.C r.1).kind = 2
        · obtain ⟨m, D⟩ := N5.dir hk2
          rw [dir_find D] at hv
          simp only at hv
          subst hv
          rw [if_neg (show ¬ ((viewFs S).kind r.1 ≠ 2) from fun h => h hk2)] at hpl
          have hfr : (findR (S.nm r.1) (l.getLast?.getD [])).1 = ((viewFs S).find r.1 (l.getLast?.getD [])).getD 0 := by
            rw [viewFs_find]
            unfold findR
            cases findE (S.nm r.1) (l.getLast?.getD []) <;> rfl
          conv => whnf
          refine IfR.f rfl ?_
          conv => whnf
          refine BoxR.i fun h7 s7 k7 => ?_
          conv => whnf
          have z6 := k6.size
          refine ⟨k06.m1 k7 (by omega), ?_, s, A6.keep k7 (fun b hb => by simp; exact nb1 b hb)⟩
          rw [hpl]
          unfold spotC
          simp only
          rw [if_pos trivial, hfr]
          rfl
        · rw [if_pos (show (viewFs S).kind r.1 ≠ 2 from hk2)] at hpl
          have hop : findP X.now (S.C r.1) (l.getLast?.getD []) = (0, false, 6) := by
            unfold findP openP
            rw [if_pos hk2]
            rfl
          have hop' : findP ({ X with seen := s } : VS).now (S.C r.1) (l.getLast?.getD []) = (0, false, 6) := hop
          rw [hop'] at hv
          subst hv
          conv => whnf
          refine IfR.t rfl ?_
          conv => whnf
          refine BoxR.i fun h7 s7 k7 => ?_
          conv => whnf
          have z6 := k6.size
          exact stop h6 h7 _ k06 ⟨s, A6⟩ k7 (by decide) hpl
      · rw [if_pos hr2] at hpl
        conv => whnf
        refine IfR.t (by simp; exact hr2) ?_
        conv => whnf
        refine BoxR.i fun h7 s7 k7 => ?_
        conv => whnf
        exact stop h5 h7 _ k05 ⟨s, A5⟩ k7 hr2 hpl
end Go.Proofs.YtkjkdnphikendaaGreatDoor
