/-
  Layer 10's law: a file's own blocks; whole; two files.
-/
import Derived.Test.YtlloemmpnhoanaaGreatFileF
set_option linter.all false
set_option maxRecDepth 100000
set_option maxHeartbeats 1000000
namespace Go.Proofs.YtlloemmpnhoanaaGreat
open Go Go.Eng

theorem has_spec {h : Heap} {a : Option Addr} {n c : Nat} {xs : List Int} (S : Sl h a n c xs) (hn : n ≤ 1000000) (x : Int) : CallH Tryz.prog 28 [.slice a n c, .int .i64 x] h (fun v h' => Keeps [] h h' ∧ v = .bool (decide (x ∈ xs))) := by
  have hl := S.hlen
  refine call_of hmix Tryz.func28 rfl ok28 (by simp [Tryz.f28]) ?_
  conv => whnf
  refine LoopR.on [0, 1, 5] [] (fun i : Nat => [(0, .v (.slice a n c)), (1, .v (.int .i64 x)), (5, .v (.int .i64 (i : Int)))]) (fun _ => []) (fun i h' => i ≤ n ∧ Keeps [] h h' ∧ x ∉ xs.take i) (fun i => n - i) 0 ?_ ?_
  · conv => whnf
    exact ⟨0, rfl, rfl, rfl, Nat.zero_le _, Keeps.refl _ _, by simp⟩
  · rintro i h2 ⟨hi, k2, ht⟩
    conv => whnf
    refine IfR.i (fun hd => ?_) (fun hd => ?_)
    · have hi1 : i < xs.length := by simp at hd; omega
      obtain ⟨b1, o1, hb1, _, hc1⟩ := (S.keep k2).at1 i hi1
      conv => whnf
      first | refine IdxS.i i rfl (by omega) hb1 ?_ | (refine MeetR.pass ?_; (conv => whnf); refine IdxS.i i rfl (by omega) hb1 ?_)
      conv => whnf
      refine LoadR.i hc1 ?_
      conv => whnf
      refine IfR.i (fun he => ?_) (fun he => ?_)
      · have hx : xs[i] = x := by simpa using he
        conv => whnf
        refine ⟨k2, ?_⟩
        have hm : x ∈ xs := hx ▸ List.getElem_mem hi1
        rw [decide_eq_true hm]
      · have hx : ¬ xs[i] = x := by simpa using he
        conv => whnf
        refine ⟨n - (i + 1), by omega, ?_⟩
        conv => whnf
        refine ⟨i + 1, rfl, by rw [wrapN (n := i + 1) (by simp) (by omega)], rfl, by omega, k2, ?_⟩
        rw [List.take_succ_eq_append_getElem hi1, List.mem_append]
        rintro (h | h)
        · exact ht h
        · exact hx (List.mem_singleton.1 h).symm
    · have hi1 : i = n := by simp at hd; omega
      conv => whnf
      refine ⟨k2, ?_⟩
      rw [List.take_of_length_le (by omega)] at ht
      rw [decide_eq_false ht]

/-- a view and its memory, between steps: the memory calm, the view as new -/
structure Idle (h : Heap) (V : VL) (M : MemS) : Prop where
  at_ : At h V M ⟨M.read, [], [], [], []⟩
  ab : V.ab = none
  anb : V.anb = none
  calm : M.until_ = -1
  size : M.sure.length = 2824

theorem Idle.on {h h' : Heap} {V : VL} {M : MemS} (I : Idle h V M) (k : Keeps [] h h') : Idle h' V M := ⟨I.at_.on k, I.ab, I.anb, I.calm, I.size⟩

/-- where a file of the law's lies -/
def FileO (h : Heap) (f : Nat) (V : VL) (node : Int) (c : Crd) (s : List UInt8) : Prop := h[f]? = some (.cells ⟨fileC V node c ⟨s.toArray⟩⟩ 41 (0, 0))

theorem two_spec (h : Heap) : CallH Tryz.prog 7 [] h (fun v h' => Keeps [] h h' ∧ ∃ V f g, v = .agg ⟨[.pointer (some ⟨f, 0, none⟩), .pointer (some ⟨g, 0, none⟩)]⟩ ∧ Idle h' V M0 ∧ FileO h' f V 2 (freshC 1 1) [] ∧ FileO h' g V 3 (freshC 1 1) [] ∧
    f ≠ g ∧ f ∉ V.blocks ∧ g ∉ V.blocks ∧ h.size ≤ f ∧ h.size ≤ g ∧ ∀ b ∈ V.blocks, h.size ≤ b) := by
  refine call_of hmix Tryz.func7 rfl ok7 (by simp [Tryz.f7]) ?_
  conv => whnf
  refine AllocR.i fun b0 h0 e0 s0 o0 k0 => ?_
  conv => whnf
  refine CallR.i (newView_spec h0 [] (Sl.nil (a := none) (cap := 0))) fun v h1 k1 hv => ?_
  obtain ⟨b, rfl, q1, q2, S1⟩ := hv
  conv => whnf
  refine CallR.i (load_spec S1 (by decide)) fun v h2 k2 hv => ?_
  obtain ⟨L, rfl, A2, n2⟩ := hv
  have hM : (⟨imgW [], [], [], 0, -1⟩ : MemS) = M0 := rfl
  rw [hM] at A2
  conv => whnf
  refine CallR.i (new_spec A2) fun v h3 k3 hv => ?_
  have hsz : M0.sure.length = 2824 := by simp [M0, img0]
  rw [if_pos hsz] at hv
  obtain ⟨V, rfl, rfl, ab, anb, n3, A3⟩ := hv
  conv => whnf
  refine CallR.i (refFresh_spec 1 1 h3) fun v h4 k4 hv => ?_
  rw [if_pos (by decide)] at hv
  subst hv
  conv => whnf
  refine AllocR.i fun b5 h5 e5 s5 o5 k5 => ?_
  conv => whnf
  refine BoxR.i fun h6 s6 k6 => ?_
  have z1 := k1.size
  have z2 := k2.size
  have z3 := k3.size
  have z4 := k4.size
  conv => whnf
  refine AllocR.i fun f h7 e7 s7 o7 k7 => ?_
  conv => whnf
  refine AllocR.i fun g h8 e8 s8 o8 k8 => ?_
  conv => whnf
  refine BoxR.i fun h9 s9 k9 => ?_
  conv => whnf
  have k36 : Keeps [] h3 h6 := (k4.trans k5).new1 k6 (by omega)
  have k02 : Keeps [] h h2 := k0.trans (k1.trans k2)
  have k69 : Keeps [b0] h6 h9 := ((k7.trans k8).mono (by simp)).trans k9
  have k09 : Keeps [] h h9 := (k02.trans (k3.trans k36)).new1 k69 (by omega)
  have hvb : ∀ y ∈ V.blocks, y < h3.size := A3.blt
  have hnb : ∀ y ∈ V.blocks, h0.size ≤ y := by
    intro y hy
    simp only [VL.blocks, ab, anb, Option.toList, List.append_nil] at hy
    simp only [List.mem_cons, List.mem_append] at hy
    rcases hy with rfl | rfl | rfl | rfl | hy
    · have := n3 V.v (by simp); omega
    · have := n3 V.ob (by simp); omega
    · have := n3 V.sb (by simp); omega
    · have := n3 V.mb (by simp); omega
    · have := n2 y hy; omega
  have A9 := (A3.on k36).keep k69 (fun y hy hx => by have := hnb y hy; simp at hx; omega)
  refine ⟨k09, V, f, g, rfl, ⟨A9, ab, anb, rfl, hsz⟩, ?_, ?_, by omega, fun hx => by have := hvb _ hx; omega, fun hx => by have := hvb _ hx; omega, by omega, by omega, fun y hy => by have := hnb y hy; omega⟩
  · exact k9.obj (k8.obj o7 (by simp)) (by simp; omega)
  · exact k9.obj o8 (by simp; omega)
end Go.Proofs.YtlloemmpnhoanaaGreat
