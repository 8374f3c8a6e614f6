/-
  The law's own check that the program lives.
-/
import Derived.Test.YtlloemmpnhoanaaGreatBodyQ
set_option linter.all false
set_option maxRecDepth 100000
set_option maxHeartbeats 1000000
namespace Go.Proofs.YtlloemmpnhoanaaGreat
open Go Go.Eng

/-- the words of a new memory -/
def b0 (i : Int) : UInt64 := if 0 ≤ i ∧ i < 2824 then (if i = 0 then 7021221306412823411 else if i = 1 then 2824 else 0) else 0
def M0 : MemS := ⟨img0, [], [], 0, -1⟩

theorem read_img0 : M0.read = b0 := by
  funext i
  unfold MemS.read b0 M0
  have hl : img0.length = 2824 := by simp [img0]
  by_cases h : 0 ≤ i ∧ i < 2824
  · have ht : MemS.there ⟨img0, [], [], 0, -1⟩ i = true := by
      simp only [MemS.there, hl]
      simp; omega
    rw [if_pos ht, if_pos h]
    obtain ⟨n, rfl⟩ : ∃ n : Nat, i = (n : Int) := ⟨i.toNat, by omega⟩
    simp only [lk, Option.getD_none, Int.toNat_natCast]
    have e : img0[n]?.getD 0 = if n = 0 then 7021221306412823411 else if n = 1 then 2824 else 0 := by
      unfold img0
      rcases n with _ | _ | n
      · simp
      · simp
      · simp only [List.getElem?_cons_succ, List.getElem?_replicate]
        split <;> simp
    rw [e]
    rcases n with _ | _ | n
    · rfl
    · rfl
    · rw [if_neg (by omega), if_neg (by omega), if_neg (by omega), if_neg (by omega)]
  · have ht : MemS.there ⟨img0, [], [], 0, -1⟩ i = false := by
      rw [← Bool.not_eq_true]
      intro hx
      simp only [MemS.there, hl] at hx
      simp at hx; omega
    rw [if_neg (by rw [ht]; decide), if_neg h]

def X0 : VS := ⟨b0, [], [], [], []⟩
def c1 : Crd := ⟨1, 1, 702, 1, -1, -1, -1, -1, -1, 1⟩
def wL : Crd × Int × VS := writeP b0 X0 2 (freshC 1 1) 700 [97, 98]

theorem lw1 : wL.1 = c1 := by decide +kernel
theorem lw2 : wL.2.1 = 0 := by decide +kernel
theorem lw4 : freeN b0 wL.2.2 96 = 94 := by decide +kernel
theorem lw5 : mapOf wL.2.2.now c1 = some [-1, -1, -1, -1, -1, 0, -1, -1, -1, -1, -1, -1, -1, -1, -1, -1, -1, -1, -1, -1, -1] := by decide +kernel
theorem lw3 : readP wL.2.2.now c1 699 9 = ([0, 97, 98], 0) := by decide +kernel

theorem okMap_fresh (now : Int → UInt64) (k : Int) (v : UInt64) : okMap now (freshC k v) := by
  intro m hm x hx
  have : mapOf now (freshC k v) = some (List.replicate 21 (-1)) := rfl
  rw [this] at hm
  have hm' : List.replicate 21 (-1) = m := Option.some.inj hm
  subst hm'
  exact .inl (List.mem_replicate.1 hx).2
theorem fresh_ok {k : Int} (v : UInt64) (hk : inI64 k) : (freshC k v).ok := by
  refine ⟨hk, by unfold inI64; simp [freshC, noneC], by unfold inI64; simp [freshC, noneC], ?_, by unfold inI64; simp [freshC, noneC]⟩
  intro x hx
  simp [Crd.direct, freshC, noneC] at hx
  subst hx; exact ⟨by decide, by decide⟩

/-- a view over a new memory -/
theorem newView_spec (h : Heap) (l : List Chg) {a : Option Addr} {n c : Nat} (S : Sl h a n c l) : CallH Tryz.prog 16 [.slice a n c] h (fun v h' => Keeps [] h h' ∧ ∃ b, v = .slice (some ⟨b, 0, none⟩) 2824 2824 ∧ h.size ≤ b ∧ b < h'.size ∧ Sl h' (some ⟨b, 0, none⟩) 2824 2824 (imgW l)) :=
  CallH.mono (image_spec S) fun v h' ⟨k, b, h1, h2, h3, o⟩ => ⟨k, b, h1, h2, h3, Sl.of1' (α := UInt64) o (by simp [One.ok]) (imgW_len l).symm (by rw [imgW_len]; decide)⟩

theorem lives_spec (h : Heap) : CallH Tryz.prog 6 [] h (fun v h' => Keeps [] h h' ∧ v = .bool true) := by
  refine call_of hmix Tryz.func6 rfl ok6 (by simp [Tryz.f6]) ?_
  conv => whnf
  refine CallR.i (newView_spec h [] (Sl.nil (a := none) (cap := 0))) fun v h1 k1 hv => ?_
  obtain ⟨b, rfl, q1, q2, S1⟩ := hv
  conv => whnf
  refine CallR.i (load_spec S1 (by decide)) fun v h2 k2 hv => ?_
  obtain ⟨L, rfl, A2, n2⟩ := hv
  have hM : (⟨imgW [], [], [], 0, -1⟩ : MemS) = M0 := rfl
  rw [hM] at A2
  conv => whnf
  refine CallR.i (new_spec A2) fun v h3 k3 hv => ?_
  have hsz : M0.sure.length = 2824 := by simp [M0, img0]
  rw [if_pos hsz] at hv
  obtain ⟨V, rfl, rfl, ab, anb, n3, A3⟩ := hv
  rw [read_img0] at A3
  have A3' : At h3 V M0 X0 := A3
  have z1 := k1.size
  have z2 := k2.size
  conv => whnf
  refine IfR.f rfl ?_
  conv => whnf
  refine CallR.i (refFresh_spec 1 1 h3) fun v h4 k4 hv => ?_
  rw [if_pos (by decide)] at hv
  subst hv
  conv => whnf
  refine AllocR.i fun b5 h5 e5 s5 o5 k5 => ?_
  conv => whnf
  refine BoxR.i fun h6 s6 k6 => ?_
  have z3 := k3.size
  have z4 := k4.size
  have k36 : Keeps [] h3 h6 := (k4.trans k5).new1 k6 (by omega)
  have A6 := A3'.on k36
  have hvb : ∀ y ∈ V.blocks, y < h3.size := A3'.blt
  conv => whnf
  refine CallR.m (write_spec A6 2 (freshC 1 1) (fresh_ok 1 ⟨by decide, by decide⟩) (okMap_fresh _ _ _) 700 [97, 98]) ?_ fun v h7 k7 hv => ?_
  · intro y hy hx
    have hy2 : y ∈ [b5] := hy
    have := hvb V.ob (by simp [VL.blocks])
    simp at hy2 hx; omega
  rw [read_img0] at hv
  obtain ⟨rfl, A7⟩ := hv
  have hW : writeP b0 X0 2 (freshC 1 1) 700 [97, 98] = wL := rfl
  rw [hW] at A7
  rw [hW, lw1, lw2]
  have z7 := k7.size
  conv => whnf
  refine AllocR.i fun b8 h8 e8 s8 o8 k8 => ?_
  conv => whnf
  refine BoxR.i fun h9 s9 k9 => ?_
  have A9 := (A7.on k8).keep k9 (fun y hy => by have := hvb y hy; simp; omega)
  have k79 : Keeps [] h7 h9 := k8.new1 k9 (by omega)
  conv => whnf
  refine CallR.i (bread_spec A9 c1 ⟨⟨by decide, by decide⟩, ⟨by decide, by decide⟩, ⟨by decide, by decide⟩, by intro x hx; simp [Crd.direct, c1] at hx; subst hx; exact ⟨by decide, by decide⟩, ⟨by decide, by decide⟩⟩ ⟨by decide, by decide⟩ (fun m hm x hx => ?_) 699 9) fun v h10 k10 hv => ?_
  · rw [lw5] at hm
    have hm' := Option.some.inj hm
    subst hm'
    have hal : ∀ x ∈ ([-1, -1, -1, -1, -1, 0, -1, -1, -1, -1, -1, -1, -1, -1, -1, -1, -1, -1, -1, -1, -1] : List Int), x = -1 ∨ 0 ≤ x ∧ x < 96 := by decide
    exact hal x hx
  rw [lw3] at hv
  subst hv
  conv => whnf
  refine IfR.t (by decide +kernel) ?_
  conv => whnf
  refine CallR.i (free_spec (A9.on k10)) fun v h11 k11 hv => ?_
  rw [read_img0, lw4] at hv
  subst hv
  conv => whnf
  have kob : h.size ≤ V.ob := by have := n3 V.ob (by simp); omega
  refine ⟨?_, congrArg Value.bool (by decide +kernel)⟩
  have k06 : Keeps [] h h6 := k1.trans (k2.trans (k3.trans k36))
  exact (k06.new1 k7 kob).trans (k79.trans (k10.trans k11))
end Go.Proofs.YtlloemmpnhoanaaGreat
