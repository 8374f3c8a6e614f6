/-
  FindSizes: the law's walk.
-/
import Derived.Test.YtegagciipigkbaaFindJ
set_option linter.all false
namespace Go.Proofs.Ytegagciipigkbaa
open Go Go.Eng

/-- the bytes of all that isn't a directory -/
def totalP : List Nd → Int
  | [] => 0
  | n :: l => (if n.kind = 2 then 0 else (n.data.size : Int)) + totalP l

theorem totalP_append (l m : List Nd) : totalP (l ++ m) = totalP l + totalP m := by
  induction l with
  | nil => simp [totalP]
  | cons n l ih => simp only [List.cons_append, totalP, ih]; omega

/-- what the law asks of a tree's paths -/
structure SizesOk (N : List Nd) : Prop where
  there : ∀ x ∈ spotsP N, (sumP x.path (spotsP N)).there = true
  less : ∀ x ∈ spotsP N, ∀ y ∈ spotsP N, (headOf x.path).size < y.path.size → y.path.extract 0 (headOf x.path).size = headOf x.path → (sumP y.path (spotsP N)).n ≤ (sumP x.path (spotsP N)).n
  all : ((sumP ⟨#[47]⟩ (spotsP N)).there = false ∧ spotsP N = []) ∨ ((sumP ⟨#[47]⟩ (spotsP N)).there = true ∧ (sumP ⟨#[47]⟩ (spotsP N)).n = totalP N)

theorem sizes_spec (l : List Nd) (a : Option Addr) (n c : Nat) (h : Heap) (S : Sl h a n c l) (plain : ∀ N, Fit N → SizesOk N) :
    CallH Try.prog 3 [.slice a n c] h (fun v h' => Keeps [] h h' ∧ v = .bool true) := by
  refine call_of hmix Try.func3 rfl ok3 (by simp [Try.f3]) ?_
  conv => whnf
  refine CallR.i (lives_spec h) fun v h2 k2 hv => ?_
  subst hv
  conv => whnf
  refine IfR.f rfl ?_
  conv => whnf
  refine CallR.i (fitting_spec l a n c h2 (S.keep k2)) fun v h3 k3 hv => ?_
  obtain ⟨N, hrep, fit⟩ := hv
  obtain ⟨a3, n3, c3, hv, S3⟩ := hrep
  simp only [List.cons.injEq, and_true] at hv
  subst hv
  have ap := fit_apart fit
  have ok := plain N fit
  have hn3 := S3.hlen
  have few := fit.few
  have k03 := k2.trans k3
  clear S k2 k3
  conv => whnf
  refine CallR.i (paths_spec N a3 n3 c3 h3 S3 fit ap) fun v h4 k4 hv => ?_
  obtain ⟨pa, pn, pc, rfl, SP, fewP⟩ := hv
  have hpp : pathsP (fun _ => true) (spotsP N) = (spotsP N).map (·.path) := by unfold pathsP; rw [List.filter_eq_self.2 (fun _ _ => rfl)]
  rw [hpp] at SP
  have hpn := SP.hlen
  rw [List.length_map] at hpn
  conv => whnf
  refine LoopR.on [0, 3, 4] [] (fun i : Nat => [(0, .v (.slice a3 n3 c3)), (3, .v (.slice pa pn pc)), (4, .v (.int .i64 (i : Int)))]) (fun _ => []) (fun i h' => i ≤ pn ∧ Keeps [] h4 h') (fun i => pn - i) 0 ?_ ?_
  · conv => whnf
    exact ⟨0, rfl, rfl, rfl, Nat.zero_le _, Keeps.refl _ _⟩
  · rintro i h5 ⟨hi, k5⟩
    conv => whnf
    refine IfR.i (fun hc => ?_) (fun hc => ?_)
    · have hi1 : i < (spotsP N).length := by simp at hc; omega
      have hi2 : i < ((spotsP N).map (·.path)).length := by simpa using hi1
      obtain ⟨b6, o6, ha6, _, ⟨rfl, z6⟩, hc6⟩ := (SP.keep k5).at_ i hi2
      simp only [List.getElem_map] at hc6 z6
      have hx := List.getElem_mem hi1
      conv => whnf
      refine IdxS.i i rfl (by omega) ha6 ?_
      conv => whnf
      refine LoadR.i (hc6 0 (by simp)) ?_
      conv => whnf
      refine CallR.i (size0_spec N a3 n3 c3 (spotsP N)[i].path z6 h5 (S3.keep (k4.trans k5)) fit ap) fun v h6 k6 hv => ?_
      rw [ok.there _ hx] at hv
      simp only [if_true] at hv
      subst hv
      conv => whnf
      refine LoopR.on [0, 3, 4, 5, 6, 7] [] (fun k : Nat => [(0, .v (.slice a3 n3 c3)), (3, .v (.slice pa pn pc)), (4, .v (.int .i64 (i : Int))), (5, .v (.int .i64 (sumP (spotsP N)[i].path (spotsP N)).n)), (6, .v (.bool true)), (7, .v (.int .i64 (k : Int)))]) (fun _ => []) (fun k h' => k ≤ pn ∧ Keeps [] h4 h') (fun k => pn - k) 0 ?_ ?_
      · conv => whnf
        exact ⟨0, rfl, rfl, rfl, Nat.zero_le _, k5.trans k6⟩
      · rintro k h7 ⟨hk, k7⟩
        conv => whnf
        refine IfR.i (fun hc => ?_) (fun hc => ?_)
        · have hk1 : k < (spotsP N).length := by simp at hc; omega
          have hk2 : k < ((spotsP N).map (·.path)).length := by simpa using hk1
          obtain ⟨b8, o8, ha8, _, ⟨rfl, z8⟩, hc8⟩ := (SP.keep k7).at_ k hk2
          obtain ⟨b9, o9, ha9, _, ⟨rfl, z9⟩, hc9⟩ := (SP.keep k7).at_ i hi2
          simp only [List.getElem_map] at hc8 z8 hc9 z9
          have hy := List.getElem_mem hk1
          conv => whnf
          refine IdxS.i k rfl (by omega) ha8 ?_
          conv => whnf
          refine LoadR.i (hc8 0 (by simp)) ?_
          conv => whnf
          refine CallR.i (size0_spec N a3 n3 c3 (spotsP N)[k].path z8 h7 (S3.keep (k4.trans k7)) fit ap) fun v h8 k8 hv => ?_
          rw [ok.there _ hy] at hv
          simp only [if_true] at hv
          subst hv
          have hc8' := hc8.keep k8
          have hc9' := hc9.keep k8
          have z9' : (spotsP N)[i].path.size ≤ 140737488351232 := z9
          have z8' : (spotsP N)[k].path.size ≤ 140737488351232 := z8
          conv => whnf
          refine IdxS.i i rfl (by omega) ha9 ?_
          conv => whnf
          refine LoadR.i (hc9' 0 (by simp)) ?_
          conv => whnf
          refine Need.i (show (spotsP N)[i].path.size + 1 ≤ 9223372036854775807 by omega) ?_
          conv => whnf
          refine MeetR.share (fun e bx h' => h' = h8 ∧ bx = [] ∧ ∃ x z, e = [(0, .v (.slice a3 n3 c3)), (3, .v (.slice pa pn pc)), (4, .v (.int .i64 (i : Int))), (5, .v (.int .i64 (sumP (spotsP N)[i].path (spotsP N)).n)), (6, .v (.bool true)), (7, .v (.int .i64 (k : Int))), (8, .v (.int .i64 (sumP (spotsP N)[k].path (spotsP N)).n)), (9, .v (.bool true)), (10, .v (.string (headOf (spotsP N)[i].path))), (39, x), (60, z)]) (fun rest' H => ?_) ?_
          · conv => whnf
            refine IdxS.i i rfl (by omega) ha9 ?_
            conv => whnf
            refine LoadR.i (hc9' 0 (by simp)) ?_
            conv => whnf
            refine IfR.i (fun hd => ?_) (fun hd => ?_)
            · conv => whnf
              have hd' : (spotsP N)[i].path = ⟨#[47]⟩ := by rw [toList_beq] at hd; simpa using hd
              have e : headOf (spotsP N)[i].path = ⟨#[47]⟩ := by unfold headOf; rw [if_pos hd']; exact hd'
              exact H _ _ _ ⟨rfl, rfl, _, _, by rw [e]⟩
            · conv => whnf
              have hd' : ¬ (spotsP N)[i].path = ⟨#[47]⟩ := by rw [toList_beq] at hd; simpa using hd
              have e : headOf (spotsP N)[i].path = (spotsP N)[i].path ++ ⟨#[47]⟩ := by unfold headOf; rw [if_neg hd']
              exact H _ _ _ ⟨rfl, rfl, _, _, by rw [e]⟩
          rintro e bx h' ⟨rfl, rfl, x, z, rfl⟩
          have hless := ok.less _ hx _ hy
          conv => whnf
          refine IdxS.u k b8 o8 (fun _ => ⟨rfl, by omega, ha8⟩) ?_
          conv => whnf
          refine LoadR.u _ (fun _ => hc8' 0 (by simp)) ?_
          conv => whnf
          refine IdxS.u k b8 o8 (fun _ => ⟨rfl, by omega, ha8⟩) ?_
          conv => whnf
          refine LoadR.u _ (fun _ => hc8' 0 (by simp)) ?_
          conv => whnf
          refine SliceR.u 0 (headOf (spotsP N)[i].path).size (fun hg => ⟨rfl, rfl, Nat.zero_le _, by simp [bif_and, bif_or] at hg; omega⟩) ?_
          conv => whnf
          refine IfR.i (fun hd => ?_) (fun hd => ?_)
          · exfalso
            rw [toList_beq] at hd
            simp [bif_and, bif_or] at hd
            have := hless hd.1.1 hd.1.2
            omega
          · conv => whnf
            refine ⟨pn - (k + 1), by omega, ?_⟩
            conv => whnf
            exact ⟨k + 1, rfl, by rw [wrapN (x := (k : Int) + 1) (n := k + 1) (by simp) (by omega)], rfl, by omega, k7.trans k8⟩
        · conv => whnf
          refine ⟨pn - (i + 1), by omega, ?_⟩
          conv => whnf
          exact ⟨i + 1, rfl, by rw [wrapN (x := (i : Int) + 1) (n := i + 1) (by simp) (by omega)], rfl, by omega, k7⟩
    · conv => whnf
      have k35 := k4.trans k5
      have S5 := S3.keep k35
      refine LoopR.on [0, 3, 11, 12] [] (fun j : Nat => [(0, .v (.slice a3 n3 c3)), (3, .v (.slice pa pn pc)), (11, .v (.int .i64 (totalP (N.take j)))), (12, .v (.int .i64 (j : Int)))]) (fun _ => []) (fun j h' => h' = h5 ∧ j ≤ n3 ∧ 0 ≤ totalP (N.take j) ∧ totalP (N.take j) ≤ j * 140737488351232) (fun j => n3 - j) 0 ?_ ?_
      · conv => whnf
        exact ⟨0, rfl, rfl, rfl, rfl, Nat.zero_le _, by simp [totalP], by simp [totalP]⟩
      · rintro j h6 ⟨rfl, hj, t1, t2⟩
        conv => whnf
        refine IfR.i (fun hc => ?_) (fun hc => ?_)
        · have hj1 : j < N.length := by simp at hc; omega
          obtain ⟨bn, on, han, _, ⟨na, nn, nc, rfl, y, _⟩, hcn⟩ := S5.at_ j hj1
          have hst : totalP (N.take (j + 1)) = totalP (N.take j) + if N[j].kind = 2 then 0 else (N[j].data.size : Int) := by
            rw [List.take_succ_eq_append_getElem hj1, totalP_append]; simp [totalP]
          have leb : ((j + 1 : Nat) : Int) * 140737488351232 = (j : Int) * 140737488351232 + 140737488351232 := by rw [Int.natCast_add, Int.add_mul]; simp
          have dsz : N[j].data.size ≤ 140737488351232 := y.2.2.2
          conv => whnf
          refine MeetR.pass ?_
          conv => whnf
          refine IdxS.i j rfl (by omega) han ?_
          conv => whnf
          refine LoadR.i (hcn 1 (by simp)) ?_
          conv => whnf
          refine IfR.i (fun hd => ?_) (fun hd => ?_)
          · have hd' : ¬ N[j].kind = 2 := by simpa using hd
            rw [if_neg hd'] at hst
            conv => whnf
            refine IdxS.i j rfl (by omega) han ?_
            conv => whnf
            refine LoadR.i (hcn 3 (by simp)) ?_
            conv => whnf
            refine ⟨n3 - (j + 1), by omega, ?_⟩
            conv => whnf
            exact ⟨j + 1, rfl, by rw [hst, wrapI (x := totalP (N.take j) + N[j].data.size) (by omega) (by omega), wrapN (x := (j : Int) + 1) (n := j + 1) (by simp) (by omega)], rfl, rfl, by omega, by omega, by omega⟩
          · have hd' : N[j].kind = 2 := by simpa using hd
            rw [if_pos hd'] at hst
            conv => whnf
            refine ⟨n3 - (j + 1), by omega, ?_⟩
            conv => whnf
            exact ⟨j + 1, rfl, by rw [hst, wrapN (x := (j : Int) + 1) (n := j + 1) (by simp) (by omega), Int.add_zero], rfl, rfl, by omega, by omega, by omega⟩
        · have hj1 : j = N.length := by simp at hc; omega
          subst hj1
          conv => whnf
          refine CallR.i (size0_spec N a3 n3 c3 ⟨#[47]⟩ (by decide) h6 S5 fit ap) fun v h7 k7 hv => ?_
          subst hv
          conv => whnf
          refine ⟨k03.trans (k35.trans k7), ?_⟩
          rcases ok.all with ⟨q1, q2⟩ | ⟨q1, q2⟩
          · rw [q1]
            have : pn = 0 := by rw [hpn, q2]; rfl
            subst this
            rfl
          · rw [q1]
            rw [List.take_length]
            simp [q2, bif_and, bif_or]
end Go.Proofs.Ytegagciipigkbaa
