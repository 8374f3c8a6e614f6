/-
  Find: what is tried before each law.
-/
import Derived.Test.YtegagciipigkbaaFindH
set_option linter.all false
namespace Go.Proofs.Ytegagciipigkbaa
open Go Go.Eng

instance (s : ByteArray) : Decidable (okStr s) := inferInstanceAs (Decidable (_ ≤ _))
instance (x : Int) : Decidable (inI64 x) := inferInstanceAs (Decidable (_ ∧ _))

/-- the small tree -/
def treeP : List Nd := [⟨1, 2, 1, ⟨#[]⟩, [⟨⟨#[100]⟩, 2⟩, ⟨⟨#[103]⟩, 3⟩]⟩, ⟨2, 2, 1, ⟨#[]⟩, [⟨⟨#[102]⟩, 3⟩]⟩, ⟨3, 1, 2, ⟨#[104, 105]⟩, []⟩]

theorem tree_spec (h : Heap) : CallH Try.prog 12 [] h (fun v h' => Keeps [] h h' ∧ ∃ a n c, v = .slice a n c ∧ Sl h' a n c treeP) := by
  refine call_of hmix Try.func12 rfl ok12 (by simp [Try.f12]) ?_
  conv => whnf
  refine AllocR.i fun b1 h1 e1 s1 o1 k1 => ?_
  conv => whnf
  refine AllocR.i fun b2 h2 e2 s2 o2 k2 => ?_
  conv => whnf
  refine AllocR.i fun b3 h3 e3 s3 o3 k3 => ?_
  conv => whnf
  have o1' : h1[b1]? = some (.cells ⟨[.string ⟨#[100]⟩, .int .i64 2, .string ⟨#[103]⟩, .int .i64 3]⟩ 45 (0, 0)) := o1
  have o2' : h2[b2]? = some (.cells ⟨[.string ⟨#[102]⟩, .int .i64 3]⟩ 45 (0, 0)) := o2
  have o3' : h3[b3]? = some (.cells ⟨[.int .i64 1, .int .i64 2, .int .i64 1, .string ⟨#[]⟩, .slice (some ⟨b1, 0, none⟩) 2 2, .int .i64 2, .int .i64 2, .int .i64 1, .string ⟨#[]⟩, .slice (some ⟨b2, 0, none⟩) 1 1, .int .i64 3, .int .i64 1, .int .i64 2, .string ⟨#[104, 105]⟩, .slice none 0 0]⟩ 31 (0, 0)) := o3
  have S1 : Sl h1 (some ⟨b1, 0, none⟩) 2 2 [(⟨⟨#[100]⟩, 2⟩ : Ent), ⟨⟨#[103]⟩, 3⟩] :=
    Own.sl (.inr ⟨b1, _, rfl, o1', rfl, rfl, rfl, Nat.le_refl _⟩) ⟨[_, _], _, rfl, ⟨rfl, ⟨by decide, by decide⟩⟩, [_, _], _, rfl, ⟨rfl, ⟨by decide, by decide⟩⟩, rfl⟩ rfl (by decide) (by simp)
  have S2 : Sl h2 (some ⟨b2, 0, none⟩) 1 1 [(⟨⟨#[102]⟩, 3⟩ : Ent)] :=
    Own.sl (.inr ⟨b2, _, rfl, o2', rfl, rfl, rfl, Nat.le_refl _⟩) ⟨[_, _], _, rfl, ⟨rfl, ⟨by decide, by decide⟩⟩, rfl⟩ rfl (by decide) (by simp)
  refine ⟨k1.trans (k2.trans k3), _, _, _, rfl, ?_⟩
  refine Own.sl (e := 31) (sz := 5) (l := [.int .i64 1, .int .i64 2, .int .i64 1, .string ⟨#[]⟩, .slice (some ⟨b1, 0, none⟩) 2 2, .int .i64 2, .int .i64 2, .int .i64 1, .string ⟨#[]⟩, .slice (some ⟨b2, 0, none⟩) 1 1, .int .i64 3, .int .i64 1, .int .i64 2, .string ⟨#[104, 105]⟩, .slice none 0 0]) (.inr ⟨b3, _, rfl, o3', rfl, rfl, rfl, Nat.le_refl _⟩) ?_ rfl (by decide) (by simp [treeP])
  exact ⟨[_, _, _, _, _], _, rfl, ⟨_, _, _, rfl, ⟨by decide, by decide, by decide, by decide⟩, S1.keep (k2.trans k3)⟩, [_, _, _, _, _], _, rfl, ⟨_, _, _, rfl, ⟨by decide, by decide, by decide, by decide⟩, S2.keep k3⟩,
    [_, _, _, _, _], _, rfl, ⟨_, _, _, rfl, ⟨by decide, by decide, by decide, by decide⟩, Sl.nil⟩, rfl⟩

theorem tree_fit : Fit treeP := by
  refine ⟨fun i j hi hj hij => ?_, fun n hn => ?_, by decide⟩
  · have key : ∀ i j : Fin 3, i < j → (treeP[i.1]'i.2).id < (treeP[j.1]'j.2).id := by decide
    exact key ⟨i, hi⟩ ⟨j, hj⟩ hij
  · simp only [treeP, List.mem_cons, List.not_mem_nil, or_false] at hn
    rcases hn with rfl | rfl | rfl
    all_goals refine ⟨by decide, fun x hx => ?_⟩
    all_goals simp at hx
    · rcases hx with rfl | rfl <;> decide
    · subst hx; decide

theorem tree_apart : Apart treeP := by unfold Apart treeP; decide

theorem tree_all : allP treeP = [1, 2, 3] := by unfold allP; decide

theorem tree_good : Good treeP := by
  refine ⟨by decide, fun n hn => ?_, fun n hn => ?_⟩
  · simp only [treeP, List.mem_cons, List.not_mem_nil, or_false] at hn
    rcases hn with rfl | rfl | rfl
    · intro _ x hx
      simp only [List.mem_cons, List.not_mem_nil, or_false] at hx
      rcases hx with rfl | rfl <;> simp [lookN, treeP]
    · intro _ x hx
      simp only [List.mem_cons, List.not_mem_nil, or_false] at hx
      subst hx; simp [lookN, treeP]
    · intro _ x hx; cases hx
  · rw [tree_all]
    simp only [treeP, List.mem_cons, List.not_mem_nil, or_false] at hn
    rcases hn with rfl | rfl | rfl
    · exact ⟨by decide, by decide, fun _ => rfl⟩
    · exact ⟨by decide, by decide, fun _ => rfl⟩
    · exact ⟨by decide, by decide, fun h => absurd h (by decide)⟩

def fileP : Nd := ⟨3, 1, 2, ⟨#[104, 105]⟩, []⟩
def dirP : Nd := ⟨2, 2, 1, ⟨#[]⟩, [⟨⟨#[102]⟩, 3⟩]⟩
def topP : Nd := ⟨1, 2, 1, ⟨#[]⟩, [⟨⟨#[100]⟩, 2⟩, ⟨⟨#[103]⟩, 3⟩]⟩

def spots4 : List Spot := [⟨⟨#[47]⟩, ⟨#[]⟩, 0, topP⟩, ⟨⟨#[47, 100]⟩, ⟨#[100]⟩, 1, dirP⟩, ⟨⟨#[47, 100, 47, 102]⟩, ⟨#[102]⟩, 2, fileP⟩, ⟨⟨#[47, 103]⟩, ⟨#[103]⟩, 1, fileP⟩]

theorem tree_spots : spotsP treeP = spots4 := by
  unfold spotsP
  rw [if_pos tree_good]
  kernel_rfl

theorem lives_spec (h : Heap) : CallH Try.prog 5 [] h (fun v h' => Keeps [] h h' ∧ v = .bool true) := by
  have e1 : twiceP spots4 = [[⟨#[47, 100, 47, 102]⟩, ⟨#[47, 103]⟩]] := by kernel_rfl
  have e2 : sumP ⟨#[47]⟩ spots4 = ⟨true, [1, 2, 3], 2⟩ := by kernel_rfl
  have e3 : deepP spots4 = 2 := by kernel_rfl
  have e4 : (pathsP (fun _ => true) spots4).length = 4 := by kernel_rfl
  refine call_of hmix Try.func5 rfl ok5 (by simp [Try.f5]) ?_
  conv => whnf
  refine CallR.i (tree_spec h) fun v h1 k1 hv => ?_
  obtain ⟨a1, n1, c1, rfl, S1⟩ := hv
  conv => whnf
  refine CallR.i (twice_spec treeP a1 n1 c1 h1 S1 tree_fit tree_apart) fun v h2 k2 hv => ?_
  obtain ⟨a2, n2, c2, rfl, S2⟩ := hv
  rw [tree_spots, e1] at S2
  conv => whnf
  refine CallR.i (tree_spec h2) fun v h3 k3 hv => ?_
  obtain ⟨a3, n3, c3, rfl, S3⟩ := hv
  conv => whnf
  refine CallR.i (size0_spec treeP a3 n3 c3 ⟨#[47]⟩ (by decide) h3 S3 tree_fit tree_apart) fun v h4 k4 hv => ?_
  rw [tree_spots, e2] at hv
  subst hv
  have k24 := k3.trans k4
  have S4 := S2.keep k24
  obtain ⟨b2, o2, ha2, _, ⟨ua, un, uc, rfl, U⟩, hc2⟩ := S4.at_ 0 (by simp)
  have hn2 := S4.hlen
  simp at hn2
  subst hn2
  conv => whnf
  refine IdxS.u 0 b2 o2 (fun _ => ⟨rfl, by omega, ha2⟩) ?_
  conv => whnf
  refine LoadR.u _ (fun _ => hc2 0 (by simp)) ?_
  conv => whnf
  refine IfR.t rfl ?_
  conv => whnf
  refine AllocR.i fun b5 h5 e5 s5 o5 k5 => ?_
  have o5' : h5[b5]? = some (.cells ⟨[.string ⟨#[47, 100, 47, 102]⟩, .string ⟨#[47, 103]⟩]⟩ 9 (0, 0)) := o5
  have S5 : Sl h5 (some ⟨b5, 0, none⟩) 2 2 [(⟨#[47, 100, 47, 102]⟩ : ByteArray), ⟨#[47, 103]⟩] :=
    Own.sl (.inr ⟨b5, _, rfl, o5', rfl, rfl, rfl, Nat.le_refl _⟩) ⟨[_], _, rfl, ⟨rfl, by decide⟩, [_], _, rfl, ⟨rfl, by decide⟩, rfl⟩ rfl (by decide) (by simp)
  conv => whnf
  refine IfR.t rfl ?_
  conv => whnf
  refine CallR.i (same_spec _ _ ua un uc _ 2 2 h5 (U.keep k5) S5) fun v h6 k6 hv => ?_
  have hv' : v = .bool true := by rw [hv]; rfl
  subst hv'
  conv => whnf
  refine IfR.t rfl ?_
  conv => whnf
  refine CallR.i (tree_spec h6) fun v h7 k7 hv => ?_
  obtain ⟨a7, n7, c7, rfl, S7⟩ := hv
  conv => whnf
  refine IfR.t rfl ?_
  conv => whnf
  refine CallR.i (deep_spec treeP a7 n7 c7 h7 S7 tree_fit tree_apart) fun v h8 k8 hv => ?_
  rw [tree_spots, e3] at hv
  subst hv
  conv => whnf
  refine IfR.t rfl ?_
  conv => whnf
  refine CallR.i (tree_spec h8) fun v h9 k9 hv => ?_
  obtain ⟨a9, n9, c9, rfl, S9⟩ := hv
  conv => whnf
  refine IfR.t rfl ?_
  conv => whnf
  refine CallR.i (paths_spec treeP a9 n9 c9 h9 S9 tree_fit tree_apart) fun v h10 k10 hv => ?_
  obtain ⟨a10, n10, c10, rfl, S10, _⟩ := hv
  have hn10 := S10.hlen
  rw [tree_spots, e4] at hn10
  subst hn10
  conv => whnf
  exact ⟨k1.trans (k2.trans (k24.trans (k5.trans (k6.trans (k7.trans (k8.trans (k9.trans k10))))))), rfl⟩
end Go.Proofs.Ytegagciipigkbaa
