/-
  Find: the paths, and which are taken.
-/
import Derived.Test.YtegagciipigkbaaFindE
set_option linter.all false
namespace Go.Proofs.Ytegagciipigkbaa
open Go Go.Eng

theorem names_spec (N : List Nd) (a : Option Addr) (n c : Nat) (h : Heap) (S : Sl h a n c N) (fit : Fit N) (ap : Apart N) :
    CallH Try.prog 22 [.slice a n c] h (fun v h' => Keeps [] h h' ∧ ∃ b, v = .bool b ∧ (b = true ↔ Good N)) := by
  refine call_of hmix Try.func22 rfl ok22 (by simp [Try.f22]) ?_
  conv => whnf
  refine CallR.i (grow_spec N a n c h S fit ap) fun v h1 k1 hv => ?_
  obtain ⟨p, b, rfl, hb⟩ := hv
  conv => whnf
  exact ⟨k1, b, rfl, hb⟩

def rootP (N : List Nd) : Spot := ⟨⟨#[47]⟩, ⟨#[]⟩, 0, getN N 1⟩

/-- the paths of a tree -/
noncomputable def spotsP (N : List Nd) : List Spot := @ite _ (Good N) (Classical.propDecidable _) (visitP N 501 (rootP N) []) []

theorem spots_spec (N : List Nd) (a : Option Addr) (n c : Nat) (h : Heap) (S : Sl h a n c N) (fit : Fit N) (ap : Apart N) :
    CallH Try.prog 19 [.slice a n c] h (fun v h' => Keeps [] h h' ∧ ∃ a' n' c', v = .slice a' n' c' ∧ Sl h' a' n' c' (spotsP N) ∧ n' ≤ 500) := by
  refine call_of hmix Try.func19 rfl ok19 (by simp [Try.f19]) ?_
  conv => whnf
  refine CallR.i (names_spec N a n c h S fit ap) fun v h1 k1 hv => ?_
  obtain ⟨b, rfl, hb⟩ := hv
  conv => whnf
  refine IfR.i (fun hg => ?_) (fun hg => ?_)
  · conv => whnf
    refine ⟨k1, none, 0, 0, rfl, ?_, by omega⟩
    have : ¬ Good N := fun h => by rw [hb.2 h] at hg; cases hg
    unfold spotsP
    rw [if_neg this]; exact Sl.nil
  · have good : Good N := hb.1 (by simpa using hg)
    conv => whnf
    refine AllocR.i fun r h2 e2 s2 o2 k2 => ?_
    conv => whnf
    refine AllocR.i fun fb h3 e3 s3 o3 k3 => ?_
    have o3' : h3[fb]? = some (.cells ⟨[.map (some r), .slice none 0 0]⟩ 59 (0, 0)) := o3
    have k03 : Keeps [] h h3 := k1.trans (k2.trans k3)
    have M3 := (MapL.new o2).keep k3 (by simp)
    have hn := S.hlen
    have hbig := S.hbig
    have sz0 := k1.size
    conv => whnf
    refine LoopR.on [3, 12, 13, 14] [] (fun i : Nat => [(3, .v (.pointer (some ⟨fb, 0, none⟩))), (12, .v (.slice a n c)), (13, .v (.int .i64 n)), (14, .v (.int .i64 (i : Int)))])
      (fun _ => []) (fun i h' => i ≤ n ∧ Keeps [r] h3 h' ∧ ∃ m, MapL h' r m ∧ NMs h m (N.take i)) (fun i => n - i) 0 ?_ ?_
    · conv => whnf
      exact ⟨0, rfl, rfl, rfl, Nat.zero_le _, Keeps.refl _ _, [], M3, trivial⟩
    · rintro i h5 ⟨hi, k5, m, M5, q5⟩
      have k05 : Keeps [] h h5 := k03.trans_new k5 (by intro x hx; simp at hx; right; omega)
      have o5 := k5.obj o3' (by simp; omega)
      conv => whnf
      refine IfR.i (fun hc => ?_) (fun hc => ?_)
      · have hi1 : i < N.length := by simp at hc; omega
        obtain ⟨bn, on, han, cs, hr, hcn⟩ := S.at_ i hi1
        have hcn5 := hcn.keep k05
        have hr' := hr
        obtain ⟨na, nn, nc, rfl, y1, y2⟩ := hr
        conv => whnf
        refine IdxS.i i rfl (by omega) han ?_
        conv => whnf
        refine LoadN.i (vs := [.int .i64 N[i].id, .int .i64 N[i].kind, .int .i64 N[i].links, .string N[i].data, .slice na nn nc]) rfl (fun j hj => hcn5 j hj) ?_
        conv => whnf
        refine AllocR.i fun b6 h6 e6 s6 o6 k6 => ?_
        conv => whnf
        refine BoxR.i fun h7 s7 k7 => ?_
        have k57 : Keeps [] h5 h7 := k6.trans_new k7 (by intro x hx; simp at hx; right; omega)
        have o7 := k57.obj o5 (by simp)
        conv => whnf
        refine LoadR.i (v := .map (some r)) (by unfold Heap.cell?; rw [o7]; rfl) ?_
        conv => whnf
        refine SemR.put rfl rfl (M5.keep k57 (by simp)) ?_ fun h8 s8 M8 k8 => ?_
        · intro hb
          have hb2 : r ∈ [b6] := hb
          simp only [List.mem_singleton] at hb2
          have := M5.lt
          omega
        conv => whnf
        refine ⟨n - (i + 1), by omega, ?_⟩
        conv => whnf
        refine ⟨i + 1, rfl, by rw [wrapN (n := i + 1) (by simp) (by omega)], rfl, by omega, (k5.trans_nil k57).trans k8, _, M8, ?_⟩
        rw [List.take_succ_eq_append_getElem hi1]
        refine NMs.put q5 _ _ (lookN_none fun hm => ?_) hr'
        unfold Apart at ap
        rw [List.mem_map] at hm
        obtain ⟨y, hy, hye⟩ := hm
        obtain ⟨j, hj, rfl⟩ := List.mem_iff_getElem.1 hy
        have hj' : j < i := by simp at hj; omega
        have h1 : (N.take i)[j] = N[j] := by simp
        rw [h1] at hye
        have := (List.pairwise_iff_getElem.1 ap) j i (by simp; omega) (by simpa using hi1) hj'
        simp at this
        exact this hye
      · conv => whnf
        have hi1 : i = N.length := by simp at hc; omega
        subst hi1
        rw [List.take_length] at q5
        refine LoadR.i (v := .map (some r)) (by unfold Heap.cell?; rw [o5]; rfl) ?_
        conv => whnf
        obtain ⟨cs, hcs, hrep⟩ := getN_rep q5 1
        obtain ⟨ca, cn, ck, rfl, y1, y2⟩ := hrep
        refine LookR.z (.agg ⟨[.int .i64 0, .int .i64 0, .int .i64 0, .string ⟨#[]⟩, .slice none 0 0]⟩) M5 rfl hcs ?_
        conv => whnf
        have hrs : rep h [.string ⟨#[47]⟩, .string ⟨#[]⟩, .int .i64 0, .int .i64 (getN N 1).id, .int .i64 (getN N 1).kind, .int .i64 (getN N 1).links, .string (getN N 1).data, .slice ca cn ck] (rootP N) :=
          ⟨ca, cn, ck, rfl, ⟨(show (1 : Nat) ≤ 140737488351232 by omega), Nat.zero_le _, by unfold inI64 rootP; simp, y1.1, y1.2.1, y1.2.2.1, y1.2.2.2⟩, y2⟩
        have FD : Finder h h5 fb r N none 0 0 [] [] := ⟨k05, by omega, by omega, by simp [blkA], by omega, by simp [blkA], o5, ⟨m, M5, q5⟩, Own.nil _ _ _, rfl, by simp⟩
        refine CallR.m (visit_spec h r N fb fit.node 501 (rootP N) _ [] h5 none 0 0 [] (by simp) FD hrs ⟨(show (1 : Nat) ≤ 1 + 15 * 0 by omega), by unfold rootP; simp, getN_fit fit.node _⟩) (by simp [blocksOf]) ?_
        rintro v h6 k6 ⟨a6, n6, c6, l6, F6, new6⟩
        conv => whnf
        refine LoadR.i (v := .slice a6 n6 c6) (by unfold Heap.cell?; rw [F6.obj]; rfl) ?_
        conv => whnf
        have hsp : spotsP N = visitP N 501 (rootP N) [] := by unfold spotsP; rw [if_pos good]
        have hcount := own_count F6.own F6.reps rfl (by decide)
        have few := F6.few
        refine ⟨F6.keep, a6, n6, c6, rfl, ?_, by omega⟩
        rw [hsp]
        exact F6.own.sl (F6.reps.keep F6.keep) rfl (by decide) (by omega)

/-- the paths of those that are so -/
def pathsP (so : Spot → Bool) (l : List Spot) : List ByteArray := (l.filter so).map (·.path)

theorem chosen_spec (N : List Nd) (a : Option Addr) (n c : Nat) (h : Heap) (S : Sl h a n c N) (fit : Fit N) (ap : Apart N) (so : Spot → Bool) (f : Nat) (first : List Value) (hf : hasBody Try.prog f = true)
    (hso : ∀ h' x cs, Keeps [] h h' → rep h' cs x → CallH Try.prog f (first ++ [.agg ⟨cs⟩] ++ []) h' (fun v h'' => Keeps [] h' h'' ∧ v = .bool (so x))) :
    CallH Try.prog 17 [.slice a n c, .func (.func f) ⟨first⟩ ⟨[]⟩] h (fun v h' => Keeps [] h h' ∧ ∃ a' n' c', v = .slice a' n' c' ∧ Sl h' a' n' c' (pathsP so (spotsP N)) ∧ n' ≤ 500) := by
  refine call_of hmix Try.func17 rfl ok17 (by simp [Try.f17]) ?_
  conv => whnf
  refine CallR.i (spots_spec N a n c h S fit ap) fun v h1 k1 hv => ?_
  obtain ⟨sa, sn, sc, rfl, SS, few⟩ := hv
  conv => whnf
  have hsn := SS.hlen
  generalize spotsP N = s at SS hsn ⊢
  refine LoopR.on [1, 5, 9, 10, 11] [] (fun q : Nat × Option Addr × Nat × Nat × List Value => [(1, .v (.func (.func f) ⟨first⟩ ⟨[]⟩)), (5, .v (.slice q.2.1 q.2.2.1 q.2.2.2.1)), (9, .v (.slice sa sn sc)), (10, .v (.int .i64 sn)), (11, .v (.int .i64 (q.1 : Int)))])
    (fun _ => []) (fun q h' => q.1 ≤ sn ∧ Keeps [] h1 h' ∧ Own h' 9 1 q.2.1 q.2.2.1 q.2.2.2.1 q.2.2.2.2 ∧ Reps h' q.2.2.2.2 (pathsP so (s.take q.1)) ∧ ∀ b ∈ blkA q.2.1, h1.size ≤ b) (fun q => sn - q.1) (0, none, 0, 0, []) ?_ ?_
  · conv => whnf
    exact ⟨(0, none, 0, 0, []), rfl, rfl, rfl, Nat.zero_le _, Keeps.refl _ _, Own.nil _ _ _, rfl, by simp [blkA]⟩
  · rintro ⟨i, ao, no, co, lo⟩ h2 ⟨hi, k2, O2, R2, new2⟩
    simp only at hi O2 R2 new2
    have hno := own_count O2 R2 rfl (by decide)
    have hle : (pathsP so (s.take i)).length ≤ i := by
      unfold pathsP; rw [List.length_map]; exact Nat.le_trans (List.length_filter_le _ _) (by simp; omega)
    conv => whnf
    refine IfR.i (fun hc => ?_) (fun hc => ?_)
    · have hi1 : i < s.length := by simp at hc; omega
      obtain ⟨bn, on, han, cs, hr, hcn⟩ := (SS.keep k2).at_ i hi1
      have hr' := hr
      obtain ⟨na, nn, nc, rfl, y1, y2⟩ := hr
      conv => whnf
      refine MeetR.pass ?_
      conv => whnf
      refine IdxS.i i rfl (by omega) han ?_
      conv => whnf
      refine LoadN.i (vs := [.string s[i].path, .string s[i].name, .int .i64 s[i].deep, .int .i64 s[i].node.id, .int .i64 s[i].node.kind, .int .i64 s[i].node.links, .string s[i].node.data, .slice na nn nc]) rfl (fun j hj => hcn j hj) ?_
      conv => whnf
      refine AllocR.i fun b3 h3 e3 s3 o3 k3 => ?_
      conv => whnf
      refine BoxR.i fun h4 s4 k4 => ?_
      have k24 : Keeps [] h2 h4 := k3.trans_new k4 (by intro x hx; simp at hx; right; omega)
      conv => whnf
      rw [hf]
      conv => whnf
      refine CallR.i (hso h4 s[i] _ (k1.trans (k2.trans k24)) (Rp.keep k24 hr')) fun v h5 k5 hv => ?_
      subst hv
      have k25 := k24.trans k5
      have hst : pathsP so (s.take (i + 1)) = pathsP so (s.take i) ++ if so s[i] then [s[i].path] else [] := by
        unfold pathsP
        rw [List.take_succ_eq_append_getElem hi1, List.filter_append, List.map_append]
        cases hq : so s[i] <;> simp [List.filter_cons, hq]
      conv => whnf
      refine IfR.i (fun hd => ?_) (fun hd => ?_)
      · conv => whnf
        refine AllocR.i fun b6 h6 e6 s6 o6 k6 => ?_
        conv => whnf
        have o6' : h6[b6]? = some (.cells ⟨[.string s[i].path]⟩ 9 (0, 0)) := o6
        have k26 := k25.trans k6
        refine append_own (e := 9) (sz := 1) (by_ := 16) (new := [.string s[i].path]) rfl rfl rfl rfl rfl rfl rfl (O2.keep k26 (by simp)) rfl ?_ rfl (by omega) (by omega) ?_ ?_
        · intro j hj
          simp only [Heap.cell?, o6', Nat.zero_add]
          simp
        · intro b hb hb'
          have hb2 : b ∈ [b3] := hb'
          have := O2.lt b hb
          simp at hb2; omega
        intro a7 c7 h7 O7 k7 new7
        have k17 : Keeps [] h1 h7 := (k2.trans k26).trans_new k7 (by intro x hx; exact .inr (new2 x hx))
        have k27 : Keeps (blkA ao) h2 h7 := (k26.mono (by simp)).trans k7
        conv => whnf
        refine ⟨sn - (i + 1), by simp only; omega, ?_⟩
        conv => whnf
        have sz := k2.size
        have sz2 := k26.size
        refine ⟨(i + 1, a7, no + 1, c7, lo ++ [.string s[i].path]), rfl, by simp only; rw [wrapN (n := i + 1) (by simp) (by omega)], rfl, by simp only; omega, k17, O7, ?_, ?_⟩
        · simp only
          rw [hst, hd]
          simp only [if_true]
          exact Reps.snoc R2.flat ⟨rfl, y1.1⟩
        · intro b hb
          rcases new7 b hb with h | h
          · exact new2 b h
          · omega
      · conv => whnf
        refine ⟨sn - (i + 1), by simp only; omega, ?_⟩
        conv => whnf
        exact ⟨(i + 1, ao, no, co, lo), rfl, by simp only; rw [wrapN (n := i + 1) (by simp) (by omega)], rfl, by simp only; omega, k2.trans k25, O2.keep k25 (by simp), by simp only; rw [hst, hd]; simpa using R2.keep k25, new2⟩
    · conv => whnf
      have hi1 : i = s.length := by simp at hc; omega
      subst hi1
      rw [List.take_length] at R2 hle hno
      exact ⟨k1.trans k2, ao, no, co, rfl, O2.sl R2 rfl (by decide) (by omega), by omega⟩

theorem paths_spec (N : List Nd) (a : Option Addr) (n c : Nat) (h : Heap) (S : Sl h a n c N) (fit : Fit N) (ap : Apart N) :
    CallH Try.prog 7 [.slice a n c] h (fun v h' => Keeps [] h h' ∧ ∃ a' n' c', v = .slice a' n' c' ∧ Sl h' a' n' c' (pathsP (fun _ => true) (spotsP N)) ∧ n' ≤ 500) := by
  refine call_of hmix Try.func7 rfl ok7 (by simp [Try.f7]) ?_
  conv => whnf
  refine CallR.i (chosen_spec N a n c h S fit ap (fun _ => true) 18 [] rfl ?_) fun v h1 k1 hv => ?_
  · intro h' x cs k hx
    exact true_spec cs h'
  obtain ⟨a', n', c', rfl, hv⟩ := hv
  conv => whnf
  exact ⟨k1, a', n', c', rfl, hv⟩

theorem all_spec (N : List Nd) (a : Option Addr) (n c : Nat) (w : Wnt) (wc : List Value) (h : Heap) (S : Sl h a n c N) (fit : Fit N) (ap : Apart N) (hw : rep h wc w) :
    CallH Try.prog 9 [.slice a n c, .agg ⟨wc⟩] h (fun v h' => Keeps [] h h' ∧ ∃ a' n' c', v = .slice a' n' c' ∧ Sl h' a' n' c' (pathsP (wantsP w) (spotsP N)) ∧ n' ≤ 500) := by
  refine call_of hmix Try.func9 rfl ok9 (by simp [Try.f9]) ?_
  have hw' := hw
  obtain ⟨rfl, w1⟩ := hw
  conv => whnf
  refine AllocR.i fun b1 h1 e1 s1 o1 k1 => ?_
  conv => whnf
  refine CallR.i (chosen_spec N a n c h1 (S.keep k1) fit ap (wantsP w) 21 [_] rfl ?_) fun v h2 k2 hv => ?_
  · intro h' x cs k hx
    exact wants_spec w _ x cs h' (Rp.keep (k1.trans k) hw') hx
  obtain ⟨a', n', c', rfl, hv⟩ := hv
  conv => whnf
  exact ⟨k1.trans k2, a', n', c', rfl, hv⟩

def deepP (l : List Spot) : Int := l.foldl (fun n s => max n s.deep) 0

theorem deep_spec (N : List Nd) (a : Option Addr) (n c : Nat) (h : Heap) (S : Sl h a n c N) (fit : Fit N) (ap : Apart N) :
    CallH Try.prog 14 [.slice a n c] h (fun v h' => Keeps [] h h' ∧ v = .int .i64 (deepP (spotsP N))) := by
  refine call_of hmix Try.func14 rfl ok14 (by simp [Try.f14]) ?_
  conv => whnf
  refine CallR.i (spots_spec N a n c h S fit ap) fun v h1 k1 hv => ?_
  obtain ⟨sa, sn, sc, rfl, SS, few⟩ := hv
  conv => whnf
  have hsn := SS.hlen
  generalize spotsP N = s at SS hsn ⊢
  refine LoopR.on [3, 7, 8, 9] [] (fun i : Nat => [(3, .v (.int .i64 (deepP (s.take i)))), (7, .v (.slice sa sn sc)), (8, .v (.int .i64 sn)), (9, .v (.int .i64 (i : Int)))])
    (fun _ => []) (fun i h' => i ≤ sn ∧ Keeps [] h1 h') (fun i => sn - i) 0 ?_ ?_
  · conv => whnf
    exact ⟨0, rfl, rfl, rfl, Nat.zero_le _, Keeps.refl _ _⟩
  · rintro i h2 ⟨hi, k2⟩
    conv => whnf
    refine IfR.i (fun hc => ?_) (fun hc => ?_)
    · have hi1 : i < s.length := by simp at hc; omega
      obtain ⟨bn, on, han, cs, hr, hcn⟩ := (SS.keep k2).at_ i hi1
      obtain ⟨na, nn, nc, rfl, y1, y2⟩ := hr
      conv => whnf
      refine IdxS.i i rfl (by omega) han ?_
      conv => whnf
      refine LoadN.i (vs := [.string s[i].path, .string s[i].name, .int .i64 s[i].deep, .int .i64 s[i].node.id, .int .i64 s[i].node.kind, .int .i64 s[i].node.links, .string s[i].node.data, .slice na nn nc]) rfl (fun j hj => hcn j hj) ?_
      conv => whnf
      refine AllocR.i fun b3 h3 e3 s3 o3 k3 => ?_
      conv => whnf
      refine BoxR.i fun h4 s4 k4 => ?_
      have k24 : Keeps [] h2 h4 := k3.trans_new k4 (by intro x hx; simp at hx; right; omega)
      conv => whnf
      refine ⟨sn - (i + 1), by omega, ?_⟩
      conv => whnf
      have hst : deepP (s.take (i + 1)) = max (deepP (s.take i)) s[i].deep := by
        unfold deepP
        rw [List.take_succ_eq_append_getElem hi1, List.foldl_append]; rfl
      refine ⟨i + 1, rfl, ?_, rfl, by omega, k2.trans k24⟩
      rw [wrapN (n := i + 1) (by simp) (by omega), hst]
      have : (if s[i].deep > deepP (s.take i) then s[i].deep else deepP (s.take i)) = max (deepP (s.take i)) s[i].deep := by split <;> omega
      rw [this]
    · conv => whnf
      have hi1 : i = s.length := by simp at hc; omega
      subst hi1
      rw [List.take_length]
      exact ⟨k1.trans k2, rfl⟩
end Go.Proofs.Ytegagciipigkbaa
