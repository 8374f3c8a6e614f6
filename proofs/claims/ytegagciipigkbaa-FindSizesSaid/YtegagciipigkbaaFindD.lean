/-
  Find: the names of a tree, and whether they are as they should be.
-/
import Derived.Test.YtegagciipigkbaaFindC
set_option linter.all false
namespace Go.Proofs.Ytegagciipigkbaa
open Go Go.Eng

/-- a set of numbers, as a map has it -/
def setV (s : List Int) : List (Int × Value) := s.map fun k => (k, .bool true)

theorem setV_look : ∀ (s : List Int) (k : Int), lookI (setV s) k = if k ∈ s then some (.bool true) else none
  | [], k => rfl
  | x :: s, k => by
    have := setV_look s k
    simp only [setV, List.map_cons, lookI, List.mem_cons] at this ⊢
    by_cases h : k = x
    · simp [h]
    · simp [h, this]

theorem setV_get (s : List Int) (k : Int) : (lookI (setV s) k).getD (.bool false) = .bool (decide (k ∈ s)) := by
  rw [setV_look]; split <;> simp_all

theorem setV_put (s : List Int) (k : Int) (h : k ∉ s) : putI (setV s) k (.bool true) = setV (s ++ [k]) := by
  rw [put_push _ _ _ (by rw [setV_look, if_neg h])]
  simp [setV]

/-- the numbers that are come to -/
def comeP (N : List Nd) : Nat → Int → List Int → List Int
  | 0, _, c => c
  | F + 1, id, c => if id ∈ c then c else if (getN N id).kind = 2 then (getN N id).names.foldl (fun c x => comeP N F x.node c) (c ++ [id]) else c ++ [id]

theorem comeP_sub (N : List Nd) : ∀ (F : Nat) (id : Int) (c : List Int), ∀ x ∈ c, x ∈ comeP N F id c
  | 0, id, c => fun x h => h
  | F + 1, id, c => by
    have fold : ∀ (l : List Ent) (c : List Int), ∀ x ∈ c, x ∈ l.foldl (fun c x => comeP N F x.node c) c := by
      intro l
      induction l with
      | nil => intro c x h; exact h
      | cons y l ih => intro c x h; exact ih _ x (comeP_sub N F _ _ x h)
    intro x h
    rw [comeP]
    split
    · exact h
    · split
      · exact fold _ _ x (by simp [h])
      · simp [h]

/-- nodes that aren't come to yet -/
def leftN : List Nd → List Int → Nat
  | [], _ => 0
  | n :: N, c => (if n.id ∈ c then 0 else 1) + leftN N c

theorem leftN_mono {c d : List Int} (h : ∀ x ∈ c, x ∈ d) : ∀ N : List Nd, leftN N d ≤ leftN N c
  | [] => Nat.le_refl _
  | n :: N => by
    have ih := leftN_mono h N
    simp only [leftN]
    by_cases h1 : n.id ∈ c
    · rw [if_pos h1, if_pos (h _ h1)]; omega
    · rw [if_neg h1]; split <;> omega

theorem leftN_lt {N : List Nd} {c : List Int} {id : Int} (hc : id ∉ c) (hk : (getN N id).kind = 2) : leftN N (c ++ [id]) < leftN N c := by
  have key : ∀ N : List Nd, ∀ n, lookN N id = some n → leftN N (c ++ [id]) < leftN N c := by
    intro N
    induction N with
    | nil => intro n h; cases h
    | cons x N ih =>
      intro n h
      have mono := leftN_mono (c := c) (d := c ++ [id]) (by intro x hx; simp [hx]) N
      simp only [lookN] at h
      simp only [leftN]
      by_cases hx : id = x.id
      · subst hx
        rw [if_pos (by simp), if_neg hc]
        omega
      · rw [if_neg hx] at h
        have := ih n h
        by_cases h1 : x.id ∈ c
        · rw [if_pos h1, if_pos (by simp [h1])]; omega
        · have h2 : x.id ∉ c ++ [id] := by simp only [List.mem_append, List.mem_singleton, not_or]; exact ⟨h1, fun e => hx e.symm⟩
          rw [if_neg h1, if_neg h2]; omega
  cases h : lookN N id with
  | none => unfold getN at hk; rw [h] at hk; simp [noNd] at hk
  | some n => exact key N n h

/-- a tree that is grown, as it lies -/
structure Tree (h0 h : Heap) (tb r1 r2 r3 : Nat) (N : List Nd) (c : List Int) : Prop where
  keep : Keeps [] h0 h
  tnew : h0.size ≤ tb ∧ h0.size ≤ r1 ∧ h0.size ≤ r2 ∧ h0.size ≤ r3
  apart : tb ≠ r3 ∧ r1 ≠ r3 ∧ r2 ≠ r3 ∧ tb ≠ r2 ∧ r1 ≠ r2
  obj : h[tb]? = some (.cells ⟨[.map (some r1), .map (some r2), .map (some r3)]⟩ 67 (0, 0))
  map : ∃ m, MapL h r1 m ∧ NMs h0 m N
  come : MapL h r3 (setV c)

theorem Tree.on {h0 h h' : Heap} {tb r1 r2 r3 : Nat} {N : List Nd} {c : List Int} (T : Tree h0 h tb r1 r2 r3 N c) (k : Keeps [] h h') : Tree h0 h' tb r1 r2 r3 N c :=
  ⟨T.keep.trans k, T.tnew, T.apart, k.obj T.obj (by simp), let ⟨m, M, q⟩ := T.map; ⟨m, M.keep k (by simp), q⟩, T.come.keep k (by simp)⟩

theorem getN_rep {h0 : Heap} {N : List Nd} {m : List (Int × Value)} (q : NMs h0 m N) (k : Int) : ∃ cs, (lookI m k).getD (.agg ⟨[.int .i64 0, .int .i64 0, .int .i64 0, .string ⟨#[]⟩, .slice none 0 0]⟩) = Value.agg ⟨cs⟩ ∧ rep h0 cs (getN N k) := by
  rcases q.look k with ⟨q1, q2⟩ | ⟨n', cs, q1, q2, q3⟩
  · rw [q2]; exact ⟨_, rfl, by unfold getN; rw [q1]; exact noNd_rep h0⟩
  · rw [q2]; exact ⟨cs, rfl, by unfold getN; rw [q1]; exact q3⟩

theorem grown_spec (h0 : Heap) (tb r1 r2 r3 : Nat) (N : List Nd) : ∀ (F : Nat) (id : Int) (c : List Int) (h : Heap), 1 + leftN N c ≤ F → Tree h0 h tb r1 r2 r3 N c →
    CallH Try.prog 27 [.pointer (some ⟨tb, 0, none⟩), .int .i64 id] h (fun _ h' => Keeps [r3] h h' ∧ Tree h0 h' tb r1 r2 r3 N (comeP N F id c))
  | 0, id, c, h, hF, T => by omega
  | F + 1, id, c, h, hF, T => by
    refine call_of hmix Try.func27 rfl ok27 (by simp [Try.f27]) ?_
    conv => whnf
    refine LoadR.i (v := .map (some r3)) (by unfold Heap.cell?; rw [T.obj]; rfl) ?_
    conv => whnf
    refine LookR.z (.bool false) T.come rfl (setV_get c id) ?_
    conv => whnf
    refine IfR.i (fun hc => ?_) (fun hc => ?_)
    · conv => whnf
      have hc' : id ∈ c := by simpa using hc
      refine ⟨Keeps.refl _ _, ?_⟩
      rw [comeP, if_pos hc']; exact T
    · have hc' : id ∉ c := by simpa using hc
      conv => whnf
      refine LoadR.i (v := .map (some r3)) (by unfold Heap.cell?; rw [T.obj]; rfl) ?_
      conv => whnf
      refine SemR.put rfl rfl T.come (by simp [blocksOf]) fun h1 s1 M1 k1 => ?_
      rw [setV_put c id hc'] at M1
      conv => whnf
      have T1 : Tree h0 h1 tb r1 r2 r3 N (c ++ [id]) := by
        have ta := T.apart
        refine ⟨T.keep.trans_new k1 (by intro x hx; simp at hx; subst hx; exact .inr T.tnew.2.2.2), T.tnew, T.apart, k1.obj T.obj (by simp; exact ta.1), ?_, M1⟩
        obtain ⟨m, M, q⟩ := T.map
        exact ⟨m, M.keep k1 (by simp; exact ta.2.1), q⟩
      refine LoadR.i (v := .map (some r1)) (by unfold Heap.cell?; rw [T1.obj]; rfl) ?_
      conv => whnf
      obtain ⟨m, M, q⟩ := T1.map
      obtain ⟨cs, hcs, hrep⟩ := getN_rep q id
      obtain ⟨ca, cn, ck, rfl, y1, y2⟩ := hrep
      refine LookR.z (.agg ⟨[.int .i64 0, .int .i64 0, .int .i64 0, .string ⟨#[]⟩, .slice none 0 0]⟩) M rfl hcs ?_
      conv => whnf
      refine AllocR.i fun b2 h2 e2 s2 o2 k2 => ?_
      conv => whnf
      refine BoxR.i fun h3 s3 k3 => ?_
      have k13 : Keeps [] h1 h3 := k2.trans_new k3 (by intro x hx; simp at hx; right; omega)
      have T3 := T1.on k13
      have kk : Keeps [r3] h h3 := k1.trans_nil k13
      conv => whnf
      refine IfR.i (fun hk => ?_) (fun hk => ?_)
      · have hk' : (getN N id).kind = 2 := by simpa using hk
        conv => whnf
        have hlt := leftN_lt hc' hk'
        have hsn := y2.hlen
        have hbig := y2.hbig
        let foldP := fun (i : Nat) => ((getN N id).names.take i).foldl (fun c x => comeP N F x.node c) (c ++ [id])
        have hsub : ∀ i, ∀ x ∈ c ++ [id], x ∈ foldP i := by
          intro i
          have fold : ∀ (l : List Ent) (c : List Int), ∀ x ∈ c, x ∈ l.foldl (fun c x => comeP N F x.node c) c := by
            intro l
            induction l with
            | nil => intro c x h; exact h
            | cons y l ih => intro c x h; exact ih _ x (comeP_sub N F _ _ x h)
          exact fold _ _
        refine LoopR.on [0, 28, 29, 30] [] (fun i : Nat => [(0, .v (.pointer (some ⟨tb, 0, none⟩))), (28, .v (.slice ca cn ck)), (29, .v (.int .i64 cn)), (30, .v (.int .i64 (i : Int)))])
            (fun _ => []) (fun i h' => i ≤ cn ∧ Keeps [r3] h h' ∧ Tree h0 h' tb r1 r2 r3 N (foldP i)) (fun i => cn - i) 0 ?_ ?_
        · conv => whnf
          exact ⟨0, rfl, rfl, rfl, Nat.zero_le _, kk, T3⟩
        · rintro i h4 ⟨hi, k4, T4⟩
          conv => whnf
          refine IfR.i (fun hc => ?_) (fun hc => ?_)
          · have hi1 : i < (getN N id).names.length := by simp at hc; omega
            obtain ⟨bn, on, han, _, ⟨rfl, z1, z2⟩, hcn⟩ := y2.at_ i hi1
            have hcn4 := hcn.keep T4.keep
            conv => whnf
            refine IdxS.i i rfl (by omega) han ?_
            conv => whnf
            refine LoadN.i (vs := [.string (getN N id).names[i].name, .int .i64 (getN N id).names[i].node]) rfl (fun j hj => hcn4 j hj) ?_
            conv => whnf
            refine AllocR.i fun b5 h5 e5 s5 o5 k5 => ?_
            conv => whnf
            refine BoxR.i fun h6 s6 k6 => ?_
            have k46 : Keeps [] h4 h6 := k5.trans_new k6 (by intro x hx; simp at hx; right; omega)
            conv => whnf
            refine CallR.m (grown_spec h0 tb r1 r2 r3 N F _ (foldP i) h6 (by have := leftN_mono (hsub i) N; omega) (T4.on k46)) ?_ ?_
            · intro b hb hb'
              have hb2 : b ∈ [b5] := hb
              simp only [List.mem_singleton] at hb2 hb'
              have := T4.come.lt
              omega
            · rintro v h7 k7 T7
              conv => whnf
              have hst : foldP (i + 1) = comeP N F (getN N id).names[i].node (foldP i) := by
                simp only [foldP]
                rw [List.take_succ_eq_append_getElem hi1, List.foldl_append]; rfl
              refine ⟨cn - (i + 1), by omega, ?_⟩
              conv => whnf
              exact ⟨i + 1, rfl, by rw [wrapN (n := i + 1) (by simp) (by omega)], rfl, by omega, (k4.trans_nil k46).trans k7, by rw [hst]; exact T7⟩
          · conv => whnf
            have hi1 : i = (getN N id).names.length := by simp at hc; omega
            refine ⟨k4, ?_⟩
            have hv : comeP N (F + 1) id c = foldP i := by
              rw [comeP, if_neg hc', if_pos hk']
              simp only [foldP]
              rw [hi1, List.take_length]
            rw [hv]; exact T4
      · have hk' : ¬ (getN N id).kind = 2 := by simpa using hk
        conv => whnf
        refine ⟨kk, ?_⟩
        rw [comeP, if_neg hc', if_neg hk']; exact T3
end Go.Proofs.Ytegagciipigkbaa
