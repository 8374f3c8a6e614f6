/-
  Find: the tree of nodes.
-/
import Derived.Test.YtegagciipigkbaaFindD
import Derived.Test.YtegagciipigkbaaEngN
set_option linter.all false
namespace Go.Proofs.Ytegagciipigkbaa
open Go Go.Eng

/-- how often a number is named by these directories -/
def cntE (l : List Ent) (k : Int) : Nat := (l.filter fun x => decide (x.node = k)).length
def cntN : List Nd → Int → Nat
  | [], _ => 0
  | n :: N, k => (if n.kind = 2 then cntE n.names k else 0) + cntN N k

theorem cntN_append (D E : List Nd) (k : Int) : cntN (D ++ E) k = cntN D k + cntN E k := by
  induction D with
  | nil => simp [cntN]
  | cons n D ih => simp only [List.cons_append, cntN, ih]; omega

theorem cntN_perm {D E : List Nd} (h : D.Perm E) (k : Int) : cntN D k = cntN E k := by
  induction h with
  | nil => rfl
  | cons x _ ih => simp only [cntN, ih]
  | swap x y l => simp only [cntN]; omega
  | trans _ _ h1 h2 => exact h1.trans h2

theorem cntE_le (l : List Ent) (k : Int) : cntE l k ≤ l.length := List.length_filter_le _ _
theorem cntN_le {D : List Nd} (h : ∀ n ∈ D, FitN n) (k : Int) : cntN D k ≤ 20 * D.length := by
  induction D with
  | nil => simp [cntN]
  | cons n D ih =>
    have h1 := ih (fun n hn => h n (by simp [hn]))
    have h2 := (h n (by simp)).1
    have h3 := cntE_le n.names k
    simp only [cntN, List.length_cons]
    split <;> omega

/-- every name's node is there -/
def NamesIn (N : List Nd) (n : Nd) : Prop := n.kind = 2 → ∀ x ∈ n.names, lookN N x.node ≠ none
/-- what is asked of a node in the end -/
def NodeOk (N : List Nd) (c : List Int) (n : Nd) : Prop := (cntN N n.id : Int) = (if n.id = 1 then 0 else n.links) ∧ n.id ∈ c ∧ (n.kind = 2 → n.links = 1)

/-- the numbers that are come to -/
def allP (N : List Nd) : List Int := comeP N (1 + leftN N []) 1 []

def Good (N : List Nd) : Prop := (getN N 1).kind = 2 ∧ (∀ n ∈ N, NamesIn N n) ∧ ∀ n ∈ N, NodeOk N (allP N) n

/-- the numbers differ -/
def Apart (N : List Nd) : Prop := (N.map (·.id)).Nodup

theorem lookN_none {N : List Nd} {k : Int} (h : k ∉ N.map (·.id)) : lookN N k = none := by
  induction N with
  | nil => rfl
  | cons n N ih =>
    simp only [List.map_cons, List.mem_cons, not_or] at h
    rw [lookN, if_neg h.1, ih h.2]

theorem NMs.split {h : Heap} : ∀ {R1 : List (Int × Value)} {p : Int × Value} {R2 : List (Int × Value)} {N : List Nd}, NMs h (R1 ++ p :: R2) N → ∃ N1 n N2, N = N1 ++ n :: N2 ∧ NMs h (R1 ++ R2) (N1 ++ N2) ∧ p.1 = n.id ∧ ∃ cs, p.2 = .agg ⟨cs⟩ ∧ rep h cs n
  | [], (k, v), R2, [], h1 => h1.elim
  | [], (k, v), R2, n :: N, h1 => ⟨[], n, N, rfl, h1.2.2, h1.1, h1.2.1⟩
  | q :: R1, p, R2, [], h1 => by obtain ⟨k, v⟩ := q; exact h1.elim
  | q :: R1, p, R2, n :: N, h1 => by
    obtain ⟨k, v⟩ := q
    obtain ⟨N1, n', N2, rfl, h2, h3⟩ := NMs.split h1.2.2
    exact ⟨n :: N1, n', N2, rfl, ⟨h1.1, h1.2.1, h2⟩, h3⟩

theorem NMs.nil {h : Heap} {N : List Nd} (h1 : NMs h [] N) : N = [] := by
  cases N with
  | nil => rfl
  | cons n N => exact h1.elim

/-- how often numbers were named so far -/
def Named (h : Heap) (r2 : Nat) (f : Int → Nat) : Prop := ∃ mm, MapL h r2 mm ∧ ∀ k, (lookI mm k).getD (.int .i64 0) = .int .i64 (f k : Int)

theorem grow_spec (N : List Nd) (a : Option Addr) (n c : Nat) (h : Heap) (S : Sl h a n c N) (fit : Fit N) (ap : Apart N) :
    CallH Try.prog 26 [.slice a n c] h (fun v h' => Keeps [] h h' ∧ ∃ p b, v = .tuple #[p, .bool b] ∧ (b = true ↔ Good N)) := by
  refine call_of hmix Try.func26 rfl ok26 (by simp [Try.f26]) ?_
  conv => whnf
  refine AllocR.i fun r1 h1 e1 s1 o1 k1 => ?_
  conv => whnf
  refine AllocR.i fun r2 h2 e2 s2 o2 k2 => ?_
  conv => whnf
  refine AllocR.i fun r3 h3 e3 s3 o3 k3 => ?_
  conv => whnf
  refine AllocR.i fun tb h4 e4 s4 o4 k4 => ?_
  conv => whnf
  have k14 : Keeps [] h h4 := k1.trans (k2.trans (k3.trans k4))
  have M1 := (MapL.new o1).keep (k2.trans (k3.trans k4)) (by simp)
  have M2 := (MapL.new o2).keep (k3.trans k4) (by simp)
  have M3 := (MapL.new o3).keep k4 (by simp)
  have o4' : h4[tb]? = some (.cells ⟨[.map (some r1), .map (some r2), .map (some r3)]⟩ 67 (0, 0)) := o4
  have hn := S.hlen
  have hbig := S.hbig
  -- the nodes are laid into the map
  refine LoopR.on [0, 4, 21, 22, 23] [] (fun i : Nat => [(0, .v (.slice a n c)), (4, .v (.pointer (some ⟨tb, 0, none⟩))), (21, .v (.slice a n c)), (22, .v (.int .i64 n)), (23, .v (.int .i64 (i : Int)))])
    (fun _ => []) (fun i h' => i ≤ n ∧ Keeps [r1] h4 h' ∧ ∃ m, MapL h' r1 m ∧ NMs h m (N.take i)) (fun i => n - i) 0 ?_ ?_
  · conv => whnf
    exact ⟨0, rfl, rfl, rfl, Nat.zero_le _, Keeps.refl _ _, [], M1, trivial⟩
  · rintro i h5 ⟨hi, k5, m, M5, q5⟩
    have k05 : Keeps [] h h5 := k14.trans_new k5 (by intro x hx; simp at hx; right; omega)
    have o5 := k5.obj o4' (by simp; omega)
    conv => whnf
    refine IfR.i (fun hc => ?_) (fun hc => ?_)
    · have hi1 : i < N.length := by simp at hc; omega
      obtain ⟨bn, on, han, cs, hr, hcn⟩ := S.at_ i hi1
      have hcn5 := hcn.keep k05
      have hr' := hr
      obtain ⟨na, nn, nc, rfl, y1, y2⟩ := hr
      conv => whnf
      refine IdxS.i i rfl (by omega) han ?_
      conv => whnf
      refine LoadN.i (vs := [.int .i64 N[i].id, .int .i64 N[i].kind, .int .i64 N[i].links, .string N[i].data, .slice na nn nc]) rfl (fun j hj => hcn5 j hj) ?_
      conv => whnf
      refine AllocR.i fun b6 h6 e6 s6 o6 k6 => ?_
      conv => whnf
      refine BoxR.i fun h7 s7 k7 => ?_
      have k57 : Keeps [] h5 h7 := k6.trans_new k7 (by intro x hx; simp at hx; right; omega)
      have o7 := k57.obj o5 (by simp)
      conv => whnf
      refine LoadR.i (v := .map (some r1)) (by unfold Heap.cell?; rw [o7]; rfl) ?_
      conv => whnf
      refine SemR.put rfl rfl (M5.keep k57 (by simp)) ?_ fun h8 s8 M8 k8 => ?_
      · intro hb
        have hb2 : r1 ∈ [b6] := hb
        simp only [List.mem_singleton] at hb2
        have := M5.lt
        omega
      conv => whnf
      refine ⟨n - (i + 1), by omega, ?_⟩
      conv => whnf
      refine ⟨i + 1, rfl, by rw [wrapN (n := i + 1) (by simp) (by omega)], rfl, by omega, (k5.trans_nil k57).trans k8, _, M8, ?_⟩
      rw [List.take_succ_eq_append_getElem hi1]
      refine NMs.put q5 _ _ (lookN_none fun hm => ?_) hr'
      unfold Apart at ap
      rw [List.mem_map] at hm
      obtain ⟨y, hy, hye⟩ := hm
      obtain ⟨j, hj, rfl⟩ := List.mem_iff_getElem.1 hy
      have hj' : j < i := by simp at hj; omega
      have h1 : (N.take i)[j] = N[j] := by simp
      rw [h1] at hye
      have := (List.pairwise_iff_getElem.1 ap) j i (by simp; omega) (by simpa using hi1) hj'
      simp at this
      exact this hye
    · conv => whnf
      have hi1 : i = N.length := by simp at hc; omega
      subst hi1
      rw [List.take_length] at q5
      refine LoadR.i (v := .map (some r1)) (by unfold Heap.cell?; rw [o5]; rfl) ?_
      conv => whnf
      obtain ⟨cs, hcs, hrep⟩ := getN_rep q5 1
      obtain ⟨ca, cn, ck, rfl, y1, y2⟩ := hrep
      refine LookR.z (.agg ⟨[.int .i64 0, .int .i64 0, .int .i64 0, .string ⟨#[]⟩, .slice none 0 0]⟩) M5 rfl hcs ?_
      conv => whnf
      refine IfR.i (fun hk => ?_) (fun hk => ?_)
      · conv => whnf
        have hk' : ¬ (getN N 1).kind = 2 := by simpa using hk
        exact ⟨k05, _, _, rfl, fun h => by simp at h, fun h => absurd h.1 hk'⟩
      · have hk' : (getN N 1).kind = 2 := by simpa using hk
        conv => whnf
        refine LoadR.i (v := .map (some r1)) (by unfold Heap.cell?; rw [o5]; rfl) ?_
        conv => whnf
        refine SemR.range rfl M5 fun it hR ei si ki IR => ?_
        have k0R : Keeps [] h hR := k05.trans ki
        have oR := ki.obj o5 (by simp)
        have MR := M5.keep ki (by simp)
        have m5lt := M5.lt
        have szs := k5.size
        have CR : MapL hR r3 (setV []) := (M3.keep k5 (by simp; omega)).keep ki (by simp)
        have NR : Named hR r2 (cntN []) := ⟨[], (M2.keep k5 (by simp; omega)).keep ki (by simp), fun k => rfl⟩
        conv => whnf
        refine LoopR.on [4, 46] [] (fun q : List (Int × Value) × List Nd × List Nd => [(4, .v (.pointer (some ⟨tb, 0, none⟩))), (46, .v (.pointer (some ⟨it, 0, none⟩)))])
          (fun _ => []) (fun q h' => Keeps [r2, it] hR h' ∧ (∃ last, IterL h' it r1 q.1 last) ∧ NMs h q.1 q.2.1 ∧ (q.2.2 ++ q.2.1).Perm N ∧ Named h' r2 (cntN q.2.2) ∧ ∀ x ∈ q.2.2, NamesIn N x) (fun q => q.1.length) (m, N, []) ?_ ?_
        · conv => whnf
          exact ⟨(m, N, []), rfl, rfl, rfl, Keeps.refl _ _, ⟨none, IR⟩, q5, List.Perm.refl _, NR, fun x hx => nomatch hx⟩
        · rintro ⟨R, RN, D⟩ h6 ⟨k6, ⟨last, I6⟩, q6, pm, N6, in6⟩
          simp only at I6 q6 pm N6 in6
          have k06 : Keeps [] h h6 := k0R.trans_new k6 (by intro x hx; simp at hx; right; omega)
          have o6 := k6.obj oR (by simp; omega)
          have M6 := MR.keep k6 (by simp; omega)
          have C6 := CR.keep k6 (by simp; omega)
          conv => whnf
          refine SemR.next I6 (by simp [blocksOf]) (by omega) (fun hR0 => ?_) (fun R1 p R2 h7 hRR s7 k7 I7 => ?_)
          · subst hR0
            have := q6.nil
            subst this
            rw [List.append_nil] at pm
            conv => whnf
            refine IfR.f rfl ?_
            conv => whnf
            have T6 : Tree h h6 tb r1 r2 r3 N [] := ⟨k06, ⟨by omega, by omega, by omega, by omega⟩, ⟨by omega, by omega, by omega, by omega, by omega⟩, o6, ⟨m, M6, q5⟩, C6⟩
            refine CallR.m (grown_spec h tb r1 r2 r3 N (1 + leftN N []) 1 [] h6 (Nat.le_refl _) T6) (by simp [blocksOf]) ?_
            rintro v h7 k7 T7
            conv => whnf
            have N7 : Named h7 r2 (cntN D) := let ⟨mm, Q, w⟩ := N6; ⟨mm, Q.keep k7 (by simp; omega), w⟩
            obtain ⟨m7, M7, q7⟩ := T7.map
            have r2lt : r2 < h7.size := let ⟨_, Q, _⟩ := N7; Q.lt
            refine LoadR.i (v := .map (some r1)) (by unfold Heap.cell?; rw [T7.obj]; rfl) ?_
            conv => whnf
            refine SemR.range rfl M7 fun it2 hS et st kt IS => ?_
            have TS := T7.on kt
            have NS : Named hS r2 (cntN D) := let ⟨mm, Q, w⟩ := N7; ⟨mm, Q.keep kt (by simp), w⟩
            conv => whnf
            refine LoopR.on [4, 88] [] (fun q : List (Int × Value) × List Nd × List Nd => [(4, .v (.pointer (some ⟨tb, 0, none⟩))), (88, .v (.pointer (some ⟨it2, 0, none⟩)))])
              (fun _ => []) (fun q h' => Keeps [it2] hS h' ∧ (∃ last, IterL h' it2 r1 q.1 last) ∧ NMs h q.1 q.2.1 ∧ (q.2.2 ++ q.2.1).Perm N ∧ ∀ x ∈ q.2.2, NodeOk N (allP N) x) (fun q => q.1.length) (m7, N, []) ?_ ?_
            · conv => whnf
              exact ⟨(m7, N, []), rfl, rfl, rfl, Keeps.refl _ _, ⟨none, IS⟩, q7, List.Perm.refl _, fun x hx => nomatch hx⟩
            · rintro ⟨R, RN, E⟩ g1 ⟨l1, ⟨last, J1⟩, p1, pm1, in1⟩
              simp only at J1 p1 pm1 in1
              have hl7 := M7.lt
              conv => whnf
              refine SemR.next J1 (by simp [blocksOf]) (by omega) (fun hR0 => ?_) (fun R1 p R2 g2 hRR s7 l2 J2 => ?_)
              · subst hR0
                have := p1.nil
                subst this
                rw [List.append_nil] at pm1
                conv => whnf
                refine IfR.f rfl ?_
                conv => whnf
                refine ⟨?_, _, _, rfl, ?_⟩
                · exact (T7.keep.trans kt).trans_new l1 (by intro x hx; simp at hx; right; have := T7.keep.size; omega)
                · simp only [true_iff]
                  exact ⟨hk', fun n hn => in6 n (pm.symm.subset hn), fun n hn => in1 n (pm1.symm.subset hn)⟩
              · subst hRR
                obtain ⟨N1, nn, N2, rfl, p2, hp1, cs, hp2, hrep⟩ := p1.split
                obtain ⟨pk, pv⟩ := p
                simp only at hp1 hp2
                subst hp1 hp2
                obtain ⟨na, nl, nc, rfl, y3, y4⟩ := hrep
                conv => whnf
                refine IfR.t rfl ?_
                conv => whnf
                refine SemR.entry J2 ?_
                conv => whnf
                refine AllocR.i fun b8 g3 e8 s8 o8 l3 => ?_
                conv => whnf
                refine BoxR.i fun g4 s9 l4 => ?_
                have l24 : Keeps [] g2 g4 := l3.trans_new l4 (by intro x hx; simp at hx; right; omega)
                have l14 : Keeps [it2] hS g4 := (l1.trans l2).trans_nil l24
                have TS4 := TS.obj
                have o4g := l14.obj TS.obj (by simp; have := obj_lt T7.obj; omega)
                conv => whnf
                refine MeetR.pass ?_
                conv => whnf
                have nil_ : Keeps [] h g4 := (T7.keep.trans kt).trans_new l14 (by intro x hx; simp at hx; right; have := T7.keep.size; omega)
                obtain ⟨mm, Q, wq⟩ := NS
                have Q4 := Q.keep l14 (by simp; omega)
                have C4 := TS.come.keep l14 (by simp; have := T7.come.lt; omega)
                have J4 := J2.keep l24 (by simp) (by simp)
                have hnN : nn ∈ N := pm1.subset (by simp)
                have cnt := cntN_perm pm
                have next : NodeOk N (allP N) nn → (nn :: E ++ (N1 ++ N2)).Perm N ∧ ∀ x ∈ nn :: E, NodeOk N (allP N) x := fun h => by
                  refine ⟨List.Perm.trans ?_ pm1, ?_⟩
                  · simp only [List.cons_append]
                    rw [← List.append_assoc, ← List.append_assoc]
                    exact List.perm_middle.symm
                  · intro x hx
                    simp only [List.mem_cons] at hx
                    rcases hx with rfl | hx
                    · exact h
                    · exact in1 x hx
                refine IfR.i (fun hid => ?_) (fun hid => ?_)
                all_goals
                  conv => whnf
                  refine LoadR.i (v := .map (some r2)) (by unfold Heap.cell?; rw [o4g]; rfl) ?_
                  conv => whnf
                  refine LookR.z (.int .i64 0) Q4 rfl (wq _) ?_
                  conv => whnf
                  refine LoadR.u (.map (some r3)) (fun _ => by unfold Heap.cell?; rw [o4g]; rfl) ?_
                  conv => whnf
                  refine LookR.z (.bool false) C4 rfl (setV_get _ _) ?_
                  conv => whnf
                  refine IfR.i (fun hd => ?_) (fun hd => ?_)
                  · conv => whnf
                    refine ⟨nil_, _, _, rfl, fun h => by simp at h, fun G => ?_⟩
                    exfalso
                    have ok := G.2.2 nn hnN
                    obtain ⟨ok1, ok2, ok3⟩ := ok
                    have ok4 : nn.id ∈ comeP N (1 + leftN N []) 1 [] := ok2
                    rw [← cnt] at ok1
                    simp at hid
                    first | rw [if_pos hid] at ok1 | rw [if_neg hid] at ok1
                    simp [bif_or, bif_and, ok1, ok4] at hd
                    exact hd.2 (ok3 hd.1)
                  · conv => whnf
                    have ok : NodeOk N (allP N) nn := by
                      simp at hid
                      simp [bif_or, bif_and] at hd
                      obtain ⟨⟨hd1, hd2⟩, hd3⟩ := hd
                      have hd4 : nn.id ∈ allP N := hd2
                      refine ⟨?_, hd4, hd3⟩
                      rw [← cnt]
                      first | (rw [if_pos hid]; omega) | (rw [if_neg hid]; exact hd1)
                    refine ⟨(R1 ++ R2).length, by simp, ?_⟩
                    conv => whnf
                    exact ⟨(R1 ++ R2, N1 ++ N2, nn :: E), rfl, rfl, rfl, l14, ⟨_, J4⟩, p2, (next ok).1, (next ok).2⟩
          · subst hRR
            obtain ⟨N1, nn, N2, rfl, q7, hp1, cs, hp2, hrep⟩ := q6.split
            obtain ⟨pk, pv⟩ := p
            simp only at hp1 hp2
            subst hp1 hp2
            obtain ⟨na, nl, nc, rfl, y3, y4⟩ := hrep
            have k07 : Keeps [] h h7 := k06.trans_new k7 (by intro x hx; simp at hx; right; omega)
            have o7 := k7.obj o6 (by simp; omega)
            have M7 := M6.keep k7 (by simp; omega)
            have N7 : Named h7 r2 (cntN D) := let ⟨mm, Q, w⟩ := N6; ⟨mm, Q.keep k7 (by simp; omega), w⟩
            conv => whnf
            refine IfR.t rfl ?_
            conv => whnf
            refine SemR.entry I7 ?_
            conv => whnf
            refine AllocR.i fun b8 h8 e8 s8 o8 k8 => ?_
            conv => whnf
            refine BoxR.i fun h9 s9 k9 => ?_
            have k79 : Keeps [] h7 h9 := k8.trans_new k9 (by intro x hx; simp at hx; right; omega)
            conv => whnf
            refine IfR.i (fun hd => ?_) (fun hd => ?_)
            · conv => whnf
              have hd' : ¬ nn.kind = 2 := by simpa using hd
              refine ⟨(R1 ++ R2).length, by simp, ?_⟩
              conv => whnf
              refine ⟨(R1 ++ R2, N1 ++ N2, nn :: D), rfl, rfl, rfl, (k6.trans (k7.mono (by simp))).trans_nil k79, ⟨_, I7.keep k79 (by simp) (by simp)⟩, q7, ?_, ?_, ?_⟩
              · refine List.Perm.trans ?_ pm
                simp only [List.cons_append]
                rw [← List.append_assoc, ← List.append_assoc]
                exact List.perm_middle.symm
              · obtain ⟨mm, Q, w⟩ := N7
                exact ⟨mm, Q.keep k79 (by simp), fun k => by rw [w]; simp [cntN, hd']⟩
              · intro x hx
                simp only [List.mem_cons] at hx
                rcases hx with rfl | hx
                · exact fun h => absurd h hd'
                · exact in6 x hx
            · conv => whnf
              have hd' : nn.kind = 2 := by simpa using hd
              have k09 : Keeps [] h h9 := k07.trans k79
              have o9 := k79.obj o7 (by simp)
              have M9 := M7.keep k79 (by simp)
              have I9 := I7.keep k79 (by simp) (by simp)
              have N9 : Named h9 r2 (cntN D) := let ⟨mm, Q, w⟩ := N7; ⟨mm, Q.keep k79 (by simp), w⟩
              have hnl := y4.hlen
              have hnN : nn ∈ N := pm.subset (by simp)
              have few := fit.node nn hnN
              have hD : ∀ x ∈ D, FitN x := fun x hx => fit.node x (pm.subset (by simp [hx]))
              have hDl : D.length ≤ 24 := by have h1 := pm.length_eq; have h2 := fit.few; simp at h1; omega
              refine LoopR.on [4, 46, 55, 56, 57] [] (fun j : Nat => [(4, .v (.pointer (some ⟨tb, 0, none⟩))), (46, .v (.pointer (some ⟨it, 0, none⟩))), (55, .v (.slice na nl nc)), (56, .v (.int .i64 nl)), (57, .v (.int .i64 (j : Int)))])
                (fun _ => []) (fun j h' => j ≤ nl ∧ Keeps [r2] h9 h' ∧ Named h' r2 (fun k => cntN D k + cntE (nn.names.take j) k) ∧ ∀ x ∈ nn.names.take j, lookN N x.node ≠ none) (fun j => nl - j) 0 ?_ ?_
              · conv => whnf
                exact ⟨0, rfl, rfl, rfl, Nat.zero_le _, Keeps.refl _ _, N9, fun x hx => by simp at hx⟩
              · rintro j g1 ⟨hj, l1, Q1, in1⟩
                have l01 : Keeps [] h g1 := k09.trans_new l1 (by intro x hx; simp at hx; right; omega)
                have og := l1.obj o9 (by simp; omega)
                have Mg := M9.keep l1 (by simp; omega)
                conv => whnf
                refine IfR.i (fun hc => ?_) (fun hc => ?_)
                · have hj1 : j < nn.names.length := by simp at hc; omega
                  obtain ⟨bn, on, han, _, ⟨rfl, z1, z2⟩, hcn⟩ := y4.at_ j hj1
                  have hcn1 := hcn.keep l01
                  conv => whnf
                  refine IdxS.i j rfl (by omega) han ?_
                  conv => whnf
                  refine LoadN.i (vs := [.string nn.names[j].name, .int .i64 nn.names[j].node]) rfl (fun q hq => hcn1 q hq) ?_
                  conv => whnf
                  refine AllocR.i fun b2 g2 e2 s2 o2 l2 => ?_
                  conv => whnf
                  refine BoxR.i fun g3 s3 l3 => ?_
                  have l13 : Keeps [] g1 g3 := l2.trans_new l3 (by intro x hx; simp at hx; right; omega)
                  conv => whnf
                  refine LoadR.i (v := .map (some r1)) (by unfold Heap.cell?; rw [l13.obj og (by simp)]; rfl) ?_
                  conv => whnf
                  rcases q5.look nn.names[j].node with ⟨w1, w2⟩ | ⟨n', cs, w1, w2, w3⟩
                  · refine LookR.is (Mg.keep l13 (by simp)) w2 ?_
                    conv => whnf
                    refine AllocR.i fun b4 g4 e4 s4 o4 l4 => ?_
                    conv => whnf
                    refine BoxR.i fun g5 s5 l5 => ?_
                    have l35 : Keeps [] g3 g5 := l4.trans_new l5 (by intro x hx; simp at hx; right; omega)
                    conv => whnf
                    refine IfR.t rfl ?_
                    conv => whnf
                    exact ⟨l01.trans (l13.trans l35), _, _, rfl, fun h => by simp at h, fun h => absurd w1 (h.2.1 nn hnN hd' _ (List.getElem_mem hj1))⟩
                  · obtain ⟨ua, ul, uc, rfl, _⟩ := w3
                    refine LookR.is (Mg.keep l13 (by simp)) w2 ?_
                    conv => whnf
                    refine AllocR.i fun b4 g4 e4 s4 o4 l4 => ?_
                    conv => whnf
                    refine BoxR.i fun g5 s5 l5 => ?_
                    have l35 : Keeps [] g3 g5 := l4.trans_new l5 (by intro x hx; simp at hx; right; omega)
                    have l15 := l13.trans l35
                    conv => whnf
                    refine IfR.f rfl ?_
                    conv => whnf
                    refine LoadR.i (v := .map (some r2)) (by unfold Heap.cell?; rw [l15.obj og (by simp)]; rfl) ?_
                    conv => whnf
                    obtain ⟨mm, Q, wq⟩ := Q1
                    refine LookR.z (.int .i64 0) (Q.keep l15 (by simp)) rfl (wq _) ?_
                    conv => whnf
                    refine SemR.put rfl rfl (Q.keep l15 (by simp)) ?_ fun g6 s6 Q6 l6 => ?_
                    · intro hb
                      have hb2 : r2 ∈ [b2, b4] := hb
                      simp only [List.mem_cons, List.not_mem_nil, or_false] at hb2
                      have := Q.lt
                      omega
                    conv => whnf
                    refine ⟨nl - (j + 1), by omega, ?_⟩
                    conv => whnf
                    have hcnt := cntN_le hD nn.names[j].node
                    have hcnt2 := cntE_le (nn.names.take j) nn.names[j].node
                    have hcnt3 : (nn.names.take j).length ≤ 20 := by have := few.1; simp; omega
                    refine ⟨j + 1, rfl, by rw [wrapN (n := j + 1) (by simp) (by have := few.1; omega)], rfl, by omega, (l1.trans_nil l15).trans l6, ⟨_, Q6, fun k => ?_⟩, fun x hx => ?_⟩
                    · rw [lookI_put]
                      dsimp only
                      rw [List.take_succ_eq_append_getElem hj1]
                      unfold cntE
                      rw [List.filter_append, List.length_append]
                      by_cases hk : k = nn.names[j].node
                      · subst hk
                        have e1 : IntKind.i64.wrap (((cntN D nn.names[j].node + cntE (nn.names.take j) nn.names[j].node : Nat) : Int) + 1) = ((cntN D nn.names[j].node + (cntE (nn.names.take j) nn.names[j].node + 1) : Nat) : Int) := wrapN (by omega) (by omega)
                        unfold cntE at e1
                        rw [if_pos rfl, e1]
                        simp
                      · rw [if_neg hk, wq]
                        simp [cntE, Ne.symm hk]
                    · rw [List.take_succ_eq_append_getElem hj1, List.mem_append, List.mem_singleton] at hx
                      rcases hx with hx | rfl
                      · exact in1 x hx
                      · rw [w1]; simp
                · conv => whnf
                  have hj1 : j = nn.names.length := by simp at hc; omega
                  subst hj1
                  rw [List.take_length] at Q1 in1
                  refine ⟨(R1 ++ R2).length, by simp, ?_⟩
                  conv => whnf
                  refine ⟨(R1 ++ R2, N1 ++ N2, nn :: D), rfl, rfl, rfl, ((k6.trans (k7.mono (by simp))).trans_nil k79).trans (l1.mono (by simp)), ⟨_, I9.keep l1 (by simp; omega) (by simp; omega)⟩, q7, ?_, ?_, ?_⟩
                  · refine List.Perm.trans ?_ pm
                    simp only [List.cons_append]
                    rw [← List.append_assoc, ← List.append_assoc]
                    exact List.perm_middle.symm
                  · obtain ⟨mm, Q, w⟩ := Q1
                    exact ⟨mm, Q, fun k => by rw [w]; simp only [cntN, if_pos hd']; congr 2; omega⟩
                  · intro x hx
                    simp only [List.mem_cons] at hx
                    rcases hx with rfl | hx
                    · exact fun _ => in1
                    · exact in6 x hx
end Go.Proofs.Ytegagciipigkbaa
