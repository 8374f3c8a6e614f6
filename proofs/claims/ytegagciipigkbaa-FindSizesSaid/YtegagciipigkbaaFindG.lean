/-
  Find: how many bytes there are below a path.
-/
import Derived.Test.YtegagciipigkbaaFindF
set_option linter.all false
namespace Go.Proofs.Ytegagciipigkbaa
open Go Go.Eng

/-- what 'Size' has reckoned: is the path there; which numbers were seen; the sum -/
structure Sum where
  there : Bool
  seen : List Int
  n : Int

def headOf (path : ByteArray) : ByteArray := if path = ⟨#[47]⟩ then path else path ++ ⟨#[47]⟩

/-- is a path at or below another? -/
def under (path : ByteArray) (s : Spot) : Bool := decide (s.path = path) || headP s.path (headOf path)

def stepS (path : ByteArray) (t : Sum) (s : Spot) : Sum :=
  let there := t.there || decide (s.path = path)
  if s.node.id ∈ t.seen ∨ under path s = false then { t with there := there }
  else ⟨there, t.seen ++ [s.node.id], if s.node.kind = 2 then t.n else t.n + s.node.data.size⟩

def sumP (path : ByteArray) (l : List Spot) : Sum := l.foldl (stepS path) ⟨false, [], 0⟩

theorem size0_spec (N : List Nd) (a : Option Addr) (n c : Nat) (path : ByteArray) (hp : okStr path) (h : Heap) (S : Sl h a n c N) (fit : Fit N) (ap : Apart N) :
    CallH Try.prog 8 [.slice a n c, .string path] h (fun v h' => Keeps [] h h' ∧ v = .tuple #[.int .i64 (if (sumP path (spotsP N)).there then (sumP path (spotsP N)).n else 0), .bool (sumP path (spotsP N)).there]) := by
  refine call_of hmix Try.func8 rfl ok8 (by simp [Try.f8]) ?_
  have hp' : path.size ≤ 140737488351232 := hp
  conv => whnf
  refine Need.i (show path.size + 1 ≤ 9223372036854775807 by omega) ?_
  conv => whnf
  refine MeetR.share (fun e bx h' => h' = h ∧ bx = [] ∧ ∃ x y z, e = [(0, .v (.slice a n c)), (1, .v (.string path)), (4, x), (5, y), (6, .v (.string (headOf path))), (15, z)]) (fun rest' H => ?_) ?_
  · conv => whnf
    refine IfR.i (fun hc => ?_) (fun hc => ?_)
    · conv => whnf
      have hc' : path = ⟨#[47]⟩ := by rw [toList_beq] at hc; simpa using hc
      exact H _ _ _ ⟨rfl, rfl, _, _, _, by rw [headOf, if_pos hc']⟩
    · conv => whnf
      have hc' : ¬ path = ⟨#[47]⟩ := by rw [toList_beq] at hc; simpa using hc
      exact H _ _ _ ⟨rfl, rfl, _, _, _, by rw [headOf, if_neg hc']⟩
  rintro e bx h' ⟨rfl, rfl, x, y, z, rfl⟩
  conv => whnf
  refine AllocR.i fun r h1 e1 s1 o1 k1 => ?_
  have M1 := MapL.new o1
  conv => whnf
  refine CallR.i (spots_spec N a n c h1 (S.keep k1) fit ap) fun v h2 k2 hv => ?_
  obtain ⟨sa, sn, sc, rfl, SS, few⟩ := hv
  have M2 := M1.keep k2 (by simp)
  conv => whnf
  have hsn := SS.hlen
  generalize spotsP N = s at SS hsn ⊢
  let T := fun (i : Nat) => sumP path (s.take i)
  refine LoopR.on [1, 6, 7, 8, 9, 19, 20, 21] [] (fun i : Nat => [(1, .v (.string path)), (6, .v (.string (headOf path))), (7, .v (.map (some r))), (8, .v (.int .i64 (T i).n)), (9, .v (.bool (T i).there)), (19, .v (.slice sa sn sc)), (20, .v (.int .i64 sn)), (21, .v (.int .i64 (i : Int)))])
    (fun _ => []) (fun i h' => i ≤ sn ∧ Keeps [r] h2 h' ∧ MapL h' r (setV (T i).seen) ∧ 0 ≤ (T i).n ∧ (T i).n ≤ i * 140737488351232) (fun i => sn - i) 0 ?_ ?_
  · conv => whnf
    exact ⟨0, rfl, rfl, rfl, Nat.zero_le _, Keeps.refl _ _, M2, by simp [T, sumP], by simp [T, sumP]⟩
  · rintro i h3 ⟨hi, k3, M3, n1, n2⟩
    have k03 : Keeps [] h' h3 := (k1.trans k2).trans_new k3 (by intro x hx; simp at hx; right; omega)
    conv => whnf
    refine IfR.i (fun hc => ?_) (fun hc => ?_)
    · have hi1 : i < s.length := by simp at hc; omega
      have hst : T (i + 1) = stepS path (T i) s[i] := by
        simp only [T, sumP]
        rw [List.take_succ_eq_append_getElem hi1, List.foldl_append]; rfl
      generalize T i = t at *
      obtain ⟨bn, on, han, cs, hr, hcn⟩ := SS.at_ i hi1
      obtain ⟨na, nn, nc, rfl, y1, y2⟩ := hr
      have rlt := M2.lt
      have hbr := hcn.neMap (by simp) M2
      have hcn3 := hcn.keepM k3 (by simpa using hbr)
      conv => whnf
      refine MeetR.pass ?_
      conv => whnf
      refine IdxS.i i rfl (by omega) han ?_
      conv => whnf
      refine LoadN.i (vs := [.string s[i].path, .string s[i].name, .int .i64 s[i].deep, .int .i64 s[i].node.id, .int .i64 s[i].node.kind, .int .i64 s[i].node.links, .string s[i].node.data, .slice na nn nc]) rfl (fun j hj => hcn3 j hj) ?_
      conv => whnf
      refine AllocR.i fun b4 h4 e4 s4 o4 k4 => ?_
      conv => whnf
      refine BoxR.i fun h5 s5 k5 => ?_
      have k35 : Keeps [] h3 h5 := k4.trans_new k5 (by intro x hx; simp at hx; right; omega)
      have M5 := M3.keep k35 (by simp)
      conv => whnf
      refine LookR.z (.bool false) M5 rfl (setV_get _ _) ?_
      conv => whnf
      have thereE : (bif t.there then true else s[i].path.toList == path.toList) = (t.there || decide (s[i].path = path)) := by rw [toList_beq, bif_or]
      have leb : ((i + 1 : Nat) : Int) * 140737488351232 = (i : Int) * 140737488351232 + 140737488351232 := by rw [Int.natCast_add, Int.add_mul]; simp
      have skip : (s[i].node.id ∈ t.seen ∨ under path s[i] = false) → T (i + 1) = { t with there := t.there || decide (s[i].path = path) } := by
        intro hs; rw [hst]; unfold stepS; rw [if_pos hs]
      have more : s[i].node.id ∉ t.seen → under path s[i] = true → T (i + 1) = ⟨t.there || decide (s[i].path = path), t.seen ++ [s[i].node.id], if s[i].node.kind = 2 then t.n else t.n + s[i].node.data.size⟩ := by
        intro hs hu; rw [hst]; unfold stepS; rw [if_neg (by simp [hs, hu])]
      have dsz : s[i].node.data.size ≤ 140737488351232 := y1.2.2.2.2.2.2
      refine IfR.i (fun hq => ?_) (fun hq => ?_)
      · conv => whnf
        refine CallR.i (head_spec s[i].path (headOf path) h5) fun v h6 k6 hv => ?_
        subst hv
        have k36 := k35.trans k6
        have hq1 : s[i].node.id ∉ t.seen ∧ ¬ s[i].path = path := by rw [toList_beq] at hq; simpa using hq
        have hun : under path s[i] = headP s[i].path (headOf path) := by unfold under; simp [hq1.2]
        conv => whnf
        refine IfR.i (fun hd => ?_) (fun hd => ?_)
        · conv => whnf
          have hs := skip (by right; rw [hun]; rw [toList_beq] at hd; simpa [bif_or, bif_and, hq1] using hd)
          refine ⟨sn - (i + 1), by omega, ?_⟩
          conv => whnf
          refine ⟨i + 1, rfl, ?_, rfl, by omega, k3.trans_nil k36, ?_, ?_, ?_⟩
          · rw [hs, thereE, wrapN (n := i + 1) (by simp) (by omega)]
          · rw [hs]; exact M3.keep k36 (by simp)
          · rw [hs]; exact n1
          · rw [hs, leb]; simp only; omega
        · have hs := more hq1.1 (by rw [hun]; rw [toList_beq] at hd; simpa [bif_or, bif_and, hq1] using hd)
          conv => whnf
          refine SemR.put rfl rfl (M3.keep k36 (by simp)) ?_ fun h7 s7 M7 k7 => ?_
          · intro hb
            have hb2 : r ∈ [b4] := hb
            simp only [List.mem_singleton] at hb2
            have := k3.size
            omega
          rw [setV_put _ _ hq1.1] at M7
          conv => whnf
          refine IfR.i (fun hk => ?_) (fun hk => ?_)
          · have hk' : ¬ s[i].node.kind = 2 := by simpa using hk
            rw [if_neg hk'] at hs
            conv => whnf
            refine ⟨sn - (i + 1), by omega, ?_⟩
            conv => whnf
            refine ⟨i + 1, rfl, ?_, rfl, by omega, (k3.trans_nil k36).trans k7, ?_, ?_, ?_⟩
            · rw [hs, thereE, wrapN (x := (i : Int) + 1) (n := i + 1) (by simp) (by omega), wrapI (x := t.n + s[i].node.data.size) (by omega) (by omega)]
            · rw [hs]; exact M7
            · rw [hs]; simp only; omega
            · rw [hs, leb]; simp only; omega
          · have hk' : s[i].node.kind = 2 := by simpa using hk
            rw [if_pos hk'] at hs
            conv => whnf
            refine ⟨sn - (i + 1), by omega, ?_⟩
            conv => whnf
            refine ⟨i + 1, rfl, ?_, rfl, by omega, (k3.trans_nil k36).trans k7, ?_, ?_, ?_⟩
            · rw [hs, thereE, wrapN (n := i + 1) (by simp) (by omega)]
            · rw [hs]; exact M7
            · rw [hs]; exact n1
            · rw [hs, leb]; simp only; omega
      · conv => whnf
        have hq1 : s[i].node.id ∈ t.seen ∨ s[i].path = path := by
          rw [toList_beq] at hq
          simp at hq
          by_cases h : s[i].node.id ∈ t.seen
          · exact .inl h
          · exact .inr (hq h)
        refine IfR.i (fun hd => ?_) (fun hd => ?_)
        · conv => whnf
          have hs := skip (by
            left
            rw [toList_beq] at hd
            simp [bif_or, bif_and] at hd
            rcases hd with h | h
            · exact h
            · rcases hq1 with h1 | h1
              · exact h1
              · exact absurd h1 h)
          refine ⟨sn - (i + 1), by omega, ?_⟩
          conv => whnf
          refine ⟨i + 1, rfl, ?_, rfl, by omega, k3.trans_nil k35, ?_, ?_, ?_⟩
          · rw [hs, thereE, wrapN (n := i + 1) (by simp) (by omega)]
          · rw [hs]; exact M5
          · rw [hs]; exact n1
          · rw [hs, leb]; simp only; omega
        · have hq2 : s[i].node.id ∉ t.seen ∧ s[i].path = path := by
            rw [toList_beq] at hd
            simp [bif_or, bif_and] at hd
            refine ⟨hd.1, ?_⟩
            rcases hq1 with h1 | h1
            · exact absurd h1 hd.1
            · exact h1
          have hs := more hq2.1 (by unfold under; simp [hq2.2])
          conv => whnf
          refine SemR.put rfl rfl M5 ?_ fun h7 s7 M7 k7 => ?_
          · intro hb
            have hb2 : r ∈ [b4] := hb
            simp only [List.mem_singleton] at hb2
            have := k3.size
            omega
          rw [setV_put _ _ hq2.1] at M7
          conv => whnf
          refine IfR.i (fun hk => ?_) (fun hk => ?_)
          · have hk' : ¬ s[i].node.kind = 2 := by simpa using hk
            rw [if_neg hk'] at hs
            conv => whnf
            refine ⟨sn - (i + 1), by omega, ?_⟩
            conv => whnf
            refine ⟨i + 1, rfl, ?_, rfl, by omega, (k3.trans_nil k35).trans k7, ?_, ?_, ?_⟩
            · rw [hs, thereE, wrapN (x := (i : Int) + 1) (n := i + 1) (by simp) (by omega), wrapI (x := t.n + s[i].node.data.size) (by omega) (by omega)]
            · rw [hs]; exact M7
            · rw [hs]; simp only; omega
            · rw [hs, leb]; simp only; omega
          · have hk' : s[i].node.kind = 2 := by simpa using hk
            rw [if_pos hk'] at hs
            conv => whnf
            refine ⟨sn - (i + 1), by omega, ?_⟩
            conv => whnf
            refine ⟨i + 1, rfl, ?_, rfl, by omega, (k3.trans_nil k35).trans k7, ?_, ?_, ?_⟩
            · rw [hs, thereE, wrapN (n := i + 1) (by simp) (by omega)]
            · rw [hs]; exact M7
            · rw [hs]; exact n1
            · rw [hs, leb]; simp only; omega
    · conv => whnf
      have hi1 : i = s.length := by simp at hc; omega
      subst hi1
      refine IfR.i (fun hd => ?_) (fun hd => ?_)
      · conv => whnf
        have hf : (sumP path s).there = false := by
          have : (T s.length).there = false := by simpa using hd
          simpa [T] using this
        exact ⟨k03, by rw [hf]; rfl⟩
      · conv => whnf
        have hf : (sumP path s).there = true := by
          have : (T s.length).there = true := by simpa using hd
          simpa [T] using this
        refine ⟨k03, ?_⟩
        rw [hf]
        simp [T]
end Go.Proofs.Ytegagciipigkbaa
