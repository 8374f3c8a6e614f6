/-
  Layer 10's law: a step.
-/
import Derived.Test.YtlloemmpnhoanaaGreatFileP
set_option linter.all false
set_option maxRecDepth 100000
set_option maxHeartbeats 1000000
namespace Go.Proofs.YtlloemmpnhoanaaGreat
open Go Go.Eng

def kindP (k : Int) : Int := (k % 18446744073709551616) % 3

theorem kind10_spec (k a n : Int) (s : ByteArray) (h : Heap) : CallH Tryz.prog 19 [.agg ⟨[.int .i64 k, .int .i64 a, .int .i64 n, .string s]⟩] h (fun v h' => Keeps [] h h' ∧ v = .int .i64 (kindP k)) := by
  refine call_of hmix Tryz.func19 rfl ok19 (by simp [Tryz.f19]) ?_
  conv => whnf
  refine AllocR.i fun b1 h1 e1 s1 o1 k1 => ?_
  conv => whnf
  refine Need.i (by decide) ?_
  conv => whnf
  refine ⟨k1, ?_⟩
  unfold kindP
  rw [wrap_u64', Int.tmod_eq_emod_of_nonneg (by omega), wrapI (by omega) (by omega)]

/-- what a step leaves -/
structure Left (h h' : Heap) (f : Nat) (V : VL) (M : MemS) (node : Int) (m : List Int) (s : List UInt8) (cut : Option Int) (V' : VL) (M' : MemS) (c' : Crd) (m' : List Int) (s' : List UInt8) : Prop where
  idle : Idle h' V' M'
  file : FileO h' f V' node c' s'
  good : FileI M'.read node c' m' s'
  out : f ∉ V'.blocks
  v : V'.v = V.v
  mem : V'.mem = V.mem
  new : ∀ b ∈ V'.blocks, b ∈ V.blocks ∨ h.size ≤ b
  fr : Fr node M.read M'.read
  cut_ : ∀ a, cut = some a → s' = (refCutL s a).1 ∧ ∀ j : Nat, j < 21 → m[j]?.getD (-1) = -1 → m'[j]?.getD (-1) = -1

theorem left_same {h h' : Heap} {f : Nat} {V : VL} {M : MemS} {node : Int} {c : Crd} {m : List Int} {s : List UInt8} (I : Idle h V M) (hf : FileO h f V node c s) (F : FileI M.read node c m s) (ho : f ∉ V.blocks) (k : Keeps [] h h') : Left h h' f V M node m s none V M c m s :=
  ⟨I.on k, k.obj hf (by simp), F, ho, rfl, rfl, fun b hb => .inl hb, Fr.refl _ _, fun a h => by cases h⟩

/-- behind 'end' -/
theorem left_end {h h1 h' : Heap} {f : Nat} {V : VL} {M : MemS} {node : Int} {c0 c1 : Crd} {m : List Int} {s0 s1 : List UInt8} {e g : Int} {X1 : VS} {cut : Option Int} (I : Idle h V M) (F : FileI M.read node c0 m s0) (ho : f ∉ V.blocks) (hfl : f < h.size) (hz : h.size ≤ h1.size)
    (hX : X1.away = [] ∧ X1.awayN = [])
    (hok : e = 0 ∧ g = 0 → ∃ m', FileI X1.now node c1 m' s1 ∧ Fr node M.read X1.now ∧ ∀ a, cut = some a → s1 = (refCutL s0 a).1 ∧ ∀ j : Nat, j < 21 → m[j]?.getD (-1) = -1 → m'[j]?.getD (-1) = -1)
    (hcut : cut ≠ none → e = 0 ∧ g = 0)
    (P : ∃ ob sb mb M', h1.size ≤ ob ∧ h1.size ≤ sb ∧ h1.size ≤ mb ∧ M'.until_ = -1 ∧ M'.sure.length = 2824 ∧ M'.read = (if e = 0 ∧ g = 0 then X1.now else M.read) ∧ At h' { V with ob := ob, sb := sb, mb := mb } M' { X1 with now := M'.read, seen := [], mine := [] } ∧
        h'[f]? = some (.cells ⟨fileC V node (if e = 0 ∧ g = 0 then c1 else c0) (if e = 0 ∧ g = 0 then ⟨s1.toArray⟩ else ⟨s0.toArray⟩)⟩ 41 (0, 0))) :
    ∃ V' M' c' m' s', Left h h' f V M node m s0 cut V' M' c' m' s' := by
  obtain ⟨ob, sb, mb, M', g1, g2, g3, g4, g5, g6, A7, f7⟩ := P
  rw [hX.1, hX.2] at A7
  have hb : ∀ b ∈ ({ V with ob := ob, sb := sb, mb := mb } : VL).blocks, b ∈ V.blocks ∨ h.size ≤ b := by
    intro b hb
    simp only [VL.blocks, List.mem_cons] at hb ⊢
    rcases hb with rfl | rfl | rfl | rfl | hb
    · exact .inl (.inl rfl)
    · right; omega
    · right; omega
    · right; omega
    · exact .inl (.inr (.inr (.inr (.inr hb))))
  have hout : f ∉ ({ V with ob := ob, sb := sb, mb := mb } : VL).blocks := fun hx => by
    rcases hb f hx with h | h
    · exact ho h
    · omega
  have I7 : Idle h' { V with ob := ob, sb := sb, mb := mb } M' := ⟨A7, I.ab, I.anb, g4, g5⟩
  by_cases hc : e = 0 ∧ g = 0
  · obtain ⟨m', G, R, C⟩ := hok hc
    rw [if_pos hc] at g6
    rw [if_pos hc, if_pos hc] at f7
    exact ⟨_, M', c1, m', s1, I7, f7, by rw [g6]; exact G, hout, rfl, rfl, hb, by rw [g6]; exact R, C⟩
  · rw [if_neg hc] at g6
    rw [if_neg hc, if_neg hc] at f7
    exact ⟨_, M', c0, m, s0, I7, f7, by rw [g6]; exact F, hout, rfl, rfl, hb, by rw [g6]; exact Fr.refl _ _, fun a h => absurd (hcut (by rw [h]; simp)) hc⟩

def SameAw (X Y : VS) : Prop := Y.away = X.away ∧ Y.awayN = X.awayN
theorem takeP_aw (B : Int → UInt64) (X : VS) (node : Int) : SameAw X (takeP B X node).2.2 := by
  unfold takeP
  split
  · split <;> exact ⟨rfl, rfl⟩
  · exact ⟨rfl, rfl⟩
theorem dropP_aw (X : VS) (k : Int) : SameAw X (dropP X k).2 := by
  unfold dropP
  split
  · split <;> exact ⟨rfl, rfl⟩
  · exact ⟨rfl, rfl⟩
theorem keepP_aw (B : Int → UInt64) (X : VS) (node : Int) (c : Crd) (m : List Int) : SameAw X (keepP B X node c m).2.2 := by
  have ht := takeP_aw B X node
  have hd := dropP_aw X c.more
  unfold keepP
  split
  · split
    · split
      · exact ⟨rfl, rfl⟩
      · split
        · exact hd
        · exact hd
    · by_cases hm : c.more = -1
      · simp only [if_pos hm]
        split
        · simp only
          split <;> exact ht
        · exact ht
      · simp only [if_neg hm, if_true]
        split <;> exact ⟨rfl, rfl⟩
  · exact ⟨rfl, rfl⟩
theorem wStep_aw (B : Int → UInt64) (node : Int) (a : Nat) (data : List UInt8) (i : Nat) (X : VS) (m : List Int) : SameAw X (wStep B node a data i X m).2.1 := by
  have ht := takeP_aw B X node
  unfold wStep
  by_cases hm : m[i]?.getD 0 = -1
  · simp only [if_pos hm]
    split <;> exact ht
  · simp only [if_neg hm, if_true]
    exact ⟨rfl, rfl⟩
theorem writeL_aw (B : Int → UInt64) (node : Int) (a : Nat) (data : List UInt8) : ∀ (f i : Nat) (X : VS) (m : List Int), SameAw X (writeL B node a data f i X m).2.1
  | 0, i, X, m => ⟨rfl, rfl⟩
  | f + 1, i, X, m => by
    have h1 := wStep_aw B node a data i X m
    unfold writeL
    split
    · have h2 := writeL_aw B node a data f (i + 1) (wStep B node a data i X m).2.1 (wStep B node a data i X m).2.2
      exact ⟨h2.1.trans h1.1, h2.2.trans h1.2⟩
    · exact h1
theorem writeP_aw (B : Int → UInt64) (X : VS) (node : Int) (c : Crd) (at_ : Int) (data : List UInt8) : SameAw X (writeP B X node c at_ data).2.2 := by
  unfold writeP
  split
  · exact ⟨rfl, rfl⟩
  · split
    · split <;> exact ⟨rfl, rfl⟩
    · split
      · exact ⟨rfl, rfl⟩
      · split
        · exact ⟨rfl, rfl⟩
        · rename_i m _
          have h1 := writeL_aw B node at_.toNat data ((at_.toNat + data.length + 127) / 128 - at_.toNat / 128) (at_.toNat / 128) X m
          simp only
          split
          · have h2 := keepP_aw B (writeL B node at_.toNat data ((at_.toNat + data.length + 127) / 128 - at_.toNat / 128) (at_.toNat / 128) X m).2.1 node { c with size := max c.size (at_ + data.length) } (writeL B node at_.toNat data ((at_.toNat + data.length + 127) / 128 - at_.toNat / 128) (at_.toNat / 128) X m).2.2
            exact ⟨h2.1.trans h1.1, h2.2.trans h1.2⟩
          · exact h1
theorem cutStep_aw (z : Nat) (size : Int) (i : Nat) (X : VS) (m : List Int) : SameAw X (cutStep z size i X m).2.1 := by
  unfold cutStep
  split
  · exact ⟨rfl, rfl⟩
  · split
    · exact dropP_aw X _
    · exact ⟨rfl, rfl⟩
theorem cutL_aw (z : Nat) (size : Int) : ∀ (f i : Nat) (X : VS) (m : List Int), SameAw X (cutL z size f i X m).2.1
  | 0, i, X, m => ⟨rfl, rfl⟩
  | f + 1, i, X, m => by
    have h1 := cutStep_aw z size i X m
    unfold cutL
    split
    · have h2 := cutL_aw z size f (i + 1) (cutStep z size i X m).2.1 (cutStep z size i X m).2.2
      exact ⟨h2.1.trans h1.1, h2.2.trans h1.2⟩
    · exact h1
theorem cutP_aw (B : Int → UInt64) (X : VS) (node : Int) (c : Crd) (size : Int) : SameAw X (cutP B X node c size).2.2 := by
  unfold cutP
  split
  · exact ⟨rfl, rfl⟩
  · split
    · exact ⟨rfl, rfl⟩
    · split
      · exact ⟨rfl, rfl⟩
      · rename_i m _
        have h1 := cutL_aw size.toNat c.size 21 0 X m
        simp only
        split
        · have h2 := keepP_aw B (cutL size.toNat c.size 21 0 X m).2.1 node { c with size := size } (cutL size.toNat c.size 21 0 X m).2.2
          exact ⟨h2.1.trans h1.1, h2.2.trans h1.2⟩
        · exact h1

theorem step_spec {h : Heap} {V : VL} {M : MemS} (I : Idle h V M) {f : Nat} {node : Int} (hn : 0 ≤ node ∧ node < 24) {c : Crd} {m : List Int} {s : List UInt8} (hf : FileO h f V node c s) (F : FileI M.read node c m s) (ho : f ∉ V.blocks) (k a n : Int) (data : List UInt8) (hdl : data.length ≤ 140737488351232) :
    CallH Tryz.prog 9 [.pointer (some ⟨f, 0, none⟩), .agg ⟨[.int .i64 k, .int .i64 a, .int .i64 n, .string ⟨data.toArray⟩]⟩] h (fun v h' => Keeps [f, V.v, V.mem.m, V.mem.lb, V.ob] h h' ∧ v = .bool true ∧
      ∃ V' M' c' m' s', Left h h' f V M node m s (if kindP k = 1 ∧ 0 ≤ a ∧ a ≤ 2688 then some a else none) V' M' c' m' s') := by
  have hfl : f < h.size := obj_lt hf
  have hfo := hf
  unfold FileO at hf
  rw [own_cells] at hf
  refine call_of hmix Tryz.func9 rfl ok9 (by simp [Tryz.f9]) ?_
  conv => whnf
  refine AllocR.i fun b1 h1 e1 s1 o1 k1 => ?_
  conv => whnf
  refine CallR.i (kind10_spec k a n _ h1) fun v h2 k2 hv => ?_
  subst hv
  have k02 := k1.trans k2
  have I2 := I.on k02
  have f2 := k02.obj hf (by simp)
  have fo2 : FileO h2 f V node c s := k02.obj hfo (by simp)
  have z1 := k2.size
  conv => whnf
  refine IfR.i (fun hk0 => ?_) (fun hk0 => ?_)
  · have hk : ¬ (kindP k = 1 ∧ 0 ≤ a ∧ a ≤ 2688) := by
      have : kindP k = 0 := by simpa using hk0
      omega
    rw [if_neg hk]
    conv => whnf
    refine LoadR.o f2 rfl ?_
    conv => whnf
    refine LoadR.o f2 rfl ?_
    conv => whnf
    refine LoadN.o f2 rfl ?_
    have HP := writeP_plain (B := M.read) (X := ⟨M.read, [], [], [], []⟩) hn F a data
    have hxa : (writeP M.read ⟨M.read, [], [], [], []⟩ node c a data).2.2.away = [] ∧ (writeP M.read ⟨M.read, [], [], [], []⟩ node c a data).2.2.awayN = [] := writeP_aw M.read ⟨M.read, [], [], [], []⟩ node c a data
    have WS : ∀ hx, At hx V M ⟨M.read, [], [], [], []⟩ → CallH Tryz.prog 18 [.pointer (some ⟨V.v, 0, none⟩), .int .i64 node, .agg ⟨c.cells⟩, .int .i64 a, .string ⟨data.toArray⟩] hx (fun v h' => Keeps [V.ob] hx h' ∧
        v = .tuple #[.agg ⟨(writeP M.read ⟨M.read, [], [], [], []⟩ node c a data).1.cells⟩, .int .i64 (writeP M.read ⟨M.read, [], [], [], []⟩ node c a data).2.1] ∧ At h' V M (writeP M.read ⟨M.read, [], [], [], []⟩ node c a data).2.2) := fun hx Ax => write_spec Ax node c F.ok F.okMap a data
    generalize writeP M.read ⟨M.read, [], [], [], []⟩ node c a data = R at WS HP hxa
    obtain ⟨c3, e3, X3⟩ := R
    simp only at WS HP hxa
    have hob : V.ob < h.size := I.at_.blt _ (by simp [VL.blocks])
    have obf : f ≠ V.ob := fun e => ho (e ▸ by simp [VL.blocks])
    conv => whnf
    refine BothR.i ?c1 ?c2
    case' c1 =>
      conv => whnf
      refine CallR.m (WS h2 I2.at_) ?_ fun v h3 k3 hv => ?_
      · intro y hy hx
        have hy2 : y = b1 := by simpa [blocksOf, setB] using hy
        simp at hx; omega
      obtain ⟨rfl, A3⟩ := hv
      conv => whnf
      refine AllocR.i fun b4 h4 e4 s4 o4 k4 => ?_
      have z3 := k3.size
      conv => whnf
      refine BoxR.i fun h5 s5 k5 => ?_
      have k25 : Keeps [V.ob] h2 h5 := (k3.trans_nil k4).m1 k5 (by omega)
      have hb4 : h2.size ≤ b4 := by omega
      have A5 := (A3.on k4).keep k5 (fun b hb => by have := I2.at_.blt b hb; simp; omega)
    case' c2 =>
      conv => whnf
      refine AllocR.i fun b4 h4 e4 s4 o4 k4 => ?_
      conv => whnf
      refine CallR.m (WS h4 (I2.at_.on k4)) ?_ fun v h3 k3 hv => ?_
      · intro y hy hx
        have hy2 : y = b1 ∨ y = b4 := by simpa [blocksOf, setB] using hy
        simp at hx; omega
      obtain ⟨rfl, A3⟩ := hv
      have z3 := k3.size
      conv => whnf
      refine BoxR.i fun h5 s5 k5 => ?_
      have k25 : Keeps [V.ob] h2 h5 := ((k4.mono (by simp)).trans k3).m1 k5 (by omega)
      have hb4 : h2.size ≤ b4 := by omega
      have A5 := A3.keep k5 (fun b hb => by have := I2.at_.blt b hb; simp; omega)
    all_goals
      have f5 := k25.obj f2 (by simpa using obf)
      have fo5 := k25.obj fo2 (by simpa using obf)
      conv => whnf
      refine LoadR.o f5 rfl ?_
      conv => whnf
      refine CallR.i (refWrite10_spec s F.fits a data hdl h5) fun v h6 k6 hv => ?_
      subst hv
      have fo6 := k6.obj fo5 (by simp)
      have FS := fend_spec (A5.on k6) I.ab I.anb I.calm I.size fo6 ho c3 ⟨(refWriteL s a data).1.toArray⟩ e3 (refWriteL s a data).2
      have z2 := k25.size
      have z6 := k6.size
      conv => whnf
      refine CallR.m FS ?_ ?_
      · intro y hy hx
        have hy2 : y = b1 ∨ y = b4 := by simpa [blocksOf, setB] using hy
        have q1 := I.at_.blt V.v (by simp [VL.blocks])
        have q2 := I.at_.blt V.mem.m (by simp [VL.blocks, ML.blocks])
        have q3 := I.at_.blt V.mem.lb (by simp [VL.blocks, ML.blocks])
        simp only [List.mem_cons, List.not_mem_nil, or_false] at hx
        omega
      · intro v h7 k7 hv
        obtain ⟨rfl, P⟩ := hv
        conv => whnf
        refine ⟨?_, ?_, left_end I F ho hfl (by omega) hxa ?_ (by simp) P⟩
        · exact ((k02.mono (by simp)).trans (k25.mono (by simp))).trans ((k6.mono (by simp)).trans (k7.mono (by simp)))
        · congr 1
          rcases HP with ⟨p1, p2, _⟩ | ⟨p1, _⟩
          · rw [p1, p2]; rfl
          · rw [p1]; simp
        · rintro ⟨p1, p2⟩
          rcases HP with ⟨p3, _⟩ | ⟨_, p4⟩
          · rw [p1] at p3; cases p3
          · obtain ⟨m', W⟩ := p4 p2
            exact ⟨m', W.file, W.fr, fun a h => by cases h⟩
  · conv => whnf
    refine IfR.i (fun hk1 => ?_) (fun hk1 => ?_)
    · have hk1 : kindP k = 1 := by simpa using hk1
      have href0 : 0 ≤ a ∧ a ≤ 2688 → (refCutL s a).2 = 0 := by
        intro ⟨x, y⟩
        unfold refCutL
        rw [if_neg (by omega), if_neg (by omega)]
        split <;> rfl
      conv => whnf
      refine LoadR.o f2 rfl ?_
      conv => whnf
      refine LoadR.o f2 rfl ?_
      conv => whnf
      refine LoadN.o f2 rfl ?_
      have HP := cutP_plain (B := M.read) (X := ⟨M.read, [], [], [], []⟩) hn F a
      have hxa : (cutP M.read ⟨M.read, [], [], [], []⟩ node c a).2.2.away = [] ∧ (cutP M.read ⟨M.read, [], [], [], []⟩ node c a).2.2.awayN = [] := cutP_aw M.read ⟨M.read, [], [], [], []⟩ node c a
      have WS : ∀ hx, At hx V M ⟨M.read, [], [], [], []⟩ → CallH Tryz.prog 22 [.pointer (some ⟨V.v, 0, none⟩), .int .i64 node, .agg ⟨c.cells⟩, .int .i64 a] hx (fun v h' => Keeps [V.ob] hx h' ∧
          v = .tuple #[.agg ⟨(cutP M.read ⟨M.read, [], [], [], []⟩ node c a).1.cells⟩, .int .i64 (cutP M.read ⟨M.read, [], [], [], []⟩ node c a).2.1] ∧ At h' V M (cutP M.read ⟨M.read, [], [], [], []⟩ node c a).2.2) := fun hx Ax => cut_spec Ax node c F.ok F.okMap a
      generalize cutP M.read ⟨M.read, [], [], [], []⟩ node c a = R at WS HP hxa
      obtain ⟨c3, e3, X3⟩ := R
      simp only at WS HP hxa
      have hob : V.ob < h.size := I.at_.blt _ (by simp [VL.blocks])
      have obf : f ≠ V.ob := fun e => ho (e ▸ by simp [VL.blocks])
      conv => whnf
      refine BothR.i ?d1 ?d2
      case' d1 =>
        conv => whnf
        refine CallR.m (WS h2 I2.at_) ?_ fun v h3 k3 hv => ?_
        · intro y hy hx
          have hy2 : y = b1 := by simpa [blocksOf, setB] using hy
          simp at hx; omega
        obtain ⟨rfl, A3⟩ := hv
        conv => whnf
        refine AllocR.i fun b4 h4 e4 s4 o4 k4 => ?_
        have z3 := k3.size
        conv => whnf
        refine BoxR.i fun h5 s5 k5 => ?_
        have k25 : Keeps [V.ob] h2 h5 := (k3.trans_nil k4).m1 k5 (by omega)
        have hb4 : h2.size ≤ b4 := by omega
        have A5 := (A3.on k4).keep k5 (fun b hb => by have := I2.at_.blt b hb; simp; omega)
      case' d2 =>
        conv => whnf
        refine AllocR.i fun b4 h4 e4 s4 o4 k4 => ?_
        conv => whnf
        refine CallR.m (WS h4 (I2.at_.on k4)) ?_ fun v h3 k3 hv => ?_
        · intro y hy hx
          have hy2 : y = b1 ∨ y = b4 := by simpa [blocksOf, setB] using hy
          simp at hx; omega
        obtain ⟨rfl, A3⟩ := hv
        have z3 := k3.size
        conv => whnf
        refine BoxR.i fun h5 s5 k5 => ?_
        have k25 : Keeps [V.ob] h2 h5 := ((k4.mono (by simp)).trans k3).m1 k5 (by omega)
        have hb4 : h2.size ≤ b4 := by omega
        have A5 := A3.keep k5 (fun b hb => by have := I2.at_.blt b hb; simp; omega)
      all_goals
        have f5 := k25.obj f2 (by simpa using obf)
        have fo5 := k25.obj fo2 (by simpa using obf)
        conv => whnf
        refine LoadR.o f5 rfl ?_
        conv => whnf
        refine CallR.i (refCut10_spec s F.fits a h5) fun v h6 k6 hv => ?_
        subst hv
        have fo6 := k6.obj fo5 (by simp)
        have FS := fend_spec (A5.on k6) I.ab I.anb I.calm I.size fo6 ho c3 ⟨(refCutL s a).1.toArray⟩ e3 (refCutL s a).2
        have z2 := k25.size
        have z6 := k6.size
        conv => whnf
        refine CallR.m FS ?_ ?_
        · intro y hy hx
          have hy2 : y = b1 ∨ y = b4 := by simpa [blocksOf, setB] using hy
          have q1 := I.at_.blt V.v (by simp [VL.blocks])
          have q2 := I.at_.blt V.mem.m (by simp [VL.blocks, ML.blocks])
          have q3 := I.at_.blt V.mem.lb (by simp [VL.blocks, ML.blocks])
          simp only [List.mem_cons, List.not_mem_nil, or_false] at hx
          omega
        · intro v h7 k7 hv
          obtain ⟨rfl, P⟩ := hv
          conv => whnf
          refine ⟨?_, ?_, left_end I F ho hfl (by omega) hxa ?_ ?_ P⟩
          · exact ((k02.mono (by simp)).trans (k25.mono (by simp))).trans ((k6.mono (by simp)).trans (k7.mono (by simp)))
          · congr 1
            rw [HP.1]; simp
          · rintro ⟨p1, p2⟩
            obtain ⟨m', G, R, _, Hh⟩ := HP.2 p2
            refine ⟨m', G, R, fun a' h => ?_⟩
            split at h
            · cases h
              exact ⟨rfl, fun j hj hm => (Hh j hj).2 (.inl hm)⟩
            · cases h
          · intro hne
            by_cases hk : kindP k = 1 ∧ 0 ≤ a ∧ a ≤ 2688
            · have := href0 hk.2
              exact ⟨HP.1.trans this, this⟩
            · rw [if_neg hk] at hne; exact absurd rfl hne
    · have hk : ¬ (kindP k = 1 ∧ 0 ≤ a ∧ a ≤ 2688) := by
        have : ¬ kindP k = 1 := by simpa using hk1
        omega
      rw [if_neg hk]
      conv => whnf
      refine LoadR.o f2 rfl ?_
      conv => whnf
      refine LoadN.o f2 rfl ?_
      conv => whnf
      refine CallR.i (fread_spec I2 F a n) fun v h3 k3 hv => ?_
      subst hv
      have f3 := k3.obj f2 (by simp)
      conv => whnf
      refine LoadR.o f3 rfl ?_
      conv => whnf
      refine CallR.i (refRead10_spec s F.fits a n h3) fun v h4 k4 hv => ?_
      subst hv
      conv => whnf
      have k04 := k02.trans (k3.trans k4)
      refine ⟨k04.mono (by simp), ?_, _, _, _, _, _, left_same I hfo F ho k04⟩
      rw [ba_eq]
      simp
end Go.Proofs.YtlloemmpnhoanaaGreat
