/-
  Joined texts: FomC, FomD, FomE, FomG, FomH.
-/
import Derived.Test.YteambknhlbiajaaGreatDoorJLawFAparti
import Derived.Test.YteambknhlbiajaaGreatDoorJLawFAparth
import Derived.Test.YteambknhlbiajaaGreatDoorJLawFApartf
/-
  Layer 11's laws: a step of a script over a directory.
-/
set_option linter.all false
set_option maxRecDepth 100000
set_option maxHeartbeats 1000000
namespace Go.Proofs.YteambknhlbiajaaGreatDoor
open Go Go.Eng

structure BookI (h : Heap) (F : List Nat) (f : Nat) (V : VL) (M : MemS) (node : Int) (c : Crd) (m : List Int) (l : List Ent) : Prop where
  good : DirI M.read node c m l
  out : f ∉ V.blocks
  mem : f ∈ F
  fl : ∀ x ∈ F, x < h.size
  obj : ∃ a n cc, DirO h f V node c a n cc ∧ Sl h a n cc l ∧ ∀ b ∈ blkA a, b ∉ V.blocks ∧ b ∉ F ∧ b < h.size

def entSays (x : Ent) (l l' : List Ent) : Prop := (1 ≤ x.node → l' = l ∨ (plT l x.name = false ∧ l' = insL l x)) ∧ (x.node < 1 → l' = if plT l x.name = true then l.eraseIdx (plK l x.name) else l)

structure BLeft (h h' : Heap) (F : List Nat) (f : Nat) (V : VL) (M : MemS) (node : Int) (x : Ent) (l : List Ent) (V' : VL) (M' : MemS) (c' : Crd) (m' : List Int) (l' : List Ent) : Prop where
  idle : Idle h' V' M'
  book : BookI h' F f V' M' node c' m' l'
  v : V'.v = V.v
  mem : V'.mem = V.mem
  new : ∀ b ∈ V'.blocks, b ∈ V.blocks ∨ h.size ≤ b
  fr : Fr node M.read M'.read
  says : entSays x l l'

theorem bookC_left {V V' : VL} (hv : V'.v = V.v) (hm : V'.mem = V.mem) {node : Int} {c : Crd} {a : Option Addr} {n cc : Nat} : bookC V' node c a n cc = bookC V node c a n cc := by
  unfold bookC
  rw [hv, hm]

/-- behind 'end' -/
theorem bleft_end {h h1 h' : Heap} {F : List Nat} {f : Nat} {V : VL} {M : MemS} {node : Int} {c0 c1 : Crd} {m : List Int} {l0 l1 : List Ent} {e g : Int} {X1 : VS} {x : Ent} (I : Idle h V M) (B : BookI h F f V M node c0 m l0) (hz : h.size ≤ h1.size)
    (hX : X1.away = [] ∧ X1.awayN = []) {a0 a1 : Option Addr} {n0 n1 q0 q1 : Nat}
    (S0 : Sl h a0 n0 q0 l0) (s0 : ∀ b ∈ blkA a0, b ∉ V.blocks ∧ b ∉ F ∧ b < h.size)
    (S1 : Sl h1 a1 n1 q1 l1) (s1 : ∀ b ∈ blkA a1, h.size ≤ b ∧ b < h1.size) (kk : Keeps [f, V.v, V.mem.m, V.mem.lb, V.ob] h h') (k1 : Keeps [f, V.v, V.mem.m, V.mem.lb] h1 h')
    (hok : e = 0 ∧ g = 0 → (∃ m', DirI X1.now node c1 m' l1) ∧ Fr node M.read X1.now ∧ entSays x l0 l1)
    (hno : ¬ (e = 0 ∧ g = 0) → entSays x l0 l0)
    (P : ∃ ob sb mb M', h1.size ≤ ob ∧ h1.size ≤ sb ∧ h1.size ≤ mb ∧ M'.until_ = -1 ∧ M'.sure.length = 2824 ∧ M'.read = (if e = 0 ∧ g = 0 then X1.now else M.read) ∧ At h' { V with ob := ob, sb := sb, mb := mb } M' { X1 with now := M'.read, seen := [], mine := [] } ∧
        h'[f]? = some (.cells ⟨if e = 0 ∧ g = 0 then bookC V node c1 a1 n1 q1 else bookC V node c0 a0 n0 q0⟩ 63 (0, 0))) :
    ∃ V' M' c' m' l', BLeft h h' F f V M node x l0 V' M' c' m' l' := by
  obtain ⟨ob, sb, mb, M', g1, g2, g3, g4, g5, g6, A7, f7⟩ := P
  rw [hX.1, hX.2] at A7
  have hb : ∀ b ∈ ({ V with ob := ob, sb := sb, mb := mb } : VL).blocks, b ∈ V.blocks ∨ h1.size ≤ b := by
    intro b hb
    simp only [VL.blocks, List.mem_cons] at hb ⊢
    rcases hb with rfl | rfl | rfl | rfl | hb
    · exact .inl (.inl rfl)
    · right; omega
    · right; omega
    · right; omega
    · exact .inl (.inr (.inr (.inr (.inr hb))))
  have hfl := B.fl
  have hf := hfl f B.mem
  have hlt := I.at_.blt
  have hz' := kk.size
  have hbl : ∀ b ∈ [f, V.v, V.mem.m, V.mem.lb, V.ob], b = f ∨ b ∈ V.blocks := by
    intro b hb
    simp only [List.mem_cons, List.not_mem_nil, or_false] at hb
    rcases hb with rfl | rfl | rfl | rfl | rfl
    · exact .inl rfl
    · exact .inr (by simp [VL.blocks])
    · exact .inr (by simp [VL.blocks, ML.blocks])
    · exact .inr (by simp [VL.blocks, ML.blocks])
    · exact .inr (by simp [VL.blocks])
  have hout : f ∉ ({ V with ob := ob, sb := sb, mb := mb } : VL).blocks := fun hx => by
    rcases hb f hx with h | h
    · exact B.out h
    · omega
  have I7 : Idle h' { V with ob := ob, sb := sb, mb := mb } M' := ⟨A7, I.ab, I.anb, g4, g5⟩
  have hnew : ∀ b ∈ ({ V with ob := ob, sb := sb, mb := mb } : VL).blocks, b ∈ V.blocks ∨ h.size ≤ b := fun b hx => by
    rcases hb b hx with h | h
    · exact .inl h
    · right; omega
  by_cases hc : e = 0 ∧ g = 0
  · obtain ⟨⟨m', G⟩, R, Y⟩ := hok hc
    rw [if_pos hc] at g6 f7
    refine ⟨_, M', c1, m', l1, I7, ⟨by rw [g6]; exact G, hout, B.mem, fun x hx => by have := hfl x hx; omega, a1, n1, q1, f7, S1.keepM k1 (fun b hx hy => ?_), fun b hx => ⟨fun hy => ?_, fun hy => ?_, ?_⟩⟩, rfl, rfl, hnew, by rw [g6]; exact R, Y⟩
    · have := s1 b hx
      rcases hbl b (by simp only [List.mem_cons, List.not_mem_nil, or_false] at hy ⊢; rcases hy with h | h | h | h <;> simp [h]) with h | h
      · omega
      · have := hlt b h; omega
    · have := s1 b hx
      rcases hb b hy with h | h
      · have := hlt b h; omega
      · omega
    · have := s1 b hx
      have := hfl b hy; omega
    · have := s1 b hx
      have := k1.size; omega
  · rw [if_neg hc] at g6 f7
    refine ⟨_, M', c0, m, l0, I7, ⟨by rw [g6]; exact B.good, hout, B.mem, fun x hx => by have := hfl x hx; omega, a0, n0, q0, f7, S0.keepM kk (fun b hx hy => ?_), fun b hx => ⟨fun hy => ?_, (s0 b hx).2.1, ?_⟩⟩, rfl, rfl, hnew, by rw [g6]; exact Fr.refl _ _, hno hc⟩
    · obtain ⟨p1, p2, p3⟩ := s0 b hx
      rcases hbl b hy with h | h
      · exact p2 (h ▸ B.mem)
      · exact p1 h
    · obtain ⟨p1, p2, p3⟩ := s0 b hx
      rcases hb b hy with h | h
      · exact p1 h
      · omega
    · have := s0 b hx; omega

/-! ### What was freed stays told -/

def SameAw (X Y : VS) : Prop := Y.away = X.away ∧ Y.awayN = X.awayN
theorem takeP_aw (B : Int → UInt64) (X : VS) (node : Int) : SameAw X (takeP B X node).2.2 := by
  unfold takeP
  split
  · split <;> exact ⟨rfl, rfl⟩
  · exact ⟨rfl, rfl⟩
theorem dropP_aw (X : VS) (k : Int) : SameAw X (dropP X k).2 := by
  unfold dropP
  split
  · split <;> exact ⟨rfl, rfl⟩
  · exact ⟨rfl, rfl⟩
theorem keepP_aw (B : Int → UInt64) (X : VS) (node : Int) (c : Crd) (m : List Int) : SameAw X (keepP B X node c m).2.2 := by
  have ht := takeP_aw B X node
  have hd := dropP_aw X c.more
  unfold keepP
  split
  · split
    · split
      · exact ⟨rfl, rfl⟩
      · split
        · exact hd
        · exact hd
    · by_cases hm : c.more = -1
      · simp only [if_pos hm]
        split
        · simp only
          split <;> exact ht
        · exact ht
      · simp only [if_neg hm, if_true]
        split <;> exact ⟨rfl, rfl⟩
  · exact ⟨rfl, rfl⟩

theorem firstR_aw (B : Int → UInt64) (X : VS) (node : Int) (m : List Int) (W : Int → List UInt64) (bk : Nat) : SameAw X (firstR B X node m W bk).X := by
  unfold firstR
  split
  · exact ⟨rfl, rfl⟩
  · unfold growP
    split
    · exact ⟨rfl, rfl⟩
    · split <;> exact takeP_aw B X node
theorem addP_aw (B : Int → UInt64) (X : VS) (node : Int) (c : Crd) (name : List UInt8) (target : Int) : SameAw X (addP B X node c name target).2.2 := by
  unfold addP
  split
  · exact ⟨rfl, rfl⟩
  · split
    · exact ⟨rfl, rfl⟩
    · split
      · exact ⟨rfl, rfl⟩
      · split
        · exact ⟨rfl, rfl⟩
        · have h1 := firstR_aw B X node (openP X.now c).2.1 (wordsAt X.now (openP X.now c).2.1) (bucketL name)
          simp only
          split
          · exact h1
          · exact ⟨(keepP_aw B _ node _ _).1.trans h1.1, (keepP_aw B _ node _ _).2.trans h1.2⟩

theorem bstep_spec {h : Heap} {F : List Nat} {V : VL} {M : MemS} (I : Idle h V M) {f : Nat} {node : Int} (hn : 0 ≤ node ∧ node < 24) {c : Crd} {m : List Int} {l : List Ent} (B : BookI h F f V M node c m l) (x : Ent) (hx : x.ok) :
    CallH Tryz.prog 23 [.pointer (some ⟨f, 0, none⟩), .agg ⟨x.cells⟩] h (fun v h' => Keeps [f, V.v, V.mem.m, V.mem.lb, V.ob] h h' ∧ v = .bool true ∧
      ∃ V' M' c' m' l', BLeft h h' F f V M node x l V' M' c' m' l') := by
  obtain ⟨a0, n0, q0, hfo, S0, s0⟩ := B.obj
  have D := B.good
  have hfew := D.few
  have hl0 := S0.hlen
  obtain ⟨_, hc⟩ := D.right
  have hfl : f < h.size := B.fl f B.mem
  have hf := hfo
  unfold DirO at hf
  rw [dir_cells] at hf
  have hob : V.ob < h.size := I.at_.blt _ (by simp [VL.blocks])
  have obf : f ≠ V.ob := fun e => B.out (e ▸ by simp [VL.blocks])
  obtain ⟨name, nd⟩ := x
  obtain ⟨hnl, hnd⟩ := hx
  simp only at hnl hnd
  have hxe : (⟨name, nd⟩ : Ent).cells = [.string ⟨name.toArray⟩, .int .i64 nd] := rfl
  rw [hxe]
  refine call_of hmix Tryz.func23 rfl ok23 (by simp [Tryz.f23]) ?_
  conv => whnf
  refine AllocR.i fun b1 h1 e1 s1 o1 k1 => ?_
  have I1 := I.on k1
  have f1 := k1.obj hf (by simp)
  have fo1 := k1.obj hfo (by simp)
  conv => whnf
  refine IfR.i (fun hd => ?_) (fun hd => ?_)
  · have hlt : nd < 1 := by simpa using hd
    conv => whnf
    refine LoadR.o f1 rfl ?_
    conv => whnf
    refine LoadR.o f1 rfl ?_
    conv => whnf
    refine LoadN.o f1 rfl ?_
    have WS : ∀ hx, At hx V M ⟨M.read, [], [], [], []⟩ → _ := fun hx Ax => drop_spec' Ax hn (c := c) (m := m) (l := l) D name hnl
    conv => whnf
    refine BothR.i ?c1 ?c2
    case' c1 =>
      conv => whnf
      refine CallR.m (WS h1 I1.at_) ?_ fun v h3 k3 hv => ?_
      · intro y hy hx
        have hy2 : y = b1 := by simpa [blocksOf, setB] using hy
        simp at hx; omega
      obtain ⟨c3, X3, rfl, A3, aw3, awn3, HD⟩ := hv
      conv => whnf
      refine AllocR.i fun b4 h4 e4 s4 o4 k4 => ?_
      have z3 := k3.size
      conv => whnf
      refine BoxR.i fun h5 s5 k5 => ?_
      have k25 : Keeps [V.ob] h1 h5 := (k3.trans_nil k4).m1 k5 (by omega)
      have hb4 : h1.size ≤ b4 := by omega
      have A5 := (A3.on k4).keep k5 (fun b hb => by have := I1.at_.blt b hb; simp; omega)
    case' c2 =>
      conv => whnf
      refine AllocR.i fun b4 h4 e4 s4 o4 k4 => ?_
      conv => whnf
      refine CallR.m (WS h4 (I1.at_.on k4)) ?_ fun v h3 k3 hv => ?_
      · intro y hy hx
        have hy2 : y = b1 ∨ y = b4 := by simpa [blocksOf, setB] using hy
        simp at hx; omega
      obtain ⟨c3, X3, rfl, A3, aw3, awn3, HD⟩ := hv
      have z3 := k3.size
      conv => whnf
      refine BoxR.i fun h5 s5 k5 => ?_
      have k25 : Keeps [V.ob] h1 h5 := ((k4.mono (by simp)).trans k3).m1 k5 (by omega)
      have hb4 : h1.size ≤ b4 := by omega
      have A5 := A3.keep k5 (fun b hb => by have := I1.at_.blt b hb; simp; omega)
    all_goals
      have f5 := k25.obj f1 (by simpa using obf)
      have fo5 := k25.obj fo1 (by simpa using obf)
      have S5 : Sl h5 a0 n0 q0 l := (S0.keep k1).keepM k25 (fun b hb hx => by
        have := s0 b hb
        have e : b = V.ob := by simpa using hx
        exact this.1 (e ▸ by simp [VL.blocks]))
      conv => whnf
      refine LoadR.o f5 rfl ?_
      conv => whnf
      refine CallR.i (refDrop_spec S5 (by omega) name hnl) fun v h6 k6 hv => ?_
      obtain ⟨a6, q6, rfl, O6, n6⟩ := hv
      have fo6 := k6.obj fo5 (by simp)
      have z2 := k25.size
      have z6 := k6.size
      have hne9 : (refDrop l name).2.2 ≠ 9 := by unfold refDrop; split <;> simp
      have S6 : Sl h6 a6 (refDrop l name).1.length q6 (refDrop l name).1 := own_ents O6 (fun e he => by
          have := D.okE
          unfold refDrop at he
          split at he
          · exact this e (List.mem_of_mem_eraseIdx he)
          · cases he) (by
          unfold refDrop
          split
          · simp only; rw [List.length_eraseIdx]; split <;> omega
          · simp)
      have r6 : ∀ b ∈ blkA a6, h.size ≤ b ∧ b < h6.size := fun b hb => by
        have h1' := n6 b hb
        refine ⟨by omega, ?_⟩
        rcases O6 with ⟨e, _⟩ | ⟨bb, _, e, o, _⟩
        · rw [e] at hb; cases hb
        · rw [e] at hb
          have : b = bb := by simpa [blkA] using hb
          subst this
          exact obj_lt o
      have FS := bend_spec (A5.on k6) I.ab I.anb I.calm I.size fo6 B.out c3 a6 (refDrop l name).1.length q6 (refDrop l name).2.2 (refDrop l name).2.2
      have hsay0 : ¬ ((refDrop l name).2.2 = 0 ∧ (refDrop l name).2.2 = 0) → entSays ⟨name, nd⟩ l l := by
        intro hno
        refine ⟨fun _ => .inl rfl, fun _ => ?_⟩
        have : ¬ plT l name = true := fun e => hno (by unfold refDrop; rw [if_pos e]; exact ⟨rfl, rfl⟩)
        simp only
        rw [if_neg this]
      have hsay1 : (refDrop l name).2.2 = 0 → entSays ⟨name, nd⟩ l (refDrop l name).1 := by
        intro hok
        refine ⟨fun h1' => by simp only at h1'; omega, fun _ => ?_⟩
        unfold refDrop at hok ⊢
        split
        · simp only
        · rename_i e; rw [if_neg e] at hok; simp at hok
      generalize refDrop l name = r at *
      conv => whnf
      refine IfR.t (by simp [hne9]) ?_
      conv => whnf
      refine CallR.m FS ?_ ?_
      · intro y hy hx
        have hy2 : y = b1 ∨ y = b4 := by simpa [blocksOf, setB] using hy
        have q1 := I.at_.blt V.v (by simp [VL.blocks])
        have q2 := I.at_.blt V.mem.m (by simp [VL.blocks, ML.blocks])
        have q3 := I.at_.blt V.mem.lb (by simp [VL.blocks, ML.blocks])
        simp only [List.mem_cons, List.not_mem_nil, or_false] at hx
        omega
      · intro v h7 k7 hv
        obtain ⟨rfl, P⟩ := hv
        conv => whnf
        have kk : Keeps [f, V.v, V.mem.m, V.mem.lb, V.ob] h h7 := ((k1.mono (by simp)).trans (k25.mono (by simp))).trans ((k6.mono (by simp)).trans (k7.mono (by simp)))
        refine ⟨kk, ?_, bleft_end I B (by omega) ⟨aw3, awn3⟩ S0 s0 S6 r6 kk k7 (fun hh => ⟨⟨m, (HD hh.1).1⟩, (HD hh.1).2, hsay1 hh.1⟩) hsay0 P⟩
        simp [hne9]
  · have hge : 1 ≤ nd := by simp at hd; omega
    conv => whnf
    refine LoadR.o f1 rfl ?_
    conv => whnf
    refine CallR.i (free_spec I1.at_) fun v h2 k2 hv => ?_
    subst hv
    have k02 := k1.trans k2
    have fo2 := k2.obj fo1 (by simp)
    have S2 := S0.keep k02
    conv => whnf
    refine CallR.i (bbucket_spec fo2 S2 (by omega) name hnl) fun v h3 k3 hv => ?_
    subst hv
    have k03 := k02.trans k3
    have f3 := k03.obj hf (by simp)
    have fo3 := k03.obj hfo (by simp)
    have I3 := I.on k03
    have z3 := k03.size
    conv => whnf
    refine LoadR.o f3 rfl ?_
    conv => whnf
    refine LoadR.o f3 rfl ?_
    conv => whnf
    refine LoadN.o f3 rfl ?_
    have HP := addP_plain (B := M.read) (X := ⟨M.read, [], [], [], []⟩) hn D name nd
    have hxa : (addP M.read ⟨M.read, [], [], [], []⟩ node c name nd).2.2.away = [] ∧ (addP M.read ⟨M.read, [], [], [], []⟩ node c name nd).2.2.awayN = [] := addP_aw M.read ⟨M.read, [], [], [], []⟩ node c name nd
    have WS : ∀ hx, At hx V M ⟨M.read, [], [], [], []⟩ → CallH Tryz.prog 18 [.pointer (some ⟨V.v, 0, none⟩), .int .i64 node, .agg ⟨c.cells⟩, .string ⟨name.toArray⟩, .int .i64 nd] hx (fun v h' => Keeps [V.ob] hx h' ∧
        v = .tuple #[.agg ⟨(addP M.read ⟨M.read, [], [], [], []⟩ node c name nd).1.cells⟩, .int .i64 (addP M.read ⟨M.read, [], [], [], []⟩ node c name nd).2.1] ∧ At h' V M (addP M.read ⟨M.read, [], [], [], []⟩ node c name nd).2.2) := fun hx Ax => add_spec Ax node c hc name hnl nd
    generalize addP M.read ⟨M.read, [], [], [], []⟩ node c name nd = R at WS HP hxa
    obtain ⟨c4, e4, X4⟩ := R
    simp only at WS HP hxa
    conv => whnf
    refine BothR.i ?d1 ?d2
    case' d1 =>
      conv => whnf
      refine CallR.m (WS h3 I3.at_) ?_ fun v h4 k4 hv => ?_
      · intro y hy hx
        have hy2 : y = b1 := by simpa [blocksOf, setB] using hy
        simp at hx; omega
      obtain ⟨rfl, A4⟩ := hv
      conv => whnf
      refine AllocR.i fun b5 h5 e5 s5 o5 k5 => ?_
      have z4 := k4.size
      conv => whnf
      refine BoxR.i fun h6 s6 k6 => ?_
      have k36 : Keeps [V.ob] h3 h6 := (k4.trans_nil k5).m1 k6 (by omega)
      have hb5 : h3.size ≤ b5 := by omega
      have A6 := (A4.on k5).keep k6 (fun b hb => by have := I3.at_.blt b hb; simp; omega)
    case' d2 =>
      conv => whnf
      refine AllocR.i fun b5 h4 e5 s5 o5 k5 => ?_
      conv => whnf
      refine CallR.m (WS h4 (I3.at_.on k5)) ?_ fun v h5 k4 hv => ?_
      · intro y hy hx
        have hy2 : y = b1 ∨ y = b5 := by simpa [blocksOf, setB] using hy
        simp at hx; omega
      obtain ⟨rfl, A4⟩ := hv
      have z4 := k4.size
      conv => whnf
      refine BoxR.i fun h6 s6 k6 => ?_
      have k36 : Keeps [V.ob] h3 h6 := ((k5.mono (by simp)).trans k4).m1 k6 (by omega)
      have hb5 : h3.size ≤ b5 := by omega
      have A6 := A4.keep k6 (fun b hb => by have := I3.at_.blt b hb; simp; omega)
    all_goals
      have f6 := k36.obj f3 (by simpa using obf)
      have fo6 := k36.obj fo3 (by simpa using obf)
      have S6 : Sl h6 a0 n0 q0 l := (S0.keep k03).keepM k36 (fun b hb hx => by
        have := s0 b hb
        have e : b = V.ob := by simpa using hx
        exact this.1 (e ▸ by simp [VL.blocks]))
      have z6 := k36.size
      conv => whnf
      refine LoadR.o f6 rfl ?_
      conv => whnf
      refine CallR.i (refAdd_spec S6 (by omega) name hnl nd hnd D.okE) fun v h7 k7 hv => ?_
      obtain ⟨a7, q7, rfl, O7, n7⟩ := hv
      conv => whnf
      refine CallR.i (refRoom_spec name hnl h7) fun v h8 k8 hv => ?_
      subst hv
      have hrok : ∀ e ∈ (refAdd l name nd).1, e.ok := by
        intro e he
        unfold refAdd at he
        split at he
        · cases he
        · split at he
          · cases he
          · split at he
            · cases he
            · have := (insL_perm l ⟨name, nd⟩).mem_iff.1 he
              rcases List.mem_cons.1 this with rfl | h
              · exact ⟨hnl, hnd⟩
              · exact D.okE e h
      have hrl : (refAdd l name nd).1.length ≤ 106 := by
        unfold refAdd
        split
        · simp
        · split
          · simp
          · split
            · simp
            · simp only; rw [(insL_perm l _).length_eq, List.length_cons]; omega
      have hpt : (refAdd l name nd).2 = 0 → plT l name = false := by
        unfold refAdd
        split
        · simp
        · split
          · simp
          · split
            · simp
            · rename_i h; intro _; simpa using h
      have S8 : Sl h8 a7 (refAdd l name nd).1.length q7 (refAdd l name nd).1 := (own_ents O7 hrok (by omega)).keep k8
      have r8 : ∀ b ∈ blkA a7, h.size ≤ b ∧ b < h8.size := fun b hb => by
        have h1' := n7 b hb
        refine ⟨by omega, ?_⟩
        have := k8.size
        rcases O7 with ⟨e, _⟩ | ⟨bb, _, e, o, _⟩
        · rw [e] at hb; cases hb
        · rw [e] at hb
          have : b = bb := by simpa [blkA] using hb
          subst this
          have := obj_lt o; omega
      have fo8 := (k7.trans k8).obj fo6 (by simp)
      have FS := bend_spec (A6.on (k7.trans k8)) I.ab I.anb I.calm I.size fo8 B.out c4 a7 (refAdd l name nd).1.length q7 e4 (refAdd l name nd).2
      have z78 := (k7.trans k8).size
      generalize refAdd l name nd = r at *
      generalize freeN M.read ⟨M.read, [], [], [], []⟩ 96 = fn at *
      conv => whnf
      refine IfR.f (by
          rcases HP with ⟨p1, p2, p3⟩ | ⟨p1, p2, p3⟩ | ⟨p1, p2, p3, _⟩
          · simp [p2]
          · subst p2
            rcases p3 with p3 | p3
            · simp [p1, p3]
            · have : ¬ (1 < fn) := by omega
              simp [this]
              intros; omega
          · subst p2
            simp [p1, p3]
            intros; omega) ?_
      conv => whnf
      refine CallR.m FS ?_ ?_
      · intro y hy hx
        have hy2 : y = b1 ∨ y = b5 := by simpa [blocksOf, setB] using hy
        have q1 := I.at_.blt V.v (by simp [VL.blocks])
        have q2 := I.at_.blt V.mem.m (by simp [VL.blocks, ML.blocks])
        have q3 := I.at_.blt V.mem.lb (by simp [VL.blocks, ML.blocks])
        simp only [List.mem_cons, List.not_mem_nil, or_false] at hx
        omega
      · intro v h9 k9 hv
        obtain ⟨rfl, P⟩ := hv
        conv => whnf
        have kk : Keeps [f, V.v, V.mem.m, V.mem.lb, V.ob] h h9 := ((k03.mono (by simp)).trans (k36.mono (by simp))).trans (((k7.trans k8).mono (by simp)).trans (k9.mono (by simp)))
        refine ⟨kk, ?_, bleft_end I B (by omega) hxa S0 s0 S8 r8 kk k9 (fun hh => ?_) (fun _ => ⟨fun _ => .inl rfl, fun h => by simp only at h; omega⟩) P⟩
        · congr 1
          rcases HP with ⟨p1, p2, p3⟩ | ⟨p1, p2, p3⟩ | ⟨p1, p2, p3, _⟩
          · simp [p1]
          · simp [p1, p2]
          · rw [p1, p2]; simp
        · rcases HP with ⟨p1, p2, p3⟩ | ⟨p1, p2, p3⟩ | ⟨p1, p2, p3, m', p4, p5⟩
          · exact absurd hh.2 p2
          · rw [p2] at hh; simp at hh
          · subst p1
            exact ⟨⟨m', p4⟩, p5, fun _ => .inr ⟨hpt rfl, rfl⟩, fun h => by simp only at h; omega⟩
end Go.Proofs.YteambknhlbiajaaGreatDoor
/-
  Layer 11's law: a directory behind adds and drops, in whatever row.
-/
set_option linter.all false
set_option maxRecDepth 100000
set_option maxHeartbeats 1000000
namespace Go.Proofs.YteambknhlbiajaaGreatDoor
open Go Go.Eng

section
variable {H : Type} {enc : TypeId × Value → H} {W : World} {sp : Nat → Bool} {held : Bool}
theorem opens_ent : Opens enc Tryz.prog W sp held 45 Ent := by
  intro fuel cs x h hw
  obtain ⟨hl, f', hp⟩ := trod_parts Tryz.underlying45 h hw
  obtain ⟨a, b, rfl⟩ : ∃ a b, cs = [a, b] := by
    match cs, hl with
    | [a, b], _ => exact ⟨a, b, rfl⟩
  obtain ⟨y0, h0, w0⟩ := hp _ (List.mem_cons_self)
  obtain ⟨y1, h1, w1⟩ := hp _ (List.mem_cons_of_mem _ List.mem_cons_self)
  obtain ⟨s, e0, g0⟩ := opens_string (W := W) Tryz.underlying9 f' _ _ h0 w0
  obtain ⟨n, e1, g1⟩ := opens_int (W := W) Tryz.underlying3 f' _ _ h1 w1
  cases e0; cases e1
  obtain ⟨l, rfl⟩ : ∃ l : List UInt8, s = ⟨l.toArray⟩ := ⟨s.data.toList, rfl⟩
  exact ⟨⟨l, n⟩, rfl, by have := g0; unfold okStr at this; rwa [bs_size] at this, g1⟩
theorem opens_ents : Opens enc Tryz.prog W sp held 38 (List Ent) := opens_slice Tryz.underlying38 (by kernel_rfl) (by decide) (of_decide_eq_true (by kernel_rfl)) opens_ent
end

def mNo : List Int := List.replicate 21 (-1)
theorem mNo_at (i : Nat) : plc mNo i = -1 := by
  unfold plc mNo
  rw [List.getElem?_replicate]
  split <;> rfl
theorem b0_own {x : Int} (h0 : 0 ≤ x) (h1 : x < 96) : M0.read (200 + x) = 0 := by
  rw [read_img0]
  unfold b0
  rw [if_pos (by omega), if_neg (by omega), if_neg (by omega)]

/-- a new directory -/
theorem fresh_dir {now : Int → UInt64} {node : Int} (h : ∀ x, 0 ≤ x → x < 96 → now (200 + x) ≠ w64 (node + 1)) : DirI now node (freshC 2 1) mNo [] := by
  have hu : usedL (freshC 2 1).more mNo = [] := by decide
  refine ⟨rfl, ⟨rfl, ?_, by rw [hu]; exact List.nodup_nil, fun x x0 x1 => by rw [hu]; exact ⟨fun h => (nomatch h), fun e => absurd e (h x x0 x1)⟩⟩, ⟨rfl, rfl⟩, rfl, fun i hi hu => absurd (mNo_at i) hu, ?_, List.Pairwise.nil, by decide⟩
  · intro x hx
    left
    have : x ∈ List.replicate 22 (-1 : Int) := hx
    exact (List.mem_replicate.1 this).2
  · have : rawE now mNo = [] := by
      unfold rawE
      rw [List.flatMap_eq_nil_iff]
      intro i _
      exact placeE_hole (mNo_at i)
    rw [this]

theorem early11_spec {h : Heap} {a : Option Addr} {n c : Nat} {xs : List Ent} (S : Sl h a n c xs) : CallH Tryz.prog 22 [.slice a n c] h (fun v h' => Keeps [] h h' ∧ ∃ c', v = .slice a (min n 120) c' ∧ Sl h' a (min n 120) c' (xs.take 120)) := by
  have hl := S.hlen
  have hc := S.hcap
  refine call_of hmix Tryz.func22 rfl ok22 (by simp [Tryz.f22]) ?_
  conv => whnf
  refine SliceR.i 0 (min n 120) rfl (by split <;> omega) (Nat.zero_le _) (by omega) ?_
  conv => whnf
  have P := S.part (l := 0) (r := min n 120) (Nat.zero_le _) (by omega)
  rw [List.drop_zero] at P
  have e : xs.take (min n 120) = xs.take 120 := by
    rw [hl, ← List.take_take]
    exact List.take_of_length_le (by rw [List.length_take]; omega)
  rw [e, slA_zero] at P
  refine ⟨Keeps.refl _ _, _, ?_, P⟩
  rw [slA_zero]; rfl

theorem _root_.Go.Eng.Sl.ltE {h : Heap} {a : Option Addr} {n c : Nat} {xs : List Ent} (S : Sl h a n c xs) (hn : 0 < n) : ∀ b ∈ blkA a, b < h.size := by
  have hl := S.hlen
  obtain ⟨b, o, hb, cs, ⟨rfl, _⟩, hc⟩ := S.at_ 0 (by omega)
  intro x hx
  rw [hb] at hx
  simp [blkA] at hx
  subst hx
  exact cell_lt (hc 0 (by simp [Ent.cells]))

/-- a run of a directory's: what holds between steps -/
structure RunD (h0 h : Heap) (F : List Nat) (f : Nat) (node : Int) (V : VL) (M : MemS) (c : Crd) (m : List Int) (l : List Ent) : Prop where
  k : Keeps [] h0 h
  idle : Idle h V M
  book : BookI h F f V M node c m l
  newf : h0.size ≤ f
  new : ∀ b ∈ V.blocks, h0.size ≤ b

theorem BookI.on {h h' : Heap} {F : List Nat} {f : Nat} {V : VL} {M : MemS} {node : Int} {c : Crd} {m : List Int} {l : List Ent} (B : BookI h F f V M node c m l) (k : Keeps [] h h') : BookI h' F f V M node c m l := by
  obtain ⟨a, n, cc, o, S, s⟩ := B.obj
  have hz := k.size
  exact ⟨B.good, B.out, B.mem, fun x hx => by have := B.fl x hx; omega, a, n, cc, k.obj o (by simp), S.keep k, fun b hb => ⟨(s b hb).1, (s b hb).2.1, by have := (s b hb).2.2; omega⟩⟩
section
variable {h0 h h' : Heap} {F : List Nat} {f : Nat} {node : Int} {V : VL} {M : MemS} {c : Crd} {m : List Int} {l : List Ent}
theorem RunD.on (R : RunD h0 h F f node V M c m l) (k : Keeps [] h h') : RunD h0 h' F f node V M c m l := ⟨R.k.trans k, R.idle.on k, R.book.on k, R.newf, R.new⟩
theorem RunD.gone (R : RunD h0 h F f node V M c m l) : ∀ b ∈ [f, V.v, V.mem.m, V.mem.lb, V.ob], h0.size ≤ b := by
  intro z hz
  have q0 := R.newf
  have q1 := R.new V.ob (by simp [VL.blocks])
  have q2 := R.new V.v (by simp [VL.blocks])
  have q3 := R.new V.mem.m (by simp [VL.blocks, ML.blocks])
  have q4 := R.new V.mem.lb (by simp [VL.blocks, ML.blocks])
  simp only [List.mem_cons, List.not_mem_nil, or_false] at hz
  omega
theorem RunD.step (R : RunD h0 h F f node V M c m l) (k : Keeps [f, V.v, V.mem.m, V.mem.lb, V.ob] h h') {x : Ent} {V' : VL} {M' : MemS} {c' : Crd} {m' : List Int} {l' : List Ent} (L : BLeft h h' F f V M node x l V' M' c' m' l') : RunD h0 h' F f node V' M' c' m' l' := by
  refine ⟨R.k.nil_of k (fun z hz => R.gone z hz), L.idle, L.book, R.newf, fun b hb => ?_⟩
  have hz := R.k.size
  rcases L.new b hb with h | h
  · exact R.new b h
  · omega
end

theorem dir_find {now : Int → UInt64} {node : Int} {c : Crd} {m : List Int} {l : List Ent} (D : DirI now node c m l) (name : List UInt8) : findP now c name = ((findR l name).1, plT l name, 0) := by
  unfold findP
  rw [D.open_, if_pos rfl]
  simp only
  rw [find_place D.str]

theorem plays11_law {h : Heap} {a : Option Addr} {n c : Nat} {xs : List Ent} (S : Sl h a n c xs) : CallH Tryz.prog 5 [.slice a n c] h (fun v h' => Keeps [] h h' ∧ v = .bool true) := by
  refine call_of hmix Tryz.func5 rfl ok5 (by simp [Tryz.f5]) ?_
  conv => whnf
  refine CallR.i (lives11_spec h) fun v h1 k1 hv => ?_
  subst hv
  conv => whnf
  first | refine IfR.f rfl ?_ | (refine MeetR.pass ?_; (conv => whnf); refine IfR.f rfl ?_)
  conv => whnf
  refine CallR.i (begin11_spec h1) fun v h2 k2 hv => ?_
  obtain ⟨V, f, g, rfl, I2, f2, g2, n1, n2, n3, n4, n5, n6⟩ := hv
  have z1 := k1.size
  have R2 : RunD h h2 [f] f 2 V M0 (freshC 2 1) mNo [] := ⟨k1.trans k2, I2, ⟨fresh_dir (fun x h0 h1 => by rw [b0_own h0 h1]; decide), n2, by simp, fun x hx => by rw [List.mem_singleton.1 hx]; exact obj_lt f2, none, 0, 0, f2, Sl.nil, by simp [blkA]⟩, by omega, fun b hb => by have := n6 b hb; omega⟩
  conv => whnf
  refine IdxR.i 0 rfl (by decide) ?_
  conv => whnf
  refine NthR.i rfl ?_
  conv => whnf
  refine CallR.i (early11_spec (S.keep R2.k)) fun v h3 k3 hv => ?_
  obtain ⟨c3, rfl, S3⟩ := hv
  have R3 := R2.on k3
  have hl3 := S3.hlen
  have hb3 : 0 < min n 120 → ∀ b ∈ blkA a, b < h.size := fun hp => S.ltE (by omega)
  have hm3 : min n 120 ≤ 120 := Nat.min_le_right _ _
  generalize min n 120 = n3 at *
  generalize xs.take 120 = xs at *
  conv => whnf
  refine LoopR.on [0, 3, 4] [] (fun i : Nat => [(0, .v (.slice a n3 c3)), (3, .v (.pointer (some ⟨f, 0, none⟩))), (4, .v (.int .i64 (i : Int)))]) (fun _ => []) (fun i h' => i ≤ n3 ∧ Sl h' a n3 c3 xs ∧ ∃ V M c m l, RunD h h' [f] f 2 V M c m l) (fun i => n3 - i) 0 ?_ ?_
  · conv => whnf
    exact ⟨0, rfl, rfl, rfl, Nat.zero_le _, S3, _, _, _, _, _, R3⟩
  · rintro i h4 ⟨hi, S4, V4, M4, c4, m4, l4, R4⟩
    conv => whnf
    refine IfR.i (fun hd => ?_) (fun hd => ?_)
    · have hi1 : i < xs.length := by simp at hd; omega
      obtain ⟨b5, o5, hb5, _, ⟨rfl, hok⟩, hc5⟩ := S4.at_ i hi1
      conv => whnf
      first | refine IdxS.i i rfl (by omega) hb5 ?_ | (refine MeetR.pass ?_; (conv => whnf); refine IdxS.i i rfl (by omega) hb5 ?_)
      conv => whnf
      refine LoadN.i (vs := xs[i].cells) rfl (fun j hj => hc5 j hj) ?_
      conv => whnf
      refine CallR.m (bstep_spec R4.idle (by decide) R4.book xs[i] hok) (by simp [blocksOf]) fun v h6 k6 hv => ?_
      obtain ⟨rfl, V6, M6, c6, m6, l6, L6⟩ := hv
      have R6 := R4.step k6 L6
      have S6 := S4.keepM k6 fun b hb hx => by have := hb3 (by omega) b hb; have := R4.gone b hx; omega
      conv => whnf
      refine IfR.f rfl ?_
      obtain ⟨a6, q6, cc6, fo6, Sl6, _⟩ := R6.book.obj
      have f6 := fo6
      unfold DirO at f6
      rw [dir_cells] at f6
      obtain ⟨b7, o7, hb7, _, ⟨rfl, _⟩, hc7⟩ := S6.at_ i hi1
      have D6 := R6.book.good
      obtain ⟨_, ok6⟩ := D6.right
      conv => whnf
      refine LoadR.o f6 rfl ?_
      conv => whnf
      refine LoadN.o f6 rfl ?_
      conv => whnf
      refine IdxS.i i rfl (by omega) hb7 ?_
      conv => whnf
      refine LoadR.i (v := .string ⟨xs[i].name.toArray⟩) (hc7 0 (by simp [Ent.cells])) ?_
      conv => whnf
      refine CallR.i (ffind_spec R6.idle.at_ c6 ok6 xs[i].name) fun v h8 k8 hv => ?_
      have hfp : findP M6.read c6 xs[i].name = _ := dir_find D6 xs[i].name
      rw [hfp] at hv
      simp only at hv
      subst hv
      have R8 := R6.on k8
      have S8 := S6.keep k8
      have f8 := k8.obj f6 (by simp)
      obtain ⟨b9, o9, hb9, _, ⟨rfl, _⟩, hc9⟩ := S8.at_ i hi1
      conv => whnf
      refine LoadR.o f8 rfl ?_
      conv => whnf
      refine IdxS.i i rfl (by omega) hb9 ?_
      conv => whnf
      refine LoadR.i (v := .string ⟨xs[i].name.toArray⟩) (hc9 0 (by simp [Ent.cells])) ?_
      have hq6 := Sl6.hlen
      have hfew := D6.few
      conv => whnf
      refine CallR.i (place_spec (Sl6.keep k8) (by omega) xs[i].name hok.1) fun v h10 k10 hv => ?_
      subst hv
      have f10 := k10.obj f8 (by simp)
      have R10 := R8.on k10
      conv => whnf
      refine LoadR.o f10 rfl ?_
      cases hpt : plT l6 xs[i].name with
      | true =>
        obtain ⟨hkl, hnm⟩ := plT_at hpt
        have hfr := findR_at D6.str hpt
        rw [List.getElem?_eq_getElem hkl] at hfr
        have hfr2 : (findR l6 xs[i].name).1 = (l6[plK l6 xs[i].name]'hkl).node := hfr
        obtain ⟨b11, o11, hb11, _, ⟨rfl, _⟩, hc11⟩ := ((Sl6.keep k8).keep k10).at_ _ hkl
        conv => whnf
        refine IdxS.i (plK l6 xs[i].name) rfl (by omega) hb11 ?_
        conv => whnf
        refine LoadR.i (v := .int .i64 (l6[plK l6 xs[i].name]'hkl).node) (hc11 1 (by simp [Ent.cells])) ?_
        conv => whnf
        refine IfR.f (by rw [hfr2]; simp) ?_
        conv => whnf
        refine ⟨n3 - (i + 1), by omega, ?_⟩
        conv => whnf
        exact ⟨i + 1, rfl, by rw [wrapN (n := i + 1) (by simp) (by omega)], rfl, by omega, (S8.keep k10), _, _, _, _, _, R10⟩
      | false =>
        conv => whnf
        refine IdxS.u 0 0 0 (fun h => by simp at h) ?_
        conv => whnf
        refine LoadR.u (.int .i64 0) (fun h => by simp at h) ?_
        conv => whnf
        refine IfR.f (by simp) ?_
        conv => whnf
        refine ⟨n3 - (i + 1), by omega, ?_⟩
        conv => whnf
        exact ⟨i + 1, rfl, by rw [wrapN (n := i + 1) (by simp) (by omega)], rfl, by omega, (S8.keep k10), _, _, _, _, _, R10⟩
    · conv => whnf
      refine CallR.i (by
        obtain ⟨a6, q6, cc6, fo6, Sl6, _⟩ := R4.book.obj
        exact bwhole_spec R4.idle fo6 Sl6 R4.book.good) fun v h6 k6 hv => ?_
      subst hv
      conv => whnf
      exact ⟨R4.k.trans k6, rfl⟩
end Go.Proofs.YteambknhlbiajaaGreatDoor
/-
  Layer 11's laws: two directories over one memory.
-/
set_option linter.all false
set_option maxRecDepth 100000
set_option maxHeartbeats 1000000
namespace Go.Proofs.YteambknhlbiajaaGreatDoor
open Go Go.Eng

theorem w64_inj' {a b : Int} (ha : 0 ≤ a ∧ a < 24) (hb : 0 ≤ b ∧ b < 24) (h : w64 (a + 1) = w64 (b + 1)) : a = b := by
  have h1 := w64_toNat (a + 1)
  have h2 := w64_toNat (b + 1)
  rw [h] at h1
  omega

/-- a directory of another node stays as it was -/
theorem DirI.other {now g : Int → UInt64} {x y : Int} (hx : 0 ≤ x ∧ x < 24) (hy : 0 ≤ y ∧ y < 24) (hne : x ≠ y) {c : Crd} {m : List Int} {l : List Ent} (D : DirI now y c m l) (R : Fr x now g) : DirI g y c m l := by
  have hxy : w64 (y + 1) ≠ w64 (x + 1) := fun e => hne (w64_inj' hx hy e.symm)
  have hy0 := w64_ne hy
  have key : ∀ k, 0 ≤ k → k < 96 → now (200 + k) = w64 (y + 1) → g (200 + k) = w64 (y + 1) ∧ rdL g (1288 + k * 16) 16 = rdL now (1288 + k * 16) 16 := by
    intro k h0 h1 h
    obtain ⟨p, q⟩ := R.oth k h0 h1 (by rw [h]; exact hxy)
    refine ⟨?_, q (by rw [h]; exact hy0)⟩
    rcases p with p | ⟨p, _⟩
    · rw [p, h]
    · exact absurd (h ▸ p) hy0
  have back : ∀ k, 0 ≤ k → k < 96 → g (200 + k) = w64 (y + 1) → now (200 + k) = w64 (y + 1) := by
    intro k h0 h1 h
    by_cases hm : now (200 + k) = w64 (x + 1)
    · rcases R.mine k h0 h1 hm with p | p
      · exact absurd (h.symm.trans p) hxy
      · exact absurd (h.symm.trans p) hy0
    · rcases (R.oth k h0 h1 hm).1 with p | ⟨_, p⟩
      · rw [← p, h]
      · exact absurd (h.symm.trans p) hxy
  have hown : ∀ k, k ∈ usedL c.more m → 0 ≤ k ∧ k < 96 ∧ now (200 + k) = w64 (y + 1) := by
    intro k hk
    obtain ⟨h1, h2⟩ := usedL_mem.1 hk
    have hb := D.wk.rng k (by rcases h1 with rfl | h1; exact List.mem_cons_self; exact List.mem_cons_of_mem _ h1)
    unfold blkOk at hb
    exact ⟨by omega, by omega, (D.wk.own k (by omega) (by omega)).1 hk⟩
  have hml := D.wk.len
  have hblk : ∀ i, i < 21 → plc m i ≠ -1 → blkW now (plc m i) = blkW g (plc m i) := by
    intro i hi hu
    have hm : plc m i ∈ m := by
      unfold plc
      rw [List.getElem?_eq_getElem (by omega)]
      exact List.getElem_mem _
    obtain ⟨k0, k1, ko⟩ := hown _ (usedL_mem.2 ⟨.inr hm, hu⟩)
    exact (key _ k0 k1 ko).2.symm
  refine ⟨?_, ⟨D.wk.len, D.wk.rng, D.wk.nod, fun k h0 h1 => ?_⟩, D.kind, D.size, fun i hi hu => ?_, ?_, D.str, D.mor⟩
  · have h := D.map
    unfold mapOf at h ⊢
    by_cases hm : c.more = -1
    · rw [if_pos hm] at h ⊢; exact h
    · obtain ⟨k0, k1, ko⟩ := hown c.more (usedL_mem.2 ⟨.inl rfl, hm⟩)
      have e : moreL g c.more = moreL now c.more := (key _ k0 k1 ko).2
      rw [e]; exact h
  · rw [D.wk.own k h0 h1]
    exact ⟨fun h => (key k h0 h1 h).1, back k h0 h1⟩
  · rw [← hblk i hi hu]; exact D.ok i hi hu
  · rw [← rawE_same hblk]; exact D.ents

theorem count_filter_range (p : Nat → Bool) (l : List Int) (hn : l.Nodup) (h : ∀ k : Nat, k < 96 → (p k = true ↔ (k : Int) ∈ l)) (hl : ∀ x ∈ l, 0 ≤ x ∧ x < 96) : ((List.range 96).filter p).length = l.length := by
  have hp : (((List.range 96).filter p).map fun (k : Nat) => (k : Int)).Perm l := by
    rw [List.perm_ext_iff_of_nodup ?_ hn]
    · intro x
      simp only [List.mem_map, List.mem_filter, List.mem_range]
      constructor
      · rintro ⟨k, ⟨h1, h2⟩, rfl⟩; exact (h k h1).1 h2
      · intro hx
        have := hl x hx
        refine ⟨x.toNat, ⟨by omega, (h _ (by omega)).2 (by rwa [show ((x.toNat : Nat) : Int) = x by omega])⟩, by omega⟩
    · have : (((List.range 96).filter p).map fun (k : Nat) => (k : Int)).Pairwise (fun a b => a < b) := by
        rw [List.pairwise_map]
        exact (List.pairwise_lt_range.filter _).imp fun h => by simpa using h
      exact this.imp fun h e => by omega
  rw [← hp.length_eq, List.length_map]

theorem filter_three {α : Type} (p q r : α → Bool) : ∀ l : List α, (∀ x ∈ l, (p x = true ∧ q x = false ∧ r x = false) ∨ (p x = false ∧ q x = true ∧ r x = false) ∨ (p x = false ∧ q x = false ∧ r x = true)) → (l.filter p).length + (l.filter q).length + (l.filter r).length = l.length
  | [], _ => rfl
  | x :: l, h => by
    have ih := filter_three p q r l fun y hy => h y (List.mem_cons_of_mem _ hy)
    rcases h x List.mem_cons_self with ⟨a, b, c⟩ | ⟨a, b, c⟩ | ⟨a, b, c⟩ <;> simp only [List.filter_cons, a, b, c, List.length_cons, if_true] <;> simp <;> omega

/-- what is free beside two nodes' blocks -/
theorem free_two' {now : Int → UInt64} {x y : Int} (hx : 0 ≤ x ∧ x < 24) (hy : 0 ≤ y ∧ y < 24) (hne : x ≠ y) {p q : Int} {m n : List Int} (F : Wk now x p m) (G : Wk now y q n)
    (h : ∀ k, 0 ≤ k → k < 96 → now (200 + k) = 0 ∨ now (200 + k) = w64 (x + 1) ∨ now (200 + k) = w64 (y + 1)) :
    freeN now ⟨now, [], [], [], []⟩ 96 + (usedL p m).length + (usedL q n).length = 96 := by
  have hxy : w64 (y + 1) ≠ w64 (x + 1) := fun e => hne (w64_inj' hx hy e.symm)
  have hx0 := w64_ne hx
  have hy0 := w64_ne hy
  have rng : ∀ {z p : Int} {m : List Int}, Wk now z p m → ∀ k ∈ usedL p m, 0 ≤ k ∧ k < 96 := by
    intro z p m F k hk
    obtain ⟨h1, h2⟩ := usedL_mem.1 hk
    have hb := F.rng k (by rcases h1 with rfl | h1; exact List.mem_cons_self; exact List.mem_cons_of_mem _ h1)
    unfold blkOk at hb
    omega
  rw [← count_filter_range (fun k => decide (now (200 + (k : Int)) = w64 (x + 1))) (usedL p m) F.nod (fun k hk => by rw [decide_eq_true_iff, F.own (k : Int) (by omega) (by omega)]) (rng F),
    ← count_filter_range (fun k => decide (now (200 + (k : Int)) = w64 (y + 1))) (usedL q n) G.nod (fun k hk => by rw [decide_eq_true_iff, G.own (k : Int) (by omega) (by omega)]) (rng G)]
  unfold freeN
  have := filter_three (fun (i : Nat) => freshB now ⟨now, [], [], [], []⟩ (i : Int)) (fun k => decide (now (200 + (k : Int)) = w64 (x + 1))) (fun k => decide (now (200 + (k : Int)) = w64 (y + 1))) (List.range 96) (fun k hk => by
    have hk' : k < 96 := by simpa using hk
    have hf : freshB now ⟨now, [], [], [], []⟩ (k : Int) = decide (now (200 + (k : Int)) = 0) := by
      unfold freshB
      rw [decide_eq_true (by omega : 0 ≤ (k : Int)), decide_eq_true (by omega : (k : Int) < 96)]
      simp
    rw [hf]
    rcases h (k : Int) (by omega) (by omega) with e | e | e
    · left; rw [e]; exact ⟨rfl, decide_eq_false fun z => hx0 z.symm, decide_eq_false fun z => hy0 z.symm⟩
    · right; left; rw [e]; exact ⟨decide_eq_false hx0, decide_eq_true rfl, decide_eq_false fun z => hxy z.symm⟩
    · right; right; rw [e]; exact ⟨decide_eq_false hy0, decide_eq_false hxy, decide_eq_true rfl⟩)
  simpa using this

/-- two directories over one memory, between steps -/
structure TwoD (h0 h : Heap) (F : List Nat) (V : VL) (M : MemS) (f : Nat) (x : Int) (c : Crd) (m : List Int) (l : List Ent) (g : Nat) (y : Int) (d : Crd) (n : List Int) (t : List Ent) : Prop where
  k : Keeps [] h0 h
  idle : Idle h V M
  bf : BookI h F f V M x c m l
  bg : BookI h F g V M y d n t
  nf : h0.size ≤ f
  ng : h0.size ≤ g
  new : ∀ b ∈ V.blocks, h0.size ≤ b
  ne : f ≠ g
  nx : 0 ≤ x ∧ x < 24
  ny : 0 ≤ y ∧ y < 24
  xy : x ≠ y
  own : ∀ k, 0 ≤ k → k < 96 → M.read (200 + k) = 0 ∨ M.read (200 + k) = w64 (x + 1) ∨ M.read (200 + k) = w64 (y + 1)

section
variable {h0 h h' : Heap} {F : List Nat} {V : VL} {M : MemS} {f g : Nat} {x y : Int} {c d : Crd} {m n : List Int} {l t : List Ent}
theorem TwoD.swap (R : TwoD h0 h F V M f x c m l g y d n t) : TwoD h0 h F V M g y d n t f x c m l :=
  ⟨R.k, R.idle, R.bg, R.bf, R.ng, R.nf, R.new, Ne.symm R.ne, R.ny, R.nx, Ne.symm R.xy, fun k a b => by rcases R.own k a b with e | e | e; exact .inl e; exact .inr (.inr e); exact .inr (.inl e)⟩
theorem TwoD.on (R : TwoD h0 h F V M f x c m l g y d n t) (k : Keeps [] h h') : TwoD h0 h' F V M f x c m l g y d n t :=
  ⟨R.k.trans k, R.idle.on k, R.bf.on k, R.bg.on k, R.nf, R.ng, R.new, R.ne, R.nx, R.ny, R.xy, R.own⟩
theorem TwoD.gone (R : TwoD h0 h F V M f x c m l g y d n t) : ∀ b ∈ [f, V.v, V.mem.m, V.mem.lb, V.ob], h0.size ≤ b := by
  intro z hz
  have q0 := R.nf
  have q1 := R.new V.ob (by simp [VL.blocks])
  have q2 := R.new V.v (by simp [VL.blocks])
  have q3 := R.new V.mem.m (by simp [VL.blocks, ML.blocks])
  have q4 := R.new V.mem.lb (by simp [VL.blocks, ML.blocks])
  simp only [List.mem_cons, List.not_mem_nil, or_false] at hz
  omega
theorem TwoD.big (R : TwoD h0 h F V M f x c m l g y d n t) {b : Nat} (hb : b < h0.size) : b ∉ [f, V.v, V.mem.m, V.mem.lb, V.ob] := fun hx => by have := R.gone _ hx; omega
theorem TwoD.out (R : TwoD h0 h F V M f x c m l g y d n t) {b : Nat} (hb : b ∉ V.blocks) (hf : b ≠ f) : b ∉ [f, V.v, V.mem.m, V.mem.lb, V.ob] := by
  intro hz
  have q1 : V.ob ∈ V.blocks := by simp [VL.blocks]
  have q2 : V.v ∈ V.blocks := by simp [VL.blocks]
  have q3 : V.mem.m ∈ V.blocks := by simp [VL.blocks, ML.blocks]
  have q4 : V.mem.lb ∈ V.blocks := by simp [VL.blocks, ML.blocks]
  simp only [List.mem_cons, List.not_mem_nil, or_false] at hz
  rcases hz with e | e | e | e | e
  · exact hf e
  · exact hb (e ▸ q2)
  · exact hb (e ▸ q3)
  · exact hb (e ▸ q4)
  · exact hb (e ▸ q1)

/-- what a change to the first leaves -/
theorem TwoD.next (R : TwoD h0 h F V M f x c m l g y d n t) (k : Keeps [f, V.v, V.mem.m, V.mem.lb, V.ob] h h') {V' : VL} {M' : MemS} {c' : Crd} {m' : List Int} {l' : List Ent}
    (hi : Idle h' V' M') (hbk : BookI h' F f V' M' x c' m' l') (hv : V'.v = V.v) (hm : V'.mem = V.mem) (hnew : ∀ b ∈ V'.blocks, b ∈ V.blocks ∨ h.size ≤ b) (hfr : Fr x M.read M'.read) : TwoD h0 h' F V' M' f x c' m' l' g y d n t := by
  obtain ⟨a, na, cc, o, S, s⟩ := R.bg.obj
  have hgl : g < h.size := obj_lt o
  have hgo := R.out R.bg.out (Ne.symm R.ne)
  have hz := k.size
  refine ⟨R.k.nil_of k (fun z hz => R.gone z hz), hi, hbk, ⟨R.bg.good.other R.nx R.ny R.xy hfr, fun hb => ?_, R.bg.mem, hbk.fl, a, na, cc, ?_, S.keepM k (fun b hb => R.out (s b hb).1 (fun e => (s b hb).2.1 (e ▸ R.bf.mem))), fun b hb => ⟨fun hx => ?_, (s b hb).2.1, by have := (s b hb).2.2; omega⟩⟩, R.nf, R.ng, fun b hb => ?_, R.ne, R.nx, R.ny, R.xy, fun j j0 j1 => ?_⟩
  · rcases hnew g hb with hh | hh
    · exact R.bg.out hh
    · omega
  · unfold DirO
    rw [bookC_left hv hm]
    exact k.obj o hgo
  · rcases hnew b hx with hh | hh
    · exact (s b hb).1 hh
    · have := (s b hb).2.2; omega
  · have hz0 := R.k.size
    rcases hnew b hb with hh | hh
    · exact R.new b hh
    · omega
  · by_cases hq : M.read (200 + j) = w64 (x + 1)
    · rcases hfr.mine j j0 j1 hq with e | e
      · exact .inr (.inl e)
      · exact .inl e
    · rcases (hfr.oth j j0 j1 hq).1 with e | ⟨_, e⟩
      · rw [e]; exact R.own j j0 j1
      · exact .inr (.inl e)
theorem TwoD.step (R : TwoD h0 h F V M f x c m l g y d n t) (k : Keeps [f, V.v, V.mem.m, V.mem.lb, V.ob] h h') {e : Ent} {V' : VL} {M' : MemS} {c' : Crd} {m' : List Int} {l' : List Ent} (L : BLeft h h' F f V M x e l V' M' c' m' l') : TwoD h0 h' F V' M' f x c' m' l' g y d n t :=
  R.next k L.idle L.book L.v L.mem L.new L.fr
end
end Go.Proofs.YteambknhlbiajaaGreatDoor
/-
  Layer 11: a directory without names.
-/
set_option linter.all false
set_option maxRecDepth 100000
set_option maxHeartbeats 1000000
namespace Go.Proofs.YteambknhlbiajaaGreatDoor
open Go Go.Eng

theorem holes_mNo {m : List Int} (hl : m.length = 21) (h : ∀ j, j < 21 → plc m j = -1) : m = mNo := by
  apply List.ext_getElem (by rw [hl]; rfl)
  intro j h1 h2
  have := h j (by omega)
  unfold plc at this
  rw [List.getElem?_eq_getElem h1] at this
  have e := mNo_at j
  unfold plc at e
  rw [List.getElem?_eq_getElem h2] at e
  exact this.trans e.symm

theorem clear_dir {B : Int → UInt64} {node : Int} (hn : 0 ≤ node ∧ node < 24) {X : VS} {c : Crd} (hk : c.kind = 2 ∧ c.links = 1) (W : Wk X.now node c.more mNo) :
    (keepP B X node { c with size := 0 } mNo).2.1 = 0 ∧ DirI (keepP B X node { c with size := 0 } mNo).2.2.now node (keepP B X node { c with size := 0 } mNo).1 mNo [] ∧ Fr node X.now (keepP B X node { c with size := 0 } mNo).2.2.now := by
  have hu : (mNo.drop 5).any usedB = false := by decide
  rcases keepP_plain (B := B) (c := { c with size := 0 }) hn W with ⟨_, _, _, h⟩ | K
  · rw [hu] at h; cases h
  · refine ⟨K.e, ⟨K.map, K.wk, ?_, ?_, fun i hi hu => absurd (mNo_at i) hu, ?_, List.Pairwise.nil, K.mor⟩, K.fr⟩
    · rw [K.c_]; exact hk
    · rw [K.c_]; rfl
    · have : rawE (keepP B X node { c with size := 0 } mNo).2.2.now mNo = [] := by
        unfold rawE
        rw [List.flatMap_eq_nil_iff]
        intro i _
        exact placeE_hole (mNo_at i)
      rw [this]

theorem clear_spec' {h : Heap} {V : VL} {M : MemS} {X : VS} (A : At h V M X) {node : Int} (hn : 0 ≤ node ∧ node < 24) {c : Crd} {m : List Int} {l : List Ent} (D : DirI X.now node c m l) :
    CallH Tryz.prog 20 [.pointer (some ⟨V.v, 0, none⟩), .int .i64 node, .agg ⟨c.cells⟩] h (fun v h' => Keeps [V.ob] h h' ∧ ∃ c' X', v = .tuple #[.agg ⟨c'.cells⟩, .int .i64 0] ∧ At h' V M X' ∧ X'.away = X.away ∧ X'.awayN = X.awayN ∧
      DirI X'.now node c' mNo [] ∧ Fr node X.now X'.now) := by
  have hvb := A.blt
  have hob := hvb V.ob (by simp [VL.blocks])
  obtain ⟨_, hc⟩ := D.right
  have hop := D.open_
  refine call_of hmix Tryz.func20 rfl ok20 (by simp [Tryz.f20]) ?_
  conv => whnf
  refine AllocR.i fun b1 h1 e1 s1 o1 k1 => ?_
  conv => whnf
  refine AllocR.i fun b2 h2 e2 s2 o2 k2 => ?_
  conv => whnf
  refine CallR.i (fmay_spec node h2) fun v h4 k4 hv => ?_
  subst hv
  rw [if_pos hn]
  have k04 := (k1.trans k2).trans k4
  conv => whnf
  refine IfR.f rfl ?_
  conv => whnf
  refine CallR.i (fopen_spec (A.on k04) c hc) fun v h5 k5 hv => ?_
  have k05 := k04.trans k5
  unfold OpenR at hv
  rw [hop, if_pos rfl] at hv
  obtain ⟨b, L, a, cc, rfl, B5, nB, O5, nO, ok⟩ := hv
  have z1 := k1.size
  have z2 := k2.size
  have z4 := k4.size
  have z5 := k5.size
  have hdis : ∀ x ∈ BL.blocks b L, x ∉ V.blocks := fun x hx hx2 => by have := nB x hx; have := hvb x hx2; omega
  simp only at B5 ⊢
  have hnd := B5.nod
  simp only [BL.blocks, List.nodup_cons, List.mem_cons, not_or] at hnd
  have hpbn : h4.size ≤ L.pb := nB L.pb (by simp [BL.blocks])
  have hpbl : L.pb < h5.size := B5.lt L.pb (by simp [BL.blocks])
  have hbn : h4.size ≤ b := nB b (by simp [BL.blocks])
  conv => whnf
  refine IfR.f rfl ?_
  conv => whnf
  refine LoadR.o B5.obj rfl ?_
  conv => whnf
  refine LoopR.on [0, 1, 5, 6, 9, 36, 37, 38] [5, 6] (fun i : Nat => [(0, .v (.pointer (some ⟨V.v, 0, none⟩))), (1, .v (.int .i64 node)), (5, .lp 5 0), (6, .lp 6 0), (9, .v (.pointer (some ⟨b, 0, none⟩))), (36, .v (.slice (some ⟨L.pb, 0, none⟩) 21 L.pcap)), (37, .v (.int .i64 21)), (38, .v (.int .i64 (i : Int)))]) (fun _ => [(5, b1, c.cells), (6, b2, Crd.zero.cells)])
    (fun i h' => i ≤ 21 ∧ Keeps [V.ob, L.pb] h5 h' ∧ ∃ X' m', At h' V M X' ∧ X'.away = X.away ∧ X'.awayN = X.awayN ∧ Fr node X.now X'.now ∧ Wk X'.now node c.more m' ∧ IntsAt h' L.pb m' L.sp ∧ ∀ j, j < i → plc m' j = -1) (fun i => 21 - i) 0 ?_ ?_
  · conv => whnf
    exact ⟨0, rfl, rfl, rfl, Nat.zero_le _, Keeps.refl _ _, X, m, A.on k05, rfl, rfl, Fr.refl _ _, D.wk, B5.pl, fun j hj => by omega⟩
  · rintro i h6 ⟨hi, k6, X6, m6, A6, aw6, an6, F6, W6, P6, H6⟩
    have hml := W6.len
    have z6 := k6.size
    have ob6 := k6.obj B5.obj (by simp; exact ⟨by omega, hnd.1.1⟩)
    have in6 : ∀ x ∈ m6, inI64 x := W6.rngP.in64
    have S6 := P6.sl in6 (n := 21) (cap := L.pcap) hml.symm B5.cap (by rw [hml]; decide)
    conv => whnf
    refine IfR.i (fun hd => ?_) (fun hd => ?_)
    · have hi1 : i < m6.length := by simp at hd; omega
      have hi2 : i < 21 := by omega
      have hpi : plc m6 i = m6[i] := by unfold plc; rw [List.getElem?_eq_getElem hi1]; rfl
      obtain ⟨b7, o7, hb7, _, hc7⟩ := S6.at1 i hi1
      conv => whnf
      first | refine IdxS.i i rfl (by omega) hb7 ?_ | (refine MeetR.pass ?_; (conv => whnf); refine IdxS.i i rfl (by omega) hb7 ?_)
      conv => whnf
      refine LoadR.i hc7 ?_
      conv => whnf
      refine IfR.i (fun he => ?_) (fun he => ?_)
      · have hx : m6[i] = -1 := by simpa [One.val] using he
        conv => whnf
        refine ⟨21 - (i + 1), by omega, ?_⟩
        conv => whnf
        refine ⟨i + 1, rfl, by rw [wrapN (n := i + 1) (by simp) (by omega)], rfl, by omega, k6, X6, m6, A6, aw6, an6, F6, W6, P6, fun j hj => ?_⟩
        by_cases e : j = i
        · subst e; rw [hpi]; exact hx
        · exact H6 j (by omega)
      · have hx : m6[i] ≠ -1 := by simpa [One.val] using he
        obtain ⟨hk, hw, W8, F8, _, _⟩ := W6.drop_at hn hi2 (k := m6[i]) (by rw [← hpi]; rfl) hx
        have hdp : dropP X6 m6[i] = (0, { X6 with now := upd X6.now (200 + m6[i]) 0 }) := by
          unfold dropP
          rw [if_pos hk, if_neg (by rw [hw]; exact w64_ne hn)]
        have DS := drop_spec A6 m6[i]
        rw [hdp] at DS
        conv => whnf
        refine CallR.m DS ?_ fun v h8 k8 hv => ?_
        · intro y hy hx
          have hy2 : y = b1 ∨ y = b2 := by simpa [blocksOf, setB, or_comm] using hy
          simp at hx; omega
        obtain ⟨rfl, A8⟩ := hv
        have ob8 := k8.obj ob6 (by simp; omega)
        have P8 : IntsAt h8 L.pb m6 L.sp := k8.obj P6 (by simp; omega)
        have S8 := P8.sl in6 (n := 21) (cap := L.pcap) hml.symm B5.cap (by rw [hml]; decide)
        conv => whnf
        refine IfR.f rfl ?_
        conv => whnf
        refine LoadR.o ob8 rfl ?_
        conv => whnf
        refine IdxS.i i rfl (by omega) rfl ?_
        have hpl8 : 0 + i * 1 + 1 ≤ (m6.map (fun x => Value.int .i64 x) ++ L.sp).length := by rw [List.length_append, List.length_map]; omega
        conv => whnf
        refine StoreR.i P8 hpl8 ?_ fun h9 s9 o9 k9 => ?_
        · intro hx
          have hy2 : L.pb = b1 ∨ L.pb = b2 := by simpa [blocksOf, setB, or_comm] using hx
          omega
        have o9' : IntsAt h9 L.pb (m6.set i (-1)) L.sp := by
          have e := ints_set (m := m6) (sp := L.sp) (i := i) (x := -1) hi1
          unfold IntsAt
          rw [← e]; exact o9
        conv => whnf
        refine ⟨21 - (i + 1), by omega, ?_⟩
        conv => whnf
        refine ⟨i + 1, rfl, by rw [wrapN (n := i + 1) (by simp) (by omega)], rfl, by omega, k6.trans ((k8.mono (by simp)).trans (k9.mono (by simp))), _, m6.set i (-1), A8.keep k9 (fun y hy => by have := hvb y hy; simp; omega), aw6, an6, F6.trans F8 (w64_ne hn), W8, o9', fun j hj => ?_⟩
        rw [plc_set hi1]
        by_cases e : j = i
        · rw [if_pos e]
        · rw [if_neg e]; exact H6 j (by omega)
    · have hi1 : i = 21 := by simp at hd; omega
      subst hi1
      obtain rfl := holes_mNo hml H6
      obtain ⟨r1, r2, r3⟩ := clear_dir (B := M.read) (X := X6) hn D.kind W6
      have aw := keepP_aw M.read X6 node { c with size := 0 } mNo
      have hcok : ({ c with size := 0 } : Crd).cells = spliceL (0 + 2) (cellsOf (.int .i64 0)) c.cells := rfl
      conv => whnf
      refine BoxR.i fun h7 s7 k7 => ?_
      have ob7 := k7.obj ob6 (by simp; omega)
      have P7 : IntsAt h7 L.pb mNo L.sp := k7.obj P6 (by simp; omega)
      have S7 := P7.sl in6 (n := 21) (cap := L.pcap) hml.symm B5.cap (by rw [hml]; decide)
      have A7 := A6.keep k7 (fun y hy => by have := hvb y hy; simp; omega)
      have KS := keep_spec A7 node { c with size := 0 } S7 (fun _ => by simp [blkA]; omega)
      rw [hcok] at KS
      conv => whnf
      refine LoadR.o ob7 rfl ?_
      conv => whnf
      refine CallR.m KS ?_ fun v h8 k8 hv => ?_
      · intro y hy hx
        have hy2 : y = b1 ∨ y = b2 := by simpa [blocksOf, setB, or_comm] using hy
        simp at hx; omega
      obtain ⟨rfl, A8⟩ := hv
      conv => whnf
      refine BoxR.i fun h9 s9 k9 => ?_
      conv => whnf
      rw [r1]
      have kk : Keeps [V.ob] h h9 := (((k05.mono (by simp)).trans_new k6 (fun y hy => by simp at hy; rcases hy with rfl | rfl; exact .inl (by simp); right; omega)).trans_new k7 (fun y hy => by simp at hy; right; omega)).trans k8 |>.trans_new k9 (fun y hy => by simp at hy; right; omega)
      exact ⟨kk, _, _, rfl, A8.keep k9 (fun y hy => by have := hvb y hy; simp; omega), aw.1.trans aw6, aw.2.trans an6, r2, F6.trans r3 (w64_ne hn)⟩
end Go.Proofs.YteambknhlbiajaaGreatDoor
/-
  Layer 11's law: two directories, one cleared, then the other.
-/
set_option linter.all false
set_option maxRecDepth 100000
set_option maxHeartbeats 1000000
namespace Go.Proofs.YteambknhlbiajaaGreatDoor
open Go Go.Eng

theorem bnext_end {h h1 h' : Heap} {F : List Nat} {f : Nat} {V : VL} {M : MemS} {node : Int} {c0 c1 : Crd} {m : List Int} {l0 l1 : List Ent} {e g : Int} {X1 : VS} {Y : Crd → List Int → List Ent → Prop} (I : Idle h V M) (B : BookI h F f V M node c0 m l0) (hz : h.size ≤ h1.size)
    (hX : X1.away = [] ∧ X1.awayN = []) {a0 a1 : Option Addr} {n0 n1 q0 q1 : Nat}
    (S0 : Sl h a0 n0 q0 l0) (s0 : ∀ b ∈ blkA a0, b ∉ V.blocks ∧ b ∉ F ∧ b < h.size)
    (S1 : Sl h1 a1 n1 q1 l1) (s1 : ∀ b ∈ blkA a1, h.size ≤ b ∧ b < h1.size) (kk : Keeps [f, V.v, V.mem.m, V.mem.lb, V.ob] h h') (k1 : Keeps [f, V.v, V.mem.m, V.mem.lb] h1 h')
    (hok : e = 0 ∧ g = 0 → (∃ m', DirI X1.now node c1 m' l1 ∧ Y c1 m' l1) ∧ Fr node M.read X1.now)
    (hno : ¬ (e = 0 ∧ g = 0) → Y c0 m l0)
    (P : ∃ ob sb mb M', h1.size ≤ ob ∧ h1.size ≤ sb ∧ h1.size ≤ mb ∧ M'.until_ = -1 ∧ M'.sure.length = 2824 ∧ M'.read = (if e = 0 ∧ g = 0 then X1.now else M.read) ∧ At h' { V with ob := ob, sb := sb, mb := mb } M' { X1 with now := M'.read, seen := [], mine := [] } ∧
        h'[f]? = some (.cells ⟨if e = 0 ∧ g = 0 then bookC V node c1 a1 n1 q1 else bookC V node c0 a0 n0 q0⟩ 63 (0, 0))) :
    ∃ V' M' c' m' l', Idle h' V' M' ∧ BookI h' F f V' M' node c' m' l' ∧ V'.v = V.v ∧ V'.mem = V.mem ∧ (∀ b ∈ V'.blocks, b ∈ V.blocks ∨ h1.size ≤ b) ∧ Fr node M.read M'.read ∧ Y c' m' l' := by
  obtain ⟨ob, sb, mb, M', g1, g2, g3, g4, g5, g6, A7, f7⟩ := P
  rw [hX.1, hX.2] at A7
  have hb : ∀ b ∈ ({ V with ob := ob, sb := sb, mb := mb } : VL).blocks, b ∈ V.blocks ∨ h1.size ≤ b := by
    intro b hb
    simp only [VL.blocks, List.mem_cons] at hb ⊢
    rcases hb with rfl | rfl | rfl | rfl | hb
    · exact .inl (.inl rfl)
    · right; omega
    · right; omega
    · right; omega
    · exact .inl (.inr (.inr (.inr (.inr hb))))
  have hfl := B.fl
  have hf := hfl f B.mem
  have hlt := I.at_.blt
  have hz' := kk.size
  have hbl : ∀ b ∈ [f, V.v, V.mem.m, V.mem.lb, V.ob], b = f ∨ b ∈ V.blocks := by
    intro b hb
    simp only [List.mem_cons, List.not_mem_nil, or_false] at hb
    rcases hb with rfl | rfl | rfl | rfl | rfl
    · exact .inl rfl
    · exact .inr (by simp [VL.blocks])
    · exact .inr (by simp [VL.blocks, ML.blocks])
    · exact .inr (by simp [VL.blocks, ML.blocks])
    · exact .inr (by simp [VL.blocks])
  have hout : f ∉ ({ V with ob := ob, sb := sb, mb := mb } : VL).blocks := fun hx => by
    rcases hb f hx with h | h
    · exact B.out h
    · omega
  have I7 : Idle h' { V with ob := ob, sb := sb, mb := mb } M' := ⟨A7, I.ab, I.anb, g4, g5⟩
  have hnew : ∀ b ∈ ({ V with ob := ob, sb := sb, mb := mb } : VL).blocks, b ∈ V.blocks ∨ h.size ≤ b := fun b hx => by
    rcases hb b hx with h | h
    · exact .inl h
    · right; omega
  by_cases hc : e = 0 ∧ g = 0
  · obtain ⟨⟨m', G, yy⟩, R⟩ := hok hc
    rw [if_pos hc] at g6 f7
    refine ⟨_, M', c1, m', l1, I7, ⟨by rw [g6]; exact G, hout, B.mem, fun x hx => by have := hfl x hx; omega, a1, n1, q1, f7, S1.keepM k1 (fun b hx hy => ?_), fun b hx => ⟨fun hy => ?_, fun hy => ?_, ?_⟩⟩, rfl, rfl, hb, by rw [g6]; exact R, yy⟩
    · have := s1 b hx
      rcases hbl b (by simp only [List.mem_cons, List.not_mem_nil, or_false] at hy ⊢; rcases hy with h | h | h | h <;> simp [h]) with h | h
      · omega
      · have := hlt b h; omega
    · have := s1 b hx
      rcases hb b hy with h | h
      · have := hlt b h; omega
      · omega
    · have := s1 b hx
      have := hfl b hy; omega
    · have := s1 b hx
      have := k1.size; omega
  · rw [if_neg hc] at g6 f7
    refine ⟨_, M', c0, m, l0, I7, ⟨by rw [g6]; exact B.good, hout, B.mem, fun x hx => by have := hfl x hx; omega, a0, n0, q0, f7, S0.keepM kk (fun b hx hy => ?_), fun b hx => ⟨fun hy => ?_, (s0 b hx).2.1, ?_⟩⟩, rfl, rfl, hb, by rw [g6]; exact Fr.refl _ _, hno hc⟩
    · obtain ⟨p1, p2, p3⟩ := s0 b hx
      rcases hbl b hy with h | h
      · exact p2 (h ▸ B.mem)
      · exact p1 h
    · obtain ⟨p1, p2, p3⟩ := s0 b hx
      rcases hb b hy with h | h
      · exact p1 h
      · omega
    · have := s0 b hx; omega

/-- a directory is cleared, and that is made -/
theorem TwoD.cleared {h0 h h1 h' : Heap} {F : List Nat} {V : VL} {M : MemS} {f g : Nat} {x y : Int} {c d c1 : Crd} {m n : List Int} {l t : List Ent} {X1 : VS} (T : TwoD h0 h F V M f x c m l g y d n t) (hz : h.size ≤ h1.size) (hX : X1.away = [] ∧ X1.awayN = []) {a0 : Option Addr} {n0 q0 : Nat}
    (S0 : Sl h a0 n0 q0 l) (s0 : ∀ b ∈ blkA a0, b ∉ V.blocks ∧ b ∉ F ∧ b < h.size) (kk : Keeps [f, V.v, V.mem.m, V.mem.lb, V.ob] h h') (k1 : Keeps [f, V.v, V.mem.m, V.mem.lb] h1 h') (D : DirI X1.now x c1 mNo []) (R : Fr x M.read X1.now)
    (P : ∃ ob sb mb M', h1.size ≤ ob ∧ h1.size ≤ sb ∧ h1.size ≤ mb ∧ M'.until_ = -1 ∧ M'.sure.length = 2824 ∧ M'.read = (if (0 : Int) = 0 ∧ (0 : Int) = 0 then X1.now else M.read) ∧ At h' { V with ob := ob, sb := sb, mb := mb } M' { X1 with now := M'.read, seen := [], mine := [] } ∧
        h'[f]? = some (.cells ⟨if (0 : Int) = 0 ∧ (0 : Int) = 0 then bookC V x c1 none 0 0 else bookC V x c a0 n0 q0⟩ 63 (0, 0))) :
    ∃ V' M' c', TwoD h0 h' F V' M' f x c' mNo [] g y d n t ∧ ∀ b ∈ V'.blocks, b ∈ V.blocks ∨ h1.size ≤ b := by
  obtain ⟨V', M', c', m', l', i1, i2, i3, i4, i5, i6, rfl, rfl⟩ := bnext_end (Y := fun _ m l => m = mNo ∧ l = []) T.idle T.bf hz hX S0 s0 (l1 := []) (Sl.nil (a := none) (cap := 0)) (by simp [blkA]) kk k1 (fun _ => ⟨⟨mNo, D, rfl, rfl⟩, R⟩) (fun h => absurd ⟨rfl, rfl⟩ h) P
  exact ⟨V', M', c', T.next kk i1 i2 i3 i4 (fun b hb => by rcases i5 b hb with h | h; exact .inl h; right; omega) i6, i5⟩

theorem apart11_law {h : Heap} {a1 a2 : Option Addr} {n1 n2 c1 c2 : Nat} {xs ys : List Ent} (S : Sl h a1 n1 c1 xs) (S' : Sl h a2 n2 c2 ys) : CallH Tryz.prog 7 [.slice a1 n1 c1, .slice a2 n2 c2] h (fun v h' => Keeps [] h h' ∧ v = .bool true) := by
  refine call_of hmix Tryz.func7 rfl ok7 (by simp [Tryz.f7]) ?_
  conv => whnf
  refine CallR.i (lives11_spec h) fun v h1 k1 hv => ?_
  subst hv
  conv => whnf
  first | refine IfR.f rfl ?_ | (refine MeetR.pass ?_; (conv => whnf); refine IfR.f rfl ?_)
  conv => whnf
  refine CallR.i (begin11_spec h1) fun v h2 k2 hv => ?_
  obtain ⟨V, f, g, rfl, I2, f2, g2, q1, q2, q3, q4, q5, q6⟩ := hv
  have z1 := k1.size
  have hfb : f < h2.size := obj_lt f2
  have hgb : g < h2.size := obj_lt g2
  have fl : ∀ x ∈ [f, g], x < h2.size := fun x hx => by simp at hx; rcases hx with rfl | rfl <;> assumption
  have T2 : TwoD h h2 [f, g] V M0 f 2 (freshC 2 1) mNo [] g 3 (freshC 2 1) mNo [] :=
    ⟨k1.trans k2, I2, ⟨fresh_dir (fun x h0 h1 => by rw [b0_own h0 h1]; decide), q2, by simp, fl, none, 0, 0, f2, Sl.nil, by simp [blkA]⟩,
      ⟨fresh_dir (fun x h0 h1 => by rw [b0_own h0 h1]; decide), q3, by simp, fl, none, 0, 0, g2, Sl.nil, by simp [blkA]⟩, by omega, by omega, fun b hb => by have := q6 b hb; omega, q1, by decide, by decide, by decide, fun j j0 j1 => .inl (b0_own j0 j1)⟩
  conv => whnf
  refine AllocR.i fun b3 h3 e3 s3 o3 k3 => ?_
  conv => whnf
  refine BoxR.i fun h4 s4 k4 => ?_
  have k24 : Keeps [] h2 h4 := (k3.new1 k4 (by omega))
  have T4 := T2.on k24
  conv => whnf
  refine CallR.i (early11_spec (S.keep T4.k)) fun v h5 k5 hv => ?_
  obtain ⟨d1, rfl, S5⟩ := hv
  have T5 := T4.on k5
  conv => whnf
  refine CallR.i (early11_spec (S'.keep T5.k)) fun v h6 k6 hv => ?_
  obtain ⟨d2, rfl, S6'⟩ := hv
  have T6 := T5.on k6
  have S6 := S5.keep k6
  have hl1 := S6.hlen
  have hl2 := S6'.hlen
  have hm1 : min n1 120 ≤ 120 := Nat.min_le_right _ _
  have hm2 : min n2 120 ≤ 120 := Nat.min_le_right _ _
  have hb1 : 0 < min n1 120 → ∀ b ∈ blkA a1, b < h.size := fun hp => S.ltE (by omega)
  have hb2 : 0 < min n2 120 → ∀ b ∈ blkA a2, b < h.size := fun hp => S'.ltE (by omega)
  generalize min n1 120 = l1 at *
  generalize min n2 120 = l2 at *
  generalize xs.take 120 = xs at *
  generalize ys.take 120 = ys at *
  have hv6 : b3 ∉ V.blocks := fun hb => by have := I2.at_.blt _ hb; omega
  conv => whnf
  refine LoopR.on [0, 1, 5, 6] [5] (fun i : Nat => [(0, .v (.slice a1 l1 d1)), (1, .v (.slice a2 l2 d2)), (5, .lp 5 0), (6, .v (.int .i64 (i : Int)))]) (fun _ => [(5, b3, [.pointer (some ⟨f, 0, none⟩), .pointer (some ⟨g, 0, none⟩)])]) (fun i h' => i ≤ 120 ∧ Sl h' a1 l1 d1 xs ∧ Sl h' a2 l2 d2 ys ∧ ∃ V M c m s d n t, TwoD h h' [f, g] V M f 2 c m s g 3 d n t ∧ b3 ∉ V.blocks ∧ b3 < h'.size) (fun i => 120 - i) 0 ?_ ?_
  · conv => whnf
    exact ⟨0, rfl, rfl, rfl, Nat.zero_le _, S6, S6', _, _, _, _, _, _, _, _, T6, hv6, by have := k24.size; have := k5.size; have := k6.size; omega⟩
  · rintro i h7 ⟨hi, S7, S7', V7, M7, c7, m7, s7, e7, n7, t7, T7, hv7, hz7⟩
    conv => whnf
    refine IfR.i (fun hd => ?_) (fun hd => ?_)
    · have hi1 : i < 120 := by simp at hd; omega
      rcases Nat.lt_or_ge i l1 with h1 | h1
      case' inl =>
        have hx1 : i < xs.length := by omega
        have hd1 : decide ((i : Int) < (l1 : Int)) = true := by simp; omega
        obtain ⟨b8, o8, hb8, _, ⟨rfl, ok8⟩, hc8⟩ := S7.at_ i hx1
        conv => whnf
        refine IdxR.i 0 rfl (by decide) ?_
        conv => whnf
        refine NthR.i rfl ?_
        conv => whnf
        refine IdxS.i i rfl (by omega) hb8 ?_
        conv => whnf
        refine LoadN.i (vs := xs[i].cells) rfl (fun q hq => hc8 q hq) ?_
        conv => whnf
        refine IfR.t hd1 ?_
        conv => whnf
        refine CallR.m (bstep_spec T7.idle (by decide) T7.bf xs[i] ok8) (by simpa [blocksOf] using T7.out hv7 (by omega)) fun v h8 k8 hv => ?_
        obtain ⟨rfl, V8, M8, c8, m8, s8, L8⟩ := hv
        have T8 := T7.step k8 L8
        have S8 := S7.keepM k8 fun b hb => T7.big (hb1 (by omega) b hb)
        have S8' : Sl h8 a2 l2 d2 ys := by
          rcases Nat.eq_zero_or_pos l2 with e | e
          · exact ⟨S7'.hlen, S7'.hcap, S7'.hbig, fun i hi => by have := S7'.hlen; omega⟩
          · exact S7'.keepM k8 fun b hb => T7.big (hb2 e b hb)
        have hv8 : b3 ∉ V8.blocks := fun hb => by rcases L8.new b3 hb with h | h; exact hv7 h; omega
        have hz8 : b3 < h8.size := by have := k8.size; omega
      case' inr =>
        have hd1 : decide ((i : Int) < (l1 : Int)) = false := by simp; omega
        obtain ⟨h8, rfl⟩ : ∃ x, x = h7 := ⟨_, rfl⟩
        have T8 := T7
        have S8 := S7
        have S8' := S7'
        have hv8 := hv7
        have hz8 := hz7
        conv => whnf
        refine IdxR.i 0 rfl (by decide) ?_
        conv => whnf
        refine NthR.i rfl ?_
        conv => whnf
        refine IdxS.u 0 0 0 (fun h => by rw [hd1] at h; cases h) ?_
        conv => whnf
        refine LoadN.u [.string ⟨#[]⟩, .int .i64 0] rfl (fun h => by rw [hd1] at h; cases h) ?_
        conv => whnf
        refine IfR.f hd1 ?_
      all_goals
        rcases Nat.lt_or_ge i l2 with h2 | h2
        case' inl =>
          have hx2 : i < ys.length := by have := S8'.hlen; omega
          have hd2 : decide ((i : Int) < (l2 : Int)) = true := by simp; omega
          obtain ⟨b9, o9, hb9, _, ⟨rfl, ok9⟩, hc9⟩ := S8'.at_ i hx2
          conv => whnf
          refine IdxR.i 1 rfl (by decide) ?_
          conv => whnf
          refine NthR.i rfl ?_
          conv => whnf
          refine IdxS.i i rfl (by omega) hb9 ?_
          conv => whnf
          refine LoadN.i (vs := ys[i].cells) rfl (fun q hq => hc9 q hq) ?_
          conv => whnf
          refine IfR.t (by rw [hd1, hd2]; rfl) ?_
          conv => whnf
          refine CallR.m (bstep_spec T8.idle (by decide) T8.bg ys[i] ok9) (by simpa [blocksOf] using T8.swap.out hv8 (by omega)) fun v h9 k9 hv => ?_
          obtain ⟨rfl, V9, M9, c9, m9, s9, L9⟩ := hv
          have T9 := (T8.swap.step k9 L9).swap
          have S9' := S8'.keepM k9 fun b hb => T8.swap.big (hb2 (by omega) b hb)
          have S9 : Sl h9 a1 l1 d1 xs := by
            rcases Nat.eq_zero_or_pos l1 with e | e
            · exact ⟨S8.hlen, S8.hcap, S8.hbig, fun i hi => by have := S8.hlen; omega⟩
            · exact S8.keepM k9 fun b hb => T8.swap.big (hb1 e b hb)
          have hv9 : b3 ∉ V9.blocks := fun hb => by rcases L9.new b3 hb with h | h; exact hv8 h; omega
          have hz9 : b3 < h9.size := by have := k9.size; omega
        case' inr =>
          have hd2 : decide ((i : Int) < (l2 : Int)) = false := by simp; omega
          obtain ⟨h9, rfl⟩ : ∃ x, x = h8 := ⟨_, rfl⟩
          have T9 := T8
          have S9 := S8
          have S9' := S8'
          have hv9 := hv8
          have hz9 := hz8
          conv => whnf
          refine IdxR.i 1 rfl (by decide) ?_
          conv => whnf
          refine NthR.i rfl ?_
          conv => whnf
          refine IdxS.u 0 0 0 (fun h => by rw [hd2] at h; simp at h) ?_
          conv => whnf
          refine LoadN.u [.string ⟨#[]⟩, .int .i64 0] rfl (fun h => by rw [hd2] at h; simp at h) ?_
          conv => whnf
          refine IfR.f (by rw [hd2]; simp) ?_
        all_goals
          conv => whnf
          refine IfR.f (by rw [hd1, hd2]; rfl) ?_
          conv => whnf
          refine ⟨120 - (i + 1), by omega, ?_⟩
          conv => whnf
          exact ⟨i + 1, rfl, by rw [wrapN (n := i + 1) (by simp) (by omega)], rfl, by omega, S9, S9', _, _, _, _, _, _, _, _, T9, hv9, hz9⟩
    · have wh : ∀ {hx : Heap} {V : VL} {M : MemS} {c d : Crd} {m n : List Int} {l t : List Ent}, TwoD h hx [f, g] V M f 2 c m l g 3 d n t → CallH Tryz.prog 24 [.pointer (some ⟨f, 0, none⟩)] hx (fun v h' => Keeps [] hx h' ∧ v = .bool true) := fun T => by
        obtain ⟨a6, q6, cc6, fo6, Sl6, _⟩ := T.bf.obj
        exact bwhole_spec T.idle fo6 Sl6 T.bf.good
      have wh' : ∀ {hx : Heap} {V : VL} {M : MemS} {c d : Crd} {m n : List Int} {l t : List Ent}, TwoD h hx [f, g] V M f 2 c m l g 3 d n t → CallH Tryz.prog 24 [.pointer (some ⟨g, 0, none⟩)] hx (fun v h' => Keeps [] hx h' ∧ v = .bool true) := fun T => by
        obtain ⟨a6, q6, cc6, fo6, Sl6, _⟩ := T.bg.obj
        exact bwhole_spec T.idle fo6 Sl6 T.bg.good
      conv => whnf
      refine IdxR.i 0 rfl (by decide) ?_
      conv => whnf
      refine NthR.i rfl ?_
      conv => whnf
      refine CallR.i (wh T7) fun v h8 k8 hv => ?_
      subst hv
      have T8 := T7.on k8
      conv => whnf
      refine IdxR.i 1 rfl (by decide) ?_
      conv => whnf
      refine NthR.i rfl ?_
      conv => whnf
      refine IfR.t (by simp) ?_
      conv => whnf
      refine CallR.i (wh' T8) fun v h9 k9 hv => ?_
      subst hv
      have T9 := T8.on k9
      conv => whnf
      refine IfR.f (by simp) ?_
      obtain ⟨a8, n8, q8, fo9, S9, s9⟩ := T9.bf.obj
      have f9 := fo9
      unfold DirO at f9
      rw [dir_cells] at f9
      have hv9 := hv7
      have hz9 : b3 < h9.size := by have := k8.size; have := k9.size; omega
      have ob9 : V7.ob ∈ V7.blocks := by simp [VL.blocks]
      have hbo9 : b3 ≠ V7.ob := fun e => hv9 (e ▸ ob9)
      have hol9 := T9.idle.at_.blt _ ob9
      have obf9 : f ≠ V7.ob := fun e => T9.bf.out (e ▸ ob9)
      conv => whnf
      refine IdxR.i 0 rfl (by decide) ?_
      conv => whnf
      refine NthR.i rfl ?_
      conv => whnf
      refine LoadR.o f9 rfl ?_
      conv => whnf
      refine IdxR.i 0 rfl (by decide) ?_
      conv => whnf
      refine NthR.i rfl ?_
      conv => whnf
      refine LoadN.o f9 rfl ?_
      have WS : ∀ hx, At hx V7 M7 ⟨M7.read, [], [], [], []⟩ → _ := fun hx Ax => clear_spec' Ax (by decide) (c := c7) (m := m7) (l := s7) T9.bf.good
      conv => whnf
      refine BothR.i ?c1 ?c2
      case' c1 =>
        conv => whnf
        refine CallR.m (WS h9 T9.idle.at_) ?_ fun v h10 k10 hv => ?_
        · intro y hy hx
          have hy2 : y = b3 := by simpa [blocksOf, setB] using hy
          simp at hx; omega
        obtain ⟨c10, X10, rfl, A10, aw10, awn10, D10, F10⟩ := hv
        conv => whnf
        refine AllocR.i fun b11 h11 e11 s11 o11 k11 => ?_
        have z10 := k10.size
        conv => whnf
        refine BoxR.i fun h12 s12 k12 => ?_
        have k912 : Keeps [V7.ob] h9 h12 := (k10.trans_nil k11).m1 k12 (by omega)
        have hb11 : h9.size ≤ b11 := by omega
        have hb12 : b11 < h12.size := by omega
        have A12 := (A10.on k11).keep k12 (fun b hb => by have := T9.idle.at_.blt b hb; simp; omega)
        have fo12 := k912.obj fo9 (by simpa using obf9)
        have z912 := k912.size
        have FS := bend_spec A12 T9.idle.ab T9.idle.anb T9.idle.calm T9.idle.size fo12 T9.bf.out c10 none 0 0 0 0
        conv => whnf
        refine IdxR.i 0 rfl (by decide) ?_
        conv => whnf
        refine NthR.i rfl ?_
        conv => whnf
        refine CallR.m FS ?_ fun v h13 k13 hv => ?_
        · intro y hy hx
          have hy2 : y = b3 ∨ y = b11 := by simpa [blocksOf, setB, or_comm] using hy
          have hx2 := T9.out hv9 (by omega)
          have q1 := T9.idle.at_.blt V7.v (by simp [VL.blocks])
          have q2 := T9.idle.at_.blt V7.mem.m (by simp [VL.blocks, ML.blocks])
          have q3 := T9.idle.at_.blt V7.mem.lb (by simp [VL.blocks, ML.blocks])
          simp only [List.mem_cons, List.not_mem_nil, or_false] at hx hx2
          rcases hy2 with rfl | rfl
          · exact hx2 (by rcases hx with h | h | h | h <;> simp [h])
          · have := obj_lt fo9; omega
        obtain ⟨rfl, P⟩ := hv
        have kk13 : Keeps [f, V7.v, V7.mem.m, V7.mem.lb, V7.ob] h9 h13 := (k912.mono (by simp)).trans (k13.mono (by simp))
        obtain ⟨V13, M13, c13, T13, hn13⟩ := T9.cleared z912 ⟨aw10, awn10⟩ S9 s9 kk13 k13 D10 F10 P
        have hv13 : b3 ∉ V13.blocks := fun hb => by
          rcases hn13 _ hb with h | h
          · exact hv9 h
          · omega
        have hz13 : b3 < h13.size := by have := kk13.size; omega
        conv => whnf
        refine IdxR.i 0 rfl (by decide) ?_
        conv => whnf
        refine NthR.i rfl ?_
        conv => whnf
        refine IfR.t (by simp) ?_
        conv => whnf
        refine CallR.i (wh T13) fun v h14 k14 hv => ?_
        subst hv
        have T14 := T13.on k14
        conv => whnf
        refine IdxR.i 1 rfl (by decide) ?_
        conv => whnf
        refine NthR.i rfl ?_
        conv => whnf
        refine IfR.t (by simp) ?_
        conv => whnf
        refine CallR.i (wh' T14) fun v h15 k15 hv => ?_
        subst hv
        have T15 := T14.on k15
        conv => whnf
        refine IfR.f (by simp) ?_
        obtain ⟨a16, n16, q16, fo15, S15, s15⟩ := T15.bg.obj
        have f15 := fo15
        unfold DirO at f15
        rw [dir_cells] at f15
        have hz15 : b3 < h15.size := by have := k14.size; have := k15.size; omega
        have hz15' : b11 < h15.size := by have := k14.size; have := k15.size; have := k13.size; omega
        have hv15' : b11 ∉ V13.blocks := fun hb => by
          rcases hn13 _ hb with h | h
          · have := T9.idle.at_.blt _ h; omega
          · omega
        have ob15 : V13.ob ∈ V13.blocks := by simp [VL.blocks]
        have hbo15 : b3 ≠ V13.ob := fun e => hv13 (e ▸ ob15)
        have hbo15' : b11 ≠ V13.ob := fun e => hv15' (e ▸ ob15)
        have hol15 := T15.idle.at_.blt _ ob15
        have obg15 : g ≠ V13.ob := fun e => T15.bg.out (e ▸ ob15)
        have hgl9 : g < h9.size := T9.bg.fl g (by simp)
        conv => whnf
        refine IdxR.i 1 rfl (by decide) ?_
        conv => whnf
        refine NthR.i rfl ?_
        conv => whnf
        refine LoadR.o f15 rfl ?_
        conv => whnf
        refine IdxR.i 1 rfl (by decide) ?_
        conv => whnf
        refine NthR.i rfl ?_
        conv => whnf
        refine LoadN.o f15 rfl ?_
        have WS' : ∀ hx, At hx V13 M13 ⟨M13.read, [], [], [], []⟩ → _ := fun hx Ax => clear_spec' Ax (by decide) (c := e7) (m := n7) (l := t7) T15.bg.good
        conv => whnf
        refine BothR.i ?d1 ?d2
        case' d1 =>
          conv => whnf
          refine CallR.m (WS' h15 T15.idle.at_) ?_ fun v h16 k16 hv => ?_
          · intro y hy hx
            have hy2 : y = b3 ∨ y = b11 := by simpa [blocksOf, setB, or_comm] using hy
            simp at hx; omega
          obtain ⟨c16, X16, rfl, A16, aw16, awn16, D16, F16⟩ := hv
          conv => whnf
          refine AllocR.i fun b17 h17 e17 s17 o17 k17 => ?_
          have z16 := k16.size
          conv => whnf
          refine BoxR.i fun h18 s18 k18 => ?_
          have k1518 : Keeps [V13.ob] h15 h18 := (k16.trans_nil k17).m1 k18 (by omega)
          have hb17 : h15.size ≤ b17 := by omega
          have A18 := (A16.on k17).keep k18 (fun b hb => by have := T15.idle.at_.blt b hb; simp; omega)
        case' d2 =>
          conv => whnf
          refine AllocR.i fun b17 h17 e17 s17 o17 k17 => ?_
          conv => whnf
          refine CallR.m (WS' h17 (T15.idle.at_.on k17)) ?_ fun v h16 k16 hv => ?_
          · intro y hy hx
            have hy2 : y = b3 ∨ y = b11 ∨ y = b17 := by
              simpa [blocksOf, setB] using hy
            simp at hx; omega
          obtain ⟨c16, X16, rfl, A16, aw16, awn16, D16, F16⟩ := hv
          have z16 := k16.size
          conv => whnf
          refine BoxR.i fun h18 s18 k18 => ?_
          have k1518 : Keeps [V13.ob] h15 h18 := ((k17.mono (by simp)).trans k16).m1 k18 (by omega)
          have hb17 : h15.size ≤ b17 := by omega
          have A18 := A16.keep k18 (fun b hb => by have := T15.idle.at_.blt b hb; simp; omega)
        all_goals
          have fo18 := k1518.obj fo15 (by simpa using obg15)
          have z1518 := k1518.size
          have FS' := bend_spec A18 T15.idle.ab T15.idle.anb T15.idle.calm T15.idle.size fo18 T15.bg.out c16 none 0 0 0 0
          conv => whnf
          refine IdxR.i 1 rfl (by decide) ?_
          conv => whnf
          refine NthR.i rfl ?_
          conv => whnf
          refine CallR.m FS' ?_ fun v h19 k19 hv => ?_
          · intro y hy hx
            have hy2 : y = b3 ∨ y = b11 ∨ y = b17 := by
              simpa [blocksOf, setB] using hy
            have hx2 := T15.swap.out hv13 (by omega)
            have hx3 := T15.swap.out hv15' (by omega)
            have q1 := T15.idle.at_.blt V13.v (by simp [VL.blocks])
            have q2 := T15.idle.at_.blt V13.mem.m (by simp [VL.blocks, ML.blocks])
            have q3 := T15.idle.at_.blt V13.mem.lb (by simp [VL.blocks, ML.blocks])
            simp only [List.mem_cons, List.not_mem_nil, or_false] at hx hx2 hx3
            rcases hy2 with rfl | rfl | rfl
            · exact hx2 (by rcases hx with h | h | h | h <;> simp [h])
            · exact hx3 (by rcases hx with h | h | h | h <;> simp [h])
            · have := obj_lt fo15; omega
          obtain ⟨rfl, P'⟩ := hv
          have kk19 : Keeps [g, V13.v, V13.mem.m, V13.mem.lb, V13.ob] h15 h19 := (k1518.mono (by simp)).trans (k19.mono (by simp))
          obtain ⟨V19, M19, c19, T19', hn19⟩ := T15.swap.cleared z1518 ⟨aw16, awn16⟩ S15 s15 kk19 k19 D16 F16 P'
          have T19 := T19'.swap
          obtain ⟨ax, nx, qx, fox, _, _⟩ := T19.bg.obj
          have fx := fox
          unfold DirO at fx
          rw [dir_cells] at fx
          conv => whnf
          refine IdxR.i 1 rfl (by decide) ?_
          conv => whnf
          refine NthR.i rfl ?_
          conv => whnf
          refine LoadR.o fx rfl ?_
          conv => whnf
          refine IfR.t (by simp) ?_
          conv => whnf
          refine CallR.i (free_spec T19.idle.at_) fun v h20 k20 hv => ?_
          subst hv
          conv => whnf
          have hno : (mNo.drop 5).any usedB = false := by decide
          have hu : ∀ {x : Int}, x = -1 → usedL x mNo = [] := fun e => by subst e; decide
          have hfr := free_two' (by decide) (by decide) (by decide) T19.bf.good.wk T19.bg.good.wk T19.own
          rw [hu (T19.bf.good.mor.2 hno), hu (T19.bg.good.mor.2 hno)] at hfr
          refine ⟨(T19.on k20).k, ?_⟩
          simp at hfr
          simp [hfr]
      case' c2 =>
        conv => whnf
        refine AllocR.i fun b11 h11 e11 s11 o11 k11 => ?_
        conv => whnf
        refine CallR.m (WS h11 (T9.idle.at_.on k11)) ?_ fun v h10 k10 hv => ?_
        · intro y hy hx
          have hy2 : y = b3 ∨ y = b11 := by simpa [blocksOf, setB, or_comm] using hy
          simp at hx; omega
        obtain ⟨c10, X10, rfl, A10, aw10, awn10, D10, F10⟩ := hv
        have z10 := k10.size
        conv => whnf
        refine BoxR.i fun h12 s12 k12 => ?_
        have k912 : Keeps [V7.ob] h9 h12 := ((k11.mono (by simp)).trans k10).m1 k12 (by omega)
        have hb11 : h9.size ≤ b11 := by omega
        have hb12 : b11 < h12.size := by omega
        have A12 := A10.keep k12 (fun b hb => by have := T9.idle.at_.blt b hb; simp; omega)
        have fo12 := k912.obj fo9 (by simpa using obf9)
        have z912 := k912.size
        have FS := bend_spec A12 T9.idle.ab T9.idle.anb T9.idle.calm T9.idle.size fo12 T9.bf.out c10 none 0 0 0 0
        conv => whnf
        refine IdxR.i 0 rfl (by decide) ?_
        conv => whnf
        refine NthR.i rfl ?_
        conv => whnf
        refine CallR.m FS ?_ fun v h13 k13 hv => ?_
        · intro y hy hx
          have hy2 : y = b3 ∨ y = b11 := by simpa [blocksOf, setB, or_comm] using hy
          have hx2 := T9.out hv9 (by omega)
          have q1 := T9.idle.at_.blt V7.v (by simp [VL.blocks])
          have q2 := T9.idle.at_.blt V7.mem.m (by simp [VL.blocks, ML.blocks])
          have q3 := T9.idle.at_.blt V7.mem.lb (by simp [VL.blocks, ML.blocks])
          simp only [List.mem_cons, List.not_mem_nil, or_false] at hx hx2
          rcases hy2 with rfl | rfl
          · exact hx2 (by rcases hx with h | h | h | h <;> simp [h])
          · have := obj_lt fo9; omega
        obtain ⟨rfl, P⟩ := hv
        have kk13 : Keeps [f, V7.v, V7.mem.m, V7.mem.lb, V7.ob] h9 h13 := (k912.mono (by simp)).trans (k13.mono (by simp))
        obtain ⟨V13, M13, c13, T13, hn13⟩ := T9.cleared z912 ⟨aw10, awn10⟩ S9 s9 kk13 k13 D10 F10 P
        have hv13 : b3 ∉ V13.blocks := fun hb => by
          rcases hn13 _ hb with h | h
          · exact hv9 h
          · omega
        have hz13 : b3 < h13.size := by have := kk13.size; omega
        conv => whnf
        refine IdxR.i 0 rfl (by decide) ?_
        conv => whnf
        refine NthR.i rfl ?_
        conv => whnf
        refine IfR.t (by simp) ?_
        conv => whnf
        refine CallR.i (wh T13) fun v h14 k14 hv => ?_
        subst hv
        have T14 := T13.on k14
        conv => whnf
        refine IdxR.i 1 rfl (by decide) ?_
        conv => whnf
        refine NthR.i rfl ?_
        conv => whnf
        refine IfR.t (by simp) ?_
        conv => whnf
        refine CallR.i (wh' T14) fun v h15 k15 hv => ?_
        subst hv
        have T15 := T14.on k15
        conv => whnf
        refine IfR.f (by simp) ?_
        obtain ⟨a16, n16, q16, fo15, S15, s15⟩ := T15.bg.obj
        have f15 := fo15
        unfold DirO at f15
        rw [dir_cells] at f15
        have hz15 : b3 < h15.size := by have := k14.size; have := k15.size; omega
        have hz15' : b11 < h15.size := by have := k14.size; have := k15.size; have := k13.size; omega
        have hv15' : b11 ∉ V13.blocks := fun hb => by
          rcases hn13 _ hb with h | h
          · have := T9.idle.at_.blt _ h; omega
          · omega
        have ob15 : V13.ob ∈ V13.blocks := by simp [VL.blocks]
        have hbo15 : b3 ≠ V13.ob := fun e => hv13 (e ▸ ob15)
        have hbo15' : b11 ≠ V13.ob := fun e => hv15' (e ▸ ob15)
        have hol15 := T15.idle.at_.blt _ ob15
        have obg15 : g ≠ V13.ob := fun e => T15.bg.out (e ▸ ob15)
        have hgl9 : g < h9.size := T9.bg.fl g (by simp)
        conv => whnf
        refine IdxR.i 1 rfl (by decide) ?_
        conv => whnf
        refine NthR.i rfl ?_
        conv => whnf
        refine LoadR.o f15 rfl ?_
        conv => whnf
        refine IdxR.i 1 rfl (by decide) ?_
        conv => whnf
        refine NthR.i rfl ?_
        conv => whnf
        refine LoadN.o f15 rfl ?_
        have WS' : ∀ hx, At hx V13 M13 ⟨M13.read, [], [], [], []⟩ → _ := fun hx Ax => clear_spec' Ax (by decide) (c := e7) (m := n7) (l := t7) T15.bg.good
        conv => whnf
        refine BothR.i ?f1 ?f2
        case' f1 =>
          conv => whnf
          refine CallR.m (WS' h15 T15.idle.at_) ?_ fun v h16 k16 hv => ?_
          · intro y hy hx
            have hy2 : y = b3 ∨ y = b11 := by simpa [blocksOf, setB, or_comm] using hy
            simp at hx; omega
          obtain ⟨c16, X16, rfl, A16, aw16, awn16, D16, F16⟩ := hv
          conv => whnf
          refine AllocR.i fun b17 h17 e17 s17 o17 k17 => ?_
          have z16 := k16.size
          conv => whnf
          refine BoxR.i fun h18 s18 k18 => ?_
          have k1518 : Keeps [V13.ob] h15 h18 := (k16.trans_nil k17).m1 k18 (by omega)
          have hb17 : h15.size ≤ b17 := by omega
          have A18 := (A16.on k17).keep k18 (fun b hb => by have := T15.idle.at_.blt b hb; simp; omega)
        case' f2 =>
          conv => whnf
          refine AllocR.i fun b17 h17 e17 s17 o17 k17 => ?_
          conv => whnf
          refine CallR.m (WS' h17 (T15.idle.at_.on k17)) ?_ fun v h16 k16 hv => ?_
          · intro y hy hx
            have hy2 : y = b3 ∨ y = b11 ∨ y = b17 := by
              simpa [blocksOf, setB] using hy
            simp at hx; omega
          obtain ⟨c16, X16, rfl, A16, aw16, awn16, D16, F16⟩ := hv
          have z16 := k16.size
          conv => whnf
          refine BoxR.i fun h18 s18 k18 => ?_
          have k1518 : Keeps [V13.ob] h15 h18 := ((k17.mono (by simp)).trans k16).m1 k18 (by omega)
          have hb17 : h15.size ≤ b17 := by omega
          have A18 := A16.keep k18 (fun b hb => by have := T15.idle.at_.blt b hb; simp; omega)
        all_goals
          have fo18 := k1518.obj fo15 (by simpa using obg15)
          have z1518 := k1518.size
          have FS' := bend_spec A18 T15.idle.ab T15.idle.anb T15.idle.calm T15.idle.size fo18 T15.bg.out c16 none 0 0 0 0
          conv => whnf
          refine IdxR.i 1 rfl (by decide) ?_
          conv => whnf
          refine NthR.i rfl ?_
          conv => whnf
          refine CallR.m FS' ?_ fun v h19 k19 hv => ?_
          · intro y hy hx
            have hy2 : y = b3 ∨ y = b11 ∨ y = b17 := by
              simpa [blocksOf, setB] using hy
            have hx2 := T15.swap.out hv13 (by omega)
            have hx3 := T15.swap.out hv15' (by omega)
            have q1 := T15.idle.at_.blt V13.v (by simp [VL.blocks])
            have q2 := T15.idle.at_.blt V13.mem.m (by simp [VL.blocks, ML.blocks])
            have q3 := T15.idle.at_.blt V13.mem.lb (by simp [VL.blocks, ML.blocks])
            simp only [List.mem_cons, List.not_mem_nil, or_false] at hx hx2 hx3
            rcases hy2 with rfl | rfl | rfl
            · exact hx2 (by rcases hx with h | h | h | h <;> simp [h])
            · exact hx3 (by rcases hx with h | h | h | h <;> simp [h])
            · have := obj_lt fo15; omega
          obtain ⟨rfl, P'⟩ := hv
          have kk19 : Keeps [g, V13.v, V13.mem.m, V13.mem.lb, V13.ob] h15 h19 := (k1518.mono (by simp)).trans (k19.mono (by simp))
          obtain ⟨V19, M19, c19, T19', hn19⟩ := T15.swap.cleared z1518 ⟨aw16, awn16⟩ S15 s15 kk19 k19 D16 F16 P'
          have T19 := T19'.swap
          obtain ⟨ax, nx, qx, fox, _, _⟩ := T19.bg.obj
          have fx := fox
          unfold DirO at fx
          rw [dir_cells] at fx
          conv => whnf
          refine IdxR.i 1 rfl (by decide) ?_
          conv => whnf
          refine NthR.i rfl ?_
          conv => whnf
          refine LoadR.o fx rfl ?_
          conv => whnf
          refine IfR.t (by simp) ?_
          conv => whnf
          refine CallR.i (free_spec T19.idle.at_) fun v h20 k20 hv => ?_
          subst hv
          conv => whnf
          have hno : (mNo.drop 5).any usedB = false := by decide
          have hu : ∀ {x : Int}, x = -1 → usedL x mNo = [] := fun e => by subst e; decide
          have hfr := free_two' (by decide) (by decide) (by decide) T19.bf.good.wk T19.bg.good.wk T19.own
          rw [hu (T19.bf.good.mor.2 hno), hu (T19.bg.good.mor.2 hno)] at hfr
          refine ⟨(T19.on k20).k, ?_⟩
          simp at hfr
          simp [hfr]
end Go.Proofs.YteambknhlbiajaaGreatDoor
