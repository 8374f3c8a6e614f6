/-
  Joined texts: CalF, CalG, EntB, MemB, MemC, LayA, LaiZ, CalH, WldA, NewT, LayB, CalI.
-/
import Derived.Test.YtkdmlieckkdmgaaGreatDoorJLawWSeenm
import Derived.Test.YtkdmlieckkdmgaaGreatDoorJLawWSeenj
import Derived.Test.YtkdmlieckkdmgaaGreatDoorJLawWSeenk
import Derived.Test.YtkdmlieckkdmgaaGreatDoorJLawWSeeni
import Derived.Test.YtkdmlieckkdmgaaGreatDoorJLawWSeenl
/-
  Layer 13: a path's file, read, written, told of; what makes files.
-/
set_option linter.all false
set_option maxRecDepth 100000
set_option maxHeartbeats 4000000
namespace Go.Proofs.YtkdmlieckkdmgaaGreatDoor
open Go Go.Eng

/-- a path's file, in a view -/
def pthV (S : FS) (path : List UInt8) : Int × Int := pathA (viewFs S) path true
def pthE (S : FS) (path : List UInt8) : Int := if (pthV S path).2 = 0 ∧ (S.C (pthV S path).1).kind = 2 then 7 else (pthV S path).2
def pthC (S : FS) (path : List UInt8) : Crd := if (pthV S path).2 = 0 then S.C (pthV S path).1 else Crd.zero

theorem path_in {X : VS} {S : FS} (I : FsI X.now S) (C : FsC S) {path : List UInt8} {follow : Bool} (h0 : (pathA (viewFs S) path follow).2 = 0) :
    0 < (pathA (viewFs S) path follow).1 ∧ (pathA (viewFs S) path follow).1 < 24 ∧ (S.C (pathA (viewFs S) path follow).1).kind ≠ 0 := by
  have key : 0 ≤ (pathA (viewFs S) path follow).1 ∧ (pathA (viewFs S) path follow).1 < 24 ∧ (S.C (pathA (viewFs S) path follow).1).kind ≠ 0 := by
    unfold pathA at h0 ⊢
    cases hp : pathP path with
    | none => rw [hp] at h0; cases h0
    | some l =>
      rw [hp] at h0
      exact walkV_in (X := X) C 600 1 0 l ⟨by decide, by decide, by rw [C.root]; decide⟩ h0
  obtain ⟨a, b, c⟩ := key
  refine ⟨?_, b, c⟩
  have : (pathA (viewFs S) path follow).1 ≠ 0 := fun e => by rw [e] at c; exact c I.zero
  omega

theorem cfile_spec {h : Heap} {V : VL} {M : MemS} {X : VS} (A : At h V M X) {S : FS} (I : FsI X.now S) (C : FsC S) (path : List UInt8) (hp : path.length ≤ 140737488351232) :
    CallH Tryz.prog 102 [.pointer (some ⟨V.v, 0, none⟩), .string (ba path)] h (fun v h' => Keeps [V.sb] h h' ∧ (∃ s, At h' V M { X with seen := s }) ∧ v = .tuple #[.int .i64 (pthV S path).1, .agg ⟨(pthC S path).cells⟩, .int .i64 (pthE S path)]) := by
  have bl := A.blt
  have msb : V.sb ∈ V.blocks := by simp [VL.blocks]
  have q2 := bl V.sb msb
  refine call_of hmix Tryz.func102 rfl ok102 (by simp [Tryz.f102]) ?_
  conv => whnf
  refine AllocR.i fun b1 h1 e1 s1 o1 k1 => ?_
  have z1 := k1.size
  conv => whnf
  refine CallR.m (vpath_spec (A.on k1) I C path hp true) (fun y hy hx => by
      simp [blocksOf, setB] at hy hx; omega) fun v h2 k2 hv => ?_
  obtain ⟨rfl, s, A2⟩ := hv
  have z2 := k2.size
  have hw : walkV S (pathA (viewFs S) path true) = .tuple #[.int .i64 (pthV S path).1, .agg ⟨(pthC S path).cells⟩, .int .i64 (pthV S path).2] := rfl
  rw [hw]
  have hfe : pthE S path = if (pthV S path).2 = 0 ∧ (pthC S path).kind = 2 then 7 else (pthV S path).2 := by
    unfold pthE pthC
    by_cases h0 : (pthV S path).2 = 0
    · rw [if_pos h0]
    · rw [if_neg (fun e => h0 e.1), if_neg (fun e => h0 e.1)]
  rw [hfe]
  generalize pthC S path = c
  generalize pthV S path = r
  clear hw hfe
  conv => whnf
  refine AllocR.i fun b3 h3 e3 s3 o3 k3 => ?_
  conv => whnf
  refine BoxR.i fun h4 s4 k4 => ?_
  have k24 : Keeps [] h2 h4 := k3.new1 k4 (by omega)
  have z3 := k3.size
  have z4 := k4.size
  have A4 := A2.on k24
  have kk4 : Keeps [V.sb] h h4 := (k1.mono (by simp)).trans (k2.trans_nil k24)
  conv => whnf
  first | refine IfR.i (fun hd => ?_) (fun hd => ?_) | (refine MeetR.pass ?_; (conv => whnf); refine IfR.i (fun hd => ?_) (fun hd => ?_))
  · have hd1 : r.2 = 0 ∧ c.kind = 2 := by
      rw [bif_and] at hd
      simpa using hd
    rw [if_pos hd1]
    conv => whnf
    refine BoxR.i fun h5 s5 k5 => ?_
    conv => whnf
    exact ⟨kk4.m1 k5 (by omega), ⟨s, A4.keep k5 (fun b hb => by have := bl b hb; simp; omega)⟩, rfl⟩
  · have hd1 : ¬ (r.2 = 0 ∧ c.kind = 2) := by
      rw [bif_and] at hd
      simpa using hd
    rw [if_neg hd1]
    conv => whnf
    refine BoxR.i fun h5 s5 k5 => ?_
    conv => whnf
    exact ⟨kk4.m1 k5 (by omega), ⟨s, A4.keep k5 (fun b hb => by have := bl b hb; simp; omega)⟩, rfl⟩

/-- a path leads to a file -/
theorem pth_ok {X : VS} {S : FS} (I : FsI X.now S) (C : FsC S) {path : List UInt8} (h0 : pthE S path = 0) : (pthV S path).2 = 0 ∧ 0 < (pthV S path).1 ∧ (pthV S path).1 < 24 ∧ ((S.C (pthV S path).1).kind = 1 ∨ (S.C (pthV S path).1).kind = 3) ∧ pthC S path = S.C (pthV S path).1 := by
  unfold pthE at h0
  by_cases h : (pthV S path).2 = 0 ∧ (S.C (pthV S path).1).kind = 2
  · rw [if_pos h] at h0; cases h0
  · rw [if_neg h] at h0
    obtain ⟨a, b, c⟩ := path_in I C (path := path) (follow := true) h0
    have a : 0 < (pthV S path).1 := a
    have b : (pthV S path).1 < 24 := b
    have c : (S.C (pthV S path).1).kind ≠ 0 := c
    have N := (I.node (pthV S path).1 (by omega) b).kind
    have hk : (S.C (pthV S path).1).kind ≠ 2 := fun e => h ⟨h0, e⟩
    exact ⟨h0, a, b, by omega, if_pos h0⟩

theorem cread_spec {h : Heap} {V : VL} {M : MemS} {X : VS} (A : At h V M X) {S : FS} (I : FsI X.now S) (C : FsC S) (path : List UInt8) (hp : path.length ≤ 140737488351232) (at_ n : Int) :
    CallH Tryz.prog 49 [.pointer (some ⟨V.v, 0, none⟩), .string (ba path), .int .i64 at_, .int .i64 n] h (fun v h' => Keeps [V.sb] h h' ∧ (∃ s, At h' V M { X with seen := s }) ∧
      v = (if pthE S path = 0 then .tuple #[.string (ba (refReadL (S.by_ (pthV S path).1) at_ n).1), .int .i64 (refReadL (S.by_ (pthV S path).1) at_ n).2] else .tuple #[.string (ba []), .int .i64 (pthE S path)])) := by
  have bl := A.blt
  have msb : V.sb ∈ V.blocks := by simp [VL.blocks]
  have q2 := bl V.sb msb
  refine call_of hmix Tryz.func49 rfl ok49 (by simp [Tryz.f49]) ?_
  conv => whnf
  refine CallR.m (cfile_spec A I C path hp) (by simp [blocksOf]) fun v h2 k2 hv => ?_
  obtain ⟨⟨s, A2⟩, rfl⟩ := hv
  have z2 := k2.size
  conv => whnf
  refine AllocR.i fun b3 h3 e3 s3 o3 k3 => ?_
  conv => whnf
  refine BoxR.i fun h4 s4 k4 => ?_
  have k24 : Keeps [] h2 h4 := k3.new1 k4 (by omega)
  have A4 := A2.on k24
  have kk4 : Keeps [V.sb] h h4 := k2.trans_nil k24
  by_cases h0 : pthE S path = 0
  · obtain ⟨p0, p1, p2, p3, p4⟩ := pth_ok I C h0
    obtain ⟨m, F⟩ := (I.node (pthV S path).1 (by omega) p2).file p3
    have F' : FileI ({ X with seen := s } : VS).now (pthV S path).1 (S.C (pthV S path).1) m (S.by_ (pthV S path).1) := F
    rw [h0, p4, if_pos rfl]
    conv => whnf
    refine IfR.f rfl ?_
    conv => whnf
    refine CallR.i (bread_spec A4 (S.C (pthV S path).1) F.ok F.szr F'.okMap at_ n) fun v h5 k5 hv => ?_
    subst hv
    rw [readP_plain F']
    conv => whnf
    exact ⟨kk4.trans_nil k5, ⟨s, A4.on k5⟩, rfl⟩
  · rw [if_neg h0]
    conv => whnf
    refine IfR.t (by simp [h0]) ?_
    conv => whnf
    exact ⟨kk4, ⟨s, A4⟩, rfl⟩

theorem cstat_spec {h : Heap} {V : VL} {M : MemS} {X : VS} (A : At h V M X) {S : FS} (I : FsI X.now S) (C : FsC S) (path : List UInt8) (hp : path.length ≤ 140737488351232) :
    CallH Tryz.prog 50 [.pointer (some ⟨V.v, 0, none⟩), .string (ba path)] h (fun v h' => Keeps [V.sb] h h' ∧ (∃ s, At h' V M { X with seen := s }) ∧
      v = (if (pathA (viewFs S) path false).2 = 0 then .tuple #[.agg #[.int .i64 0, .int .i64 (S.C (pathA (viewFs S) path false).1).kind, .int .i64 (S.C (pathA (viewFs S) path false).1).links, .int .i64 (S.C (pathA (viewFs S) path false).1).size], .int .i64 0] else .tuple #[.agg #[.int .i64 0, .int .i64 0, .int .i64 0, .int .i64 0], .int .i64 (pathA (viewFs S) path false).2])) := by
  have bl := A.blt
  have msb : V.sb ∈ V.blocks := by simp [VL.blocks]
  have q2 := bl V.sb msb
  refine call_of hmix Tryz.func50 rfl ok50 (by simp [Tryz.f50]) ?_
  conv => whnf
  refine AllocR.i fun b1 h1 e1 s1 o1 k1 => ?_
  have z1 := k1.size
  conv => whnf
  refine CallR.m (vpath_spec (A.on k1) I C path hp false) (fun y hy hx => by
      simp [blocksOf, setB] at hy hx; omega) fun v h2 k2 hv => ?_
  obtain ⟨rfl, s, A2⟩ := hv
  have z2 := k2.size
  generalize pathA (viewFs S) path false = r
  unfold walkV
  conv => whnf
  refine AllocR.i fun b3 h3 e3 s3 o3 k3 => ?_
  conv => whnf
  refine BoxR.i fun h4 s4 k4 => ?_
  have k24 : Keeps [] h2 h4 := k3.new1 k4 (by omega)
  have z3 := k3.size
  have z4 := k4.size
  have A4 := A2.on k24
  have kk4 : Keeps [V.sb] h h4 := (k1.mono (by simp)).trans (k2.trans_nil k24)
  by_cases h0 : r.2 = 0
  · rw [h0, if_pos rfl, if_pos rfl]
    conv => whnf
    refine IfR.f rfl ?_
    conv => whnf
    refine BoxR.i fun h5 s5 k5 => ?_
    conv => whnf
    exact ⟨kk4.m1 k5 (by omega), ⟨s, A4.keep k5 (fun b hb => by have := bl b hb; simp; omega)⟩, rfl⟩
  · rw [if_neg h0, if_neg h0]
    conv => whnf
    refine IfR.t (by simp [h0]) ?_
    conv => whnf
    refine BoxR.i fun h5 s5 k5 => ?_
    conv => whnf
    exact ⟨kk4.m1 k5 (by omega), ⟨s, A4.keep k5 (fun b hb => by have := bl b hb; simp; omega)⟩, rfl⟩
end Go.Proofs.YtkdmlieckkdmgaaGreatDoor
/-
  Layer 13: calls that change files.
-/
set_option linter.all false
set_option maxRecDepth 100000
set_option maxHeartbeats 4000000
namespace Go.Proofs.YtkdmlieckkdmgaaGreatDoor
open Go Go.Eng

theorem writeP_refused {B : Int → UInt64} {X : VS} {n : Int} (hn : 0 ≤ n ∧ n < 24) {c : Crd} {m : List Int} {s : List UInt8} (F : FileI X.now n c m s) {at_ : Int} {data : List UInt8} (h : (refWriteL s at_ data).2 ≠ 0) :
    (writeP B X n c at_ data).2.2 = X := by
  unfold refWriteL at h
  unfold writeP
  by_cases h1 : at_ < 0 ∨ 400 < data.length
  · rw [if_pos (.inr h1)]
  · rw [if_neg h1] at h
    rw [if_neg (by rintro (x | x); exact x hn; exact h1 x)]
    by_cases h2 : data = []
    · rw [if_pos h2] at h; exact absurd rfl h
    · rw [if_neg h2] at h ⊢
      by_cases h3 : 2688 - (data.length : Int) < at_
      · rw [if_pos h3]
      · rw [if_neg h3] at h; exact absurd rfl h

/-- what writing tells -/
def WriteR (B : Int → UInt64) (X : VS) (S : FS) (path : List UInt8) (at_ : Int) (data : List UInt8) (v : Value) (X' : VS) : Prop := X'.away = X.away ∧ X'.awayN = X.awayN ∧
  ((pthE S path ≠ 0 ∧ v = .int .i64 (pthE S path) ∧ X'.now = X.now ∧ X'.mine = X.mine) ∨
   (pthE S path = 0 ∧ (refWriteL (S.by_ (pthV S path).1) at_ data).2 ≠ 0 ∧ v = .int .i64 (refWriteL (S.by_ (pthV S path).1) at_ data).2 ∧ X'.now = X.now ∧ X'.mine = X.mine) ∨
   (pthE S path = 0 ∧ (refWriteL (S.by_ (pthV S path).1) at_ data).2 = 0 ∧ v = .int .i64 9 ∧ freeN B X 96 < (at_.toNat + data.length + 127) / 128 - at_.toNat / 128 + 1) ∨
   (pthE S path = 0 ∧ (refWriteL (S.by_ (pthV S path).1) at_ data).2 = 0 ∧ v = .int .i64 0 ∧ (∀ x ∈ X.mine, x ∈ X'.mine) ∧
     ∃ c', c'.kind = (S.C (pthV S path).1).kind ∧ c'.links = (S.C (pthV S path).1).links ∧ FsI X'.now (S.put (pthV S path).1 c' (S.nm (pthV S path).1) (refWriteL (S.by_ (pthV S path).1) at_ data).1)))

theorem cwrite_spec {h : Heap} {V : VL} {M : MemS} {X : VS} (A : At h V M X) {S : FS} (I : FsI X.now S) (C : FsC S) (path : List UInt8) (hp : path.length ≤ 140737488351232) (at_ : Int) (data : List UInt8) :
    CallH Tryz.prog 47 [.pointer (some ⟨V.v, 0, none⟩), .string (ba path), .int .i64 at_, .string (ba data)] h (fun v h' => Keeps [V.ob, V.sb, V.mb] h h' ∧ ∃ X', At h' V M X' ∧ WriteR M.read X S path at_ data v X') := by
  have bl := A.blt
  have q1 := bl V.ob (by simp [VL.blocks])
  have q2 := bl V.sb (by simp [VL.blocks])
  have q3 := bl V.mb (by simp [VL.blocks])
  refine call_of hmix Tryz.func47 rfl ok47 (by simp [Tryz.f47]) ?_
  conv => whnf
  refine CallR.m (cfile_spec A I C path hp) (by simp [blocksOf]) fun v h2 k2 hv => ?_
  obtain ⟨⟨s, A2⟩, rfl⟩ := hv
  have z2 := k2.size
  conv => whnf
  refine AllocR.i fun b3 h3 e3 s3 o3 k3 => ?_
  conv => whnf
  refine BoxR.i fun h4 s4 k4 => ?_
  have k24 : Keeps [] h2 h4 := k3.new1 k4 (by omega)
  have z3 := k3.size
  have z4 := k4.size
  have A4 := A2.on k24
  have kk4 : Keeps [V.ob, V.sb, V.mb] h h4 := (k2.mono (by simp)).trans_nil k24
  by_cases h0 : pthE S path = 0
  · obtain ⟨p0, p1, p2, p3, p4⟩ := pth_ok I C h0
    unfold WriteR
    rw [h0, p4]
    generalize (pthV S path).1 = n at p1 p2 p3
    generalize hX1 : ({ X with seen := s } : VS) = X1 at A4
    have w1 : X1.now = X.now := by rw [← hX1]
    have w2 : X1.away = X.away := by rw [← hX1]
    have w3 : X1.awayN = X.awayN := by rw [← hX1]
    have w4 : X1.mine = X.mine := by rw [← hX1]
    have w5 : freeN M.read X1 96 = freeN M.read X 96 := by rw [← hX1]; rfl
    have I1 : FsI X1.now S := by rw [w1]; exact I
    have hn0 : 0 ≤ n ∧ n < 24 := ⟨by omega, p2⟩
    have N := I1.node n hn0.1 p2
    obtain ⟨m, F⟩ := N.file p3
    have WP := writeP_plain (B := M.read) hn0 F at_ data
    have WR := fun hr => writeP_room (B := M.read) hn0 F at_.toNat data hr
    have WS := writeP_same (B := M.read) (X := X1) (node := n) (c := S.C n) (at_ := at_) (data := data)
    have WA : SameAw X1 (writeP M.read X1 n (S.C n) at_ data).2.2 := writeP_aw M.read _ n (S.C n) at_ data
    have WN := writeP_refused (B := M.read) (X := X1) hn0 F (at_ := at_) (data := data)
    have hat : (refWriteL (S.by_ n) at_ data).2 = 0 → at_ < 0 → False := fun e hlt => by
      unfold refWriteL at e
      rw [if_pos (.inl hlt)] at e
      cases e
    conv => whnf
    refine IfR.f rfl ?_
    conv => whnf
    refine CallR.m (write_spec A4 n (S.C n) F.ok F.okMap at_ data) (fun y hy hx => by
        simp [blocksOf, setB] at hy hx; omega) fun v h5 k5 hv => ?_
    obtain ⟨rfl, A5⟩ := hv
    generalize hq : writeP M.read X1 n (S.C n) at_ data = q at WP WS WA WN A5
    have z5 := k5.size
    conv => whnf
    refine BoxR.i fun h6 s6 k6 => ?_
    have A6 := A5.keep k6 (fun b hb => by have := bl b hb; simp; omega)
    have kk6 : Keeps [V.ob, V.sb, V.mb] h h6 := (kk4.trans (k5.mono (by simp))).m1 k6 (by omega)
    by_cases hq0 : q.2.1 = 0
    · have hr0 : (refWriteL (S.by_ n) at_ data).2 = 0 := by
        rcases WP with ⟨_, e, _⟩ | ⟨e, _⟩
        · exact e
        · rw [← e]; exact hq0
      obtain ⟨m', W⟩ : ∃ m', Wrote n X1 m at_ data (refWriteL (S.by_ n) at_ data).1 q m' := by
        rcases WP with ⟨e, _⟩ | ⟨_, hw⟩
        · rw [hq0] at e; cases e
        · exact hw hr0
      obtain ⟨g1, g2, g3⟩ := WS hq0
      have N5 : NodeI q.2.2.now n q.1 (S.nm n) (refWriteL (S.by_ n) at_ data).1 := ⟨by rw [g1]; exact N.kind, fun h => (by rw [g1] at h; omega), fun h => (by rw [g1] at h; omega), fun _ => ⟨m', W.file⟩⟩
      rw [hq0]
      conv => whnf
      refine CallR.m (cset_spec A6 n hn0 q.1 N5.ok N5.right) (fun y hy hx => by
          simp [blocksOf, setB] at hy hx; omega) fun v h7 k7 hv => ?_
      obtain ⟨rfl, A7⟩ := hv
      conv => whnf
      obtain ⟨vv, ev⟩ := bumpC_is q.2.2 n q.1
      have N6 := N5.ver vv
      rw [← ev] at N6
      have I6 := I1.set (n := n) ⟨p1, p2⟩ W.fr N6
      refine ⟨kk6.trans k7, _, A7, WA.1.trans w2, WA.2.trans w3, .inr (.inr (.inr ⟨rfl, hr0, rfl, fun x hx => addS_sub ?_, _, ?_, ?_, I6⟩))⟩
      · rw [W.x]; show x ∈ X1.mine; rw [w4]; exact hx
      · rw [ev]; exact g1
      · rw [ev]; exact g2
    · conv => whnf
      refine CallR.i (csetE_spec _ n q.1 q.2.1 hq0) fun v h7 k7 hv => ?_
      subst hv
      conv => whnf
      have A7 := A6.on k7
      by_cases hr0 : (refWriteL (S.by_ n) at_ data).2 = 0
      · have hq9 : q.2.1 = 9 := by
          rcases WP with ⟨e, _⟩ | ⟨e, _⟩
          · exact e
          · rw [hr0] at e; exact absurd e hq0
        refine ⟨kk6.trans_nil k7, _, A7, WA.1.trans w2, WA.2.trans w3, .inr (.inr (.inl ⟨rfl, hr0, by rw [hq9], ?_⟩))⟩
        have h1 : 0 ≤ at_ := Int.not_lt.1 (hat hr0)
        by_cases h2 : (at_.toNat + data.length + 127) / 128 - at_.toNat / 128 + 1 ≤ freeN M.read X 96
        · have h3 := (WR (by rw [w5]; exact h2)).1
          rw [Int.toNat_of_nonneg h1, hq] at h3
          rw [h3, hr0] at hq0
          exact absurd rfl hq0
        · omega
      · have hqe : q.2.1 = (refWriteL (S.by_ n) at_ data).2 := by
          rcases WP with ⟨_, e, _⟩ | ⟨e, _⟩
          · exact absurd e hr0
          · exact e
        have hx := WN hr0
        refine ⟨kk6.trans_nil k7, _, A7, WA.1.trans w2, WA.2.trans w3, .inr (.inl ⟨rfl, hr0, by rw [hqe], ?_, ?_⟩)⟩
        · rw [hx]; exact w1
        · rw [hx]; exact w4
  · conv => whnf
    refine IfR.t (by simp [h0]) ?_
    conv => whnf
    exact ⟨kk4, _, A4, rfl, rfl, .inl ⟨h0, rfl, rfl, rfl⟩⟩

theorem cmake_spec {h : Heap} {V : VL} {M : MemS} {X : VS} (A : At h V M X) {S : FS} (I : FsI X.now S) (C : FsC S) (aw : X.awayN = []) (path : List UInt8) (hp : path.length ≤ 140737488351232) {kind : Int} (hk : kind = 1 ∨ kind = 2) :
    CallH Tryz.prog 45 [.pointer (some ⟨V.v, 0, none⟩), .string (ba path), .int .i64 kind] h (fun v h' => Keeps [V.ob, V.sb, V.mb] h h' ∧ ∃ X', At h' V M X' ∧ FreshR M.read X S path kind [] v X') := by
  have CF := cfresh_spec A I C aw path hp (kind := kind) (by omega) (data := []) (by simp) (fun _ => rfl)
  rcases hk with rfl | rfl
  · refine call_of hmix Tryz.func45 rfl ok45 (by simp [Tryz.f45]) ?_
    conv => whnf
    refine IfR.f rfl ?_
    conv => whnf
    refine CallR.m CF (by simp [blocksOf]) fun v h1 k1 hv => ?_
    conv => whnf
    exact ⟨k1, hv⟩
  · refine call_of hmix Tryz.func45 rfl ok45 (by simp [Tryz.f45]) ?_
    conv => whnf
    refine IfR.f rfl ?_
    conv => whnf
    refine CallR.m CF (by simp [blocksOf]) fun v h1 k1 hv => ?_
    conv => whnf
    exact ⟨k1, hv⟩

theorem csym_spec {h : Heap} {V : VL} {M : MemS} {X : VS} (A : At h V M X) {S : FS} (I : FsI X.now S) (C : FsC S) (aw : X.awayN = []) (path target : List UInt8) (hp : path.length ≤ 140737488351232) (ht : target.length ≤ 140737488351232) :
    CallH Tryz.prog 46 [.pointer (some ⟨V.v, 0, none⟩), .string (ba path), .string (ba target)] h (fun v h' => Keeps [V.ob, V.sb, V.mb] h h' ∧ ∃ X', At h' V M X' ∧
      ((pathP target = none ∧ v = .int .i64 3 ∧ X' = X) ∨ (pathP target ≠ none ∧ FreshR M.read X S path 3 target v X'))) := by
  refine call_of hmix Tryz.func46 rfl ok46 (by simp [Tryz.f46]) ?_
  conv => whnf
  refine IfR.f rfl ?_
  conv => whnf
  refine CallR.i (nsplit_spec target ht h) fun v h1 k1 hv => ?_
  have A1 := A.on k1
  cases hpp : pathP target with
  | none =>
    rw [hpp] at hv
    have hv : v = .tuple #[.slice none 0 0, .int .i64 3] := hv
    subst hv
    conv => whnf
    refine IfR.t rfl ?_
    conv => whnf
    exact ⟨k1.mono (by simp), X, A1, .inl ⟨rfl, rfl, rfl⟩⟩
  | some l =>
    rw [hpp] at hv
    obtain ⟨a, c, rfl, _, _⟩ := hv
    obtain ⟨_, _, p3, _⟩ := pathP_len hpp
    conv => whnf
    refine IfR.f rfl ?_
    conv => whnf
    refine CallR.m (cfresh_spec A1 I C aw path hp (kind := 3) (by decide) (data := target) p3 (fun e => by cases e)) (by simp [blocksOf]) fun v h2 k2 hv => ?_
    conv => whnf
    obtain ⟨X', A2, H⟩ := hv
    exact ⟨(k1.mono (by simp)).trans k2, X', A2, .inr ⟨by simp, H⟩⟩

def mayRm (c : Crd) : Int := if c.kind = 2 then 7 else 0
/-- what removing tells -/
def RemoveR (X : VS) (S : FS) (path : List UInt8) (may : Crd → Int) (v : Value) (X' : VS) : Prop := X'.away = X.away ∧ X'.awayN = X.awayN ∧
  (((placeA (viewFs S) path).2.2.2 ≠ 0 ∧ v = .int .i64 (placeA (viewFs S) path).2.2.2 ∧ X'.now = X.now ∧ X'.mine = X.mine) ∨
   ∃ d nm nd, PlaceAt S path d nm nd ∧ ((nd = 0 ∧ v = .int .i64 4 ∧ X'.now = X.now ∧ X'.mine = X.mine) ∨ (nd ≠ 0 ∧ may (S.C nd) ≠ 0 ∧ v = .int .i64 (may (S.C nd)) ∧ X'.now = X.now ∧ X'.mine = X.mine) ∨
    (nd ≠ 0 ∧ may (S.C nd) = 0 ∧ v = .int .i64 0 ∧ (∀ x ∈ X.mine, x ∈ X'.mine) ∧ Lost X'.now S d nd nm)))
theorem cremoveF_spec {h : Heap} {V : VL} {M : MemS} {X : VS} (A : At h V M X) {S : FS} (I : FsI X.now S) (C : FsC S) (Q : NoSelf S) (path : List UInt8) (hp : path.length ≤ 140737488351232) :
    CallH Tryz.prog 48 [.pointer (some ⟨V.v, 0, none⟩), .string (ba path)] h (fun v h' => Keeps [V.ob, V.sb, V.mb] h h' ∧ ∃ X', At h' V M X' ∧ RemoveR X S path mayRm v X') := by
  refine call_of hmix Tryz.func48 rfl ok48 (by simp [Tryz.f48]) ?_
  conv => whnf
  refine CallR.m (cremove_spec A I C Q path hp (f := 105) (by kernel_rfl) (may := mayRm) (fun c h => mayR_spec c h) (fun c hc e => by unfold mayRm at hc; rw [if_pos e] at hc; cases hc)) (by simp [blocksOf]) fun v h1 k1 hv => ?_
  conv => whnf
  exact ⟨k1, hv⟩
end Go.Proofs.YtkdmlieckkdmgaaGreatDoor
/-
  The engine: an entry of a map is deleted; a map is cleared.
-/
set_option linter.all false
set_option maxRecDepth 100000
set_option maxHeartbeats 1000000
namespace Go.Eng

theorem eraseIdx_mp {α β : Type} (f : α → β) : ∀ (l : List α) (j : Nat), (l.map f).eraseIdx j = (l.eraseIdx j).map f
  | [], _ => rfl
  | _ :: _, 0 => rfl
  | x :: l, j + 1 => by simp [eraseIdx_mp f l j]

theorem SemR.del {P : Program} {T kT eT kT' ty : TypeId} (hu : P.underlying T = some (.map kT eT)) (hk : P.underlying kT = some (.int .i64)) {h : Heap} {r : Nat} {m : List (Int × Value)} (o : MapL h r m) {n : Int} (hn : lookI m n ≠ none) {bs : List Nat} (hb : r ∉ bs)
    {K : Value → Heap → Prop} (H : ∀ h' j, j < m.length → (m[j]?).map (·.1) = some n → h'.size = h.size → MapL h' r (m.eraseIdx j) → Keeps [r] h h' → K (.tuple #[]) h') : SemR P (Builtin.delete_ #[T, kT'] ty ⟨[.map (some r), .int .i64 n]⟩) bs h K := by
  unfold SemR
  intro hlt w hw
  subst hw
  have hr := o.lt
  obtain ⟨es, cl, h1, h2, h3, h4, h5⟩ := o
  obtain ⟨q, h6, h7, h8⟩ := findNow_look es.toList m n 0 h2
  obtain ⟨p, rfl⟩ : ∃ p, q = some p := by
    cases q with
    | none => exact absurd (by simpa using h7.symm) hn
    | some p => exact ⟨p, rfl⟩
  obtain ⟨j, hj1, hj2, hj3⟩ := h8 p rfl
  have hj : p.1 = j := by omega
  have hjl : j < es.size := by simpa using hj2
  have hml : m.length = es.size := by
    have := congrArg List.length h2
    simpa using this.symm
  have hel : (es.eraseIdxIfInBounds j).toList = es.toList.eraseIdx j := by
    rw [Array.eraseIdxIfInBounds, dif_pos hjl, Array.toList_eraseIdx]
  refine ⟨.tuple #[], { w with heap := w.heap.setIfInBounds r (.map (es.eraseIdxIfInBounds j) cl) }, ?_, ⟨rfl, rfl, rfl⟩, fun b hb' => ?_, H _ j (by omega) hj3 (by simp) ⟨es.eraseIdxIfInBounds j, cl, by rw [set_get _ _ _ _ hr, if_pos rfl], ?_, ?_, ?_, ?_⟩ (keeps_set _ _ _ hr)⟩
  · simp only [Builtin.delete_, Sem.run_bind, underlying_run P T w hu, Result.andThen_ok, getObj_run h1, List.getElem?_toArray, List.getElem?_cons_zero, List.getElem?_cons_succ]
    rw [checkKey_plain hk (.inl ⟨_, rfl⟩)]
    simp only [Result.andThen_ok, findKey_now hk h6 w, hj, Sem.run_bind, setObj_run h1, Sem.run_pure]
  · show (w.heap.setIfInBounds r _)[b]? = _
    rw [set_get _ _ _ _ hr, if_neg (by intro e; subst e; exact hb hb')]
  · rw [hel, ← eraseIdx_mp, h2, eraseIdx_mp]
  · rw [← eraseIdx_mp]; exact h3.sublist (List.eraseIdx_sublist _ _)
  · rw [hel, ← eraseIdx_mp]; exact h4.sublist (List.eraseIdx_sublist _ _)
  · intro e he
    rw [hel] at he
    exact h5 e (List.mem_of_mem_eraseIdx he)

theorem SemR.clearM {P : Program} {T kT eT ty : TypeId} (hu : P.underlying T = some (.map kT eT)) {h : Heap} {r : Nat} {m : List (Int × Value)} (o : MapL h r m) {bs : List Nat} (hb : r ∉ bs)
    {K : Value → Heap → Prop} (H : ∀ h', h'.size = h.size → MapL h' r [] → Keeps [r] h h' → K (.tuple #[]) h') : SemR P (Builtin.clear_ #[T] ty ⟨[.map (some r)]⟩) bs h K := by
  unfold SemR
  intro hlt w hw
  subst hw
  have hr := o.lt
  obtain ⟨es, cl, h1, h2, h3, h4, h5⟩ := o
  refine ⟨.tuple #[], { w with heap := w.heap.setIfInBounds r (.map #[] cl) }, ?_, ⟨rfl, rfl, rfl⟩, fun b hb' => ?_, H _ (by simp) ⟨#[], cl, by rw [set_get _ _ _ _ hr, if_pos rfl], rfl, List.nodup_nil, List.nodup_nil, by simp⟩ (keeps_set _ _ _ hr)⟩
  · simp [Builtin.clear_, Sem.run_bind, underlying_run P T w hu, getObj_run h1, setObj_run h1]
  · show (w.heap.setIfInBounds r _)[b]? = _
    rw [set_get _ _ _ _ hr, if_neg (by intro e; subst e; exact hb hb')]
end Go.Eng
/-
  Layer 2: a memory's loose words are on their way, and made sure.
-/
set_option linter.all false
set_option maxRecDepth 100000
set_option maxHeartbeats 1000000
namespace Go.Proofs.YtkdmlieckkdmgaaGreatDoor
open Go Go.Eng

/-- a memory's sure words lie in a block of its own -/
def MemO (h : Heap) (L : ML) (M : MemS) : Prop := Own h 32 1 L.sa L.len L.cap (M.sure.map wv)

theorem cloneO_spec {h : Heap} {b off n c : Nat} {ws : List UInt64} (S : Sl h (some ⟨b, off, none⟩) n c ws) (hn : n ≤ 1099511627776) : CallH Tryz.prog 28 [.slice (some ⟨b, off, none⟩) n c] h (fun v h' => Keeps [] h h' ∧ ∃ a' c', v = .slice a' n c' ∧ Own h' 32 1 a' n c' (ws.map wv) ∧ Sl h' a' n c' ws ∧ ∀ x ∈ blkA a', h.size ≤ x ∧ x < h'.size) := by
  refine call_of hmix Tryz.func28 rfl ok28 (by simp [Tryz.f28]) ?_
  conv => whnf
  refine IfR.f rfl ?_
  conv => whnf
  refine AllocR.i fun b1 h1 e1 s1 o1 k1 => ?_
  conv => whnf
  have hl := S.hlen
  have O : Own h1 32 1 (some ⟨b1, 0, none⟩) 0 0 [] := .inr ⟨b1, [], rfl, o1, rfl, rfl, rfl, Nat.le_refl _⟩
  refine append_own (e := 32) (sz := 1) (by_ := 8) (new := ws.map wv) rfl rfl rfl rfl rfl rfl rfl O (by simp [hl]) ((S.keep k1).cells1) (allOne_wv ws) (by omega) (by decide) (by simp [blocksOf]) ?_
  intro a2 c2 h2 O2 k2 n2
  conv => whnf
  rw [Nat.zero_add] at O2
  have nb : ∀ x ∈ blkA a2, h.size ≤ x ∧ x < h2.size := fun x hx => by
    refine ⟨?_, O2.lt x hx⟩
    rcases n2 x hx with h | h
    · simp [blkA] at h; omega
    · omega
  refine ⟨k1.nil_of k2 (by intro x hx; simp [blkA] at hx; omega), a2, c2, by rw [Nat.zero_add], O2, ?_, nb⟩
  have R : Reps h2 ([] ++ ws.map wv) ws := by
    rw [List.nil_append]
    exact reps_w h2 ws
  exact O2.sl R rfl (by decide) (by omega)

theorem loadO_spec {h : Heap} {b off n c : Nat} {ws : List UInt64} (S : Sl h (some ⟨b, off, none⟩) n c ws) (hn : n ≤ 4096) : CallH Tryz.prog 12 [.slice (some ⟨b, off, none⟩) n c] h (fun v h' => Keeps [] h h' ∧ ∃ L : ML, v = .pointer (some ⟨L.m, 0, none⟩) ∧ MemAt h' L ⟨ws, [], [], 0, -1⟩ ∧ MemO h' L ⟨ws, [], [], 0, -1⟩ ∧ ∀ x ∈ L.blocks, h.size ≤ x) := by
  refine call_of hmix Tryz.func12 rfl ok12 (by simp [Tryz.f12]) ?_
  conv => whnf
  have hm : (if (4096 : Int) < (n : Int) then (4096 : Int) else (n : Int)) = (n : Int) := if_neg (by omega)
  have hl := S.hlen
  refine SliceR.i 0 n rfl hm (Nat.zero_le _) S.hcap ?_
  conv => whnf
  have S1 := S.part (l := 0) (r := n) (Nat.zero_le _) (Nat.le_refl _)
  have e1 : ∀ s, slA (some ⟨b, off, none⟩) c 0 s = some ⟨b, off, none⟩ := fun s => by
    unfold slA; split
    · rfl
    · simp [Addr.add]
  rw [e1, Nat.sub_zero, Nat.sub_zero, List.drop_zero, hl, List.take_length, ← hl] at S1
  rw [e1, Nat.sub_zero, Nat.sub_zero]
  refine CallR.i (cloneO_spec S1 (by omega)) fun v h1 k1 hv => ?_
  obtain ⟨a', c', rfl, O2, S2, nb⟩ := hv
  conv => whnf
  refine AllocR.i fun b2 h2 e2 s2 o2 k2 => ?_
  conv => whnf
  refine AllocR.i fun b3 h3 e3 s3 o3 k3 => ?_
  conv => whnf
  refine AllocR.i fun b4 h4 e4 s4 o4 k4 => ?_
  conv => whnf
  have z1 := k1.size
  refine ⟨k1.trans (k2.trans (k3.trans k4)), ⟨b4, a', n, c', b2, b3⟩, rfl, ⟨o4, S2.keep (k2.trans (k3.trans k4)), (MapL.new o2).keep (k3.trans k4) (by simp), (MapL.new o3).keep k4 (by simp), by show b2 ≠ b3; omega, fun x hx => ?_, fun x hx => by have := nb x hx; omega⟩, O2.keep (k2.trans (k3.trans k4)) (by simp), ?_⟩
  · have := nb x hx
    show x ≠ b4 ∧ x ≠ b2 ∧ x ≠ b3
    omega
  · intro x hx
    simp only [ML.blocks, List.mem_cons] at hx
    rcases hx with hx | hx | hx | hx
    · have hx : x = b4 := hx; omega
    · have hx : x = b2 := hx; omega
    · have hx : x = b3 := hx; omega
    · exact (nb x hx).1

theorem mnew_spec (n : Nat) (hp : 0 < n) (hn : n ≤ 4096) (h : Heap) : CallH Tryz.prog 19 [.int .i64 (n : Int)] h (fun v h' => Keeps [] h h' ∧ ∃ L : ML, v = .pointer (some ⟨L.m, 0, none⟩) ∧ MemAt h' L ⟨List.replicate n 0, [], [], 0, -1⟩ ∧ MemO h' L ⟨List.replicate n 0, [], [], 0, -1⟩ ∧ ∀ x ∈ L.blocks, h.size ≤ x) := by
  refine call_of hmix Tryz.func19 rfl ok19 (by simp [Tryz.f19]) ?_
  conv => whnf
  have e1 : (if (4096 : Int) < (if (n : Int) < 0 then 0 else (n : Int)) then (4096 : Int) else (if (n : Int) < 0 then 0 else (n : Int))) = (n : Int) := by
    rw [if_neg (show ¬ ((n : Int) < 0) by omega), if_neg (by omega)]
  have e2 : (if (4096 : Int) < (if (0 : Int) > (n : Int) then 0 else (n : Int)) then (4096 : Int) else (if (0 : Int) > (n : Int) then 0 else (n : Int))) = (n : Int) := e1
  rw [e2]
  refine SemR.make (n := n) rfl rfl rfl rfl rfl (by show 8 * n ≤ _; omega) (by omega) fun b1 h1 e3 s1 o1 k1 => ?_
  have o1' : h1[b1]? = some (.cells ⟨(List.replicate n (0 : UInt64)).map wv⟩ 32 (0, 0)) := by
    rw [o1, List.map_replicate]; rfl
  have S1 : Sl h1 (some ⟨b1, 0, none⟩) n n (List.replicate n (0 : UInt64)) := Sl.of1' o1' (by simp [One.ok]) (by simp) (by simp; omega)
  conv => whnf
  refine CallR.i (loadO_spec S1 hn) fun v h2 k2 hv => ?_
  obtain ⟨L, rfl, A2, O2, nb⟩ := hv
  conv => whnf
  exact ⟨k1.trans k2, L, rfl, A2, O2, fun x hx => by have := nb x hx; omega⟩

/-! ### On the way -/

def flushN (loose way : List (Int × UInt64)) (first : Int) : Nat → List (Int × UInt64)
  | 0 => way
  | k + 1 => match lk loose (first + (k : Int)) with | some v => putW (flushN loose way first k) (first + (k : Int)) v | none => flushN loose way first k
theorem lk_flushN (loose way : List (Int × UInt64)) (first : Int) : ∀ (k : Nat) (x : Int), lk (flushN loose way first k) x = if first ≤ x ∧ x < first + (k : Int) then (match lk loose x with | some v => some v | none => lk way x) else lk way x
  | 0, x => by rw [if_neg (by omega)]; rfl
  | k + 1, x => by
    have ih := lk_flushN loose way first k x
    unfold flushN
    cases hl : lk loose (first + (k : Int)) with
    | none =>
      simp only
      rw [ih]
      by_cases e : x = first + (k : Int)
      · subst e
        rw [if_neg (by omega), if_pos (by omega), hl]
      · by_cases h2 : first ≤ x ∧ x < first + (k : Int)
        · rw [if_pos h2, if_pos (by omega)]
        · rw [if_neg h2, if_neg (by omega)]
    | some v =>
      simp only
      rw [lk_put]
      by_cases e : x = first + (k : Int)
      · rw [if_pos e, e, if_pos (by omega), hl]
      · rw [if_neg e, ih]
        by_cases h2 : first ≤ x ∧ x < first + (k : Int)
        · rw [if_pos h2, if_pos (by omega)]
        · rw [if_neg h2, if_neg (by omega)]

def lineOf (i : Int) : Int := i - i.tmod 8

theorem flush_spec {h : Heap} {L : ML} {M : MemS} (A : MemAt h L M) (i : Int) (hi : 0 ≤ i ∧ i < 1000000) (h0 : (M.call (M.there i)).1 = 0) : CallH Tryz.prog 33 [.pointer (some ⟨L.m, 0, none⟩), .int .i64 i] h (fun v h' => Keeps [L.m, L.wb] h h' ∧ v = .int .i64 0 ∧ MemAt h' L { (M.call (M.there i)).2 with way := flushN (M.call (M.there i)).2.loose (M.call (M.there i)).2.way (lineOf i) 8 }) := by
  refine call_of hmix Tryz.func33 rfl ok33 (by simp [Tryz.f33]) ?_
  conv => whnf
  refine CallR.i (there_spec A i) fun v h1 k1 hv => ?_
  subst hv
  have A1 := A.on k1
  conv => whnf
  refine CallR.m (call_spec A1 (M.there i)) (by simp [blocksOf]) fun v h2 k2 hv => ?_
  obtain ⟨rfl, A2⟩ := hv
  generalize (M.call (M.there i)).2 = N at A2 ⊢
  rw [h0]
  conv => whnf
  refine IfR.f rfl ?_
  have hm8 : 0 ≤ i.tmod 8 ∧ i.tmod 8 < 8 := by
    rw [Int.tmod_eq_emod_of_nonneg hi.1]; omega
  have ew : IntKind.i64.wrap (i - i.tmod 8) = lineOf i := wrapI (by omega) (by omega)
  have hlo : 0 ≤ lineOf i ∧ lineOf i < 1000000 := by
    unfold lineOf
    have : i.tmod 8 ≤ i := by rw [Int.tmod_eq_emod_of_nonneg hi.1]; omega
    omega
  conv => whnf
  refine Need.i (by decide) ?_
  conv => whnf
  rw [ew]
  generalize lineOf i = q at hlo ⊢
  refine LoopR.on [0, 6, 7] [] (fun k : Nat => [(0, .v (.pointer (some ⟨L.m, 0, none⟩))), (6, .v (.int .i64 q)), (7, .v (.int .i64 (q + (k : Int))))]) (fun _ => [])
    (fun k h' => k ≤ 8 ∧ Keeps [L.m, L.wb] h h' ∧ MemAt h' L { N with way := flushN N.loose N.way q k }) (fun k => 8 - k) 0 ?_ ?_
  · conv => whnf
    refine ⟨0, rfl, by simp, rfl, Nat.zero_le _, ?_, A2⟩
    exact (k1.mono (by simp)).trans (k2.mono (by simp))
  · rintro k h3 ⟨hk, k3, A3⟩
    have e8 : IntKind.i64.wrap (q + 8) = q + 8 := wrapI (by omega) (by omega)
    conv => whnf
    rw [e8]
    refine IfR.i (fun hc => ?_) (fun hc => ?_)
    · have hk1 : k < 8 := by simp at hc; omega
      conv => whnf
      first | refine LoadR.o A3.obj rfl ?_ | (refine MeetR.pass ?_; (conv => whnf); refine LoadR.o A3.obj rfl ?_)
      have en : IntKind.i64.wrap (q + (k : Int) + 1) = q + ((k + 1 : Nat) : Int) := by
        rw [wrapI (by omega) (by omega)]; simp; omega
      cases hl : lk N.loose (q + (k : Int)) with
      | some w =>
        conv => whnf
        refine LookR.is A3.loose (by rw [lookI_mapW, hl]) ?_
        conv => whnf
        first | refine IfR.t rfl ?_ | (refine MeetR.pass ?_; (conv => whnf); refine IfR.t rfl ?_)
        conv => whnf
        refine LoadR.o A3.obj rfl ?_
        conv => whnf
        refine SemR.put rfl rfl A3.way (by simp [blocksOf]) fun h4 s4 M4 k4 => ?_
        conv => whnf
        refine ⟨8 - (k + 1), by omega, ?_⟩
        conv => whnf
        refine ⟨k + 1, rfl, by rw [en], rfl, by omega, k3.trans (k4.mono (by simp)), ?_⟩
        have hfl : flushN N.loose N.way q (k + 1) = putW (flushN N.loose N.way q k) (q + (k : Int)) w := by
          conv => lhs; unfold flushN
          rw [hl]
        rw [hfl]
        have a3 := A3.ap3
        exact ⟨k4.obj A3.obj (by simpa using a3.2), A3.sure.keepM k4 (fun b hb => by simpa using (A3.ap2 b hb).2.2), A3.loose.keep k4 (by simpa using A3.ap1), by rw [← putI_mapW]; exact M4, A3.ap1, A3.ap2, fun b hb => Nat.lt_of_lt_of_le (A3.lt b hb) k4.size⟩
      | none =>
        conv => whnf
        refine LookR.is A3.loose (by rw [lookI_mapW, hl]) ?_
        conv => whnf
        first | refine IfR.f rfl ?_ | (refine MeetR.pass ?_; (conv => whnf); refine IfR.f rfl ?_)
        conv => whnf
        refine ⟨8 - (k + 1), by omega, ?_⟩
        conv => whnf
        refine ⟨k + 1, rfl, by rw [en], rfl, by omega, k3, ?_⟩
        have hfl : flushN N.loose N.way q (k + 1) = flushN N.loose N.way q k := by
          conv => lhs; unfold flushN
          rw [hl]
        rw [hfl]; exact A3
    · have hk1 : k = 8 := by simp at hc; omega
      subst hk1
      conv => whnf
      exact ⟨k3, rfl, A3⟩
end Go.Proofs.YtkdmlieckkdmgaaGreatDoor
/-
  Layer 2: what is on its way is made sure.
-/
set_option linter.all false
set_option maxRecDepth 100000
set_option maxHeartbeats 2000000
namespace Go.Proofs.YtkdmlieckkdmgaaGreatDoor
open Go Go.Eng

theorem nodup_mid {a : Int} {l1 l2 : List Int} : (l1 ++ a :: l2).Nodup ↔ (a :: (l1 ++ l2)).Nodup := List.perm_middle.nodup_iff

theorem own_sl {h : Heap} {a : Option Addr} {n c : Nat} {ws : List UInt64} (O : Own h 32 1 a n c (ws.map wv)) (hb : ws.length ≤ 281474976710656) : Sl h a n c ws := by
  exact O.sl (α := UInt64) (reps_w h ws) rfl (by decide) hb

theorem lk_erase {l : List (Int × UInt64)} {j : Nat} {n : Int} (hn : (l.map (·.1)).Nodup) (hj : (l[j]?).map (·.1) = some n) (k : Int) : lk (l.eraseIdx j) k = if k = n then none else lk l k := by
  induction l generalizing j with
  | nil => simp at hj
  | cons p l ih =>
    obtain ⟨a, v⟩ := p
    simp only [List.map_cons, List.nodup_cons] at hn
    cases j with
    | zero =>
      simp at hj
      subst hj
      simp only [List.eraseIdx_cons_zero, lk]
      by_cases e : k = a
      · rw [if_pos e, e]
        cases h : lk l a with
        | none => rfl
        | some w =>
          exfalso
          apply hn.1
          clear ih hn
          induction l with
          | nil => cases h
          | cons q l ih =>
            obtain ⟨b, u⟩ := q
            simp only [lk] at h
            simp only [List.map_cons, List.mem_cons]
            split at h
            · rename_i e; exact .inl e
            · exact .inr (ih h)
      · rw [if_neg e, if_neg e]
    | succ j =>
      have hj' : (l[j]?).map (·.1) = some n := by simpa using hj
      have hna : n ≠ a := by
        rintro rfl
        apply hn.1
        simp only [Option.map_eq_some_iff] at hj'
        obtain ⟨q, hq, rfl⟩ := hj'
        exact List.mem_map.2 ⟨q, List.mem_of_getElem? hq, rfl⟩
      simp only [List.eraseIdx_cons_succ, lk]
      rw [ih hn.2 hj']
      by_cases e : k = a
      · rw [if_pos e, if_pos e, if_neg (fun x => hna (x.symm.trans e))]
      · rw [if_neg e, if_neg e]

theorem mapW_erase (l : List (Int × UInt64)) (j : Nat) : (mapW l).eraseIdx j = mapW (l.eraseIdx j) := by
  unfold mapW
  exact eraseIdx_mp _ l j

theorem keysW {h : Heap} {r : Nat} {l : List (Int × UInt64)} (o : MapL h r (mapW l)) : (l.map (·.1)).Nodup := by
  obtain ⟨es, cl, _, _, g, _⟩ := o
  have : (mapW l).map (·.1) = l.map (·.1) := by simp [mapW]
  rw [this] at g; exact g

theorem lk_key {l : List (Int × UInt64)} {x : Int} {v : UInt64} (h : lk l x = some v) : x ∈ l.map (·.1) := by
  induction l with
  | nil => cases h
  | cons p l ih =>
    obtain ⟨a, w⟩ := p
    simp only [lk] at h
    simp only [List.map_cons, List.mem_cons]
    split at h
    · rename_i e; exact .inl e
    · exact .inr (ih h)
theorem mapW_nil {l : List (Int × UInt64)} (h : mapW l = []) : l = [] := by
  unfold mapW at h
  exact List.map_eq_nil_iff.1 h

theorem fenceL_spec {h : Heap} {L : ML} {M : MemS} (A : MemAt h L M) (O : MemO h L M) (hu : M.until_ = -1) (hs : M.sure.length ≤ 1000000) (hw : ∀ p ∈ M.way, lk M.loose p.1 = some p.2 ∧ M.there p.1 = true) : CallH Tryz.prog 34 [.pointer (some ⟨L.m, 0, none⟩)] h (fun v h' => Keeps L.blocks h h' ∧ v = .int .i64 0 ∧
    ∃ N : MemS, MemAt h' L N ∧ MemO h' L N ∧ N.until_ = -1 ∧ N.sure.length = M.sure.length ∧ N.way = [] ∧ (∀ i, N.read i = M.read i) ∧ (∀ x, lk N.loose x ≠ none → lk M.loose x ≠ none ∧ lk M.way x = none)) := by
  have hc1 : (M.call true).1 = 0 := by
    unfold MemS.call
    rw [hu]
    simp
  have hc2 : (M.call true).2 = { M with calls := IntKind.i64.wrap (M.calls + 1) } := by
    unfold MemS.call
    rw [hu]
    simp
  refine call_of hmix Tryz.func34 rfl ok34 (by simp [Tryz.f34]) ?_
  conv => whnf
  refine CallR.m (call_spec A true) (by simp [blocksOf]) fun v h1 k1 hv => ?_
  obtain ⟨rfl, A1⟩ := hv
  rw [hc1]
  rw [hc2] at A1
  have O1 : MemO h1 L { M with calls := IntKind.i64.wrap (M.calls + 1) } := O.keep k1 (fun b hb => by simp; exact (A.ap2 b hb).1)
  conv => whnf
  refine IfR.f rfl ?_
  conv => whnf
  refine LoadR.o A1.obj rfl ?_
  conv => whnf
  refine SemR.range rfl A1.way fun it hR ei si ki IR => ?_
  have AR := A1.on ki
  have OR : MemO hR L { M with calls := IntKind.i64.wrap (M.calls + 1) } := Own.keep O1 ki (by simp)
  have bl := A1.blt
  have hwn := keysW A1.way
  generalize hM1 : ({ M with calls := IntKind.i64.wrap (M.calls + 1) } : MemS) = M1 at *
  have hread1 : ∀ i, M1.read i = M.read i := fun i => by subst hM1; rfl
  have hsure1 : M1.sure = M.sure := by subst hM1; rfl
  have hway1 : M1.way = M.way := by subst hM1; rfl
  have hloose1 : M1.loose = M.loose := by subst hM1; rfl
  have hunt1 : M1.until_ = -1 := by subst hM1; exact hu
  have itne : ∀ b ∈ L.blocks, b ≠ it := fun b hb => by have := bl b hb; omega
  conv => whnf
  refine LoopR.on [0, 15] [] (fun q : List (Int × UInt64) × MemS => [(0, .v (.pointer (some ⟨L.m, 0, none⟩))), (15, .v (.pointer (some ⟨it, 0, none⟩)))])
    (fun _ => []) (fun q h' => Keeps (it :: L.blocks) hR h' ∧ (∃ last, IterL h' it L.wb (mapW q.1) last) ∧ MemAt h' L q.2 ∧ MemO h' L q.2 ∧ q.2.until_ = -1 ∧ q.2.sure.length = M.sure.length ∧ (∀ i, q.2.read i = M.read i) ∧ (q.1.map (·.1)).Nodup ∧ (∀ p ∈ q.1, lk q.2.loose p.1 = some p.2 ∧ q.2.there p.1 = true) ∧ (∀ x, lk q.2.loose x ≠ none → lk M.loose x ≠ none ∧ (lk M.way x = none ∨ x ∈ q.1.map (·.1)))) (fun q => q.1.length) (M1.way, M1) ?_ ?_
  · conv => whnf
    refine ⟨(M1.way, M1), rfl, rfl, rfl, Keeps.refl _ _, ⟨none, IR⟩, AR, OR, hunt1, by rw [hsure1], hread1, hwn, fun p hp => ?_, fun x hx => ?_⟩
    · rw [hway1] at hp
      have := hw p hp
      rw [hloose1]
      refine ⟨this.1, ?_⟩
      unfold MemS.there
      rw [hsure1]; exact this.2
    · rw [hloose1] at hx
      refine ⟨hx, ?_⟩
      rw [hway1]
      cases hl : lk M.way x with
      | none => exact .inl rfl
      | some v => exact .inr (lk_key hl)
  · rintro ⟨R, N⟩ h2 ⟨k2, ⟨last, I2⟩, A2, O2, u2, s2, r2, n2, w2, y2⟩
    simp only at I2 A2 O2 u2 s2 r2 n2 w2 y2
    have wbit : it ≠ L.wb := fun e => itne L.wb (by simp [ML.blocks]) e.symm
    conv => whnf
    refine SemR.next I2 (by simp [blocksOf]) wbit (fun hR0 => ?_) (fun R1 p R2 h3 hRR s3 k3 I3 => ?_)
    · conv => whnf
      refine IfR.f rfl ?_
      conv => whnf
      refine LoadR.o A2.obj rfl ?_
      conv => whnf
      refine SemR.clearM rfl A2.way (by simp [blocksOf]) fun h3 s3 M3 k3 => ?_
      conv => whnf
      have a3 := A2.ap3
      refine ⟨?_, rfl, { N with way := [] }, ⟨k3.obj A2.obj (by simpa using a3.2), A2.sure.keepM k3 (fun b hb => by simpa using (A2.ap2 b hb).2.2), A2.loose.keep k3 (by simpa using A2.ap1), M3, A2.ap1, A2.ap2, fun b hb => Nat.lt_of_lt_of_le (A2.lt b hb) k3.size⟩, Own.keep O2 k3 (fun b hb => by simpa using (A2.ap2 b hb).2.2), u2, s2, rfl, r2, fun x hx => ?_⟩
      rotate_left
      · obtain ⟨y3, y4⟩ := y2 x hx
        refine ⟨y3, ?_⟩
        rcases y4 with h | h
        · exact h
        · have hR1 : R = [] := mapW_nil hR0
          rw [hR1] at h; simp at h
      have ka : Keeps L.blocks h hR := (k1.mono (by simp [ML.blocks])).trans_nil ki
      have kb : Keeps L.blocks h h2 := ka.trans_new k2 (fun x hx => by
        rcases List.mem_cons.1 hx with rfl | hx
        · right; have := k1.size; omega
        · exact .inl hx)
      exact kb.trans (k3.mono (by simp [ML.blocks]))
    · obtain ⟨m1, q, m2, rfl, rfl, rfl, rfl⟩ := mapW_split hRR
      obtain ⟨ql, qt⟩ := w2 q (by simp)
      conv => whnf
      refine IfR.t rfl ?_
      conv => whnf
      refine SemR.entry I3 ?_
      have A3 := A2.keep k3 (fun b hb => by simp; exact itne b hb)
      have O3 : MemO h3 L N := Own.keep O2 k3 (fun b hb => by simp; exact itne b (by simp [ML.blocks, hb]))
      conv => whnf
      refine LoadR.o A3.obj rfl ?_
      have hq0 : 0 ≤ q.1 ∧ q.1 < N.sure.length := by simpa [MemS.there] using qt
      have hlen := A3.sure.hlen
      have hO := O3
      rcases hO with ⟨_, h0, _⟩ | ⟨b, cs, hb, ob, ht, hcl, hll, hcc⟩
      · omega
      obtain ⟨i, hi⟩ : ∃ i : Nat, q.1 = (i : Int) := ⟨q.1.toNat, by omega⟩
      have hi1 : i < N.sure.length := by omega
      have hbm : b ∈ blkA L.sa := by rw [hb]; simp [blkA]
      have ap := A2.ap2 b hbm
      conv => whnf
      refine IdxS.i i (by exact hi) (by omega) hb ?_
      conv => whnf
      refine StoreR.i ob ?_ (by simp [blocksOf]) fun h4 s4 o4 k4 => ?_
      · show 0 + i * 1 + 1 ≤ cs.length
        omega
      have hset : (cs.set i (wv q.2)).take (N.sure.set i q.2).length = (N.sure.set i q.2).map wv := by
        rw [List.length_set, List.take_set, List.map_set]
        rw [List.length_map] at ht
        rw [ht]
      have o4' : h4[b]? = some (.cells ⟨cs.set i (wv q.2)⟩ 32 (0, 0)) := by
        rw [o4]
        have e : spliceL (0 + i * 1) [wv q.2] cs = cs.set i (wv q.2) := by
          rw [show 0 + i * 1 = i by omega, splice_set1 _ _ _ (by omega)]
        exact congrArg (fun x => some (Obj.cells ⟨x⟩ 32 (0, 0))) e
      have O4 : MemO h4 L { N with sure := N.sure.set i q.2 } := .inr ⟨b, _, hb, o4', by simpa using hset, by rw [List.length_set]; exact hcl, by simpa using hll, hcc⟩
      have kb4 : ∀ x ∈ L.blocks, x ≠ b → x ∉ [b] := fun x _ hx => by simpa using hx
      have A4 : MemAt h4 L { N with sure := N.sure.set i q.2 } := ⟨k4.obj A3.obj (by simpa using fun e => ap.1 e.symm), own_sl O4 (by rw [List.length_set]; omega), A3.loose.keep k4 (by simpa using fun e => ap.2.1 e.symm), A3.way.keep k4 (by simpa using fun e => ap.2.2 e.symm), A3.ap1, A3.ap2, fun x hx => Nat.lt_of_lt_of_le (A3.lt x hx) k4.size⟩
      conv => whnf
      refine LoadR.o A4.obj rfl ?_
      conv => whnf
      refine LookR.is A4.loose (by rw [lookI_mapW, ql]) ?_
      conv => whnf
      first | refine IfR.t (by simp) ?_ | (refine MeetR.pass ?_; (conv => whnf); refine IfR.t (by simp) ?_)
      conv => whnf
      refine LoadR.o A4.obj rfl ?_
      conv => whnf
      refine SemR.del rfl rfl A4.loose (n := q.1) (by rw [lookI_mapW, ql]; simp) (by simp [blocksOf]) fun h5 j hj hjn s5 M5 k5 => ?_
      have hjn' : (N.loose[j]?).map (·.1) = some q.1 := by
        have : ((mapW N.loose)[j]?).map (·.1) = some q.1 := hjn
        unfold mapW at this
        rw [List.getElem?_map, Option.map_map] at this
        exact this
      have hln := keysW A4.loose
      rw [mapW_erase] at M5
      have a3 := A3.ap3
      conv => whnf
      refine ⟨(m1 ++ m2).length, by simp, ?_⟩
      conv => whnf
      have hN5 : ∀ x, lk (N.loose.eraseIdx j) x = if x = q.1 then none else lk N.loose x := fun x => lk_erase hln hjn' x
      refine ⟨(m1 ++ m2, { N with sure := N.sure.set i q.2, loose := N.loose.eraseIdx j }), rfl, rfl, rfl, ?_, ⟨some (q.1, wv q.2), ?_⟩, ⟨k5.obj A4.obj (by simpa using a3.1), A4.sure.keepM k5 (fun x hx => by simpa using (A3.ap2 x hx).2.1), M5, A4.way.keep k5 (by simpa using A3.ap1.symm), A3.ap1, A3.ap2, fun x hx => Nat.lt_of_lt_of_le (A4.lt x hx) k5.size⟩, Own.keep O4 k5 (fun x hx => by simpa using (A3.ap2 x hx).2.1), u2, by simp only [List.length_set]; exact s2, fun x => ?_, ?_, fun p hp => ?_, fun x hx => ?_⟩
      · exact ((k2.trans (k3.mono (by simp))).trans (k4.mono (by simp; right; simp [ML.blocks, hbm]))).trans (k5.mono (by simp [ML.blocks]))
      · have : mapW m1 ++ mapW m2 = mapW (m1 ++ m2) := List.map_append.symm
        have I3' : IterL h3 it L.wb (mapW (m1 ++ m2)) (some (q.1, wv q.2)) := by rw [← this]; exact I3
        refine (I3'.keep k4 ?_ (by simpa using fun e => ap.2.2 e.symm)).keep k5 ?_ (by simpa using A3.ap1.symm)
        · have := itne b (by simp [ML.blocks, hbm])
          simpa using fun e => this e.symm
        · have := itne L.lb (by simp [ML.blocks])
          simpa using fun e => this e.symm
      · rw [← r2 x]
        unfold MemS.read MemS.there
        simp only [List.length_set]
        split
        · rename_i hx
          rw [hN5]
          by_cases e : x = q.1
          · rw [if_pos e, e, ql, hi]
            simp [hi1]
          · rw [if_neg e]
            have hne : x.toNat ≠ i := by
              intro e2
              apply e
              have : 0 ≤ x := by simp at hx; exact hx.1
              omega
            rw [List.getElem?_set_ne (fun e => hne e.symm)]
        · rfl
      · have : (m1 ++ q :: m2).map (·.1) = m1.map (·.1) ++ q.1 :: m2.map (·.1) := by simp
        rw [this] at n2
        rw [List.map_append]
        exact (List.nodup_cons.1 (nodup_mid.1 n2)).2
      · have hp' : p ∈ m1 ++ q :: m2 := by
          simp only [List.mem_append, List.mem_cons] at hp ⊢
          rcases hp with h | h
          · exact .inl h
          · exact .inr (.inr h)
        obtain ⟨p1, p2⟩ := w2 p hp'
        refine ⟨?_, ?_⟩
        · show lk (N.loose.eraseIdx j) p.1 = some p.2
          have hne : p.1 ≠ q.1 := by
            intro e
            have : (m1 ++ q :: m2).map (·.1) = m1.map (·.1) ++ q.1 :: m2.map (·.1) := by simp
            rw [this] at n2
            have hnq := nodup_mid.1 n2
            rw [List.nodup_cons] at hnq
            apply hnq.1
            rw [← e, ← List.map_append]
            exact List.mem_map.2 ⟨p, hp, rfl⟩
          rw [hN5, if_neg hne]; exact p1
        · unfold MemS.there at p2 ⊢
          simp only [List.length_set]
          exact p2
      · have hx : lk (N.loose.eraseIdx j) x ≠ none := hx
        rw [hN5] at hx
        have hne : x ≠ q.1 := by
          intro e
          rw [if_pos e] at hx; exact hx rfl
        rw [if_neg hne] at hx
        obtain ⟨y3, y4⟩ := y2 x hx
        refine ⟨y3, ?_⟩
        rcases y4 with h | h
        · exact .inl h
        · right
          simp only [List.map_append, List.map_cons, List.mem_append, List.mem_cons] at h ⊢
          rcases h with h | h | h
          · exact .inl h
          · exact absurd h hne
          · exact .inr h

theorem fence_spec {h : Heap} {L : ML} {M : MemS} (A : MemAt h L M) (O : MemO h L M) (hu : M.until_ = -1) (hs : M.sure.length ≤ 1000000) (hw : ∀ p ∈ M.way, lk M.loose p.1 = some p.2 ∧ M.there p.1 = true) : CallH Tryz.prog 34 [.pointer (some ⟨L.m, 0, none⟩)] h (fun v h' => Keeps L.blocks h h' ∧ v = .int .i64 0 ∧
    ∃ N : MemS, MemAt h' L N ∧ MemO h' L N ∧ N.until_ = -1 ∧ N.sure.length = M.sure.length ∧ N.way = [] ∧ (∀ i, N.read i = M.read i)) :=
  (fenceL_spec A O hu hs hw).mono fun _ _ ⟨k, e, N, a1, a2, a3, a4, a5, a6, _⟩ => ⟨k, e, N, a1, a2, a3, a4, a5, a6⟩
end Go.Proofs.YtkdmlieckkdmgaaGreatDoor
/-
  Layer 12: a memory is laid out.
-/
set_option linter.all false
set_option maxRecDepth 100000
set_option maxHeartbeats 2000000
namespace Go.Proofs.YtkdmlieckkdmgaaGreatDoor
open Go Go.Eng

/-- the words of a memory that is laid out -/
def laidL : List UInt64 := ([7021221306412823411, 2824, 0, 0, 0, 0, 0, 0] : List UInt64) ++ (List.replicate 8 0 ++ (cardW (freshC 2 1) ++ List.replicate 2800 0))
theorem laidL_len : laidL.length = 2824 := by
  unfold laidL
  simp [cardW]

theorem laid_spec (h : Heap) : CallH Tryz.prog 29 [] h (fun v h' => Keeps [] h h' ∧ ∃ b, v = .slice (some ⟨b, 0, none⟩) 2824 2824 ∧ h.size ≤ b ∧ h'[b]? = some (.cells ⟨laidL.map wv⟩ 32 (0, 0))) := by
  refine call_of hmix Tryz.func29 rfl ok29 (by simp [Tryz.f29]) ?_
  conv => whnf
  refine CallR.i (size_spec h) fun v h1 k1 hv => ?_
  subst hv
  conv => whnf
  refine SemR.make (n := 2824) rfl rfl rfl rfl rfl (by decide) (by decide) fun b2 h2 e2 s2 o2 k2 => ?_
  conv => whnf
  refine CallR.i (head_spec h2) fun v h3 k3 hv => ?_
  obtain ⟨b3, rfl, hb3, _, o3⟩ := hv
  have z1 := k1.size
  have z2 := k2.size
  have z3 := k3.size
  have hhl : (([7021221306412823411, 2824, 0, 0, 0, 0, 0, 0] : List UInt64).map wv).length = 8 := rfl
  conv => whnf
  refine SemR.copy (sz := 1) (new := ([7021221306412823411, 2824, 0, 0, 0, 0, 0, 0] : List UInt64).map wv) rfl rfl rfl (k3.obj o2 (by simp)) rfl (fun j hj => by simp only [Heap.cell?, o3]; simp) (allOne_wv _) (by rw [hhl, List.length_replicate]; decide) (by simp [blocksOf]) fun h4 s4 o4 k4 => ?_
  have hz : List.replicate 2824 (Value.int .u64 0) = List.replicate 8 (.int .u64 0) ++ (List.replicate 8 (.int .u64 0) ++ (List.replicate 8 (.int .u64 0) ++ List.replicate 2800 (.int .u64 0))) := by
    rw [List.replicate_append_replicate, List.replicate_append_replicate, List.replicate_append_replicate]
  have e4 : spliceL 0 (([7021221306412823411, 2824, 0, 0, 0, 0, 0, 0] : List UInt64).map wv) (List.replicate 2824 (.int .u64 0)) = (([7021221306412823411, 2824, 0, 0, 0, 0, 0, 0] : List UInt64).map wv) ++ (List.replicate 8 (.int .u64 0) ++ (List.replicate 8 (.int .u64 0) ++ List.replicate 2800 (.int .u64 0))) := by
    rw [hz]
    have := splice_head (A := ([7021221306412823411, 2824, 0, 0, 0, 0, 0, 0] : List UInt64).map wv) (x := Value.int .u64 0) (B := List.replicate 8 (.int .u64 0) ++ (List.replicate 8 (.int .u64 0) ++ List.replicate 2800 (.int .u64 0)))
    rw [hhl] at this
    exact this
  rw [e4] at o4
  conv => whnf
  refine CallR.i (fresh6_spec 2 1 h4) fun v h5 k5 hv => ?_
  rw [if_pos (by decide)] at hv
  subst hv
  conv => whnf
  refine AllocR.i fun b6 h6 e6 s6 o6 k6 => ?_
  conv => whnf
  refine BoxR.i fun h7 s7 k7 => ?_
  have k47 : Keeps [] h4 h7 := (k5.trans k6).new1 k7 (by have := k5.size; omega)
  obtain ⟨fo, fr⟩ := freshC_ok (kind := 2) (by decide) 1
  conv => whnf
  refine CallR.i (write6_spec (freshC 2 1) fo h7) fun v h8 k8 hv => ?_
  rw [if_pos fr] at hv
  obtain ⟨b8, rfl, hb8, o8⟩ := hv
  conv => whnf
  refine CallR.i (cardAt_spec 1 h8) fun v h9 k9 hv => ?_
  subst hv
  conv => whnf
  refine SliceR.i 16 2824 rfl rfl (by decide) (by decide) ?_
  conv => whnf
  have eA : slA (some ⟨b2, 0, none⟩) 2824 16 1 = some ⟨b2, 0 + 16 * 1, none⟩ := by
    unfold slA
    rw [if_neg (by omega)]
    simp [addr_add]
  have eA' : slA (some ⟨b2, 0, none⟩) 2824 16 Tryz.prog.types[32].size = some ⟨b2, 0 + 16 * 1, none⟩ := eA
  rw [eA']
  have k49 := k47.trans (k8.trans k9)
  have hcw : (cardW (freshC 2 1)).length = 8 := rfl
  refine SemR.copy (sz := 1) (new := (cardW (freshC 2 1)).map wv) rfl rfl rfl (k49.obj o4 (by simp)) (by rw [List.length_map]; rfl) (fun j hj => by simp only [Heap.cell?, k9.obj o8 (by simp)]; simp) (allOne_wv _) (by simp [hcw]) ?_ fun h10 s10 o10 k10 => ?_
  · have := k3.size
    have := k4.size
    have := k5.size
    simp [blocksOf, setB]; omega
  conv => whnf
  have e10 : spliceL (0 + 16 * 1) ((cardW (freshC 2 1)).map wv) (([7021221306412823411, 2824, 0, 0, 0, 0, 0, 0] : List UInt64).map wv ++ (List.replicate 8 (.int .u64 0) ++ (List.replicate 8 (.int .u64 0) ++ List.replicate 2800 (.int .u64 0)))) = laidL.map wv := by
    have h1 : ([7021221306412823411, 2824, 0, 0, 0, 0, 0, 0] : List UInt64).map wv ++ (List.replicate 8 (Value.int .u64 0) ++ (List.replicate 8 (.int .u64 0) ++ List.replicate 2800 (.int .u64 0))) = (([7021221306412823411, 2824, 0, 0, 0, 0, 0, 0] : List UInt64).map wv ++ List.replicate 8 (.int .u64 0)) ++ (List.replicate 8 (.int .u64 0) ++ List.replicate 2800 (.int .u64 0)) := by rw [List.append_assoc]
    rw [h1]
    have h2 := splice_drop (A := ([7021221306412823411, 2824, 0, 0, 0, 0, 0, 0] : List UInt64).map wv ++ List.replicate 8 (.int .u64 0)) (N := (cardW (freshC 2 1)).map wv) (L := List.replicate 8 (.int .u64 0) ++ List.replicate 2800 (.int .u64 0))
    have hl : (([7021221306412823411, 2824, 0, 0, 0, 0, 0, 0] : List UInt64).map wv ++ List.replicate 8 (Value.int .u64 0)).length = 0 + 16 * 1 := by simp
    rw [hl] at h2
    rw [h2]
    have h3 := splice_head (A := (cardW (freshC 2 1)).map wv) (x := Value.int .u64 0) (B := List.replicate 2800 (.int .u64 0))
    rw [List.length_map, hcw] at h3
    rw [h3]
    unfold laidL
    simp only [List.map_append, List.map_replicate, List.append_assoc]
    rfl
  rw [e10] at o10
  refine ⟨?_, b2, rfl, by omega, o10⟩
  exact ((k1.trans (k2.trans k3)).new1 k4 (by omega)).trans k49 |>.new1 k10 (by omega)

def laidR (i : Int) : UInt64 := if 0 ≤ i ∧ i < 2824 then laidL[i.toNat]?.getD 0 else 0
theorem laidR_low {i : Int} : laidR i = if i = 0 then 7021221306412823411 else if i = 1 then 2824 else if 16 ≤ i ∧ i < 24 then (cardW (freshC 2 1))[(i - 16).toNat]?.getD 0 else 0 := by
  unfold laidR
  by_cases h : 0 ≤ i ∧ i < 2824
  · rw [if_pos h]
    obtain ⟨n, rfl⟩ : ∃ n : Nat, i = (n : Int) := ⟨i.toNat, by omega⟩
    rw [Int.toNat_natCast]
    unfold laidL
    have hl0 : ([7021221306412823411, 2824, 0, 0, 0, 0, 0, 0] : List UInt64).length = 8 := rfl
    have hl2 : (cardW (freshC 2 1)).length = 8 := rfl
    by_cases h8 : n < 8
    · rw [List.getElem?_append_left (by rw [hl0]; exact h8)]
      have : n = 0 ∨ n = 1 ∨ n = 2 ∨ n = 3 ∨ n = 4 ∨ n = 5 ∨ n = 6 ∨ n = 7 := by omega
      rcases this with rfl | rfl | rfl | rfl | rfl | rfl | rfl | rfl <;> rfl
    · rw [List.getElem?_append_right (by rw [hl0]; omega), hl0, if_neg (by omega), if_neg (by omega)]
      by_cases h16 : n < 16
      · rw [List.getElem?_append_left (by simp; omega), if_neg (by omega), List.getElem?_replicate, if_pos (by omega)]; rfl
      · rw [List.getElem?_append_right (by simp; omega), List.length_replicate]
        by_cases h24 : n < 24
        · rw [List.getElem?_append_left (by rw [hl2]; omega), if_pos (by omega)]
          congr 2
          omega
        · rw [List.getElem?_append_right (by rw [hl2]; omega), if_neg (by omega), List.getElem?_replicate]
          split <;> rfl
  · rw [if_neg h, if_neg (by omega), if_neg (by omega), if_neg (by omega)]
end Go.Proofs.YtkdmlieckkdmgaaGreatDoor
/-
  Layer 12: a memory that is laid out, plain: its files, its free blocks.
-/
set_option linter.all false
set_option maxRecDepth 100000
set_option maxHeartbeats 1000000
namespace Go.Proofs.YtkdmlieckkdmgaaGreatDoor
open Go Go.Eng

def S0 : FS := ⟨fun n => if n = 1 then freshC 2 1 else noneC 0, fun _ => [], fun _ => []⟩

theorem laid_own {k : Int} (h0 : 0 ≤ k) : laidR (200 + k) = 0 := by
  rw [laidR_low, if_neg (by omega), if_neg (by omega), if_neg (by omega)]
theorem laid_cards : ∀ n : Fin 24, rdL laidR (8 + (n.val : Int) * 8) 8 = cardW (if (n.val : Int) = 1 then freshC 2 1 else noneC 0) := by decide +kernel

theorem fs0 : FsI laidR S0 := by
  have hno : ∀ n : Int, 0 ≤ n → n < 24 → ∀ x, 0 ≤ x → x < 96 → laidR (200 + x) ≠ w64 (n + 1) := by
    intro n n0 n1 x x0 x1 e
    rw [laid_own x0] at e
    have h1 : (w64 (n + 1)).toNat = (n + 1).toNat := by
      unfold w64
      rw [UInt64.toNat_ofNat']
      omega
    rw [← e] at h1
    have : (0 : UInt64).toNat = 0 := rfl
    omega
  refine ⟨fun n n0 n1 => ?_, fun n n0 n1 => ?_, rfl, fun k k0 k1 => .inl (laid_own k0)⟩
  · have := laid_cards ⟨n.toNat, by omega⟩
    simp only [Int.toNat_of_nonneg n0] at this
    exact this
  · by_cases h : n = 1
    · have : S0.C n = freshC 2 1 := if_pos h
      rw [this]
      exact fresh_node (by decide) 1 (hno n n0 n1)
    · have : S0.C n = noneC 0 := if_neg h
      rw [this]
      exact none_node 0 (hno n n0 n1)

theorem freeN_laid (s m a n : List Int) (ha : a = []) : freeN laidR ⟨laidR, s, m, a, n⟩ 96 = 96 := by
  subst ha
  unfold freeN
  rw [List.filter_eq_self.2 (fun j hj => ?_), List.length_range]
  have hj := List.mem_range.1 hj
  unfold freshB
  have h0 : laidR (200 + (j : Int)) = 0 := laid_own (by omega)
  simp [h0]
  omega

end Go.Proofs.YtkdmlieckkdmgaaGreatDoor
/-
  Layer 13's plain law: which files stand behind a few calls.
-/
set_option linter.all false
set_option maxRecDepth 100000
set_option maxHeartbeats 4000000
namespace Go.Proofs.YtkdmlieckkdmgaaGreatDoor
open Go Go.Eng

/-- files as they are told: kinds, names, bytes -/
structure Sim (S : FS) (K : Int → Int) (NM : Int → List Ent) (BY : Int → List UInt8) : Prop where
  k : ∀ i, (S.C i).kind = K i
  n : ∀ i, S.nm i = NM i
  b : ∀ i, S.by_ i = BY i
def vf (K : Int → Int) (NM : Int → List Ent) (BY : Int → List UInt8) : Fs := ⟨K, fun i name => (findE (NM i) name).map (·.node), BY⟩
theorem Sim.view {S : FS} {K : Int → Int} {NM : Int → List Ent} {BY : Int → List UInt8} (Z : Sim S K NM BY) : viewFs S = vf K NM BY := by
  have h1 : (fun i => (S.C i).kind) = K := funext Z.k
  have h2 : S.nm = NM := funext Z.n
  have h3 : S.by_ = BY := funext Z.b
  unfold viewFs vf
  rw [h1, h2, h3]
theorem Sim.fc {S : FS} {K : Int → Int} {NM : Int → List Ent} {BY : Int → List UInt8} (Z : Sim S K NM BY) (h1 : K 1 = 2) (h : ∀ n : Fin 24, K (n.val : Int) = 2 → ∀ e ∈ NM (n.val : Int), 0 ≤ e.node ∧ e.node < 24 ∧ K e.node ≠ 0) : FsC S := by
  refine ⟨(Z.k 1).trans h1, fun n n0 n1 hk e he => ?_⟩
  have := h ⟨n.toNat, by omega⟩
  simp only [Int.toNat_of_nonneg n0] at this
  rw [Z.n] at he
  have := this ((Z.k n).symm.trans hk) e he
  rw [Z.k]; exact this
theorem Sim.ns {S : FS} {K : Int → Int} {NM : Int → List Ent} {BY : Int → List UInt8} (Z : Sim S K NM BY) (h : ∀ n : Fin 24, K (n.val : Int) = 2 → ∀ e ∈ NM (n.val : Int), e.node ≠ (n.val : Int)) : NoSelf S := by
  intro n n0 n1 hk e he
  have := h ⟨n.toNat, by omega⟩
  simp only [Int.toNat_of_nonneg (show 0 ≤ n by omega)] at this
  rw [Z.n] at he
  exact this ((Z.k n).symm.trans hk) e he

theorem fresh_step {B : Int → UInt64} {X X' : VS} {S : FS} {K : Int → Int} {NM : Int → List Ent} {BY : Int → List UInt8} {path data nm : List UInt8} {kind n1 : Int} {v : Value} (Z : Sim S K NM BY) (hp : placeA (vf K NM BY) path = (1, nm, 0, 0))
    (hfree : 8 ≤ freeN B X 96) (hlen : (NM 1).length < 10) (hn : 2 ≤ n1 ∧ n1 < 24 ∧ K n1 = 0) (hl : ∀ k : Fin 24, 2 ≤ (k.val : Int) → (k.val : Int) < n1 → K (k.val : Int) ≠ 0) (R : FreshR B X S path kind data v X') :
    v = .int .i64 0 ∧ X'.away = X.away ∧ X'.awayN = X.awayN ∧ freeN B X 96 ≤ freeN B X' 96 + 8 ∧ ∃ S', FsI X'.now S' ∧
      Sim S' (fun i => if i = 1 then 2 else if i = n1 then kind else K i) (fun i => if i = 1 then insL (NM 1) ⟨nm, n1⟩ else if i = n1 then [] else NM i) (fun i => if i = 1 then BY 1 else if i = n1 then data else BY i) ∧
      (S'.C n1).links = 1 ∧ ∀ i, i ≠ 1 → i ≠ n1 → S'.C i = S.C i := by
  obtain ⟨e1, e2, H⟩ := R
  have hv := Z.view
  rw [hv] at H
  rcases H with ⟨he, _⟩ | ⟨d, nm', nd, P, H⟩
  · rw [hp] at he; exact absurd rfl he
  · have hP := P.is
    rw [hv, hp] at hP
    obtain ⟨t1, t2⟩ := Prod.mk.inj hP
    obtain ⟨t2, t3⟩ := Prod.mk.inj t2
    obtain ⟨t3, _⟩ := Prod.mk.inj t3
    subst t1 t2 t3
    rcases H with ⟨hnd, _⟩ | ⟨_, _, hc⟩ | ⟨_, hv0, hm, hf, n, Mk⟩
    · exact absurd rfl hnd
    · exfalso
      rcases hc with hc | hc | hc
      · omega
      · rw [Z.n] at hc; omega
      · exact hc n1 hn.1 hn.2.1 ((Z.k n1).trans hn.2.2)
    · have hne : n = n1 := by
        have h1 := Mk.was
        rw [Z.k] at h1
        have h2 := Mk.rng
        rcases Int.lt_trichotomy n n1 with h | h | h
        · have := hl ⟨n.toNat, by omega⟩
          simp only [Int.toNat_of_nonneg (show 0 ≤ n by omega)] at this
          exact absurd h1 (this h2.1 h)
        · exact h
        · exact absurd ((Z.k n1).trans hn.2.2) (Mk.least n1 hn.1 h)
      subst hne
      obtain ⟨c2, c1, k1, k2, k3, k4, I⟩ := Mk.fs
      have hn1 : n ≠ 1 := by have := hn.1; omega
      refine ⟨hv0, e1, e2, hf, _, I, ⟨fun i => ?_, fun i => ?_, fun i => ?_⟩, ?_, fun i h1 h2 => ?_⟩
      · show (if i = 1 then c1 else if i = n then c2 else S.C i).kind = _
        by_cases h1 : i = 1
        · rw [if_pos h1, if_pos h1]; exact k3
        · rw [if_neg h1, if_neg h1]
          by_cases h2 : i = n
          · rw [if_pos h2, if_pos h2]; exact k1
          · rw [if_neg h2, if_neg h2]; exact Z.k i
      · show (if i = 1 then insL (S.nm 1) ⟨nm, n⟩ else if i = n then [] else S.nm i) = _
        rw [Z.n 1, Z.n i]
      · show (if i = 1 then S.by_ 1 else if i = n then data else S.by_ i) = _
        rw [Z.b 1, Z.b i]
      · show (if n = 1 then c1 else if n = n then c2 else S.C n).links = 1
        rw [if_neg hn1, if_pos rfl]; exact k2
      · show (if i = 1 then c1 else if i = n then c2 else S.C i) = _
        rw [if_neg h1, if_neg h2]

def K0 (i : Int) : Int := if i = 1 then 2 else 0
def N0 (i : Int) : List Ent := []
def B0 (i : Int) : List UInt8 := []
def K1 (i : Int) : Int := if i = 1 then 2 else if i = 2 then 1 else K0 i
def N1 (i : Int) : List Ent := if i = 1 then insL (N0 1) ⟨[102], 2⟩ else if i = 2 then [] else N0 i
def B1 (i : Int) : List UInt8 := if i = 1 then B0 1 else if i = 2 then [] else B0 i
def K2 (i : Int) : Int := if i = 1 then 2 else if i = 3 then 3 else K1 i
def N2 (i : Int) : List Ent := if i = 1 then insL (N1 1) ⟨[108], 3⟩ else if i = 3 then [] else N1 i
def B2 (i : Int) : List UInt8 := if i = 1 then B1 1 else if i = 3 then [47, 102] else B1 i
def B3 (i : Int) : List UInt8 := if i = 2 then [104, 105] else B2 i
def K4 (i : Int) : Int := if i = 3 then 0 else if i = 1 then 2 else K2 i
def N4 (i : Int) : List Ent := if i = 3 then [] else if i = 1 then (N2 1).eraseIdx (plK (N2 1) [108]) else N2 i
def B4 (i : Int) : List UInt8 := if i = 3 then [] else if i = 1 then B3 1 else B3 i

theorem sim0 : Sim S0 K0 N0 B0 := ⟨fun i => by
  show (if i = 1 then freshC 2 1 else noneC 0).kind = if i = 1 then 2 else 0
  by_cases h : i = 1
  · rw [if_pos h, if_pos h]; rfl
  · rw [if_neg h, if_neg h]; rfl, fun _ => rfl, fun _ => rfl⟩
theorem pl0 : placeA (vf K0 N0 B0) [47, 102] = (1, [102], 0, 0) := by decide +kernel
theorem pl1 : placeA (vf K1 N1 B1) [47, 108] = (1, [108], 0, 0) := by decide +kernel
theorem pa2 : pathA (vf K2 N2 B2) [47, 108] true = (2, 0) := by decide +kernel
theorem pl3 : placeA (vf K2 N2 B3) [47, 108] = (1, [108], 3, 0) := by decide +kernel
theorem pa4 : pathA (vf K4 N4 B4) [47, 102] true = (2, 0) := by decide +kernel
theorem pb4 : pathA (vf K4 N4 B4) [47, 102] false = (2, 0) := by decide +kernel
theorem fc0 : ∀ n : Fin 24, K0 (n.val : Int) = 2 → ∀ e ∈ N0 (n.val : Int), 0 ≤ e.node ∧ e.node < 24 ∧ K0 e.node ≠ 0 := by decide +kernel
theorem fc1 : ∀ n : Fin 24, K1 (n.val : Int) = 2 → ∀ e ∈ N1 (n.val : Int), 0 ≤ e.node ∧ e.node < 24 ∧ K1 e.node ≠ 0 := by decide +kernel
theorem fc2 : ∀ n : Fin 24, K2 (n.val : Int) = 2 → ∀ e ∈ N2 (n.val : Int), 0 ≤ e.node ∧ e.node < 24 ∧ K2 e.node ≠ 0 := by decide +kernel
theorem ns2 : ∀ n : Fin 24, K2 (n.val : Int) = 2 → ∀ e ∈ N2 (n.val : Int), e.node ≠ (n.val : Int) := by decide +kernel
theorem fc4 : ∀ n : Fin 24, K4 (n.val : Int) = 2 → ∀ e ∈ N4 (n.val : Int), 0 ≤ e.node ∧ e.node < 24 ∧ K4 e.node ≠ 0 := by decide +kernel

theorem write_step {B : Int → UInt64} {X X' : VS} {S : FS} {v : Value} (Z : Sim S K2 N2 B2) (hfree : 2 ≤ freeN B X 96) (R : WriteR B X S [47, 108] 0 [104, 105] v X') :
    v = .int .i64 0 ∧ X'.away = X.away ∧ X'.awayN = X.awayN ∧ ∃ S', FsI X'.now S' ∧ Sim S' K2 N2 B3 ∧ (S'.C 2).links = (S.C 2).links ∧ S'.C 3 = S.C 3 := by
  obtain ⟨e1, e2, H⟩ := R
  have hp : pthV S [47, 108] = (2, 0) := by unfold pthV; rw [Z.view]; exact pa2
  have hk : (S.C 2).kind = 1 := by rw [Z.k]; decide +kernel
  have he : pthE S [47, 108] = 0 := by
    unfold pthE
    rw [hp, if_neg (by rintro ⟨_, h⟩; rw [hk] at h; cases h)]
  have hb : S.by_ 2 = [] := by rw [Z.b]; decide +kernel
  rw [he, hp] at H
  simp only [hb] at H
  have hr : refWriteL [] 0 [104, 105] = ([104, 105], 0) := by decide +kernel
  rw [hr] at H
  rcases H with ⟨h, _⟩ | ⟨_, h, _⟩ | ⟨_, _, _, h⟩ | ⟨_, _, hv, _, c', hc1, hc2, I⟩
  · exact absurd rfl h
  · exact absurd rfl h
  · exfalso
    have : ((0 : Int).toNat + [(104 : UInt8), 105].length + 127) / 128 - (0 : Int).toNat / 128 + 1 = 2 := by decide
    omega
  · refine ⟨hv, e1, e2, _, I, ⟨fun i => ?_, fun i => ?_, fun i => ?_⟩, ?_, ?_⟩
    · show (if i = 2 then c' else S.C i).kind = _
      by_cases h : i = 2
      · rw [if_pos h, h, hc1]; exact Z.k 2
      · rw [if_neg h]; exact Z.k i
    · show (if i = 2 then S.nm 2 else S.nm i) = _
      by_cases h : i = 2
      · rw [if_pos h, h]; exact Z.n 2
      · rw [if_neg h]; exact Z.n i
    · show (if i = 2 then [104, 105] else S.by_ i) = _
      unfold B3
      rw [Z.b i]
    · show (if (2 : Int) = 2 then c' else S.C 2).links = _
      rw [if_pos rfl]; exact hc2
    · show (if (3 : Int) = 2 then c' else S.C 3) = _
      rw [if_neg (by decide)]

theorem remove_step {X X' : VS} {S : FS} {v : Value} (Z : Sim S K2 N2 B3) (hl : (S.C 3).links = 1) (R : RemoveR X S [47, 108] mayRm v X') :
    v = .int .i64 0 ∧ X'.away = X.away ∧ X'.awayN = X.awayN ∧ ∃ S', FsI X'.now S' ∧ Sim S' K4 N4 B4 ∧ S'.C 2 = S.C 2 := by
  obtain ⟨e1, e2, H⟩ := R
  have hv := Z.view
  rw [hv] at H
  rcases H with ⟨he, _⟩ | ⟨d, nm', nd, P, H⟩
  · rw [pl3] at he; exact absurd rfl he
  · have hP := P.is
    rw [hv, pl3] at hP
    obtain ⟨t1, t2⟩ := Prod.mk.inj hP
    obtain ⟨t2, t3⟩ := Prod.mk.inj t2
    obtain ⟨t3, _⟩ := Prod.mk.inj t3
    subst t1 t2 t3
    have hk : (S.C 3).kind = 3 := by rw [Z.k]; decide +kernel
    have hm : mayRm (S.C 3) = 0 := by
      unfold mayRm
      rw [hk, if_neg (by decide)]
    rcases H with ⟨h, _⟩ | ⟨_, h, _⟩ | ⟨_, _, hv0, _, c1, k1, _, ⟨h, _⟩ | ⟨_, vv, I⟩⟩
    · cases h
    · exact absurd hm h
    · omega
    · refine ⟨hv0, e1, e2, _, I, ⟨fun i => ?_, fun i => ?_, fun i => ?_⟩, ?_⟩
      · show (if i = 3 then noneC vv else if i = 1 then c1 else S.C i).kind = _
        unfold K4
        by_cases h3 : i = 3
        · rw [if_pos h3, if_pos h3]; rfl
        · rw [if_neg h3, if_neg h3]
          by_cases h1 : i = 1
          · rw [if_pos h1, if_pos h1]; exact k1
          · rw [if_neg h1, if_neg h1]; exact Z.k i
      · show (if i = 3 then [] else if i = 1 then (S.nm 1).eraseIdx (plK (S.nm 1) [108]) else S.nm i) = _
        unfold N4
        rw [Z.n 1, Z.n i]
      · show (if i = 3 then [] else if i = 1 then S.by_ 1 else S.by_ i) = _
        unfold B4
        rw [Z.b 1, Z.b i]
      · show (if (2 : Int) = 3 then noneC vv else if (2 : Int) = 1 then c1 else S.C 2) = _
        rw [if_neg (by decide), if_neg (by decide)]
end Go.Proofs.YtkdmlieckkdmgaaGreatDoor
/-
  Layer 12's statements: a world lies in the heap.
-/
set_option linter.all false
set_option maxRecDepth 100000
set_option maxHeartbeats 4000000
namespace Go.Proofs.YtkdmlieckkdmgaaGreatDoor
open Go Go.Eng

structure NodH where
  nd : Nod
  a : Option Addr
  n : Nat
  c : Nat
def NodH.cells (x : NodH) : List Value := [.int .i64 x.nd.id, .int .i64 x.nd.kind, .int .i64 x.nd.links, .string (ba x.nd.data), .slice x.a x.n x.c]
def nodC (L : List NodH) : List Value := L.flatMap NodH.cells

theorem nodC_len : ∀ L : List NodH, (nodC L).length = L.length * 5
  | [] => rfl
  | x :: L => by
    have ih := nodC_len L
    unfold nodC at ih ⊢
    rw [List.flatMap_cons, List.length_append, ih, List.length_cons]
    show 5 + _ = _
    omega
theorem nodC_get : ∀ (L : List NodH) (i j : Nat) (hi : i < L.length), j < 5 → (nodC L)[i * 5 + j]? = L[i].cells[j]?
  | [], i, j, hi, _ => by simp at hi
  | x :: L, 0, j, _, hj => by
    unfold nodC
    rw [List.flatMap_cons, List.getElem?_append_left (by show 0 * 5 + j < 5; omega)]
    simp
  | x :: L, i + 1, j, hi, hj => by
    have ih := nodC_get L i j (by simpa using hi) hj
    unfold nodC at ih ⊢
    rw [List.flatMap_cons, List.getElem?_append_right (by show 5 ≤ _; omega)]
    have : (i + 1) * 5 + j - x.cells.length = i * 5 + j := by show (i + 1) * 5 + j - 5 = _; omega
    rw [this]
    simpa using ih
theorem own_cell {h : Heap} {e : TypeId} {sz : Nat} {a : Option Addr} {n c : Nat} {l : List Value} (O : Own h e sz a n c l) {k : Nat} (hk : k < l.length) : ∃ b cs, a = some ⟨b, 0, none⟩ ∧ h[b]? = some (.cells ⟨cs⟩ e (0, 0)) ∧ Heap.cell? h b k = l[k]? ∧ cs.take l.length = l ∧ l.length ≤ cs.length := by
  rcases O with ⟨_, _, _, rfl⟩ | ⟨b, cs, rfl, o, ht, h1, h2, h3⟩
  · simp at hk
  · have hle : l.length ≤ cs.length := by
      have := congrArg List.length ht
      rw [List.length_take] at this
      omega
    refine ⟨b, cs, rfl, o, ?_, ht, hle⟩
    simp only [Heap.cell?, o]
    have : l[k]? = (cs.take l.length)[k]? := by rw [ht]
    rw [this, List.getElem?_take, if_pos hk]
    simp

structure WorldH (h : Heap) (z w t : Nat) (V : VL) (aT : Option Addr) (cT : Nat) (L : List NodH) (aN : Option Addr) (cN : Nat) (num : List Int) : Prop where
  obj : h[w]? = some (.cells ⟨[.pointer (some ⟨V.v, 0, none⟩), .pointer (some ⟨t, 0, none⟩), .slice aN num.length cN]⟩ 30 (0, 0))
  tr : h[t]? = some (.cells ⟨[.slice aT L.length cT]⟩ 71 (0, 0))
  own : Own h 122 5 aT L.length cT (nodC L)
  nums : Own h 3 1 aN num.length cN (num.map fun x => .int .i64 x)
  nam : ∀ x ∈ L, x.n = x.nd.names.length ∧ Own h 120 2 x.a x.n x.c (entC x.nd.names) ∧ (∀ b ∈ blkA x.a, z ≤ b) ∧ (∀ e ∈ x.nd.names, e.ok) ∧ x.nd.names.length ≤ 105
  zw : z ≤ w ∧ z ≤ t ∧ (∀ b ∈ blkA aT, z ≤ b) ∧ (∀ b ∈ blkA aN, z ≤ b)
  zv : ∀ b ∈ V.blocks, b < z

theorem WorldH.keep {F : List Nat} {h h' : Heap} {z w t : Nat} {V : VL} {aT : Option Addr} {cT : Nat} {L : List NodH} {aN : Option Addr} {cN : Nat} {num : List Int} (W : WorldH h z w t V aT cT L aN cN num) (k : Keeps F h h') (hF : ∀ x ∈ F, x < z) : WorldH h' z w t V aT cT L aN cN num := by
  obtain ⟨z1, z2, z3, z4⟩ := W.zw
  have no : ∀ b, z ≤ b → b ∉ F := fun b hb hx => by have := hF b hx; omega
  exact ⟨k.obj W.obj (no _ z1), k.obj W.tr (no _ z2), W.own.keep k (fun b hb => no b (z3 b hb)), W.nums.keep k (fun b hb => no b (z4 b hb)), fun x hx => by
    obtain ⟨n1, n2, n3, n4, n5⟩ := W.nam x hx
    exact ⟨n1, n2.keep k (fun b hb => no b (n3 b hb)), n3, n4, n5⟩, W.zw, W.zv⟩

/-- a world's blocks are old -/
theorem WorldH.old {h : Heap} {z w t : Nat} {V : VL} {aT : Option Addr} {cT : Nat} {L : List NodH} {aN : Option Addr} {cN : Nat} {num : List Int} (W : WorldH h z w t V aT cT L aN cN num) : w < h.size ∧ t < h.size ∧ (∀ b ∈ blkA aT, b < h.size) ∧ (∀ b ∈ blkA aN, b < h.size) ∧ ∀ x ∈ L, ∀ b ∈ blkA x.a, b < h.size :=
  ⟨obj_lt W.obj, obj_lt W.tr, W.own.lt, W.nums.lt, fun x hx => (W.nam x hx).2.1.lt⟩
theorem WorldH.keepW {F : List Nat} {h h' h'' : Heap} {z w t : Nat} {V : VL} {aT : Option Addr} {cT : Nat} {L : List NodH} {aN : Option Addr} {cN : Nat} {num : List Int} (W0 : WorldH h z w t V aT cT L aN cN num) (W : WorldH h' z w t V aT cT L aN cN num) (k : Keeps F h' h'') (hF : ∀ x ∈ F, x < z ∨ h.size ≤ x) : WorldH h'' z w t V aT cT L aN cN num := by
  obtain ⟨z1, z2, z3, z4⟩ := W.zw
  obtain ⟨o1, o2, o3, o4, o5⟩ := W0.old
  have no : ∀ b, z ≤ b → b < h.size → b ∉ F := fun b hb hb2 hx => by have := hF b hx; omega
  exact ⟨k.obj W.obj (no _ z1 o1), k.obj W.tr (no _ z2 o2), W.own.keep k (fun b hb => no b (z3 b hb) (o3 b hb)), W.nums.keep k (fun b hb => no b (z4 b hb) (o4 b hb)), fun x hx => by
    obtain ⟨n1, n2, n3, n4, n5⟩ := W.nam x hx
    exact ⟨n1, n2.keep k (fun b hb => no b (n3 b hb) (o5 x hx b hb)), n3, n4, n5⟩, W.zw, W.zv⟩

theorem cells_ne {h : Heap} {a b : Nat} {x y : Array Value} {S T : TypeId} {f g : Nat × Nat} (h1 : h[a]? = some (.cells x S f)) (h2 : h[b]? = some (.cells y T g)) (hne : S ≠ T) : a ≠ b := by
  rintro rfl
  rw [h1] at h2
  cases h2
  exact hne rfl

/-- the nodes of a world -/
def nds (L : List NodH) : List Nod := L.map (·.nd)
theorem nds_len (L : List NodH) : (nds L).length = L.length := by simp [nds]
theorem tn_nds {L : List NodH} {i : Nat} (hi : i < L.length) : tn (nds L) (i : Int) = L[i].nd := by
  unfold tn nds
  rw [Int.toNat_natCast, List.getElem?_map, List.getElem?_eq_getElem hi]
  rfl

/-- a file that is put -/
structure Fil where
  in_ : Int
  kind : Int
  name : List UInt8
  data : List UInt8
def Fil.cells (f : Fil) : List Value := [.int .i64 f.in_, .int .i64 f.kind, .string (ba f.name), .string (ba f.data)]
def Fil.ok (f : Fil) : Prop := inI64 f.in_ ∧ inI64 f.kind ∧ f.name.length ≤ 140737488351232 ∧ f.data.length ≤ 140737488351232

def u64N (x : Int) : Nat := (x % 18446744073709551616).toNat
/-- where a file goes, of which kind it is -/
def dirOf (f : Fil) (len : Nat) : Nat := 1 + u64N f.in_ % (len - 1)
def kindOf (f : Fil) : Int := 1 + ((u64N f.kind % 3 : Nat) : Int)
theorem dirOf_in {f : Fil} {len : Nat} (h : 2 ≤ len) : 1 ≤ dirOf f len ∧ dirOf f len < len := by
  unfold dirOf
  have := Nat.mod_lt (u64N f.in_) (show 0 < len - 1 by omega)
  omega
theorem kindOf_in (f : Fil) : 1 ≤ kindOf f ∧ kindOf f ≤ 3 := by
  unfold kindOf
  have := Nat.mod_lt (u64N f.kind) (show 0 < 3 by decide)
  omega

/-! ### A name's node is set -/

theorem plK_ins (l : List Ent) (name : List UInt8) (x : Int) : plK (insL l ⟨name, x⟩) name = plK l name := by
  have h1 : l.take (plK l name) = l.takeWhile fun e => blt e.name name := (List.prefix_iff_eq_take.1 (List.takeWhile_prefix _)).symm
  have hall : ∀ e ∈ l.take (plK l name), blt e.name name = true := by
    rw [h1]
    intro e he
    have := List.all_takeWhile (p := fun e : Ent => blt e.name name) (l := l)
    exact List.all_eq_true.1 this e he
  have hle := plK_le l name
  show (List.takeWhile (fun e : Ent => blt e.name name) (l.take (plK l name) ++ ⟨name, x⟩ :: l.drop (plK l name))).length = plK l name
  rw [List.takeWhile_append_of_pos hall, List.takeWhile_cons, if_neg (by rw [blt_irr]; simp), List.append_nil, List.length_take]
  show min (plK l name) l.length = plK l name
  omega
theorem insL_len (l : List Ent) (e : Ent) : (insL l e).length = l.length + 1 := by rw [(insL_perm l e).length_eq]; rfl
theorem ins_set (l : List Ent) (name : List UInt8) (x y : Int) : (entC (insL l ⟨name, x⟩)).set (plK l name * 2 + 1) (.int .i64 y) = entC (insL l ⟨name, y⟩) := by
  have hle := plK_le l name
  unfold insL
  rw [entC_app, entC_app]
  have hl : (entC (l.take (plK l name))).length = plK l name * 2 := by rw [entC_len, List.length_take]; omega
  rw [List.set_append, if_neg (by rw [hl]; omega), hl]
  have : plK l name * 2 + 1 - plK l name * 2 = 1 := by omega
  rw [this]
  rfl
theorem nodC_app (a b : List NodH) : nodC (a ++ b) = nodC a ++ nodC b := by unfold nodC; rw [List.flatMap_append]
theorem nodC_set : ∀ (L : List NodH) (i : Nat) (hi : i < L.length) (x : NodH), x.nd.id = L[i].nd.id → x.nd.kind = L[i].nd.kind → x.nd.links = L[i].nd.links → x.nd.data = L[i].nd.data → (nodC L).set (i * 5 + 4) (.slice x.a x.n x.c) = nodC (L.set i x)
  | [], i, hi, _, _, _, _, _ => by simp at hi
  | y :: L, 0, _, x, h1, h2, h3, h4 => by
    simp only [List.getElem_cons_zero] at h1 h2 h3 h4
    unfold nodC
    rw [List.set_cons_zero, List.flatMap_cons, List.flatMap_cons, List.set_append, if_pos (by show 0 * 5 + 4 < 5; decide)]
    congr 1
    unfold NodH.cells
    rw [h1, h2, h3, h4]; rfl
  | y :: L, i + 1, hi, x, h1, h2, h3, h4 => by
    have ih := nodC_set L i (by simpa using hi) x (by simpa using h1) (by simpa using h2) (by simpa using h3) (by simpa using h4)
    unfold nodC at ih ⊢
    rw [List.set_cons_succ, List.flatMap_cons, List.flatMap_cons, List.set_append, if_neg (by show ¬ ((i + 1) * 5 + 4 < 5); omega)]
    have : (i + 1) * 5 + 4 - y.cells.length = i * 5 + 4 := by show (i + 1) * 5 + 4 - 5 = _; omega
    rw [this, ih]
theorem own_set {h h' : Heap} {e : TypeId} {sz : Nat} {b n c : Nat} {l : List Value} (O : Own h e sz (some ⟨b, 0, none⟩) n c l) {k : Nat} (hk : k < l.length) {v : Value} {cs : List Value} (o : h[b]? = some (.cells ⟨cs⟩ e (0, 0))) (o' : h'[b]? = some (.cells ⟨spliceL k [v] cs⟩ e (0, 0))) : Own h' e sz (some ⟨b, 0, none⟩) n c (l.set k v) := by
  rcases O with ⟨h0, _⟩ | ⟨b', cs', hb, ob, ht, h1, h2, h3⟩
  · cases h0
  · cases hb
    rw [o] at ob
    cases ob
    have hle : l.length ≤ cs.length := by
      have := congrArg List.length ht
      rw [List.length_take] at this
      omega
    rw [splice_set1 _ _ _ (by omega)] at o'
    refine .inr ⟨b, _, rfl, o', ?_, by rw [List.length_set]; exact h1, by rw [List.length_set]; exact h2, h3⟩
    rw [List.length_set, List.take_set, ht]
/-! ### A world is changed -/

theorem own_ty {h : Heap} {e : TypeId} {sz : Nat} {a : Option Addr} {n c : Nat} {l : List Value} (O : Own h e sz a n c l) : ∀ b ∈ blkA a, ∃ cs, h[b]? = some (.cells cs e (0, 0)) := by
  intro b hb
  rcases O with ⟨rfl, _⟩ | ⟨b', cs, rfl, o, _⟩
  · cases hb
  · have : b = b' := by simpa [blkA] using hb
    subst this
    exact ⟨_, o⟩

theorem WorldH.setNames {h h' : Heap} {z w t : Nat} {V : VL} {aT : Option Addr} {cT : Nat} {L : List NodH} {aN : Option Addr} {cN : Nat} {num : List Int} (W : WorldH h z w t V aT cT L aN cN num) {d : Nat} (hd : d < L.length) {bT : Nat} (haT : aT = some ⟨bT, 0, none⟩) {csT : List Value} (o : h[bT]? = some (.cells ⟨csT⟩ 122 (0, 0))) (k : Keeps [bT] h h') (x : NodH)
    (h1 : x.nd.id = L[d].nd.id) (h2 : x.nd.kind = L[d].nd.kind) (h3 : x.nd.links = L[d].nd.links) (h4 : x.nd.data = L[d].nd.data) (o' : h'[bT]? = some (.cells ⟨spliceL (d * 5 + 4) [.slice x.a x.n x.c] csT⟩ 122 (0, 0)))
    (hx : x.n = x.nd.names.length ∧ Own h 120 2 x.a x.n x.c (entC x.nd.names) ∧ (∀ b ∈ blkA x.a, z ≤ b) ∧ (∀ e ∈ x.nd.names, e.ok) ∧ x.nd.names.length ≤ 105) : WorldH h' z w t V aT cT (L.set d x) aN cN num := by
  have hw : w ≠ bT := cells_ne W.obj o (by decide)
  have ht : t ≠ bT := cells_ne W.tr o (by decide)
  have O' := own_set (haT ▸ W.own) (k := d * 5 + 4) (by rw [nodC_len]; omega) o o'
  rw [nodC_set L d hd x h1 h2 h3 h4, ← haT] at O'
  have nk : ∀ y : NodH, Own h 120 2 y.a y.n y.c (entC y.nd.names) → Own h' 120 2 y.a y.n y.c (entC y.nd.names) := fun y oy => oy.keep k (fun b hb hx => by
    obtain ⟨cs, oc⟩ := own_ty oy b hb
    have := cells_ne oc o (by decide)
    simp at hx; exact this hx)
  refine ⟨k.obj W.obj (by simpa using hw), by rw [List.length_set]; exact k.obj W.tr (by simpa using ht), by rw [List.length_set]; exact O', W.nums.keep k (fun b hb hx => ?_), fun y hy => ?_, W.zw, W.zv⟩
  · obtain ⟨cs, oc⟩ := own_ty W.nums b hb
    have := cells_ne oc o (by decide)
    simp at hx; exact this hx
  · rcases List.mem_or_eq_of_mem_set hy with hy | rfl
    · obtain ⟨n1, n2, n3, n4, n5⟩ := W.nam y hy
      exact ⟨n1, nk y n2, n3, n4, n5⟩
    · exact ⟨hx.1, nk y hx.2.1, hx.2.2⟩

theorem WorldH.pushNode {h h1 h' : Heap} {z w t : Nat} {V : VL} {aT : Option Addr} {cT : Nat} {L : List NodH} {aN : Option Addr} {cN : Nat} {num : List Int} (W : WorldH h z w t V aT cT L aN cN num) {aT' : Option Addr} {cT' : Nat} (k1 : Keeps (blkA aT) h h1) (n1 : ∀ b ∈ blkA aT', b ∈ blkA aT ∨ h.size ≤ b) (x : NodH) (O1 : Own h1 122 5 aT' (L.length + 1) cT' (nodC L ++ x.cells)) (k2 : Keeps [t] h1 h')
    (o' : h'[t]? = some (.cells ⟨[.slice aT' (L.length + 1) cT']⟩ 71 (0, 0))) (hx : x.n = 0 ∧ x.a = none ∧ x.c = 0 ∧ x.nd.names = []) : WorldH h' z w t V aT' cT' (L ++ [x]) aN cN num := by
  obtain ⟨z1, z2, z3, z4⟩ := W.zw
  have ndT : ∀ {b : Nat} {cs : Array Value} {T : TypeId} {fz : Nat × Nat}, h[b]? = some (.cells cs T fz) → T ≠ 122 → b ∉ blkA aT := by
    intro b cs T fz o hne hb
    obtain ⟨cs2, o2⟩ := own_ty W.own b hb
    exact cells_ne o o2 hne rfl
  have ob1 := k1.obj W.obj (ndT W.obj (by decide))
  have tr1 := k1.obj W.tr (ndT W.tr (by decide))
  have nums1 := W.nums.keep k1 (fun b hb => by
    obtain ⟨cs, oc⟩ := own_ty W.nums b hb
    exact ndT oc (by decide))
  have wt : w ≠ t := cells_ne W.obj W.tr (by decide)
  have zh := W.old
  have z1' := k1.size
  have nt : ∀ {b : Nat} {cs : Array Value} {T : TypeId} {fz : Nat × Nat}, h1[b]? = some (.cells cs T fz) → T ≠ 71 → b ∉ [t] := by
    intro b cs T fz o hne hb
    have : b = t := by simpa using hb
    subst this
    exact cells_ne o tr1 hne rfl
  refine ⟨k2.obj ob1 (by simpa using wt), by simpa using o', ?_, nums1.keep k2 (fun b hb => ?_), fun y hy => ?_, ⟨z1, z2, fun b hb => ?_, z4⟩, W.zv⟩
  · have e : nodC (L ++ [x]) = nodC L ++ x.cells := by rw [nodC_app]; unfold nodC; simp
    rw [e, List.length_append]
    exact O1.keep k2 (fun b hb => by
      obtain ⟨cs, oc⟩ := own_ty O1 b hb
      exact nt oc (by decide))
  · obtain ⟨cs, oc⟩ := own_ty nums1 b hb
    exact nt oc (by decide)
  · rcases List.mem_append.1 hy with hy | hy
    · obtain ⟨m1, m2, m3, m4, m5⟩ := W.nam y hy
      have o1 := m2.keep k1 (fun b hb => by
        obtain ⟨cs, oc⟩ := own_ty m2 b hb
        exact ndT oc (by decide))
      exact ⟨m1, o1.keep k2 (fun b hb => by
        obtain ⟨cs, oc⟩ := own_ty o1 b hb
        exact nt oc (by decide)), m3, m4, m5⟩
    · have : y = x := by simpa using hy
      subst this
      obtain ⟨q1, q2, q3, q4⟩ := hx
      rw [q1, q2, q3, q4]
      exact ⟨rfl, .inl ⟨rfl, rfl, rfl, rfl⟩, by simp [blkA], by simp, by simp⟩
  · rcases n1 b hb with h2 | h2
    · exact z3 b h2
    · have := zh.1; omega

theorem WorldH.pushNum {h h1 h' : Heap} {z w t : Nat} {V : VL} {aT : Option Addr} {cT : Nat} {L : List NodH} {aN : Option Addr} {cN : Nat} {num : List Int} (W : WorldH h z w t V aT cT L aN cN num) {aN' : Option Addr} {cN' : Nat} (k1 : Keeps (blkA aN) h h1) (n1 : ∀ b ∈ blkA aN', b ∈ blkA aN ∨ h.size ≤ b) (x : Int) (O1 : Own h1 3 1 aN' (num.length + 1) cN' ((num ++ [x]).map fun x => .int .i64 x)) (k2 : Keeps [w] h1 h')
    (o' : h'[w]? = some (.cells ⟨[.pointer (some ⟨V.v, 0, none⟩), .pointer (some ⟨t, 0, none⟩), .slice aN' (num.length + 1) cN']⟩ 30 (0, 0))) : WorldH h' z w t V aT cT L aN' cN' (num ++ [x]) := by
  obtain ⟨z1, z2, z3, z4⟩ := W.zw
  have ndN : ∀ {b : Nat} {cs : Array Value} {T : TypeId} {fz : Nat × Nat}, h[b]? = some (.cells cs T fz) → T ≠ 3 → b ∉ blkA aN := by
    intro b cs T fz o hne hb
    obtain ⟨cs2, o2⟩ := own_ty W.nums b hb
    exact cells_ne o o2 hne rfl
  have ob1 := k1.obj W.obj (ndN W.obj (by decide))
  have tr1 := k1.obj W.tr (ndN W.tr (by decide))
  have own1 := W.own.keep k1 (fun b hb => by
    obtain ⟨cs, oc⟩ := own_ty W.own b hb
    exact ndN oc (by decide))
  have zh := W.old
  have nw : ∀ {b : Nat} {cs : Array Value} {T : TypeId} {fz : Nat × Nat}, h1[b]? = some (.cells cs T fz) → T ≠ 30 → b ∉ [w] := by
    intro b cs T fz o hne hb
    have : b = w := by simpa using hb
    subst this
    exact cells_ne o ob1 hne rfl
  refine ⟨by simpa using o', k2.obj tr1 (nw tr1 (by decide)), own1.keep k2 (fun b hb => ?_), ?_, fun y hy => ?_, ⟨z1, z2, z3, fun b hb => ?_⟩, W.zv⟩
  · obtain ⟨cs, oc⟩ := own_ty own1 b hb
    exact nw oc (by decide)
  · rw [List.length_append]
    exact O1.keep k2 (fun b hb => by
      obtain ⟨cs, oc⟩ := own_ty O1 b hb
      exact nw oc (by decide))
  · obtain ⟨m1, m2, m3, m4, m5⟩ := W.nam y hy
    have o1 := m2.keep k1 (fun b hb => by
      obtain ⟨cs, oc⟩ := own_ty m2 b hb
      exact ndN oc (by decide))
    exact ⟨m1, o1.keep k2 (fun b hb => by
      obtain ⟨cs, oc⟩ := own_ty o1 b hb
      exact nw oc (by decide)), m3, m4, m5⟩
  · rcases n1 b hb with h2 | h2
    · exact z4 b h2
    · have := zh.1; omega
end Go.Proofs.YtkdmlieckkdmgaaGreatDoor
/-
  Layer 12, the document's: a tree with a root.
-/
set_option linter.all false
set_option maxRecDepth 100000
set_option maxHeartbeats 1000000
namespace Go.Proofs.YtkdmlieckkdmgaaGreatDoor
open Go Go.Eng

def L0 : List NodH := [⟨⟨0, 0, 0, [], []⟩, none, 0, 0⟩, ⟨⟨1, 2, 1, [], []⟩, none, 0, 0⟩]

theorem new12_spec (h : Heap) : CallH Tryz.prog 23 [] h (fun v h' => Keeps [] h h' ∧ ∃ bT t, v = .pointer (some ⟨t, 0, none⟩) ∧ h.size ≤ bT ∧ h.size ≤ t ∧ h'[t]? = some (.cells ⟨[.slice (some ⟨bT, 0, none⟩) 2 2]⟩ 71 (0, 0)) ∧ h'[bT]? = some (.cells ⟨nodC L0⟩ 122 (0, 0))) := by
  refine call_of hmix Tryz.func23 rfl ok23 (by simp [Tryz.f23]) ?_
  conv => whnf
  refine AllocR.i fun b1 h1 e1 s1 o1 k1 => ?_
  conv => whnf
  refine AllocR.i fun b2 h2 e2 s2 o2 k2 => ?_
  conv => whnf
  exact ⟨k1.trans k2, b1, b2, rfl, by omega, by omega, o2, k2.obj o1 (by simp)⟩

end Go.Proofs.YtkdmlieckkdmgaaGreatDoor
/-
  Layer 12: a memory is laid out.
-/
set_option linter.all false
set_option maxRecDepth 100000
set_option maxHeartbeats 2000000
namespace Go.Proofs.YtkdmlieckkdmgaaGreatDoor
open Go Go.Eng

/-- a memory that is being laid out: so many words are right -/
structure LayI (B : Int → UInt64) (at_ : Nat) (N : MemS) : Prop where
  u : N.until_ = -1
  len : N.sure.length = 2824
  read : ∀ i, N.read i = if i < at_ then laidR i else B i
  way : ∀ i, lk N.way i = lk N.loose i
  rng : ∀ i, lk N.loose i ≠ none → 0 ≤ i ∧ i < 2824

theorem call_calm {N : MemS} (hu : N.until_ = -1) (t : Bool) : N.call t = (if t then 0 else 1, { N with calls := IntKind.i64.wrap (N.calls + 1) }) := by
  unfold MemS.call
  rw [hu]
  cases t <;> rfl

theorem lineOf_in {i : Int} (hi : 0 ≤ i) : lineOf i ≤ i ∧ i < lineOf i + 8 := by
  unfold lineOf
  rw [Int.tmod_eq_emod_of_nonneg hi]
  omega

theorem LayI.step {B : Int → UInt64} {a : Nat} {N : MemS} (I : LayI B a N) (ha : a < 2824) : ∀ (c1 c2 : Int), LayI B (a + 1) { N with calls := c2, loose := putW N.loose a (laidR a), way := flushN (putW N.loose a (laidR a)) N.way (lineOf a) 8 } := by
  intro c1 c2
  have hl := lineOf_in (i := (a : Int)) (by omega)
  refine ⟨I.u, I.len, fun i => ?_, fun i => ?_, fun i hi => ?_⟩
  · have hr := I.read i
    unfold MemS.read MemS.there at hr ⊢
    simp only at hr ⊢
    rw [lk_put]
    by_cases e : i = (a : Int)
    · rw [if_pos e]
      have h1 : (decide (0 ≤ i) && decide (i < (N.sure.length : Int))) = true := by rw [I.len]; simp; omega
      rw [if_pos h1, if_pos (by omega), e]; rfl
    · rw [if_neg e, hr]
      by_cases h2 : i < (a : Int)
      · rw [if_pos h2, if_pos (by omega)]
      · rw [if_neg h2, if_neg (by omega)]
  · show lk (flushN _ _ _ 8) i = lk (putW _ _ _) i
    rw [lk_flushN, lk_put, I.way i]
    by_cases h1 : lineOf (a : Int) ≤ i ∧ i < lineOf (a : Int) + ((8 : Nat) : Int)
    · rw [if_pos h1]
      by_cases e : i = (a : Int)
      · rw [if_pos e]
      · rw [if_neg e]
        cases lk N.loose i <;> rfl
    · rw [if_neg h1, if_neg (by intro e; apply h1; omega)]
  · have hi' : lk (putW N.loose (a : Int) (laidR (a : Int))) i ≠ none := hi
    rw [lk_put] at hi'
    by_cases e : i = (a : Int)
    · omega
    · rw [if_neg e] at hi'
      exact I.rng i hi'

theorem LayI.skip {B : Int → UInt64} {a : Nat} {N : MemS} (I : LayI B a N) (h : N.read a = laidR a) : LayI B (a + 1) N := by
  refine ⟨I.u, I.len, fun i => ?_, I.way, I.rng⟩
  by_cases e : i = (a : Int)
  · rw [if_pos (by omega), e]; exact h
  · rw [I.read i]
    by_cases h2 : i < (a : Int)
    · rw [if_pos h2, if_pos (by omega)]
    · rw [if_neg h2, if_neg (by omega)]

theorem lk_nil {l : List (Int × UInt64)} (h : ∀ x, lk l x = none) : l = [] := by
  cases l with
  | nil => rfl
  | cons p l =>
    have := h p.1
    simp [lk] at this

theorem layL_spec {h : Heap} {L : ML} {M : MemS} (A : MemAt h L M) (O : MemO h L M) (hu : M.until_ = -1) (hs : M.sure.length = 2824) (hl0 : M.loose = []) (hw0 : M.way = []) : CallH Tryz.prog 13 [.pointer (some ⟨L.m, 0, none⟩)] h (fun v h' => Keeps L.blocks h h' ∧ v = .int .i64 0 ∧
    ∃ N : MemS, MemAt h' L N ∧ N.until_ = -1 ∧ N.sure.length = 2824 ∧ (∀ i, N.read i = laidR i) ∧ N.loose = []) := by
  have bl := A.blt
  refine call_of hmix Tryz.func13 rfl ok13 (by simp [Tryz.f13]) ?_
  conv => whnf
  refine CallR.i (laid_spec h) fun v h1 k1 hv => ?_
  obtain ⟨b1, rfl, hb1, o1⟩ := hv
  conv => whnf
  refine CallR.i (msize_spec (A.on k1)) fun v h2 k2 hv => ?_
  subst hv
  rw [hs]
  conv => whnf
  refine IfR.f rfl ?_
  have I0 : LayI M.read 0 M := ⟨hu, hs, fun i => by
    by_cases h : i < ((0 : Nat) : Int)
    · rw [if_pos h]
      have h1 : laidR i = 0 := by
        unfold laidR
        rw [if_neg (by omega)]
      have h2 : M.there i = false := by
        unfold MemS.there
        rw [decide_eq_false (by omega)]; rfl
      unfold MemS.read
      rw [h1, h2]; rfl
    · rw [if_neg h], fun i => by rw [hl0, hw0], fun i hi => by rw [hl0] at hi; exact absurd rfl hi⟩
  have nb1 : ∀ b ∈ L.blocks, b ≠ b1 := fun b hb => by have := bl b hb; omega
  have k12 := k1.trans k2
  have oll := laidL_len
  conv => whnf
  refine LoopR.on [0, 13, 14, 15] [] (fun q : Nat × MemS => [(0, .v (.pointer (some ⟨L.m, 0, none⟩))), (13, .v (.slice (some ⟨b1, 0, none⟩) 2824 2824)), (14, .v (.int .i64 2824)), (15, .v (.int .i64 (q.1 : Int)))]) (fun _ => [])
    (fun q h' => q.1 ≤ 2824 ∧ Keeps L.blocks h h' ∧ h'[b1]? = some (.cells ⟨laidL.map wv⟩ 32 (0, 0)) ∧ MemAt h' L q.2 ∧ MemO h' L q.2 ∧ LayI M.read q.1 q.2) (fun q => 2824 - q.1) (0, M) ?_ ?_
  · conv => whnf
    exact ⟨(0, M), rfl, rfl, rfl, Nat.zero_le _, k12.mono (by simp), k2.obj o1 (by simp), A.on k12, Own.keep O k12 (by simp), I0⟩
  · rintro ⟨a, N⟩ h3 ⟨ha, k3, o3, A3, O3, I3⟩
    simp only at ha A3 O3 I3
    conv => whnf
    refine IfR.i (fun hc => ?_) (fun hc => ?_)
    · have ha1 : a < 2824 := by
        have : (a : Int) < 2824 := by simpa using hc
        omega
      have hla : (laidL[a]'(by omega)) = laidR (a : Int) := by
        unfold laidR
        rw [if_pos (by omega), Int.toNat_natCast, List.getElem?_eq_getElem (by omega)]; rfl
      have hth : N.there (a : Int) = true := by unfold MemS.there; rw [I3.len]; simp; omega
      conv => whnf
      first | refine IdxS.i a rfl ha1 rfl ?_ | (refine MeetR.pass ?_; (conv => whnf); refine IdxS.i a rfl ha1 rfl ?_)
      conv => whnf
      refine LoadR.o (v := wv (laidL[a]'(by omega))) o3 ?_ ?_
      · rw [nth_eq]
        show (laidL.map wv)[0 + a * 1]? = _
        rw [show 0 + a * 1 = a by omega]
        simp [oll, ha1]
      rw [hla]
      conv => whnf
      refine CallR.i (mread_spec A3 (a : Int)) fun v h4 k4 hv => ?_
      subst hv
      have A4 := A3.on k4
      have O4 : MemO h4 L N := Own.keep O3 k4 (by simp)
      have o4 := k4.obj o3 (by simp)
      conv => whnf
      refine IfR.i (fun hd => ?_) (fun hd => ?_)
      · have he : N.read (a : Int) = laidR (a : Int) := by
          have : (((N.read (a : Int)).toNat : Nat) : Int) = (((laidR (a : Int)).toNat : Nat) : Int) := by simpa using hd
          exact UInt64.toNat_inj.1 (by omega)
        conv => whnf
        refine ⟨2824 - (a + 1), by omega, ?_⟩
        conv => whnf
        exact ⟨(a + 1, N), rfl, by rw [wrapN (x := (a : Int) + 1) (n := a + 1) (by simp) (by omega)], rfl, by simp only; omega, k3.trans_nil k4, o4, A4, O4, I3.skip he⟩
      · have hst : N.store (a : Int) (laidR (a : Int)) = (0, { N with calls := IntKind.i64.wrap (N.calls + 1), loose := putW N.loose (a : Int) (laidR (a : Int)) }) := by
          unfold MemS.store
          rw [call_calm I3.u, hth]
          rfl
        conv => whnf
        refine CallR.m (store_spec A4 (a : Int) (laidR (a : Int))) (by simp [blocksOf]) fun v h5 k5 hv => ?_
        rw [hst] at hv
        obtain ⟨rfl, A5⟩ := hv
        conv => whnf
        first | refine IfR.t rfl ?_ | (refine MeetR.pass ?_; (conv => whnf); refine IfR.t rfl ?_)
        have I5 := I3.step ha1
        generalize hN5 : ({ N with calls := IntKind.i64.wrap (N.calls + 1), loose := putW N.loose (a : Int) (laidR (a : Int)) } : MemS) = N5 at A5
        have hth5 : N5.there (a : Int) = true := by subst hN5; exact hth
        have hu5 : N5.until_ = -1 := by subst hN5; exact I3.u
        have O5 : MemO h5 L N5 := by
          have : MemO h5 L N := Own.keep O4 k5 (fun b hb => by have := A4.ap2 b hb; simp; exact ⟨this.1, this.2.1⟩)
          subst hN5; exact this
        have o5 := k5.obj o4 (by
          have q1 := nb1 L.m (by simp [ML.blocks])
          have q2 := nb1 L.lb (by simp [ML.blocks])
          simp; exact ⟨fun e => q1 e.symm, fun e => q2 e.symm⟩)
        conv => whnf
        refine CallR.m (flush_spec A5 (a : Int) (by omega) (by rw [call_calm hu5, hth5]; rfl)) (by simp [blocksOf]) fun v h6 k6 hv => ?_
        obtain ⟨rfl, A6⟩ := hv
        rw [call_calm hu5] at A6
        conv => whnf
        refine IfR.f rfl ?_
        conv => whnf
        refine ⟨2824 - (a + 1), by omega, ?_⟩
        conv => whnf
        have hN6 : ({ ({ N5 with calls := IntKind.i64.wrap (N5.calls + 1) } : MemS) with way := flushN ({ N5 with calls := IntKind.i64.wrap (N5.calls + 1) } : MemS).loose ({ N5 with calls := IntKind.i64.wrap (N5.calls + 1) } : MemS).way (lineOf (a : Int)) 8 } : MemS) = { N with calls := IntKind.i64.wrap (IntKind.i64.wrap (N.calls + 1) + 1), loose := putW N.loose (a : Int) (laidR (a : Int)), way := flushN (putW N.loose (a : Int) (laidR (a : Int))) N.way (lineOf (a : Int)) 8 } := by subst hN5; rfl
        have A6' : MemAt h6 L { N with calls := IntKind.i64.wrap (IntKind.i64.wrap (N.calls + 1) + 1), loose := putW N.loose (a : Int) (laidR (a : Int)), way := flushN (putW N.loose (a : Int) (laidR (a : Int))) N.way (lineOf (a : Int)) 8 } := by rw [← hN6]; exact A6
        refine ⟨(a + 1, _), rfl, by rw [wrapN (x := (a : Int) + 1) (n := a + 1) (by simp) (by omega)], rfl, by simp only; omega, ?_, ?_, A6', ?_, I5 0 _⟩
        · exact ((k3.trans_nil k4).trans (k5.mono (by simp [ML.blocks]))).trans (k6.mono (by simp [ML.blocks]))
        · refine k6.obj o5 ?_
          have q1 := nb1 L.m (by simp [ML.blocks])
          have q2 := nb1 L.wb (by simp [ML.blocks])
          simp; exact ⟨fun e => q1 e.symm, fun e => q2 e.symm⟩
        · have : MemO h6 L N5 := Own.keep O5 k6 (fun b hb => by have := A5.ap2 b hb; simp; exact ⟨this.1, this.2.2⟩)
          subst hN5; exact this
    · have ha1 : a = 2824 := by
        have : ¬ ((a : Int) < 2824) := by simpa using hc
        omega
      subst ha1
      have hkw := keysW A3.way
      conv => whnf
      refine CallR.m (fenceL_spec A3 O3 I3.u (by rw [I3.len]; decide) (fun p hp => ?_)) (by simp [blocksOf]) fun v h4 k4 hv => ?_
      · have h1 := lk_of_mem hkw hp
        rw [I3.way] at h1
        have h2 := I3.rng p.1 (by rw [h1]; simp)
        refine ⟨h1, ?_⟩
        unfold MemS.there
        rw [I3.len]; simp; omega
      obtain ⟨rfl, N', A4, _, u4, l4, _, r4, y4⟩ := hv
      conv => whnf
      refine ⟨k3.trans k4, rfl, N', A4, u4, by rw [l4, I3.len], fun i => ?_, lk_nil fun x => ?_⟩
      rotate_left
      · apply Classical.byContradiction
        intro hx
        obtain ⟨q1, q2⟩ := y4 x hx
        rw [I3.way] at q2
        exact q1 q2
      rw [r4, I3.read]
      by_cases h : i < ((2824 : Nat) : Int)
      · rw [if_pos h]
      · rw [if_neg h]
        have h1 : laidR i = 0 := by
          unfold laidR
          rw [if_neg (by omega)]
        have h2 : M.there i = false := by
          unfold MemS.there
          rw [hs, decide_eq_false (show ¬ (i < ((2824 : Nat) : Int)) from h)]; simp
        unfold MemS.read
        rw [h1, h2]; rfl
theorem lay_spec {h : Heap} {L : ML} {M : MemS} (A : MemAt h L M) (O : MemO h L M) (hu : M.until_ = -1) (hs : M.sure.length = 2824) (hl0 : M.loose = []) (hw0 : M.way = []) : CallH Tryz.prog 13 [.pointer (some ⟨L.m, 0, none⟩)] h (fun v h' => Keeps L.blocks h h' ∧ v = .int .i64 0 ∧
    ∃ N : MemS, MemAt h' L N ∧ N.until_ = -1 ∧ N.sure.length = 2824 ∧ (∀ i, N.read i = laidR i)) :=
  (layL_spec A O hu hs hl0 hw0).mono fun _ _ ⟨k, e, N, a1, a2, a3, a4, _⟩ => ⟨k, e, N, a1, a2, a3, a4⟩
end Go.Proofs.YtkdmlieckkdmgaaGreatDoor
/-
  Layer 13's statements: a world is begun; a few calls are lived through.
-/
set_option linter.all false
set_option maxRecDepth 100000
set_option maxHeartbeats 4000000
namespace Go.Proofs.YtkdmlieckkdmgaaGreatDoor
open Go Go.Eng

theorem begin13_spec (h : Heap) : CallH Tryz.prog 44 [] h (fun v h' => Keeps [] h h' ∧ ∃ (w t bT : Nat) (V : VL) (N : MemS), v = .pointer (some ⟨w, 0, none⟩) ∧
      h'[w]? = some (.cells ⟨[.pointer (some ⟨V.mem.m, 0, none⟩), .pointer (some ⟨V.v, 0, none⟩), .pointer (some ⟨t, 0, none⟩)]⟩ 109 (0, 0)) ∧ h'[t]? = some (.cells ⟨[.slice (some ⟨bT, 0, none⟩) 2 2]⟩ 71 (0, 0)) ∧ h'[bT]? = some (.cells ⟨nodC L0⟩ 122 (0, 0)) ∧
      At h' V N ⟨laidR, [], [], [], []⟩ ∧ N.read = laidR ∧ N.until_ = -1 ∧ N.sure.length = 2824 ∧ N.loose = [] ∧ V.ab = none ∧ V.anb = none ∧ (∀ b ∈ V.blocks, h.size ≤ b ∧ b < bT ∧ b < t ∧ b < w)) := by
  refine call_of hmix Tryz.func44 rfl ok44 (by simp [Tryz.f44]) ?_
  conv => whnf
  refine CallR.i (mnew_spec 2824 (by decide) (by decide) h) fun v h1 k1 hv => ?_
  obtain ⟨ML1, rfl, A1, O1, n1⟩ := hv
  have z1 := k1.size
  conv => whnf
  refine CallR.m (layL_spec A1 O1 rfl rfl rfl rfl) (by simp [blocksOf]) fun v h2 k2 hv => ?_
  obtain ⟨rfl, N, A2, hu, hs, hr, hlo⟩ := hv
  have z2 := k2.size
  conv => whnf
  refine IfR.f rfl ?_
  conv => whnf
  refine CallR.i (new_spec A2) fun v h3 k3 hv => ?_
  rw [if_pos hs] at hv
  obtain ⟨V, rfl, hVm, hab, hanb, hVn, A3⟩ := hv
  have z3 := k3.size
  have hr2 : N.read = laidR := funext hr
  rw [hr2] at A3
  conv => whnf
  refine CallR.i (new12_spec h3) fun v h4 k4 hv => ?_
  obtain ⟨bT, t, rfl, hbT, ht, o4t, o4b⟩ := hv
  have z4 := k4.size
  conv => whnf
  refine AllocR.i fun w h5 e5 s5 o5 k5 => ?_
  have k35 : Keeps [] h3 h5 := k4.trans k5
  have A5 := A3.on k35
  have hVlt : ∀ b ∈ V.blocks, b < h3.size := A3.blt
  have hVge : ∀ b ∈ V.blocks, h.size ≤ b := by
    intro b hb
    have hb2 : b ∈ [V.v, V.ob, V.sb, V.mb] ∨ b ∈ ML1.blocks := by
      unfold VL.blocks at hb
      rw [hVm, hab, hanb] at hb
      simp only [List.mem_cons, List.mem_append, Option.toList, List.not_mem_nil, or_false] at hb ⊢
      rcases hb with h | h | h | h | h <;> simp [h]
    rcases hb2 with h | h
    · have := hVn b h; omega
    · exact n1 b h
  have k05 : Keeps [] h h5 := (k1.nil_of k2 (fun b hb => n1 b hb)).trans (k3.trans k35)
  conv => whnf
  refine LoadR.o o5 rfl ?_
  conv => whnf
  refine IfR.f rfl ?_
  conv => whnf
  refine ⟨k05, w, t, bT, V, N, rfl, ?_, k5.obj o4t (by simp), k5.obj o4b (by simp), A5, hr2, hu, hs, hlo, hab, hanb, fun b hb => ⟨hVge b hb, ?_⟩⟩
  · rw [hVm]; exact o5
  · have := hVlt b hb
    omega

theorem lives13_spec (h : Heap) : CallH Tryz.prog 21 [] h (fun v h' => Keeps [] h h' ∧ v = .bool true) := by
  refine call_of hmix Tryz.func21 rfl ok21 (by simp [Tryz.f21]) ?_
  conv => whnf
  refine CallR.i (begin13_spec h) fun v h1 k1 hv => ?_
  obtain ⟨w, t, bT, V, N, rfl, o1, _, _, A1, hr, hu, hs, hlo, hab, hanb, hV⟩ := hv
  have nob := hV V.ob (by simp [VL.blocks])
  have nsb := hV V.sb (by simp [VL.blocks])
  have nmb := hV V.mb (by simp [VL.blocks])
  have hf0 : freeN N.read ⟨laidR, [], [], [], []⟩ 96 = 96 := by rw [hr]; exact freeN_laid _ _ _ _ rfl
  -- a file
  conv => whnf
  refine LoadR.o o1 rfl ?_
  conv => whnf
  refine IfR.t rfl ?_
  conv => whnf
  refine CallR.m (cmake_spec A1 fs0 (sim0.fc rfl fc0) rfl [47, 102] (by decide) (kind := 1) (.inl rfl)) (by simp [blocksOf]) fun v h2 k2 hv => ?_
  obtain ⟨X2, A2, R2⟩ := hv
  obtain ⟨rfl, a2, n2, f2, S1, I2, Z2, l2, c2⟩ := fresh_step (n1 := 2) sim0 pl0 (by omega) (by decide) (by decide) (by decide +kernel) R2
  have o2 := k2.obj o1 (by simp; omega)
  have Z2 : Sim S1 K1 N1 B1 := Z2
  -- a link
  conv => whnf
  refine LoadR.o o2 rfl ?_
  conv => whnf
  refine IfR.t rfl ?_
  conv => whnf
  refine CallR.m (csym_spec A2 I2 (Z2.fc rfl fc1) n2 [47, 108] [47, 102] (by decide) (by decide)) (by simp [blocksOf]) fun v h3 k3 hv => ?_
  obtain ⟨X3, A3, R3⟩ := hv
  have R3 : FreshR N.read X2 S1 [47, 108] 3 [47, 102] v X3 := by
    rcases R3 with ⟨hpn, _⟩ | ⟨_, R3⟩
    · exact absurd hpn (by decide +kernel)
    · exact R3
  obtain ⟨rfl, a3, n3, f3, S2, I3, Z3, l3, c3⟩ := fresh_step (n1 := 3) Z2 pl1 (by omega) (by decide +kernel) (by decide +kernel) (by decide +kernel) R3
  have o3 := k3.obj o2 (by simp; omega)
  have Z3 : Sim S2 K2 N2 B2 := Z3
  -- bytes, through the link
  conv => whnf
  refine LoadR.o o3 rfl ?_
  conv => whnf
  refine IfR.t rfl ?_
  conv => whnf
  refine CallR.m (cwrite_spec A3 I3 (Z3.fc rfl fc2) [47, 108] (by decide) 0 [104, 105]) (by simp [blocksOf]) fun v h4 k4 hv => ?_
  obtain ⟨X4, A4, R4⟩ := hv
  obtain ⟨rfl, a4, n4, S3, I4, Z4, l4, c4⟩ := write_step Z3 (by omega) R4
  have o4 := k4.obj o3 (by simp; omega)
  -- the link is gone
  conv => whnf
  refine LoadR.o o4 rfl ?_
  conv => whnf
  refine IfR.t rfl ?_
  conv => whnf
  refine CallR.m (cremoveF_spec A4 I4 (Z4.fc rfl fc2) (Z4.ns ns2) [47, 108] (by decide)) (by simp [blocksOf]) fun v h5 k5 hv => ?_
  obtain ⟨X5, A5, R5⟩ := hv
  obtain ⟨rfl, a5, n5, S4, I5, Z5, c5⟩ := remove_step Z4 (by rw [c4]; exact l3) R5
  have o5 := k5.obj o4 (by simp; omega)
  conv => whnf
  refine IfR.f rfl ?_
  -- what is told
  have hp5 : pthV S4 [47, 102] = (2, 0) := by unfold pthV; rw [Z5.view]; exact pa4
  have hk5 : (S4.C 2).kind = 1 := by rw [Z5.k]; decide +kernel
  have he5 : pthE S4 [47, 102] = 0 := by
    unfold pthE
    rw [hp5, if_neg (by rintro ⟨_, h⟩; rw [hk5] at h; cases h)]
  have hb5 : S4.by_ 2 = [104, 105] := by rw [Z5.b]; decide +kernel
  have hr5 : refReadL [104, 105] 0 9 = ([104, 105], 0) := by decide +kernel
  have hq5 : pathA (viewFs S4) [47, 102] false = (2, 0) := by rw [Z5.view]; exact pb4
  have hl5 : (S4.C 2).links = 1 := by rw [c5, l4, c3 2 (by decide) (by decide)]; exact l2
  have hs5 : (S4.C 2).size = 2 := by
    obtain ⟨m, F⟩ := (I5.node 2 (by decide) (by decide)).file (.inl hk5)
    rw [F.size, hb5]; rfl
  conv => whnf
  refine LoadR.o o5 rfl ?_
  conv => whnf
  refine CallR.m (cread_spec A5 I5 (Z5.fc rfl fc4) [47, 102] (by decide) 0 9) (by simp [blocksOf]) fun v h6 k6 hv => ?_
  obtain ⟨⟨s6, A6⟩, hv⟩ := hv
  rw [he5, if_pos rfl, hp5] at hv
  simp only [hb5] at hv
  rw [hr5] at hv
  subst hv
  have o6 := k6.obj o5 (by simp; omega)
  conv => whnf
  refine LoadR.o o6 rfl ?_
  conv => whnf
  refine CallR.m (cstat_spec A6 I5 (Z5.fc rfl fc4) [47, 102] (by decide)) (by simp [blocksOf]) fun v h7 k7 hv => ?_
  obtain ⟨⟨s7, A7⟩, hv⟩ := hv
  rw [hq5, if_pos rfl] at hv
  simp only [hl5, hs5] at hv
  subst hv
  conv => whnf
  refine AllocR.i fun b8 h8 e8 s8 o8 k8 => ?_
  conv => whnf
  refine BoxR.i fun h9 s9 k9 => ?_
  conv => whnf
  have z1 := k1.size
  have z2 := k2.size
  have z3 := k3.size
  have z4 := k4.size
  have z5 := k5.size
  have z6 := k6.size
  have z7 := k7.size
  have sub : ∀ {a b : Heap}, Keeps [V.ob, V.sb, V.mb] a b → ∀ x ∈ [V.ob, V.sb, V.mb], h.size ≤ x := fun _ x hx => by
    simp at hx; omega
  have k05 : Keeps [] h h5 := (((k1.nil_of k2 (sub k2)).nil_of k3 (sub k3)).nil_of k4 (sub k4)).nil_of k5 (sub k5)
  have k07 : Keeps [] h h7 := (k05.nil_of k6 (fun x hx => by simp at hx; omega)).nil_of k7 (fun x hx => by simp at hx; omega)
  refine ⟨k07.trans (k8.new1 k9 (by omega)), ?_⟩
  have hs : ((ba [104, 105]).toList == (ByteArray.mk #[104, 105]).toList) = true := by
    have h1 : ((ba [104, 105]).toList == (ba [104, 105]).toList) = true := beq_self_eq_true _
    exact h1
  rw [hs]
  rfl
end Go.Proofs.YtkdmlieckkdmgaaGreatDoor
