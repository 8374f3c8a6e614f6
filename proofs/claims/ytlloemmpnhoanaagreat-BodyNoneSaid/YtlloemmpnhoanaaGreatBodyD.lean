/-
  Layers 8, 9: blocks of a view, and who has them.
-/
import Derived.Test.YtlloemmpnhoanaaGreatBodyC
set_option linter.all false
set_option maxRecDepth 100000
namespace Go.Proofs.YtlloemmpnhoanaaGreat
open Go Go.Eng

theorem block_spec {h : Heap} {V : VL} {M : MemS} {X : VS} (A : At h V M X) (k : Int) : CallH Tryz.prog 52 [.pointer (some ⟨V.v, 0, none⟩), .int .i64 k] h (fun v h' => Keeps [] h h' ∧
    ((0 ≤ k ∧ k < 96 ∧ ∃ b, v = .tuple #[.slice (some ⟨b, 0, none⟩) 16 16, .int .i64 0] ∧ h.size ≤ b ∧ b < h'.size ∧ h'[b]? = some (.cells ⟨(rdL X.now (1288 + k * 16) 16).map wv⟩ 36 (0, 0))) ∨ (¬ (0 ≤ k ∧ k < 96) ∧ v = .tuple #[.slice none 0 0, .int .i64 1]))) := by
  refine call_of hmix Tryz.func52 rfl ok52 (by simp [Tryz.f52]) ?_
  conv => whnf
  refine CallR.i (blockAt_spec k h) fun v h1 k1 hv => ?_
  subst hv
  conv => whnf
  refine IfR.i (fun hc => ?_) (fun hc => ?_)
  · conv => whnf
    refine ⟨k1, .inr ⟨fun hk => ?_, rfl⟩⟩
    rw [if_pos hk] at hc
    simp [bif_or] at hc
  · have hk : 0 ≤ k ∧ k < 96 := Classical.byContradiction fun hk => by
      rw [if_neg hk] at hc
      simp [bif_or] at hc
    rw [if_pos hk]
    conv => whnf
    refine CallR.i (read_spec (A.on k1) (1288 + k * 16) 16 (by omega) (by omega)) fun v h2 k2 hv => ?_
    obtain ⟨b, rfl, q1, q2, q3⟩ := hv
    conv => whnf
    exact ⟨k1.trans k2, .inl ⟨hk.1, hk.2, b, rfl, by have := k1.size; omega, q2, q3⟩⟩

/-- a block's words, and noughts behind -/
def fullB (ws : List UInt64) : List UInt64 := ws ++ List.replicate (16 - ws.length) 0
def putBlk (f : Int → UInt64) (k : Int) (ws : List UInt64) : Int → UInt64 := updL f (1288 + k * 16) (fullB ws)

theorem allOne_wv : ∀ l : List UInt64, allOne (l.map wv) = true
  | [] => rfl
  | x :: l => by simpa [allOne, oneV, wv] using allOne_wv l

theorem _root_.Go.Eng.Sl.nonnil {α : Type} [Rp α] {h : Heap} {a : Option Addr} {len cap : Nat} {xs : List α} (s : Sl h a len cap xs) (hp : 0 < len) : ∃ b off, a = some ⟨b, off, none⟩ := by
  obtain ⟨b, off, ha, _⟩ := s.at_ 0 (by rw [← s.hlen]; exact hp)
  exact ⟨b, off, ha⟩

theorem splice_head {A B : List Value} {x : Value} : spliceL 0 A (List.replicate A.length x ++ B) = A ++ B := by
  induction A with
  | nil => cases B <;> simp [spliceL]
  | cons a A ih => simp only [List.length_cons, List.replicate_succ, List.cons_append, spliceL]; rw [ih]

theorem setBlock_spec {h : Heap} {V : VL} {M : MemS} {X : VS} (A : At h V M X) (k : Int) {sa : Option Addr} {n c : Nat} {ws : List UInt64} (S : Sl h sa n c ws) (hs : V.ob ∉ blkA sa) :
    CallH Tryz.prog 66 [.pointer (some ⟨V.v, 0, none⟩), .int .i64 k, .slice sa n c] h (fun v h' => Keeps [V.ob] h h' ∧ v = .int .i64 (if 0 ≤ k ∧ k < 96 ∧ n ≤ 16 then 0 else 1) ∧ At h' V M (if 0 ≤ k ∧ k < 96 ∧ n ≤ 16 then { X with now := putBlk X.now k ws } else X)) := by
  refine call_of hmix Tryz.func66 rfl ok66 (by simp [Tryz.f66]) ?_
  conv => whnf
  refine CallR.i (blockAt_spec k h) fun v h1 k1 hv => ?_
  subst hv
  have A1 := A.on k1
  conv => whnf
  refine IfR.i (fun hc => ?_) (fun hc => ?_)
  · conv => whnf
    have hn : ¬ (0 ≤ k ∧ k < 96 ∧ n ≤ 16) := fun hk => by
      rw [if_pos ⟨hk.1, hk.2.1⟩] at hc
      simp [bif_or] at hc; omega
    rw [if_neg hn, if_neg hn]
    exact ⟨k1.mono (by simp), rfl, A1⟩
  · have hk : 0 ≤ k ∧ k < 96 ∧ n ≤ 16 := by
      by_cases hk : 0 ≤ k ∧ k < 96
      · rw [if_pos hk] at hc
        simp [bif_or] at hc; omega
      · rw [if_neg hk] at hc
        simp [bif_or] at hc
    rw [if_pos hk, if_pos hk, if_pos ⟨hk.1, hk.2.1⟩]
    have hl := S.hlen
    conv => whnf
    refine SemR.make (n := 16) rfl rfl rfl rfl rfl (by decide) (by decide) fun b2 h2 e2 s2 o2 k2 => ?_
    have S2 := S.keep (k1.trans k2)
    have o2' : h2[b2]? = some (.cells ⟨List.replicate n (.int .u64 0) ++ List.replicate (16 - n) (.int .u64 0)⟩ 36 (0, 0)) := by
      rw [o2, List.replicate_append_replicate, show n + (16 - n) = 16 by omega]
    -- what is copied
    have fin : ∀ h3, h2.size ≤ h3.size → Keeps [b2] h2 h3 → h3[b2]? = some (.cells ⟨(fullB ws).map wv⟩ 36 (0, 0)) → At h3 V M X ∧ Sl h3 (some ⟨b2, 0, none⟩) 16 16 (fullB ws) ∧ V.ob ∉ blkA (some ⟨b2, 0, none⟩) := by
      intro h3 s3 k3 o3
      have hV : V.ob < h.size := by obtain ⟨own, q, _⟩ := A.own; exact q.lt
      have z1 := k1.size
      refine ⟨A.on ((k1.trans k2).new1 k3 (by omega)), Sl.of1' o3 (by simp [One.ok]) (by simp [fullB]; omega) (by simp [fullB]; omega), ?_⟩
      simp [blkA]; omega
    have rest : ∀ h3, h2.size ≤ h3.size → Keeps [b2] h2 h3 → h3[b2]? = some (.cells ⟨(fullB ws).map wv⟩ 36 (0, 0)) → CallH Tryz.prog 85 [.pointer (some ⟨V.v, 0, none⟩), .int .i64 (1288 + k * 16), .slice (some ⟨b2, 0, none⟩) 16 16] h3 (fun v h' => Keeps [V.ob] h3 h' ∧ At h' V M { X with now := putBlk X.now k ws }) := by
      intro h3 s3 k3 o3
      obtain ⟨A3, S3, n3⟩ := fin h3 s3 k3 o3
      refine writes_spec A3 (1288 + k * 16) S3 (by omega) (by decide) (fun i hi => ?_) n3
      simp [openW]; omega
    conv => whnf
    rcases Nat.eq_zero_or_pos n with h0 | h0
    · subst h0
      have hw : ws = [] := List.eq_nil_of_length_eq_zero hl.symm
      subst hw
      refine SemR.copy0 rfl rfl (by simp) ?_
      conv => whnf
      refine CallR.m (rest h2 (Nat.le_refl _) (Keeps.refl _ _) (by rw [o2]; rfl)) (by simp [blocksOf]) fun v h4 k4 hv => ?_
      conv => whnf
      exact ⟨((k1.trans k2).mono (by simp)).trans k4, rfl, hv⟩
    · obtain ⟨xb, xo, rfl⟩ := S.nonnil h0
      refine SemR.copy (sz := 1) (new := ws.map wv) rfl rfl rfl o2' (by rw [List.length_map, ← hl]; omega) (S2.cells1) (allOne_wv ws) (by simp only [List.length_map, List.length_append, List.length_replicate]; omega) (by simp [blocksOf]) fun h3 s3 o3 k3 => ?_
      have o3' : h3[b2]? = some (.cells ⟨(fullB ws).map wv⟩ 36 (0, 0)) := by
        rw [o3]
        have : n = (ws.map wv).length := by simp [hl]
        rw [this, splice_head]
        simp [fullB, wv]
      conv => whnf
      refine CallR.m (rest h3 (by omega) k3 o3') (by simp [blocksOf]) fun v h4 k4 hv => ?_
      conv => whnf
      exact ⟨(((k1.trans k2).new1 k3 (by have := k1.size; omega)).mono (by simp)).trans k4, rfl, hv⟩

theorem avoids_spec {h : Heap} {V : VL} {M : MemS} {X : VS} (A : At h V M X) (k : Int) : CallH Tryz.prog 58 [.pointer (some ⟨V.v, 0, none⟩), .int .i64 k] h (fun v h' => Keeps [] h h' ∧ v = .bool (decide (k ∈ X.away))) := by
  have ha := A.away
  have ho := A.obj
  cases hab : V.ab with
  | none =>
    rw [hab] at ha ho
    refine call_of hmix Tryz.func58 rfl ok58 (by simp [Tryz.f58]) ?_
    conv => whnf
    refine LoadR.u (.map none) (fun _ => by unfold Heap.cell?; rw [ho]; rfl) ?_
    conv => whnf
    have : X.away = [] := ha
    exact ⟨Keeps.refl _ _, by rw [this]; rfl⟩
  | some r =>
    rw [hab] at ha ho
    refine call_of hmix Tryz.func58 rfl ok58 (by simp [Tryz.f58]) ?_
    conv => whnf
    refine LoadR.u (.map (some r)) (fun _ => by unfold Heap.cell?; rw [ho]; rfl) ?_
    conv => whnf
    refine LookR.z (.bool false) ha rfl (setV_get _ _) ?_
    conv => whnf
    exact ⟨Keeps.refl _ _, rfl⟩

/-- is a block free for a view over words? -/
def freshB (B : Int → UInt64) (X : VS) (k : Int) : Bool := (decide (0 ≤ k) && decide (k < 96)) && (decide (B (200 + k) = 0) && (decide (X.now (200 + k) = 0) && !decide (k ∈ X.away)))

theorem wv_zero (w : UInt64) : (((w.toNat : Int) == 0) : Bool) = decide (w = 0) := by
  rw [Bool.eq_iff_iff]; simp
  constructor
  · intro h; exact UInt64.toNat_inj.1 (by simpa using h)
  · rintro rfl; rfl

theorem fresh_spec {h : Heap} {V : VL} {M : MemS} {X : VS} (A : At h V M X) (k : Int) : CallH Tryz.prog 29 [.pointer (some ⟨V.v, 0, none⟩), .int .i64 k] h (fun v h' => Keeps [] h h' ∧ v = .bool (freshB M.read X k)) := by
  refine call_of hmix Tryz.func29 rfl ok29 (by simp [Tryz.f29]) ?_
  conv => whnf
  refine CallR.i (ownerAt_spec k h) fun v h1 k1 hv => ?_
  subst hv
  have A1 := A.on k1
  conv => whnf
  refine LoadR.u (.pointer (some ⟨V.mem.m, 0, none⟩)) (fun _ => by unfold Heap.cell?; rw [A1.obj]; rfl) ?_
  conv => whnf
  refine IfR.i (fun hc => ?_) (fun hc => ?_)
  case refine_1 =>
    have hk : 0 ≤ k ∧ k < 96 := Classical.byContradiction fun hk => by
      rw [if_neg hk] at hc; simp [bif_and] at hc
    rw [if_pos hk, if_pos hk, Int.mul_one]
    conv => whnf
    refine CallR.i (mread_spec A1.mem (200 + k)) fun v h2 k2 hv => ?_
    subst hv
    have A2 := A1.on k2
    conv => whnf
    refine IfR.i (fun hd => ?_) (fun hd => ?_)
    · have hm : M.read (200 + k) = 0 := by simpa [bif_and, wv_zero] using hd
      conv => whnf
      refine CallR.i (vread_spec A2 (200 + k)) fun v h3 k3 hv => ?_
      subst hv
      have A3 := A2.on k3
      conv => whnf
      refine IfR.i (fun he => ?_) (fun he => ?_)
      · have hn : X.now (200 + k) = 0 := by
          simp [bif_and, hm, wv_zero] at he; exact he
        conv => whnf
        refine CallR.i (avoids_spec A3 k) fun v h4 k4 hv => ?_
        subst hv
        conv => whnf
        refine ⟨k1.trans (k2.trans (k3.trans k4)), ?_⟩
        simp [freshB, hk, hm, hn, bif_and]
      · have hn : ¬ X.now (200 + k) = 0 := by
          intro hn; simp [bif_and, hm, hn] at he
        conv => whnf
        refine ⟨k1.trans (k2.trans k3), ?_⟩
        simp [freshB, hn, bif_and, wv_zero]
    · have hm : ¬ M.read (200 + k) = 0 := by
        intro hm; simp [bif_and, hm] at hd
      conv => whnf
      refine IfR.i (fun he => ?_) (fun he => ?_)
      · exfalso; simp [bif_and, wv_zero, hm] at he
      · conv => whnf
        refine ⟨k1.trans k2, ?_⟩
        simp [freshB, hm, bif_and, wv_zero]
  case refine_2 =>
    have hk : ¬ (0 ≤ k ∧ k < 96) := fun hk => by
      rw [if_pos hk] at hc; simp [bif_and] at hc
    rw [if_neg hk, if_neg hk]
    conv => whnf
    refine IfR.i (fun hd => ?_) (fun hd => ?_)
    · exfalso; simp [bif_and] at hd
    · conv => whnf
      refine IfR.i (fun hd => ?_) (fun hd => ?_)
      · exfalso; simp [bif_and] at hd
      · conv => whnf
        refine ⟨k1, ?_⟩
        have : freshB M.read X k = false := by
          unfold freshB
          have : (decide (0 ≤ k) && decide (k < 96)) = false := by
            rw [Bool.eq_false_iff]; intro h; simp at h; exact hk h
          rw [this]; rfl
        rw [this]; rfl
end Go.Proofs.YtlloemmpnhoanaaGreat
