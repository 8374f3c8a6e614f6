/-
  Joined texts: WlkB.
-/
import Derived.Test.YtdfgkdoplagelaaGreatDoorJLawWNilm
/-
  Layer 12's laws: places, and paths that aren't followed.
-/
set_option linter.all false
set_option maxRecDepth 100000
set_option maxHeartbeats 4000000
namespace Go.Proofs.YtdfgkdoplagelaaGreatDoor
open Go Go.Eng

theorem walkA_more {F : Fs} {root : Int} {follow : Bool} : ∀ (f : Nat) (at_ : Int) (links : Nat) (l : List (List UInt8)), (walkA F root follow f at_ links l).2 ≠ -1 → walkA F root follow (f + 1) at_ links l = walkA F root follow f at_ links l
  | 0, _, _, _, h => absurd rfl h
  | f + 1, at_, links, [], _ => rfl
  | f + 1, at_, links, name :: rest, h => by
    have e1 : ∀ fu, walkA F root follow (fu + 1) at_ links (name :: rest) = (if F.kind at_ ≠ 2 then (0, 6)
      else (match F.find at_ name with
        | none => (0, 4)
        | some next =>
          if F.kind next ≠ 3 ∨ (rest = [] ∧ follow = false) then walkA F root follow fu next links rest
          else if 8 < links + 1 then (0, 11)
          else (match pathP (F.data next) with
            | none => (0, 15)
            | some head => walkA F root follow fu root (links + 1) (head ++ rest)))) := fun fu => rfl
    rw [e1] at h
    rw [e1, e1]
    split
    · rfl
    · rename_i hk
      rw [if_neg hk] at h
      split
      · rfl
      · rename_i next hf
        rw [hf] at h
        simp only at h
        split
        · rename_i hc
          rw [if_pos hc] at h
          exact walkA_more f _ _ _ h
        · rename_i hc
          rw [if_neg hc] at h
          split
          · rfl
          · rename_i hl
            rw [if_neg hl] at h
            split
            · rfl
            · rename_i head hp
              rw [hp] at h
              exact walkA_more f _ _ _ h

/-- where a name stands, and the file that its path names -/
theorem place_path (F : Fs) (path : List UInt8) (hz : ∀ x n y, F.find x n = some y → F.kind x = 2 → (walkA F 1 true 600 1 0 ((pathP path).getD []).dropLast).1 = x → (walkA F 1 true 600 1 0 ((pathP path).getD []).dropLast).2 = 0 → y ≠ 0) :
    (path = [47] ∧ pathA F path false = (1, 0) ∧ (placeA F path).2.2.2 = 1) ∨
    (path ≠ [47] ∧ (((placeA F path).2.2.2 ≠ 0 ∧ (pathA F path false).2 = (placeA F path).2.2.2) ∨
      ((placeA F path).2.2.2 = 0 ∧ (((placeA F path).2.2.1 = 0 ∧ (pathA F path false).2 = 4) ∨ ((placeA F path).2.2.1 ≠ 0 ∧ pathA F path false = ((placeA F path).2.2.1, 0)))))) := by
  unfold pathA placeA
  cases hp : pathP path with
  | none =>
    right
    refine ⟨?_, .inl ⟨by show (3 : Int) ≠ 0; decide, rfl⟩⟩
    rintro rfl
    have : pathP [47] = some [] := by decide +kernel
    rw [this] at hp; cases hp
  | some l =>
    rw [hp] at hz
    simp only [Option.getD_some] at hz
    by_cases h0 : l = []
    · left
      subst h0
      obtain ⟨_, _, _, h⟩ := pathP_len hp
      rw [if_pos rfl] at h
      exact ⟨h.symm, rfl, rfl⟩
    · right
      refine ⟨?_, ?_⟩
      · rintro rfl
        have : pathP [47] = some [] := by decide +kernel
        rw [this] at hp; cases hp; exact h0 rfl
      · obtain ⟨p1, _, _, _⟩ := pathP_len hp
        have hne : (walkA F 1 true 599 1 0 l.dropLast).2 ≠ -1 := walkA_ends 599 1 0 l.dropLast (by decide) (by rw [List.length_dropLast]; omega)
        have hm := walkA_more 599 1 0 l.dropLast hne
        have hl := walkA_last (F := F) (root := 1) (last := l.getLast h0) 599 1 0 l.dropLast hne
        rw [List.dropLast_concat_getLast h0, ← hm] at hl
        have hg : l.getLast?.getD [] = l.getLast h0 := by rw [List.getLast?_eq_some_getLast h0]; rfl
        simp only
        rw [if_neg h0, hl, hg]
        by_cases hr : (walkA F 1 true 600 1 0 l.dropLast).2 ≠ 0
        · rw [if_pos hr, if_pos hr]
          exact .inl ⟨hr, rfl⟩
        · rw [if_neg hr, if_neg hr]
          by_cases hk : F.kind (walkA F 1 true 600 1 0 l.dropLast).1 ≠ 2
          · rw [if_pos hk, if_pos hk]
            exact .inl ⟨by show (6 : Int) ≠ 0; decide, rfl⟩
          · rw [if_neg hk, if_neg hk]
            right
            cases hf : F.find (walkA F 1 true 600 1 0 l.dropLast).1 (l.getLast h0) with
            | none => exact ⟨rfl, .inl ⟨rfl, rfl⟩⟩
            | some y =>
              have hy := hz _ _ _ hf (by simpa using hk) rfl (by simpa using hr)
              exact ⟨rfl, .inr ⟨hy, rfl⟩⟩

theorem WI.place_path {B : Int → UInt64} {X : VS} {S : FS} {T : List Nod} {num : List Int} (W : WI B X S T num) (path : List UInt8) :
    (path = [47] ∧ pathA (viewFs S) path false = (1, 0) ∧ (placeA (viewFs S) path).2.2.2 = 1) ∨
    (path ≠ [47] ∧ (((placeA (viewFs S) path).2.2.2 ≠ 0 ∧ (pathA (viewFs S) path false).2 = (placeA (viewFs S) path).2.2.2) ∨
      ((placeA (viewFs S) path).2.2.2 = 0 ∧ (((placeA (viewFs S) path).2.2.1 = 0 ∧ (pathA (viewFs S) path false).2 = 4) ∨ ((placeA (viewFs S) path).2.2.1 ≠ 0 ∧ pathA (viewFs S) path false = ((placeA (viewFs S) path).2.2.1, 0)))))) := by
  refine Go.Proofs.YtdfgkdoplagelaaGreatDoor.place_path _ _ fun x n y hf hk h1 h2 e => ?_
  have C := W.fc
  have hin := walkV_in (X := X) C (follow := true) 600 1 0 ((pathP path).getD []).dropLast ⟨by decide, by decide, by rw [C.root]; decide⟩ h2
  rw [h1] at hin
  obtain ⟨x0, x1, _⟩ := hin
  have hf' : (findE (S.nm x) n).map (·.node) = some y := hf
  cases hfe : findE (S.nm x) n with
  | none => rw [hfe] at hf'; cases hf'
  | some en =>
    rw [hfe] at hf'
    have he : en.node = y := by simpa using hf'
    have := C.names x x0 x1 hk en (List.mem_of_find?_eq_some hfe)
    rw [he, e] at this
    exact this.2.2 W.fs.zero

def spotL (d : Int) (c : Crd) (nm : List UInt8) (nd : Int) : List Value := [.int .i64 d] ++ c.cells ++ [.string (ba nm), .int .i64 nd]
theorem spotC_is (S : FS) (r : Int × List UInt8 × Int × Int) : ∃ d c nm nd, spotC S r = spotL d c nm nd ∧ (r.2.2.2 = 0 → d = r.1 ∧ c = S.C r.1 ∧ nm = r.2.1 ∧ nd = r.2.2.1) ∧ (r.2.2.2 ≠ 0 → d = 0 ∧ c = Crd.zero ∧ nm = [] ∧ nd = 0) := by
  unfold spotC
  by_cases h : r.2.2.2 = 0
  · rw [if_pos h]
    exact ⟨_, _, _, _, rfl, fun _ => ⟨rfl, rfl, rfl, rfl⟩, fun e => absurd h e⟩
  · rw [if_neg h]
    exact ⟨0, Crd.zero, [], 0, rfl, fun e => absurd e h, fun _ => ⟨rfl, rfl, rfl, rfl⟩⟩

theorem places12_law {h : Heap} {a : Option Addr} {n c : Nat} {fs : List Fil} (S0 : Sl h a n c fs) (path : List UInt8) (hp : path.length ≤ 140737488351232) : CallH Tryz.prog 5 [.slice a n c, .string (ba path)] h (fun v h' => Keeps [] h h' ∧ v = .bool true) := by
  refine call_of hmix Tryz.func5 rfl ok5 (by simp [Tryz.f5]) ?_
  conv => whnf
  refine CallR.i (lives12_spec h) fun v h1 k1 hv => ?_
  subst hv
  conv => whnf
  refine IfR.f rfl ?_
  conv => whnf
  refine CallR.i (begin12_spec (S0.keep k1)) fun v h2 k2 hv => ?_
  obtain ⟨z, w, t, V, aT, cT, L, aN, cN, num, M, X, S, rfl, hz, hVg, H2, A2, W2, R2⟩ := hv
  have z1 := k1.size
  have z2 := k2.size
  have hz2 : z ≤ h2.size := by have := H2.old; have := H2.zw; omega
  have hsbz : V.sb < z := H2.zv V.sb (by simp [VL.blocks])
  have hsbg : h1.size ≤ V.sb := hVg V.sb (by simp [VL.blocks])
  conv => whnf
  refine IfR.f rfl ?_
  conv => whnf
  refine LoadR.o H2.obj rfl ?_
  conv => whnf
  refine CallR.m (vpath_spec A2 W2.fs W2.fc path hp false) (by simp [blocksOf]) fun v h3 k3 hv => ?_
  obtain ⟨rfl, s3, A3⟩ := hv
  have z3 := k3.size
  have H3 := H2.keep k3 (fun x hx => by simp at hx; omega)
  unfold walkV
  conv => whnf
  refine AllocR.i fun b4 h4 e4 s4 o4 k4 => ?_
  conv => whnf
  refine BoxR.i fun h5 s5 k5 => ?_
  have k35 : Keeps [] h3 h5 := k4.new1 k5 (by omega)
  have A5 := A3.on k35
  have H5 := H3.keep k35 (by simp)
  have z5 := k35.size
  conv => whnf
  refine LoadR.o H5.obj rfl ?_
  conv => whnf
  refine CallR.m (vplace_spec (X := { X with seen := s3 }) A5 W2.fs W2.fc path hp) (fun y hy hx => by
      have hy2 : y = b4 := by simpa [blocksOf, setB] using hy
      simp at hx; omega) fun v h6 k6 hv => ?_
  obtain ⟨rfl, s6, A6⟩ := hv
  have H6 := H5.keep k6 (fun x hx => by simp at hx; omega)
  obtain ⟨sd, sc, snm, snd, hsp, hsp0, hsp1⟩ := spotC_is S (placeA (viewFs S) path)
  rw [hsp]
  have z6 := k6.size
  conv => whnf
  refine AllocR.i fun b7 h7 e7 s7 o7 k7 => ?_
  conv => whnf
  refine BoxR.i fun h8 s8 k8 => ?_
  have k68 : Keeps [] h6 h8 := k7.new1 k8 (by omega)
  have A8 := A6.on k68
  have H8 := H6.keep k68 (by simp)
  have z8 := k68.size
  conv => whnf
  refine LoadR.o H8.obj rfl ?_
  conv => whnf
  refine CallR.m (vpath_spec (X := { X with seen := s6 }) A8 W2.fs W2.fc [47] (by decide) true) (fun y hy hx => by
      have hy2 : y = b4 ∨ y = b7 := by simpa [blocksOf, setB] using hy
      simp at hx; omega) fun v h9 k9 hv => ?_
  obtain ⟨rfl, s9, A9⟩ := hv
  have hroot : pathA (viewFs S) [47] true = (1, 0) := by
    unfold pathA
    have : pathP [47] = some [] := by decide +kernel
    rw [this]
    rfl
  rw [hroot]
  unfold walkV
  rw [if_pos rfl]
  have z9 := k9.size
  conv => whnf
  refine AllocR.i fun b10 h10 e10 s10 o10 k10 => ?_
  conv => whnf
  refine BoxR.i fun h11 s11 k11 => ?_
  have hk1 : (S.C 1).kind = 2 := W2.fc.root
  have hfin : Keeps [] h h11 := by
    have q1 : Keeps [] h h6 := ((((k1.trans k2).new1 k3 (by omega)).trans k35).new1 k6 (by omega))
    have q2 : Keeps [] h h9 := (q1.trans k68).new1 k9 (by omega)
    exact (q2.trans k10).new1 k11 (by omega)
  have e47 : ((ba path).toList == (ByteArray.mk #[47]).toList) = decide (path = [47]) := bs_eq path [47]
  conv => whnf
  refine IfR.f (by
      show (bif (bif (0 : Int) != 0 then true else (1 : Int) != 1) then true else (S.C 1).kind != 2) = false
      rw [hk1]; rfl) ?_
  rcases W2.place_path path with ⟨hp47, hpa, hpe⟩ | ⟨hpn, hrest⟩
  · conv => whnf
    refine IfR.t (by rw [e47]; simp [hp47]) ?_
    conv => whnf
    refine ⟨hfin, ?_⟩
    rw [hpa, hpe]; rfl
  · conv => whnf
    refine IfR.f (by rw [e47]; simp [hpn]) ?_
    rcases hrest with ⟨he, hee⟩ | ⟨he, hrest⟩
    · conv => whnf
      refine IfR.t (by simp; exact he) ?_
      conv => whnf
      refine ⟨hfin, ?_⟩
      rw [hee]; simp
    · obtain ⟨_, _, _, hnd⟩ := hsp0 he
      conv => whnf
      refine IfR.f (by rw [he]; rfl) ?_
      conv => whnf
      refine ⟨hfin, ?_⟩
      rcases hrest with ⟨h0, h4⟩ | ⟨h0, h4⟩
      · rw [hnd, h0, h4]; rfl
      · rw [hnd, h4]
        simp [h0, bif_and, bif_or]
end Go.Proofs.YtdfgkdoplagelaaGreatDoor
