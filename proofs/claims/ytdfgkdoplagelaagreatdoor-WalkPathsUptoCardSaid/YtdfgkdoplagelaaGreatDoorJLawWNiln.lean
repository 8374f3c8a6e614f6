/-
  Joined texts: WlkB, SplA, SplB, TreA, TreB, WlkC, WlkD.
-/
import Derived.Test.YtdfgkdoplagelaaGreatDoorJLawWNilm
import Derived.Test.YtdfgkdoplagelaaGreatDoorJLawWNill
import Derived.Test.YtdfgkdoplagelaaGreatDoorJLawWNili
/-
  Layer 12's laws: places, and paths that aren't followed.
-/
set_option linter.all false
set_option maxRecDepth 100000
set_option maxHeartbeats 4000000
namespace Go.Proofs.YtdfgkdoplagelaaGreatDoor
open Go Go.Eng

theorem walkA_more {F : Fs} {root : Int} {follow : Bool} : ∀ (f : Nat) (at_ : Int) (links : Nat) (l : List (List UInt8)), (walkA F root follow f at_ links l).2 ≠ -1 → walkA F root follow (f + 1) at_ links l = walkA F root follow f at_ links l
  | 0, _, _, _, h => absurd rfl h
  | f + 1, at_, links, [], _ => rfl
  | f + 1, at_, links, name :: rest, h => by
    have e1 : ∀ fu, walkA F root follow (fu + 1) at_ links (name :: rest) = (if F.kind at_ ≠ 2 then (0, 6)
      else (match F.find at_ name with
        | none => (0, 4)
        | some next =>
          if F.kind next ≠ 3 ∨ (rest = [] ∧ follow = false) then walkA F root follow fu next links rest
          else if 8 < links + 1 then (0, 11)
          else (match pathP (F.data next) with
            | none => (0, 15)
            | some head => walkA F root follow fu root (links + 1) (head ++ rest)))) := fun fu => rfl
    rw [e1] at h
    rw [e1, e1]
    split
    · rfl
    · rename_i hk
      rw [if_neg hk] at h
      split
      · rfl
      · rename_i next hf
        rw [hf] at h
        simp only at h
        split
        · rename_i hc
          rw [if_pos hc] at h
          exact walkA_more f _ _ _ h
        · rename_i hc
          rw [if_neg hc] at h
          split
          · rfl
          · rename_i hl
            rw [if_neg hl] at h
            split
            · rfl
            · rename_i head hp
              rw [hp] at h
              exact walkA_more f _ _ _ h

/-- where a name stands, and the file that its path names -/
theorem place_path (F : Fs) (path : List UInt8) (hz : ∀ x n y, F.find x n = some y → F.kind x = 2 → (walkA F 1 true 600 1 0 ((pathP path).getD []).dropLast).1 = x → (walkA F 1 true 600 1 0 ((pathP path).getD []).dropLast).2 = 0 → y ≠ 0) :
    (path = [47] ∧ pathA F path false = (1, 0) ∧ (placeA F path).2.2.2 = 1) ∨
    (path ≠ [47] ∧ (((placeA F path).2.2.2 ≠ 0 ∧ (pathA F path false).2 = (placeA F path).2.2.2) ∨
      ((placeA F path).2.2.2 = 0 ∧ (((placeA F path).2.2.1 = 0 ∧ (pathA F path false).2 = 4) ∨ ((placeA F path).2.2.1 ≠ 0 ∧ pathA F path false = ((placeA F path).2.2.1, 0)))))) := by
  unfold pathA placeA
  cases hp : pathP path with
  | none =>
    right
    refine ⟨?_, .inl ⟨by show (3 : Int) ≠ 0; decide, rfl⟩⟩
    rintro rfl
    have : pathP [47] = some [] := by decide +kernel
    rw [this] at hp; cases hp
  | some l =>
    rw [hp] at hz
    simp only [Option.getD_some] at hz
    by_cases h0 : l = []
    · left
      subst h0
      obtain ⟨_, _, _, h⟩ := pathP_len hp
      rw [if_pos rfl] at h
      exact ⟨h.symm, rfl, rfl⟩
    · right
      refine ⟨?_, ?_⟩
      · rintro rfl
        have : pathP [47] = some [] := by decide +kernel
        rw [this] at hp; cases hp; exact h0 rfl
      · obtain ⟨p1, _, _, _⟩ := pathP_len hp
        have hne : (walkA F 1 true 599 1 0 l.dropLast).2 ≠ -1 := walkA_ends 599 1 0 l.dropLast (by decide) (by rw [List.length_dropLast]; omega)
        have hm := walkA_more 599 1 0 l.dropLast hne
        have hl := walkA_last (F := F) (root := 1) (last := l.getLast h0) 599 1 0 l.dropLast hne
        rw [List.dropLast_concat_getLast h0, ← hm] at hl
        have hg : l.getLast?.getD [] = l.getLast h0 := by rw [List.getLast?_eq_some_getLast h0]; rfl
        simp only
        rw [if_neg h0, hl, hg]
        by_cases hr : (walkA F 1 true 600 1 0 l.dropLast).2 ≠ 0
        · rw [if_pos hr, if_pos hr]
          exact .inl ⟨hr, rfl⟩
        · rw [if_neg hr, if_neg hr]
          by_cases hk : F.kind (walkA F 1 true 600 1 0 l.dropLast).1 ≠ 2
          · rw [if_pos hk, if_pos hk]
            exact .inl ⟨by show (6 : Int) ≠ 0; decide, rfl⟩
          · rw [if_neg hk, if_neg hk]
            right
            cases hf : F.find (walkA F 1 true 600 1 0 l.dropLast).1 (l.getLast h0) with
            | none => exact ⟨rfl, .inl ⟨rfl, rfl⟩⟩
            | some y =>
              have hy := hz _ _ _ hf (by simpa using hk) rfl (by simpa using hr)
              exact ⟨rfl, .inr ⟨hy, rfl⟩⟩

theorem WI.place_path {B : Int → UInt64} {X : VS} {S : FS} {T : List Nod} {num : List Int} (W : WI B X S T num) (path : List UInt8) :
    (path = [47] ∧ pathA (viewFs S) path false = (1, 0) ∧ (placeA (viewFs S) path).2.2.2 = 1) ∨
    (path ≠ [47] ∧ (((placeA (viewFs S) path).2.2.2 ≠ 0 ∧ (pathA (viewFs S) path false).2 = (placeA (viewFs S) path).2.2.2) ∨
      ((placeA (viewFs S) path).2.2.2 = 0 ∧ (((placeA (viewFs S) path).2.2.1 = 0 ∧ (pathA (viewFs S) path false).2 = 4) ∨ ((placeA (viewFs S) path).2.2.1 ≠ 0 ∧ pathA (viewFs S) path false = ((placeA (viewFs S) path).2.2.1, 0)))))) := by
  refine Go.Proofs.YtdfgkdoplagelaaGreatDoor.place_path _ _ fun x n y hf hk h1 h2 e => ?_
  have C := W.fc
  have hin := walkV_in (X := X) C (follow := true) 600 1 0 ((pathP path).getD []).dropLast ⟨by decide, by decide, by rw [C.root]; decide⟩ h2
  rw [h1] at hin
  obtain ⟨x0, x1, _⟩ := hin
  have hf' : (findE (S.nm x) n).map (·.node) = some y := hf
  cases hfe : findE (S.nm x) n with
  | none => rw [hfe] at hf'; cases hf'
  | some en =>
    rw [hfe] at hf'
    have he : en.node = y := by simpa using hf'
    have := C.names x x0 x1 hk en (List.mem_of_find?_eq_some hfe)
    rw [he, e] at this
    exact this.2.2 W.fs.zero

def spotL (d : Int) (c : Crd) (nm : List UInt8) (nd : Int) : List Value := [.int .i64 d] ++ c.cells ++ [.string (ba nm), .int .i64 nd]
theorem spotC_is (S : FS) (r : Int × List UInt8 × Int × Int) : ∃ d c nm nd, spotC S r = spotL d c nm nd ∧ (r.2.2.2 = 0 → d = r.1 ∧ c = S.C r.1 ∧ nm = r.2.1 ∧ nd = r.2.2.1) ∧ (r.2.2.2 ≠ 0 → d = 0 ∧ c = Crd.zero ∧ nm = [] ∧ nd = 0) := by
  unfold spotC
  by_cases h : r.2.2.2 = 0
  · rw [if_pos h]
    exact ⟨_, _, _, _, rfl, fun _ => ⟨rfl, rfl, rfl, rfl⟩, fun e => absurd h e⟩
  · rw [if_neg h]
    exact ⟨0, Crd.zero, [], 0, rfl, fun e => absurd e h, fun _ => ⟨rfl, rfl, rfl, rfl⟩⟩

theorem places12_law {h : Heap} {a : Option Addr} {n c : Nat} {fs : List Fil} (S0 : Sl h a n c fs) (path : List UInt8) (hp : path.length ≤ 140737488351232) : CallH Tryz.prog 5 [.slice a n c, .string (ba path)] h (fun v h' => Keeps [] h h' ∧ v = .bool true) := by
  refine call_of hmix Tryz.func5 rfl ok5 (by simp [Tryz.f5]) ?_
  conv => whnf
  refine CallR.i (lives12_spec h) fun v h1 k1 hv => ?_
  subst hv
  conv => whnf
  refine IfR.f rfl ?_
  conv => whnf
  refine CallR.i (begin12_spec (S0.keep k1)) fun v h2 k2 hv => ?_
  obtain ⟨z, w, t, V, aT, cT, L, aN, cN, num, M, X, S, rfl, hz, hVg, H2, A2, W2, R2⟩ := hv
  have z1 := k1.size
  have z2 := k2.size
  have hz2 : z ≤ h2.size := by have := H2.old; have := H2.zw; omega
  have hsbz : V.sb < z := H2.zv V.sb (by simp [VL.blocks])
  have hsbg : h1.size ≤ V.sb := hVg V.sb (by simp [VL.blocks])
  conv => whnf
  refine IfR.f rfl ?_
  conv => whnf
  refine LoadR.o H2.obj rfl ?_
  conv => whnf
  refine CallR.m (vpath_spec A2 W2.fs W2.fc path hp false) (by simp [blocksOf]) fun v h3 k3 hv => ?_
  obtain ⟨rfl, s3, A3⟩ := hv
  have z3 := k3.size
  have H3 := H2.keep k3 (fun x hx => by simp at hx; omega)
  unfold walkV
  conv => whnf
  refine AllocR.i fun b4 h4 e4 s4 o4 k4 => ?_
  conv => whnf
  refine BoxR.i fun h5 s5 k5 => ?_
  have k35 : Keeps [] h3 h5 := k4.new1 k5 (by omega)
  have A5 := A3.on k35
  have H5 := H3.keep k35 (by simp)
  have z5 := k35.size
  conv => whnf
  refine LoadR.o H5.obj rfl ?_
  conv => whnf
  refine CallR.m (vplace_spec (X := { X with seen := s3 }) A5 W2.fs W2.fc path hp) (fun y hy hx => by
      have hy2 : y = b4 := by simpa [blocksOf, setB] using hy
      simp at hx; omega) fun v h6 k6 hv => ?_
  obtain ⟨rfl, s6, A6⟩ := hv
  have H6 := H5.keep k6 (fun x hx => by simp at hx; omega)
  obtain ⟨sd, sc, snm, snd, hsp, hsp0, hsp1⟩ := spotC_is S (placeA (viewFs S) path)
  rw [hsp]
  have z6 := k6.size
  conv => whnf
  refine AllocR.i fun b7 h7 e7 s7 o7 k7 => ?_
  conv => whnf
  refine BoxR.i fun h8 s8 k8 => ?_
  have k68 : Keeps [] h6 h8 := k7.new1 k8 (by omega)
  have A8 := A6.on k68
  have H8 := H6.keep k68 (by simp)
  have z8 := k68.size
  conv => whnf
  refine LoadR.o H8.obj rfl ?_
  conv => whnf
  refine CallR.m (vpath_spec (X := { X with seen := s6 }) A8 W2.fs W2.fc [47] (by decide) true) (fun y hy hx => by
      have hy2 : y = b4 ∨ y = b7 := by simpa [blocksOf, setB] using hy
      simp at hx; omega) fun v h9 k9 hv => ?_
  obtain ⟨rfl, s9, A9⟩ := hv
  have hroot : pathA (viewFs S) [47] true = (1, 0) := by
    unfold pathA
    have : pathP [47] = some [] := by decide +kernel
    rw [this]
    rfl
  rw [hroot]
  unfold walkV
  rw [if_pos rfl]
  have z9 := k9.size
  conv => whnf
  refine AllocR.i fun b10 h10 e10 s10 o10 k10 => ?_
  conv => whnf
  refine BoxR.i fun h11 s11 k11 => ?_
  have hk1 : (S.C 1).kind = 2 := W2.fc.root
  have hfin : Keeps [] h h11 := by
    have q1 : Keeps [] h h6 := ((((k1.trans k2).new1 k3 (by omega)).trans k35).new1 k6 (by omega))
    have q2 : Keeps [] h h9 := (q1.trans k68).new1 k9 (by omega)
    exact (q2.trans k10).new1 k11 (by omega)
  have e47 : ((ba path).toList == (ByteArray.mk #[47]).toList) = decide (path = [47]) := bs_eq path [47]
  conv => whnf
  refine IfR.f (by
      show (bif (bif (0 : Int) != 0 then true else (1 : Int) != 1) then true else (S.C 1).kind != 2) = false
      rw [hk1]; rfl) ?_
  rcases W2.place_path path with ⟨hp47, hpa, hpe⟩ | ⟨hpn, hrest⟩
  · conv => whnf
    refine IfR.t (by rw [e47]; simp [hp47]) ?_
    conv => whnf
    refine ⟨hfin, ?_⟩
    rw [hpa, hpe]; rfl
  · conv => whnf
    refine IfR.f (by rw [e47]; simp [hpn]) ?_
    rcases hrest with ⟨he, hee⟩ | ⟨he, hrest⟩
    · conv => whnf
      refine IfR.t (by simp; exact he) ?_
      conv => whnf
      refine ⟨hfin, ?_⟩
      rw [hee]; simp
    · obtain ⟨_, _, _, hnd⟩ := hsp0 he
      conv => whnf
      refine IfR.f (by rw [he]; rfl) ?_
      conv => whnf
      refine ⟨hfin, ?_⟩
      rcases hrest with ⟨h0, h4⟩ | ⟨h0, h4⟩
      · rw [hnd, h0, h4]; rfl
      · rw [hnd, h4]
        simp [h0, bif_and, bif_or]
end Go.Proofs.YtdfgkdoplagelaaGreatDoor
/-
  Layer 4, the document's: paths and their names.
-/
set_option linter.all false
set_option maxRecDepth 100000
set_option maxHeartbeats 2000000
namespace Go.Proofs.YtdfgkdoplagelaaGreatDoor
open Go Go.Eng

def joinV (l : List (List UInt8)) : Value := if l = [] then .tuple #[.string (ba [47]), .int .i64 0] else if l.all nameB = true ∧ (joinS l).length ≤ 120 then .tuple #[.string (ba (joinS l)), .int .i64 0] else .tuple #[.string (ba []), .int .i64 3]

theorem joinS_cnt (l : List (List UInt8)) : l.length ≤ (joinS l).length := by
  induction l with
  | nil => simp
  | cons x r ih => rw [joinS_cons]; simp only [List.length_cons, List.length_append]; omega

theorem ba_sz (l : List UInt8) : (ba l).size = l.length := bs_size _
theorem ba_ap (l r : List UInt8) : ba l ++ ba r = ba (l ++ r) := ba_app l r

theorem refJoin_spec {h : Heap} {a : Option Addr} {n c : Nat} {l : List (List UInt8)} (S : Sl h a n c (bas l)) (hb : (joinS l).length ≤ 2000000) : CallH Tryz.prog 46 [.slice a n c] h (fun v h' => Keeps [] h h' ∧ v = joinV l) := by
  have hl := S.hlen
  rw [bas_len] at hl
  have hn := joinS_cnt l
  refine call_of hmix Tryz.func46 rfl ok46 (by simp [Tryz.f46]) ?_
  conv => whnf
  refine IfR.i (fun hc => ?_) (fun hc => ?_)
  · conv => whnf
    have h0 : l = [] := List.eq_nil_of_length_eq_zero (by simp at hc; omega)
    refine ⟨Keeps.refl _ _, ?_⟩
    unfold joinV
    rw [if_pos h0]; rfl
  · have h0 : l ≠ [] := by
      rintro rfl
      simp at hl hc
      omega
    conv => whnf
    refine LoopR.on [0, 4, 5] [] (fun i : Nat => [(0, .v (.slice a n c)), (4, .v (.string (ba (joinS (l.take i))))), (5, .v (.int .i64 (i : Int)))]) (fun _ => []) (fun i h' => i ≤ n ∧ Keeps [] h h' ∧ (l.take i).all nameB = true) (fun i => n - i) 0 ?_ ?_
    · conv => whnf
      exact ⟨0, rfl, rfl, rfl, Nat.zero_le _, Keeps.refl _ _, by simp⟩
    · rintro i h1 ⟨hi, k1, ha⟩
      conv => whnf
      refine IfR.i (fun hd => ?_) (fun hd => ?_)
      · have hi1 : i < l.length := by simp at hd; omega
        obtain ⟨b, off, hb', _, hcell⟩ := (S.keep k1).at1 i (by rw [bas_len]; exact hi1)
        have e : (bas l)[i]'(by rw [bas_len]; exact hi1) = ba l[i] := by simp [bas]
        rw [e] at hcell
        have hle := joinS_le (List.getElem_mem hi1)
        have htk : l.take (i + 1) = l.take i ++ [l[i]] := List.take_succ_eq_append_getElem hi1
        conv => whnf
        first | refine IdxS.i i rfl (by omega) hb' ?_ | (refine MeetR.pass ?_; (conv => whnf); refine IdxS.i i rfl (by omega) hb' ?_)
        conv => whnf
        refine LoadR.i hcell ?_
        conv => whnf
        refine CallR.i (refRight_spec l[i] (by omega) h1) fun v h2 k2 hv => ?_
        subst hv
        conv => whnf
        refine IfR.i (fun hs => ?_) (fun hs => ?_)
        · conv => whnf
          refine ⟨k1.trans k2, ?_⟩
          unfold joinV
          rw [if_neg h0, if_neg]
          · rfl
          · rintro ⟨hx, _⟩
            have := List.all_eq_true.1 hx _ (List.getElem_mem hi1)
            rw [this] at hs; cases hs
        · have hr : nameB l[i] = true := by simpa using hs
          have hc2 := k2.cell hcell (by simp)
          have hjt := joinS_take l i
          have hsz : (ba l[i]).size = l[i].length := ba_sz _
          have hs0 : (ba (joinS (l.take i))).size = (joinS (l.take i)).length := ba_sz _
          have h47 : (ByteArray.mk #[47]).size = 1 := rfl
          conv => whnf
          refine IdxS.i i rfl (by omega) hb' ?_
          conv => whnf
          refine LoadR.i hc2 ?_
          conv => whnf
          refine Need.i (by rw [h47, hsz]; omega) ?_
          conv => whnf
          refine Need.i (by rw [hs0, show (ByteArray.mk #[47]) ++ ba l[i] = ba ([47] ++ l[i]) from ba_ap [47] l[i], ba_sz, List.length_append]; simp; omega) ?_
          conv => whnf
          refine ⟨n - (i + 1), by omega, ?_⟩
          conv => whnf
          refine ⟨i + 1, rfl, ?_, rfl, by omega, k1.trans k2, ?_⟩
          · rw [wrapN (x := (i : Int) + 1) (n := i + 1) (by simp) (by omega)]
            have e1 : ba (joinS (l.take i)) ++ ((ByteArray.mk #[47]) ++ ba l[i]) = ba (joinS (l.take (i + 1))) := by
              rw [show (ByteArray.mk #[47]) ++ ba l[i] = ba ([47] ++ l[i]) from ba_ap [47] l[i], ba_ap, htk, joinS_app]
              congr 1
              simp [joinS]
            rw [e1]
          · rw [htk, List.all_append, ha]; simp [hr]
      · have hi1 : i = n := by simp at hd; omega
        subst hi1
        have hlt : l.take i = l := by rw [hl]; exact List.take_length
        rw [hlt] at ha ⊢
        have hs0 : (ba (joinS l)).size = (joinS l).length := ba_sz _
        conv => whnf
        refine IfR.i (fun hf => ?_) (fun hf => ?_)
        · conv => whnf
          refine ⟨k1, ?_⟩
          have : 120 < (joinS l).length := by rw [hs0] at hf; simp at hf; omega
          unfold joinV
          rw [if_neg h0, if_neg (fun h => by omega)]; rfl
        · conv => whnf
          refine ⟨k1, ?_⟩
          have : (joinS l).length ≤ 120 := by rw [hs0] at hf; simp at hf; omega
          unfold joinV
          rw [if_neg h0, if_pos ⟨ha, this⟩]
end Go.Proofs.YtdfgkdoplagelaaGreatDoor
/-
  Layer 4, the document's: a path is split.
-/
set_option linter.all false
set_option maxRecDepth 100000
set_option maxHeartbeats 2000000
namespace Go.Proofs.YtdfgkdoplagelaaGreatDoor
open Go Go.Eng

structure SQ where
  i : Nat
  from_ : Nat
  done : List (List UInt8)
  a : Option Addr
  c : Nat

/-- what is cut so far -/
def cutI (path : List UInt8) (q : SQ) : Prop :=
  (q.i ≤ path.length ∧ 1 ≤ q.from_ ∧ q.from_ ≤ q.i ∧ q.done ++ cutS (path.drop q.from_) = cutS (path.drop 1) ∧ 47 ∉ (path.take q.i).drop q.from_) ∨ (q.i = path.length + 1 ∧ path ≠ [] ∧ q.done = cutS (path.drop 1)) ∨ (path = [] ∧ q.done = [])

theorem cutI_0 (path : List UInt8) (a : Option Addr) (c : Nat) : cutI path ⟨1, 1, [], a, c⟩ := by
  by_cases h : path = []
  · exact .inr (.inr ⟨h, rfl⟩)
  · have := List.length_pos_iff.2 h
    refine .inl ⟨by show 1 ≤ _; omega, Nat.le_refl _, Nat.le_refl _, rfl, ?_⟩
    show 47 ∉ (path.take 1).drop 1
    rw [List.drop_eq_nil_of_le (by rw [List.length_take]; omega)]
    simp

theorem cut_step {path : List UInt8} {i f : Nat} (hf : f ≤ i) (hi : i < path.length) : (path.take (i + 1)).drop f = (path.take i).drop f ++ [path[i]] := by
  rw [List.take_succ_eq_append_getElem hi, List.drop_append_of_le_length (by rw [List.length_take]; omega)]

theorem cutI_go {path : List UInt8} {q : SQ} (I : cutI path q) (hi : q.i < path.length) (h47 : path[q.i] ≠ 47) : cutI path ⟨q.i + 1, q.from_, q.done, q.a, q.c⟩ := by
  rcases I with ⟨h1, h2, h3, h4, h5⟩ | ⟨h1, _⟩ | ⟨h1, _⟩
  · refine .inl ⟨by show q.i + 1 ≤ _; omega, h2, Nat.le_succ_of_le h3, h4, ?_⟩
    show 47 ∉ (path.take (q.i + 1)).drop q.from_
    rw [cut_step h3 hi]
    intro h
    rcases List.mem_append.1 h with h | h
    · exact h5 h
    · exact h47 (List.mem_singleton.1 h).symm
  · omega
  · rw [h1] at hi; simp at hi

theorem cutI_cut {path : List UInt8} {q : SQ} (I : cutI path q) (hi : q.i < path.length) (h47 : path[q.i] = 47) (a : Option Addr) (c : Nat) : cutI path ⟨q.i + 1, q.i + 1, q.done ++ [(path.take q.i).drop q.from_], a, c⟩ := by
  rcases I with ⟨h1, h2, h3, h4, h5⟩ | ⟨h1, _⟩ | ⟨h1, _⟩
  · refine .inl ⟨by show q.i + 1 ≤ _; omega, by show 1 ≤ q.i + 1; omega, Nat.le_refl _, ?_, ?_⟩
    · show (q.done ++ [(path.take q.i).drop q.from_]) ++ cutS (path.drop (q.i + 1)) = _
      have e : path.drop q.from_ = (path.take q.i).drop q.from_ ++ 47 :: path.drop (q.i + 1) := by
        have h6 : path = path.take q.i ++ path.drop q.i := (List.take_append_drop _ _).symm
        have h7 : path.drop q.i = 47 :: path.drop (q.i + 1) := by rw [List.drop_eq_getElem_cons hi, h47]
        rw [h7] at h6
        conv => lhs; rw [h6]
        rw [List.drop_append_of_le_length (by rw [List.length_take]; omega)]
      rw [e, cutS_app h5] at h4
      rw [← h4]; simp
    · show 47 ∉ (path.take (q.i + 1)).drop (q.i + 1)
      rw [List.drop_eq_nil_of_le (by rw [List.length_take]; omega)]
      simp
  · omega
  · rw [h1] at hi; simp at hi

theorem cutI_end {path : List UInt8} {q : SQ} (I : cutI path q) (hi : q.i = path.length) (h1i : 1 ≤ q.i) (f : Nat) (a : Option Addr) (c : Nat) : cutI path ⟨q.i + 1, f, q.done ++ [(path.take q.i).drop q.from_], a, c⟩ := by
  rcases I with ⟨h1, h2, h3, h4, h5⟩ | ⟨h1, _⟩ | ⟨h1, _⟩
  · refine .inr (.inl ⟨by show q.i + 1 = _; omega, ?_, ?_⟩)
    · rintro rfl
      simp at hi; omega
    · show q.done ++ [(path.take q.i).drop q.from_] = _
      rw [hi, List.take_length] at h5 ⊢
      rw [← h4, cutS_plain h5]
  · omega
  · rw [h1] at hi; simp at hi; omega

theorem own_strs {h : Heap} {a : Option Addr} {c : Nat} {l : List (List UInt8)} (O : Own h 9 1 a l.length c ((bas l).map fun x => .string x)) (hl : l.length ≤ 1000000000) (hx : ∀ x ∈ l, x.length ≤ 140737488351232) : Sl h a l.length c (bas l) :=
  O.sl (α := ByteArray) (xs := bas l) (reps_strs _ _ (fun z hz => bas_ok hx z hz)) rfl (by decide) (by rw [bas_len]; omega)

theorem refSplit_spec (path : List UInt8) (hp : path.length ≤ 1048576) (h : Heap) : CallH Tryz.prog 19 [.string (ba path)] h (fun v h' => Keeps [] h h' ∧ SplitR (pathP path) h v h') := by
  have hsz : (ba path).size = path.length := ba_sz _
  refine call_of hmix Tryz.func19 rfl ok19 (by simp [Tryz.f19]) ?_
  conv => whnf
  refine LoopR.on [0, 4, 5, 6] [] (fun q : SQ => [(0, .v (.string (ba path))), (4, .v (.slice q.a q.done.length q.c)), (5, .v (.int .i64 (q.from_ : Int))), (6, .v (.int .i64 (q.i : Int)))]) (fun _ => [])
    (fun q h' => 1 ≤ q.i ∧ q.i ≤ path.length + 1 ∧ q.from_ ≤ path.length + 1 ∧ Keeps [] h h' ∧ Own h' 9 1 q.a q.done.length q.c ((bas q.done).map fun x => .string x) ∧ (∀ b ∈ blkA q.a, h.size ≤ b) ∧ q.done.length + 1 ≤ q.i ∧ (path = [47] → q.done = []) ∧ cutI path q) (fun q => path.length + 2 - q.i) ⟨1, 1, [], none, 0⟩ ?_ ?_
  · conv => whnf
    exact ⟨⟨1, 1, [], none, 0⟩, rfl, rfl, rfl, Nat.le_refl _, by show 1 ≤ _; omega, by show 1 ≤ _; omega, Keeps.refl _ _, .inl ⟨rfl, rfl, rfl, rfl⟩, by simp [blkA], Nat.le_refl _, fun _ => rfl, cutI_0 path none 0⟩
  · rintro q h1 ⟨q1, q2, qf, k1, O1, n1, q3, q4, I1⟩
    have e47 : ((ba path).toList == (ByteArray.mk #[47]).toList) = decide (path = [47]) := bs_eq path [47]
    conv => whnf
    refine IfR.i (fun hd => ?_) (fun hd => ?_)
    · rw [bif_and, hsz, e47] at hd
      have hd2 : q.i ≤ path.length ∧ path ≠ [47] := by
        simp at hd; exact ⟨by omega, hd.2⟩
      conv => whnf
      first | refine IdxR.u q.i ?_ ?_ | (refine MeetR.pass ?_; (conv => whnf); refine IdxR.u q.i ?_ ?_)
      · intro hg
        refine ⟨rfl, ?_⟩
        rw [hsz] at hg ⊢
        simp at hg
        omega
      conv => whnf
      have hfi : q.from_ ≤ q.i := by
        rcases I1 with ⟨_, _, h3, _⟩ | ⟨h3, _⟩ | ⟨h3, _⟩
        · exact h3
        · omega
        · rw [h3] at hd2; simp at hd2; omega
      have hby : ∀ (hlt : q.i < path.length), ((byteN (ba path) q.i == 47) : Bool) = decide (path[q.i] = 47) := by
        intro hlt
        have : byteN (ba path) q.i = ((path[q.i]).toNat : Int) := by
          have := bs_get path q.i
          rw [List.getElem?_eq_getElem hlt, Option.getD_some] at this
          exact this
        rw [this, intBeq]
        refine decide_eq_decide.2 ⟨fun h => ?_, fun h => by rw [h]; rfl⟩
        apply UInt8.toNat_inj.1
        have h2 : ((47 : UInt8).toNat : Int) = 47 := rfl
        omega
      refine IfR.i (fun hb => ?_) (fun hb => ?_)
      · conv => whnf
        refine SliceR.i q.from_ q.i rfl rfl hfi (by rw [hsz]; exact hd2.1) ?_
        conv => whnf
        refine AllocR.i fun b3 h3 e3 s3 o3 k3 => ?_
        have ex : ByteArray.extract (ba path) q.from_ q.i = ba ((path.take q.i).drop q.from_) := bs_extract _ _ _
        rw [ex] at o3
        conv => whnf
        rw [ex]
        refine append_own (e := 9) (sz := 1) (by_ := 16) (new := [.string (ba ((path.take q.i).drop q.from_))]) rfl rfl rfl rfl rfl rfl rfl (O1.keep k3 (by simp)) rfl (fun j hj => ?_) rfl (by omega) (by decide) (by simp [blocksOf]) ?_
        · have hj0 : j = 0 := by simpa using hj
          subst hj0
          simp only [Heap.cell?, o3]; rfl
        intro a4 c4 h4 O4 k4 n4
        have z3 := k3.size
        have k04 : Keeps [] h h4 := (k1.trans k3).nil_of k4 n1
        have n04 : ∀ b ∈ blkA a4, h.size ≤ b := fun b hb => by
          rcases n4 b hb with h | h
          · exact n1 b h
          · have := k1.size; omega
        have ew : IntKind.i64.wrap ((q.i : Int) + 1) = ((q.i + 1 : Nat) : Int) := wrapN (by simp) (by omega)
        conv => whnf
        refine ⟨path.length + 2 - (q.i + 1), by omega, ?_⟩
        conv => whnf
        rw [ew]
        have O4' : Own h4 9 1 a4 (q.done ++ [(path.take q.i).drop q.from_]).length c4 ((bas (q.done ++ [(path.take q.i).drop q.from_])).map fun x => .string x) := by
          have e1 : (bas (q.done ++ [(path.take q.i).drop q.from_])).map (fun x => Value.string x) = (bas q.done).map (fun x => Value.string x) ++ [.string (ba ((path.take q.i).drop q.from_))] := by simp [bas]
          rw [e1, List.length_append]; exact O4
        refine ⟨⟨q.i + 1, q.i + 1, q.done ++ [(path.take q.i).drop q.from_], a4, c4⟩, rfl, ?_, rfl, by show 1 ≤ q.i + 1; omega, by show q.i + 1 ≤ _; omega, by show q.i + 1 ≤ _; omega, k04, O4', n04, ?_, fun e => absurd e hd2.2, ?_⟩
        · simp
        · show (q.done ++ [_]).length + 1 ≤ q.i + 1
          rw [List.length_append]; show q.done.length + 1 + 1 ≤ _; omega
        · by_cases hlen : q.i = path.length
          · exact cutI_end I1 hlen q1 _ _ _
          · have hlt : q.i < path.length := by omega
            rw [hsz, hby hlt] at hb
            have h47 : path[q.i] = 47 := by
              have hne : ((q.i : Int) == (path.length : Int)) = false := by simp; omega
              rw [hne] at hb
              simpa using hb
            exact cutI_cut I1 hlt h47 _ _
      · have hlt : q.i < path.length := by
          rw [hsz] at hb
          by_cases hlen : q.i = path.length
          · have : ((q.i : Int) == (path.length : Int)) = true := by simp [hlen]
            rw [this] at hb; cases hb
          · omega
        have h47 : path[q.i] ≠ 47 := by
          rw [hsz, hby hlt] at hb
          have hne : ((q.i : Int) == (path.length : Int)) = false := by simp; omega
          rw [hne] at hb
          simpa using hb
        have ew : IntKind.i64.wrap ((q.i : Int) + 1) = ((q.i + 1 : Nat) : Int) := wrapN (by simp) (by omega)
        conv => whnf
        refine ⟨path.length + 2 - (q.i + 1), by omega, ?_⟩
        conv => whnf
        rw [ew]
        exact ⟨⟨q.i + 1, q.from_, q.done, q.a, q.c⟩, rfl, rfl, rfl, by show 1 ≤ q.i + 1; omega, by show q.i + 1 ≤ _; omega, qf, k1, O1, n1, Nat.le_succ_of_le q3, q4, cutI_go I1 hlt h47⟩
    · have hd2 : path = [47] ∨ q.i = path.length + 1 := by
        rw [bif_and, hsz, e47] at hd
        simp at hd
        by_cases h : path = [47]
        · exact .inl h
        · right
          have := hd
          by_cases hle : q.i ≤ path.length
          · exact absurd (hd hle) h
          · omega
      have hdone : (path = [] ∧ q.done = []) ∨ (path = [47] ∧ q.done = []) ∨ ∃ c r, path = c :: r ∧ path ≠ [47] ∧ q.done = cutS r := by
        by_cases h47 : path = [47]
        · exact .inr (.inl ⟨h47, q4 h47⟩)
        · have hi : q.i = path.length + 1 := by
            rcases hd2 with h | h
            · exact absurd h h47
            · exact h
          rcases I1 with ⟨h1, _⟩ | ⟨_, h2, h3⟩ | h3
          · omega
          · right; right
            match path, h2 with
            | c :: r, _ => exact ⟨c, r, rfl, h47, h3⟩
          · exact .inl h3
      have hjl : (joinS q.done).length ≤ 1048577 := by
        rcases hdone with ⟨_, h⟩ | ⟨_, h⟩ | ⟨c, r, h1, _, h⟩
        · rw [h]; simp [joinS]
        · rw [h]; simp [joinS]
        · rw [h, joinS_cut]
          rw [h1] at hp
          simp only [List.length_cons] at hp ⊢
          omega
      have S1 := own_strs O1 (by omega) (fun x hx => by have := joinS_le hx; omega)
      conv => whnf
      refine CallR.i (refJoin_spec S1 (by omega)) fun v h2 k2 hv => ?_
      subst hv
      have S2 := S1.keep k2
      rcases hdone with ⟨h1, h⟩ | ⟨h1, h⟩ | ⟨c, r, h1, hn47, h⟩
      · have ev : joinV q.done = .tuple #[.string (ba [47]), .int .i64 0] := by rw [h]; rfl
        rw [ev]
        conv => whnf
        refine IfR.t (by
          have e2 : ((ba [47]).toList == (ba path).toList) = decide (([47] : List UInt8) = path) := bs_eq _ _
          show (bif (0 : Int) != 0 then true else !((ba [47]).toList == (ba path).toList)) = true
          rw [e2, h1]; rfl) ?_
        conv => whnf
        refine ⟨k1.trans k2, ?_⟩
        rw [h1]; rfl
      · have ev : joinV q.done = .tuple #[.string (ba [47]), .int .i64 0] := by rw [h]; rfl
        rw [ev]
        conv => whnf
        refine IfR.f (by
          have : ((ba [47]).toList == (ba path).toList) = true := by rw [h1]; exact beq_self_eq_true _
          show (bif (0 : Int) != 0 then true else !((ba [47]).toList == (ba path).toList)) = false
          rw [this]; rfl) ?_
        conv => whnf
        refine ⟨k1.trans k2, ?_⟩
        have hpp : pathP path = some q.done := by rw [h1, h]; decide +kernel
        rw [hpp]
        exact ⟨q.a, q.c, rfl, S2, n1⟩
      · have hne : q.done ≠ [] := by rw [h]; exact cutS_ne r
        have hjo : joinS q.done = 47 :: r := by rw [h, joinS_cut]
        by_cases hgood : q.done.all nameB = true ∧ (joinS q.done).length ≤ 120
        · have ev : joinV q.done = .tuple #[.string (ba (47 :: r)), .int .i64 0] := by unfold joinV; rw [if_neg hne, if_pos hgood, hjo]
          rw [ev]
          have eb : ((ba (47 :: r)).toList == (ba path).toList) = decide (c = 47) := by
            have h2 : ((ba (47 :: r)).toList == (ba path).toList) = decide (47 :: r = path) := bs_eq _ _
            rw [h2, h1]
            refine decide_eq_decide.2 ⟨fun e => ((List.cons.inj e).1).symm, fun e => by rw [e]⟩
          have hlen : (47 :: r).length ≤ 120 := by rw [← hjo]; exact hgood.2
          by_cases hc : c = 47
          · conv => whnf
            refine IfR.f (by
              show (bif (0 : Int) != 0 then true else !((ba (47 :: r)).toList == (ba path).toList)) = false
              rw [eb, hc]; rfl) ?_
            conv => whnf
            refine ⟨k1.trans k2, ?_⟩
            have hr : r ≠ [] := by
              rintro rfl
              rw [h1, hc] at hn47; exact hn47 rfl
            have hpp : pathP path = some q.done := by
              rw [h1]
              unfold pathP
              simp only
              rw [if_neg (by simp only [List.length_cons] at hlen ⊢; rw [hc]; simp; omega), if_neg hr, if_pos (by rw [← h]; exact hgood.1), h]
            rw [hpp]
            exact ⟨q.a, q.c, rfl, S2, n1⟩
          · conv => whnf
            refine IfR.t (by
              show (bif (0 : Int) != 0 then true else !((ba (47 :: r)).toList == (ba path).toList)) = true
              rw [eb, decide_eq_false hc]; rfl) ?_
            conv => whnf
            refine ⟨k1.trans k2, ?_⟩
            have hpp : pathP path = none := by
              rw [h1]
              unfold pathP
              simp only
              rw [if_pos (.inl hc)]
            rw [hpp]; rfl
        · have ev : joinV q.done = .tuple #[.string (ba []), .int .i64 3] := by unfold joinV; rw [if_neg hne, if_neg hgood]
          rw [ev]
          conv => whnf
          refine IfR.t rfl ?_
          conv => whnf
          refine ⟨k1.trans k2, ?_⟩
          have hpp : pathP path = none := by
            rw [h1]
            unfold pathP
            simp only
            by_cases hc : c ≠ 47 ∨ 120 < (c :: r).length
            · rw [if_pos hc]
            · rw [if_neg hc]
              have hc47 : c = 47 := by
                apply Classical.byContradiction
                intro e; exact hc (.inl e)
              have hlen : (c :: r).length ≤ 120 := by omega
              have hr : r ≠ [] := by
                rintro rfl
                rw [h1, hc47] at hn47; exact hn47 rfl
              rw [if_neg hr, if_neg]
              intro ha
              refine hgood ⟨by rw [h]; exact ha, ?_⟩
              rw [hjo]
              simpa using hlen
          rw [hpp]; rfl
end Go.Proofs.YtdfgkdoplagelaaGreatDoor
/-
  Layer 12, the document's: names are walked in its tree.
-/
set_option linter.all false
set_option maxRecDepth 100000
set_option maxHeartbeats 4000000
namespace Go.Proofs.YtdfgkdoplagelaaGreatDoor
open Go Go.Eng

theorem find_plE {name : List UInt8} : ∀ {l : List Ent}, strict l → findE l name = (if plT l name = true then l[plK l name]? else none)
  | [], _ => rfl
  | x :: l, hs => by
    obtain ⟨h1, h2⟩ := List.pairwise_cons.1 hs
    have ih := find_plE (name := name) h2
    by_cases hx : blt x.name name = true
    · have e1 : plK (x :: l) name = plK l name + 1 := by unfold plK; rw [List.takeWhile_cons, if_pos hx]; rfl
      have e2 : plT (x :: l) name = plT l name := by unfold plT; rw [e1]; rfl
      have hne : ¬ x.name = name := by rintro rfl; rw [blt_irr] at hx; cases hx
      rw [e2, e1]
      have e3 : (x :: l)[plK l name + 1]? = l[plK l name]? := rfl
      rw [e3, ← ih]
      unfold findE
      rw [List.find?_cons, decide_eq_false hne]
    · have e1 : plK (x :: l) name = 0 := by unfold plK; rw [List.takeWhile_cons, if_neg hx]; rfl
      have e2 : plT (x :: l) name = decide (x.name = name) := by unfold plT; rw [e1]; rfl
      rw [e2, e1]
      by_cases hne : x.name = name
      · unfold findE
        rw [List.find?_cons, decide_eq_true hne]
        rfl
      · have hf := find_place (name := name) hs
        rw [e2, decide_eq_false hne] at hf
        rw [decide_eq_false hne]
        cases hfe : findE (x :: l) name with
        | none => rfl
        | some e =>
          unfold findR at hf
          rw [hfe] at hf
          cases hf

/-- a node of a tree -/
theorem WorldH.at_ {h : Heap} {z w t : Nat} {V : VL} {aT : Option Addr} {cT : Nat} {L : List NodH} {aN : Option Addr} {cN : Nat} {num : List Int} (H : WorldH h z w t V aT cT L aN cN num) {i : Int} (hi : inT (nds L) i) : ∃ (k : Nat) (bT : Nat) (hk : k < L.length), i = (k : Int) ∧ aT = some ⟨bT, 0, none⟩ ∧ tn (nds L) i = (L[k]'hk).nd ∧ ∀ j, j < 5 → Heap.cell? h bT (0 + k * 5 + j) = ((L[k]'hk).cells)[j]? := by
  have h1 := hi.1
  have h2 := hi.2
  rw [nds_len] at h2
  have hk : i.toNat < L.length := by omega
  obtain ⟨bT, csT, haT, oT, hcT, htkT, hleT⟩ := own_cell H.own (k := i.toNat * 5 + 1) (by rw [nodC_len]; omega)
  refine ⟨i.toNat, bT, hk, by omega, haT, ?_, fun j hj => ?_⟩
  · have := tn_nds hk
    rw [Int.toNat_of_nonneg (by omega)] at this
    exact this
  · obtain ⟨b', cs', ha', o', hc', _⟩ := own_cell H.own (k := i.toNat * 5 + j) (by rw [nodC_len]; omega)
    rw [haT] at ha'
    cases ha'
    rw [Nat.zero_add, hc', nodC_get L _ j hk hj]

theorem strs_app {h : Heap} {a : Option Addr} {n c : Nat} {x y : List (List UInt8)} (O : Own h 9 1 a n c ((bas x).map fun x => .string x)) {b : Option Addr} {m d : Nat} (S : Sl h b m d (bas y)) (hb : n + m ≤ 100000) {bs : List Nat} (hbs : ∀ z ∈ blkA a, z ∉ bs) {ty : TypeId} {K : Value → Heap → Prop}
    (H : ∀ a' c' h', Own h' 9 1 a' (n + m) c' ((bas (x ++ y)).map fun x => .string x) → Keeps (blkA a) h h' → (∀ z ∈ blkA a', z ∈ blkA a ∨ h.size ≤ z) → K (.slice a' (n + m) c') h') :
    SemR Tryz.prog (Builtin.append_ #[63, 63] ty ⟨[.slice a n c, .slice b m d]⟩) bs h K := by
  have hm := S.hlen
  rw [bas_len] at hm
  have hap : bas (x ++ y) = bas x ++ bas y := by simp [bas]
  rcases Nat.eq_zero_or_pos m with h0 | h0
  · subst h0
    have : y = [] := List.eq_nil_of_length_eq_zero hm.symm
    subst this
    have hnc : n ≤ c := by
      rcases O with ⟨_, rfl, rfl, _⟩ | ⟨b, cs, _, _, _, _, _, h2⟩
      · exact Nat.le_refl _
      · exact h2
    refine SemR.append0 rfl rfl rfl hnc ?_
    have := H a c h (by rw [List.append_nil]; exact O) (Keeps.refl _ _) (fun b hb => .inl hb)
    exact this
  · obtain ⟨xb, o, rfl⟩ := S.nonnil h0
    refine append_own (e := 9) (sz := 1) (by_ := 16) (new := (bas y).map fun x => .string x) rfl rfl rfl rfl rfl rfl rfl O (by simp [bas_len]; omega) (S.cells1) (allOne_strs _) (by omega) (by decide) hbs ?_
    intro a' c' h5 O5 k5 n5
    exact H a' c' h5 (by rw [hap, List.map_append]; exact O5) k5 n5

structure TQ where
  f : Nat
  at_ : Int
  links : Nat
  l : List (List UInt8)
  a : Option Addr
  n : Nat
  c : Nat

theorem refWalk_spec {h : Heap} {z w t : Nat} {V : VL} {aT : Option Addr} {cT : Nat} {L : List NodH} {aN : Option Addr} {cN : Nat} {num : List Int} (H : WorldH h z w t V aT cT L aN cN num) {S : FS} (W : WorldI S (nds L) num) (hdl : ∀ i, inT (nds L) i → (tn (nds L) i).kind = 3 → (tn (nds L) i).data.length ≤ 2688) (follow : Bool)
    {a : Option Addr} {n c : Nat} {l : List (List UInt8)} (T : Sl h a n c (bas l)) (hl : l.length ≤ 60) (hx : ∀ x ∈ l, x.length ≤ 200) :
    CallH Tryz.prog 20 [.pointer (some ⟨t, 0, none⟩), .slice a n c, .bool follow] h (fun v h' => Keeps [] h h' ∧ v = .tuple #[.int .i64 (walkA (docFs (nds L)) 1 follow 600 1 0 l).1, .int .i64 (walkA (docFs (nds L)) 1 follow 600 1 0 l).2]) := by
  have hE : (walkA (docFs (nds L)) 1 follow 600 1 0 l).2 ≠ -1 := walkA_ends 600 1 0 l (by decide) (by omega)
  generalize hR : walkA (docFs (nds L)) 1 follow 600 1 0 l = R at hE
  have hin1 : inT (nds L) 1 := by have := W.two; exact ⟨by omega, by omega⟩
  refine call_of hmix Tryz.func20 rfl ok20 (by simp [Tryz.f20]) ?_
  conv => whnf
  refine LoopR.on [0, 1, 2, 8, 9] [] (fun q : TQ => [(0, .v (.pointer (some ⟨t, 0, none⟩))), (1, .v (.slice q.a q.n q.c)), (2, .v (.bool follow)), (8, .v (.int .i64 q.at_)), (9, .v (.int .i64 (q.links : Int)))]) (fun _ => [])
    (fun q h' => q.links ≤ 8 ∧ Keeps [] h h' ∧ Sl h' q.a q.n q.c (bas q.l) ∧ (∀ x ∈ q.l, x.length ≤ 200) ∧ q.l.length ≤ 60 + 60 * q.links ∧ inT (nds L) q.at_ ∧ walkA (docFs (nds L)) 1 follow q.f q.at_ q.links q.l = R) (fun q => q.f) ⟨600, 1, 0, l, a, n, c⟩ ?_ ?_
  · conv => whnf
    exact ⟨⟨600, 1, 0, l, a, n, c⟩, rfl, rfl, rfl, Nat.zero_le _, Keeps.refl _ _, T, hx, by simpa using hl, hin1, hR⟩
  · rintro ⟨f, at_, links, l, a, n, c⟩ h2 ⟨q1, k2, T2, x2, l2, i2, r2⟩
    simp only at q1 T2 x2 l2 i2 r2
    have nl := T2.hlen
    rw [bas_len] at nl
    obtain ⟨f', hf'⟩ : ∃ f', f = f' + 1 := by
      cases f with
      | zero =>
        exfalso
        apply hE
        rw [← r2]; rfl
      | succ f' => exact ⟨f', rfl⟩
    subst hf'
    conv => whnf
    refine IfR.i (fun hc => ?_) (fun hc => ?_)
    · have hpos : 0 < l.length := by simp at hc; omega
      obtain ⟨name, rest, rfl⟩ : ∃ name rest, l = name :: rest := by
        cases l with
        | nil => simp at hpos
        | cons x r => exact ⟨x, r, rfl⟩
      simp only [List.length_cons] at nl l2
      obtain ⟨b0, off0, hb0, _, hcell⟩ := T2.at1 0 (by rw [bas_len]; exact hpos)
      have en : (bas (name :: rest))[0]'(by rw [bas_len]; exact hpos) = ba name := by simp [bas]
      rw [en] at hcell
      have H2 := H.keep k2 (by simp)
      obtain ⟨k, bT, hk, ek, haT, etn, hcl⟩ := H2.at_ i2
      conv => whnf
      first | refine IdxS.i 0 rfl (by show 0 < n; omega) hb0 ?_ | (refine MeetR.pass ?_; (conv => whnf); refine IdxS.i 0 rfl (by show 0 < n; omega) hb0 ?_)
      conv => whnf
      refine LoadR.i hcell ?_
      conv => whnf
      refine SliceR.i 1 n rfl rfl (by omega) T2.hcap ?_
      have P := T2.part (l := 1) (r := n) (by omega) (Nat.le_refl _)
      have hbr : ((bas (name :: rest)).take n).drop 1 = bas rest := by
        have : (bas (name :: rest)).length = n := by rw [bas_len, List.length_cons]; omega
        rw [← this, List.take_length]; simp [bas]
      rw [hbr] at P
      conv => whnf
      refine LoadR.o H2.tr rfl ?_
      conv => whnf
      refine IdxS.i k ek hk haT ?_
      conv => whnf
      refine LoadR.i (hcl 1 (by decide)) ?_
      rw [walkA_cons] at r2
      have hkd : (docFs (nds L)).kind at_ = (L[k]'hk).nd.kind := by show (tn (nds L) at_).kind = _; rw [etn]
      rw [hkd] at r2
      by_cases hk2 : (L[k]'hk).nd.kind = 2
      · rw [if_neg (fun h => h hk2)] at r2
        rw [hk2]
        conv => whnf
        refine IfR.f rfl ?_
        obtain ⟨nn1, nn2, nn3, nn4, nn5⟩ := H2.nam _ (List.getElem_mem hk)
        have S1 := own_ents nn2 nn4 (by omega)
        have hnl : name.length ≤ 200 := x2 name (by simp)
        obtain ⟨d1, d2, d3⟩ := W.dir at_ i2 (by rw [etn]; exact hk2)
        rw [etn] at d2 d3
        have hfe : (docFs (nds L)).find at_ name = ((if plT (L[k]'hk).nd.names name = true then (L[k]'hk).nd.names[plK (L[k]'hk).nd.names name]? else none)).map (·.node) := by
          show (findE (tn (nds L) at_).names name).map (·.node) = _
          rw [etn, find_plE d3]
        rw [hfe] at r2
        conv => whnf
        refine LoadR.o H2.tr rfl ?_
        conv => whnf
        refine IdxS.i k ek hk haT ?_
        conv => whnf
        refine LoadR.i (hcl 4 (by decide)) ?_
        conv => whnf
        refine CallR.i (place_spec S1 (by omega) name (by omega)) fun v h3 k3 hv => ?_
        subst hv
        have k03 := k2.trans k3
        have H3 := H2.keep k3 (by simp)
        cases hpt : plT (L[k]'hk).nd.names name with
        | false =>
          rw [hpt] at r2
          conv => whnf
          refine IfR.t rfl ?_
          conv => whnf
          refine ⟨k03, ?_⟩
          rw [← r2]; rfl
        | true =>
          rw [hpt, if_pos rfl] at r2
          conv => whnf
          refine IfR.f rfl ?_
          have hlt : plK (L[k]'hk).nd.names name < (L[k]'hk).nd.names.length := by
            apply Classical.byContradiction
            intro hge
            unfold plT at hpt
            rw [List.getElem?_eq_none (by omega)] at hpt
            cases hpt
          rw [List.getElem?_eq_getElem hlt] at r2
          simp only [Option.map_some] at r2
          obtain ⟨b5, o5, hb5, _, ⟨rfl, hok⟩, hc5⟩ := (S1.keep k3).at_ _ hlt
          have hen := d2 _ (List.getElem_mem hlt)
          generalize (L[k]'hk).nd.names[plK (L[k]'hk).nd.names name]'hlt = e at r2 hok hc5 hen
          have hcl3 : ∀ j, j < 5 → Heap.cell? h3 bT (0 + k * 5 + j) = ((L[k]'hk).cells)[j]? := by
            obtain ⟨k9, bT9, hk9, ek9, haT9, _, hcl9⟩ := H3.at_ i2
            have : k9 = k := by omega
            subst this
            rw [haT] at haT9
            cases haT9
            exact hcl9
          obtain ⟨k', bT', hk', ek', haT', etn', hcl'⟩ := H3.at_ hen
          conv => whnf
          refine LoadR.o H3.tr rfl ?_
          conv => whnf
          refine IdxS.i k ek hk haT ?_
          conv => whnf
          refine LoadR.i (hcl3 4 (by decide)) ?_
          conv => whnf
          refine IdxS.i (plK (L[k]'hk).nd.names name) rfl (by omega) hb5 ?_
          conv => whnf
          refine LoadR.i (hc5 1 (show 1 < 2 by decide)) ?_
          conv => whnf
          refine LoadR.o H3.tr rfl ?_
          conv => whnf
          refine IdxS.i k' ek' hk' haT' ?_
          conv => whnf
          refine LoadR.i (hcl' 1 (by decide)) ?_
          have hkd' : (docFs (nds L)).kind e.node = (L[k']'hk').nd.kind := by show (tn (nds L) e.node).kind = _; rw [etn']
          rw [hkd'] at r2
          have hrl : ((n - 1 : Nat) : Int) = (rest.length : Int) := by omega
          have T3 := P.keep k3
          conv => whnf
          by_cases hcnd : (L[k']'hk').nd.kind ≠ 3 ∨ (rest = [] ∧ follow = false)
          · rw [if_pos hcnd] at r2
            refine IfR.t ?_ ?_
            · rw [hrl]
              rcases hcnd with h | ⟨h, h'⟩
              · simp [bif_or, h]
              · rw [h, h']; simp [bif_or]
            conv => whnf
            refine ⟨f', by show f' < f' + 1; omega, ?_⟩
            conv => whnf
            refine ⟨⟨f', e.node, links, rest, slA a c 1 1, n - 1, c - 1⟩, rfl, rfl, rfl, q1, k03, T3, fun x hx => x2 x (by simp [hx]), by simp only; omega, hen, r2⟩
          · rw [if_neg hcnd] at r2
            have hk3 : (L[k']'hk').nd.kind = 3 := by
              apply Classical.byContradiction
              intro h; exact hcnd (.inl h)
            refine IfR.f ?_ ?_
            · rw [hrl, hk3]
              by_cases hr : rest = []
              · have : follow = true := by
                  cases follow with
                  | true => rfl
                  | false => exact absurd (.inr ⟨hr, rfl⟩) hcnd
                rw [this]; simp [bif_or, bif_and]
              · have : ((rest.length : Int) == 0) = false := by
                  have := List.length_pos_iff.2 hr
                  simp; omega
                rw [this]; simp [bif_or]
            have ewl : IntKind.i64.wrap ((links : Int) + 1) = ((links + 1 : Nat) : Int) := wrapN (by omega) (by omega)
            conv => whnf
            rw [ewl]
            by_cases h8 : 8 < links + 1
            · rw [if_pos h8] at r2
              refine IfR.t (by simp; omega) ?_
              conv => whnf
              refine ⟨k03, ?_⟩
              rw [← r2]
            · rw [if_neg h8] at r2
              refine IfR.f (by simp; omega) ?_
              conv => whnf
              refine LoadR.o H3.tr rfl ?_
              conv => whnf
              refine IdxS.i k' ek' hk' haT' ?_
              conv => whnf
              refine LoadR.i (hcl' 3 (by decide)) ?_
              have hda : (docFs (nds L)).data e.node = (L[k']'hk').nd.data := by show (tn (nds L) e.node).data = _; rw [etn']
              have hdl2 := hdl e.node hen (by rw [etn']; exact hk3)
              rw [etn'] at hdl2
              rw [hda] at r2
              conv => whnf
              refine CallR.i (refSplit_spec (L[k']'hk').nd.data (by omega) h3) fun v h4 k4 hv => ?_
              have k04 := k03.trans k4
              cases hp : pathP (L[k']'hk').nd.data with
              | none =>
                rw [hp] at hv r2
                have hv : v = .tuple #[.slice none 0 0, .int .i64 3] := hv
                simp only at r2
                subst hv
                conv => whnf
                refine IfR.t rfl ?_
                conv => whnf
                refine ⟨k04, ?_⟩
                rw [← r2]
              | some head =>
                rw [hp] at hv r2
                simp only at r2
                obtain ⟨ah, kh, rfl, Th, nh⟩ := hv
                obtain ⟨p1, p2, p3, p4⟩ := pathP_len hp
                have hhs := pathP_names hp
                conv => whnf
                refine IfR.f rfl ?_
                conv => whnf
                refine strs_app (n := 0) (c := 0) (x := []) (.inl ⟨rfl, rfl, rfl, rfl⟩) Th (by omega) (by simp [blkA]) ?_
                intro a5 c5 h5 O5 k5 n5
                have z5 := k5.size
                have k5' : Keeps [] h4 h5 := k5
                have n5' : ∀ z ∈ blkA a5, h4.size ≤ z := fun z hz => by
                  rcases n5 z hz with h | h
                  · simp [blkA] at h
                  · exact h
                rw [List.nil_append] at O5
                conv => whnf
                refine strs_app O5 (T3.keep (k4.trans k5')) (by omega) (by simp [blocksOf]) ?_
                intro a6 c6 h6 O6 k6 n6
                have k56 : Keeps [] h4 h6 := k5'.nil_of k6 n5'
                conv => whnf
                refine ⟨f', by show f' < f' + 1; omega, ?_⟩
                conv => whnf
                have hll : 0 + head.length + (n - 1) = (head ++ rest).length := by rw [List.length_append]; omega
                have O6' := O6
                rw [hll] at O6'
                have hxs : ∀ x ∈ head ++ rest, x.length ≤ 200 := by
                  intro x hx
                  rcases List.mem_append.1 hx with h | h
                  · exact hhs x h
                  · exact x2 x (by simp [h])
                have T6 := own_strs O6' (by rw [List.length_append]; omega) (fun x hx => by have := hxs x hx; omega)
                rw [hll]
                refine ⟨⟨f', 1, links + 1, head ++ rest, a6, (head ++ rest).length, c6⟩, rfl, rfl, rfl, by simp only; omega, k04.trans k56, T6, hxs, ?_, hin1, r2⟩
                simp only [List.length_append]
                omega
      · rw [if_pos hk2] at r2
        conv => whnf
        refine IfR.t (by simp; exact hk2) ?_
        conv => whnf
        refine ⟨k2, ?_⟩
        rw [← r2]
    · conv => whnf
      have h0 : l = [] := List.eq_nil_of_length_eq_zero (by simp at hc; omega)
      subst h0
      have hR2 : R = (at_, 0) := by rw [← r2]; rfl
      refine ⟨k2, ?_⟩
      rw [hR2]
end Go.Proofs.YtdfgkdoplagelaaGreatDoor
/-
  Layer 12, the document's: the file that a path names; where a name stands.
-/
set_option linter.all false
set_option maxRecDepth 100000
set_option maxHeartbeats 4000000
namespace Go.Proofs.YtdfgkdoplagelaaGreatDoor
open Go Go.Eng

theorem refPath_spec {h : Heap} {z w t : Nat} {V : VL} {aT : Option Addr} {cT : Nat} {L : List NodH} {aN : Option Addr} {cN : Nat} {num : List Int} (H : WorldH h z w t V aT cT L aN cN num) {S : FS} (W : WorldI S (nds L) num) (hdl : ∀ i, inT (nds L) i → (tn (nds L) i).kind = 3 → (tn (nds L) i).data.length ≤ 2688)
    (path : List UInt8) (hp : path.length ≤ 1048576) (follow : Bool) :
    CallH Tryz.prog 9 [.pointer (some ⟨t, 0, none⟩), .string (ba path), .bool follow] h (fun v h' => Keeps [] h h' ∧ v = .tuple #[.int .i64 (pathA (docFs (nds L)) path follow).1, .int .i64 (pathA (docFs (nds L)) path follow).2]) := by
  refine call_of hmix Tryz.func9 rfl ok9 (by simp [Tryz.f9]) ?_
  conv => whnf
  refine CallR.i (refSplit_spec path hp h) fun v h1 k1 hv => ?_
  unfold pathA
  cases hpp : pathP path with
  | none =>
    rw [hpp] at hv
    have hv : v = .tuple #[.slice none 0 0, .int .i64 3] := hv
    subst hv
    conv => whnf
    refine IfR.t rfl ?_
    conv => whnf
    exact ⟨k1, rfl⟩
  | some l =>
    rw [hpp] at hv
    obtain ⟨a, c, rfl, T, n1⟩ := hv
    obtain ⟨p1, p2, p3, p4⟩ := pathP_len hpp
    conv => whnf
    refine IfR.f rfl ?_
    conv => whnf
    refine CallR.i (refWalk_spec (H.keep k1 (by simp)) W hdl follow T p1 (pathP_names hpp)) fun v h2 k2 hv => ?_
    subst hv
    conv => whnf
    exact ⟨k1.trans k2, rfl⟩

def placeV (r : Int × List UInt8 × Int × Int) : Value := .tuple #[.int .i64 r.1, .string (ba r.2.1), .int .i64 r.2.2.1, .int .i64 r.2.2.2]

theorem refPlace_spec {h : Heap} {z w t : Nat} {V : VL} {aT : Option Addr} {cT : Nat} {L : List NodH} {aN : Option Addr} {cN : Nat} {num : List Int} (H : WorldH h z w t V aT cT L aN cN num) {S : FS} (W : WorldI S (nds L) num) (hdl : ∀ i, inT (nds L) i → (tn (nds L) i).kind = 3 → (tn (nds L) i).data.length ≤ 2688)
    (path : List UInt8) (hp : path.length ≤ 1048576) :
    CallH Tryz.prog 11 [.pointer (some ⟨t, 0, none⟩), .string (ba path)] h (fun v h' => Keeps [] h h' ∧ v = placeV (placeA (docFs (nds L)) path)) := by
  have hin1 : inT (nds L) 1 := by have := W.two; exact ⟨by omega, by omega⟩
  refine call_of hmix Tryz.func11 rfl ok11 (by simp [Tryz.f11]) ?_
  conv => whnf
  refine CallR.i (refSplit_spec path hp h) fun v h1 k1 hv => ?_
  have hpl : placeA (docFs (nds L)) path = placeA (docFs (nds L)) path := rfl
  conv at hpl => rhs; unfold placeA
  cases hpp : pathP path with
  | none =>
    rw [hpp] at hv hpl
    have hv : v = .tuple #[.slice none 0 0, .int .i64 3] := hv
    simp only at hpl
    subst hv
    conv => whnf
    refine IfR.t rfl ?_
    conv => whnf
    refine ⟨k1, ?_⟩
    rw [hpl]; rfl
  | some l =>
    rw [hpp] at hv hpl
    simp only at hpl
    obtain ⟨a, c, rfl, T, n1⟩ := hv
    obtain ⟨p1, p2, p3, p4⟩ := pathP_len hpp
    conv => whnf
    refine IfR.f rfl ?_
    by_cases h0 : l = []
    · rw [if_pos h0] at hpl
      conv => whnf
      refine IfR.t (by rw [h0]; rfl) ?_
      conv => whnf
      refine ⟨k1, ?_⟩
      rw [hpl]; rfl
    · rw [if_neg h0] at hpl
      have hpos := List.length_pos_iff.2 h0
      conv => whnf
      refine IfR.f (by simp; omega) ?_
      have e1 : IntKind.i64.wrap ((l.length : Int) - 1) = ((l.length - 1 : Nat) : Int) := wrapN (by omega) (by omega)
      obtain ⟨b, off, hb', _, hcell⟩ := T.at1 (l.length - 1) (by rw [bas_len]; omega)
      have e : (bas l)[l.length - 1]'(by rw [bas_len]; omega) = ba (l.getLast?.getD []) := by
        rw [List.getLast?_eq_getElem?, List.getElem?_eq_getElem (by omega)]; simp [bas]
      rw [e] at hcell
      conv => whnf
      refine IdxS.i (l.length - 1) e1 (by omega) hb' ?_
      conv => whnf
      refine LoadR.i hcell ?_
      conv => whnf
      refine SliceR.i 0 (l.length - 1) rfl e1 (Nat.zero_le _) (by have := T.hcap; omega) ?_
      have P := T.part (l := 0) (r := l.length - 1) (Nat.zero_le _) (by omega)
      rw [List.drop_zero, slA_zero] at P
      have hbt : (bas l).take (l.length - 1) = bas l.dropLast := by
        rw [List.dropLast_eq_take]; simp [bas]
      rw [hbt] at P
      have hxs : ∀ x ∈ l.dropLast, x.length ≤ 200 := fun x hx => pathP_names hpp x (List.dropLast_subset _ hx)
      conv => whnf
      rw [slA_zero]
      refine CallR.i (refWalk_spec (H.keep k1 (by simp)) W hdl true P (by rw [List.length_dropLast]; omega) hxs) fun v h2 k2 hv => ?_
      subst hv
      have hal := walkA_alike W.alike (root := 1) (follow := true) hin1 600 1 0 l.dropLast hin1
      generalize walkA (docFs (nds L)) 1 true 600 1 0 l.dropLast = r at hpl hal ⊢
      have k02 := k1.trans k2
      by_cases hr : r.2 = 0
      · rw [if_neg (fun h => h hr)] at hpl
        have hin := (hal.2 hr).2
        rw [hr]
        conv => whnf
        refine IfR.f rfl ?_
        have H2 := H.keep k02 (by simp)
        obtain ⟨k, bT, hk, ek, haT, etn, hcl⟩ := H2.at_ hin
        conv => whnf
        refine LoadR.o H2.tr rfl ?_
        conv => whnf
        refine IdxS.i k ek hk haT ?_
        conv => whnf
        refine LoadR.i (hcl 1 (by decide)) ?_
        have hkd : (docFs (nds L)).kind r.1 = (L[k]'hk).nd.kind := by show (tn (nds L) r.1).kind = _; rw [etn]
        rw [hkd] at hpl
        by_cases hk2 : (L[k]'hk).nd.kind = 2
        · rw [if_neg (fun h => h hk2)] at hpl
          rw [hk2]
          conv => whnf
          refine IfR.f rfl ?_
          obtain ⟨nn1, nn2, nn3, nn4, nn5⟩ := H2.nam _ (List.getElem_mem hk)
          have S1 := own_ents nn2 nn4 (by omega)
          obtain ⟨d1, d2, d3⟩ := W.dir r.1 hin (by rw [etn]; exact hk2)
          rw [etn] at d2 d3
          have hgl : (l.getLast?.getD []).length ≤ 200 := by
            rw [List.getLast?_eq_some_getLast h0]
            exact pathP_names hpp _ (List.getLast_mem h0)
          generalize l.getLast?.getD [] = name at hpl hgl hcell ⊢
          have hfe : (docFs (nds L)).find r.1 name = ((if plT (L[k]'hk).nd.names name = true then (L[k]'hk).nd.names[plK (L[k]'hk).nd.names name]? else none)).map (·.node) := by
            show (findE (tn (nds L) r.1).names name).map (·.node) = _
            rw [etn, find_plE d3]
          rw [hfe] at hpl
          conv => whnf
          refine LoadR.o H2.tr rfl ?_
          conv => whnf
          refine IdxS.i k ek hk haT ?_
          conv => whnf
          refine LoadR.i (hcl 4 (by decide)) ?_
          conv => whnf
          refine CallR.i (place_spec S1 (by omega) name (by omega)) fun v h3 k3 hv => ?_
          subst hv
          have k03 := k02.trans k3
          have H3 := H2.keep k3 (by simp)
          cases hpt : plT (L[k]'hk).nd.names name with
          | false =>
            rw [hpt] at hpl
            conv => whnf
            first | refine IfR.f rfl ?_ | (refine MeetR.pass ?_; (conv => whnf); refine IfR.f rfl ?_)
            conv => whnf
            refine ⟨k03, ?_⟩
            rw [hpl]; rfl
          | true =>
            rw [hpt, if_pos rfl] at hpl
            conv => whnf
            first | refine IfR.t rfl ?_ | (refine MeetR.pass ?_; (conv => whnf); refine IfR.t rfl ?_)
            have hlt : plK (L[k]'hk).nd.names name < (L[k]'hk).nd.names.length := by
              apply Classical.byContradiction
              intro hge
              unfold plT at hpt
              rw [List.getElem?_eq_none (by omega)] at hpt
              cases hpt
            rw [List.getElem?_eq_getElem hlt] at hpl
            obtain ⟨b5, o5, hb5, _, ⟨rfl, hok⟩, hc5⟩ := (S1.keep k3).at_ _ hlt
            have hcl3 : ∀ j, j < 5 → Heap.cell? h3 bT (0 + k * 5 + j) = ((L[k]'hk).cells)[j]? := by
              obtain ⟨k9, bT9, hk9, ek9, haT9, _, hcl9⟩ := H3.at_ hin
              have : k9 = k := by omega
              subst this
              rw [haT] at haT9
              cases haT9
              exact hcl9
            conv => whnf
            refine LoadR.o H3.tr rfl ?_
            conv => whnf
            refine IdxS.i k ek hk haT ?_
            conv => whnf
            refine LoadR.i (hcl3 4 (by decide)) ?_
            conv => whnf
            refine IdxS.i (plK (L[k]'hk).nd.names name) rfl (by omega) hb5 ?_
            conv => whnf
            refine LoadR.i (hc5 1 (show 1 < 2 by decide)) ?_
            conv => whnf
            refine ⟨k03, ?_⟩
            rw [hpl]; rfl
        · rw [if_pos hk2] at hpl
          conv => whnf
          refine IfR.t (by simp; exact hk2) ?_
          conv => whnf
          refine ⟨k02, ?_⟩
          rw [hpl]; rfl
      · rw [if_pos hr] at hpl
        conv => whnf
        refine IfR.t (by simp; exact hr) ?_
        conv => whnf
        refine ⟨k02, ?_⟩
        rw [hpl]; rfl
end Go.Proofs.YtdfgkdoplagelaaGreatDoor
/-
  Layer 12's plain law: paths, and places, tell in a view what they tell in the document's tree.
-/
set_option linter.all false
set_option maxRecDepth 100000
set_option maxHeartbeats 4000000
namespace Go.Proofs.YtdfgkdoplagelaaGreatDoor
open Go Go.Eng

theorem walkA_zero {F : Fs} {root : Int} {follow : Bool} : ∀ (f : Nat) (at_ : Int) (links : Nat) (l : List (List UInt8)), (walkA F root follow f at_ links l).2 ≠ 0 → (walkA F root follow f at_ links l).1 = 0
  | 0, _, _, _, _ => rfl
  | f + 1, at_, links, [], h => absurd rfl h
  | f + 1, at_, links, name :: rest, h => by
    rw [walkA_cons] at h ⊢
    split
    · rfl
    · rename_i hk
      rw [if_neg hk] at h
      split
      · rfl
      · rename_i next hf
        rw [hf] at h
        simp only at h
        split
        · rename_i hc
          rw [if_pos hc] at h
          exact walkA_zero f _ _ _ h
        · rename_i hc
          rw [if_neg hc] at h
          split
          · rfl
          · rename_i hl
            rw [if_neg hl] at h
            split
            · rfl
            · rename_i head hp
              rw [hp] at h
              exact walkA_zero f _ _ _ h
theorem pathA_zero (F : Fs) (path : List UInt8) (follow : Bool) (h : (pathA F path follow).2 ≠ 0) : (pathA F path follow).1 = 0 := by
  unfold pathA at h ⊢
  cases hp : pathP path with
  | none => rfl
  | some l =>
    rw [hp] at h
    exact walkA_zero _ _ _ _ h

theorem WI.place {B : Int → UInt64} {X : VS} {S : FS} {T : List Nod} {num : List Int} (W : WI B X S T num) (path : List UInt8) :
    (placeA (viewFs S) path).2.2.2 = (placeA (docFs T) path).2.2.2 ∧ ((placeA (docFs T) path).2.2.2 = 0 → inT T (placeA (docFs T) path).1 ∧ (placeA (viewFs S) path).1 = nu num (placeA (docFs T) path).1 ∧ (S.C (placeA (viewFs S) path).1).kind = 2 ∧ (placeA (viewFs S) path).2.1 = (placeA (docFs T) path).2.1 ∧
      (((placeA (docFs T) path).2.2.1 = 0 ∧ (placeA (viewFs S) path).2.2.1 = 0) ∨ ((placeA (docFs T) path).2.2.1 ≠ 0 ∧ inT T (placeA (docFs T) path).2.2.1 ∧ (placeA (viewFs S) path).2.2.1 = nu num (placeA (docFs T) path).2.2.1))) := by
  have A := W.w.alike
  unfold placeA
  cases pathP path with
  | none => exact ⟨rfl, fun h => by cases h⟩
  | some l =>
    simp only
    by_cases h0 : l = []
    · rw [if_pos h0, if_pos h0]
      exact ⟨rfl, fun h => by cases h⟩
    · rw [if_neg h0, if_neg h0]
      have h1 : inT T 1 := by have := W.w.two; exact ⟨by omega, by omega⟩
      have hal := walkA_alike A (root := 1) (follow := true) h1 600 1 0 l.dropLast h1
      rw [W.w.root.1] at hal
      generalize walkA (viewFs S) 1 true 600 1 0 l.dropLast = rv at hal ⊢
      generalize walkA (docFs T) 1 true 600 1 0 l.dropLast = r at hal ⊢
      obtain ⟨a1, a2⟩ := hal
      rw [a1]
      by_cases hr : r.2 = 0
      · have hrn : ¬ (r.2 ≠ 0) := fun h => h hr
        rw [if_neg hrn, if_neg hrn]
        obtain ⟨b1, b2⟩ := a2 hr
        rw [b1, A.kind r.1 b2]
        by_cases hk : (docFs T).kind r.1 = 2
        · have hkn : ¬ ((docFs T).kind r.1 ≠ 2) := fun h => h hk
          rw [if_neg hkn, if_neg hkn]
          refine ⟨rfl, fun _ => ⟨b2, rfl, ?_, rfl, ?_⟩⟩
          · show (viewFs S).kind (nu num r.1) = 2
            rw [A.kind r.1 b2]; exact hk
          · show _ ∨ _
            simp only
            rw [A.find r.1 _ b2 hk]
            cases hf : (docFs T).find r.1 (l.getLast?.getD []) with
            | none => exact .inl ⟨rfl, rfl⟩
            | some y =>
              have hy := A.stay r.1 _ y b2 hk hf
              refine .inr ⟨?_, hy, rfl⟩
              have := hy.1
              show y ≠ 0
              omega
        · rw [if_pos hk, if_pos hk]
          exact ⟨rfl, fun h => by cases h⟩
      · rw [if_pos hr, if_pos hr]
        exact ⟨rfl, fun h => absurd h hr⟩

theorem WI.data {B : Int → UInt64} {X : VS} {S : FS} {T : List Nod} {num : List Int} (W : WI B X S T num) : ∀ i, inT T i → (tn T i).kind = 3 → (tn T i).data.length ≤ 2688 := by
  intro i hi hk
  rw [W.w.data i hi (by omega)]
  have hr := W.w.rng i hi
  obtain ⟨m, F⟩ := (W.fs.node (nu num i) (by omega) hr.2).file (.inr (by rw [(W.w.kind i hi).1]; exact hk))
  exact F.fits

theorem eqT_spot0 : eqT Tryz.prog 10000 41 (.agg ⟨spotL 0 Crd.zero [] 0⟩) (.agg ⟨spotL 0 Crd.zero [] 0⟩) = some true := by kernel_rfl
theorem eqT_spot (d : Int) (c : Crd) (nm : List UInt8) (nd : Int) : ∃ r, eqT Tryz.prog 10000 41 (.agg ⟨spotL d c nm nd⟩) (.agg ⟨spotL 0 Crd.zero [] 0⟩) = some r := by
  have h : eqT Tryz.prog 10000 41 (.agg ⟨spotL d c nm nd⟩) (.agg ⟨spotL 0 Crd.zero [] 0⟩) = some ((d == 0) && (((c.kind == Crd.zero.kind) && ((c.links == Crd.zero.links) && ((c.size == Crd.zero.size) && (((c.ver.toNat : Int) == (Crd.zero.ver.toNat : Int)) && (((c.d0 == Crd.zero.d0) && ((c.d1 == Crd.zero.d1) && ((c.d2 == Crd.zero.d2) && ((c.d3 == Crd.zero.d3) && ((c.d4 == Crd.zero.d4) && true))))) && ((c.more == Crd.zero.more) && true)))))) && (((ba nm).toList == (ba []).toList) && ((nd == 0) && true)))) := by kernel_rfl
  exact ⟨_, h⟩
end Go.Proofs.YtdfgkdoplagelaaGreatDoor
/-
  Layer 12's law: paths, and places, through links.
-/
set_option linter.all false
set_option maxRecDepth 100000
set_option maxHeartbeats 8000000
namespace Go.Proofs.YtdfgkdoplagelaaGreatDoor
open Go Go.Eng

/-- a number of a world -/
theorem WorldH.num_ {h : Heap} {z w t : Nat} {V : VL} {aT : Option Addr} {cT : Nat} {L : List NodH} {aN : Option Addr} {cN : Nat} {num : List Int} (H : WorldH h z w t V aT cT L aN cN num) (hnl : num.length = L.length) {i : Int} (hi : inT (nds L) i) : ∃ (k : Nat) (bN : Nat) (hk : k < num.length), i = (k : Int) ∧ aN = some ⟨bN, 0, none⟩ ∧ Heap.cell? h bN (0 + k * 1) = some (.int .i64 (nu num i)) := by
  have h1 := hi.1
  have h2 := hi.2
  rw [nds_len] at h2
  have hk : i.toNat < num.length := by omega
  obtain ⟨bN, csN, haN, oN, hcN, _, _⟩ := own_cell H.nums (k := i.toNat) (by rw [List.length_map]; omega)
  refine ⟨i.toNat, bN, hk, by omega, haN, ?_⟩
  rw [show 0 + i.toNat * 1 = i.toNat by omega, hcN, List.getElem?_map]
  unfold nu
  rw [List.getElem?_eq_getElem hk]
  rfl

theorem paths12_law {h : Heap} {a : Option Addr} {n c : Nat} {fs : List Fil} (S0 : Sl h a n c fs) (path : List UInt8) (hp : path.length ≤ 1048576) (follow : Bool) : CallH Tryz.prog 3 [.slice a n c, .string (ba path), .bool follow] h (fun v h' => Keeps [] h h' ∧ v = .bool true) := by
  refine call_of hmix Tryz.func3 rfl ok3 (by simp [Tryz.f3]) ?_
  conv => whnf
  refine CallR.i (lives12_spec h) fun v h1 k1 hv => ?_
  subst hv
  conv => whnf
  refine IfR.f rfl ?_
  conv => whnf
  refine CallR.i (begin12_spec (S0.keep k1)) fun v h2 k2 hv => ?_
  obtain ⟨z, w, t, V, aT, cT, L, aN, cN, num, M, X, S, rfl, hz, hVg, H2, A2, W2, R2⟩ := hv
  have z1 := k1.size
  have z2 := k2.size
  have hz2 : z ≤ h2.size := by have := H2.old; have := H2.zw; omega
  have hsbz : V.sb < z := H2.zv V.sb (by simp [VL.blocks])
  have hsbg : h1.size ≤ V.sb := hVg V.sb (by simp [VL.blocks])
  have hnl := W2.w.len
  rw [nds_len] at hnl
  conv => whnf
  refine IfR.f rfl ?_
  conv => whnf
  refine LoadR.o H2.obj rfl ?_
  conv => whnf
  refine CallR.m (vpath_spec A2 W2.fs W2.fc path (by omega) follow) (by simp [blocksOf]) fun v h3 k3 hv => ?_
  obtain ⟨rfl, s3, A3⟩ := hv
  have z3 := k3.size
  have H3 := H2.keep k3 (fun x hx => by simp at hx; omega)
  unfold walkV
  conv => whnf
  refine AllocR.i fun b4 h4 e4 s4 o4 k4 => ?_
  conv => whnf
  refine BoxR.i fun h5 s5 k5 => ?_
  have k35 : Keeps [] h3 h5 := k4.new1 k5 (by omega)
  have A5 := A3.on k35
  have H5 := H3.keep k35 (by simp)
  have z5 := k35.size
  conv => whnf
  refine LoadR.o H5.obj rfl ?_
  conv => whnf
  refine CallR.i (refPath_spec H5 W2.w W2.data path hp follow) fun v h6 k6 hv => ?_
  subst hv
  have z6 := k6.size
  have A6 := A5.on k6
  have H6 := H5.keep k6 (by simp)
  conv => whnf
  refine LoadR.o H6.obj rfl ?_
  conv => whnf
  refine CallR.m (vplace_spec (X := { X with seen := s3 }) A6 W2.fs W2.fc path (by omega)) (fun y hy hx => by
      have hy2 : y = b4 := by simpa [blocksOf, setB] using hy
      simp at hx; omega) fun v h7 k7 hv => ?_
  obtain ⟨rfl, s7, A7⟩ := hv
  have H7 := H6.keep k7 (fun x hx => by simp at hx; omega)
  obtain ⟨sd, sc, snm, snd, hsp, hsp0, hsp1⟩ := spotC_is S (placeA (viewFs S) path)
  rw [hsp]
  have z7 := k7.size
  conv => whnf
  refine AllocR.i fun b8 h8 e8 s8 o8 k8 => ?_
  conv => whnf
  refine BoxR.i fun h9 s9 k9 => ?_
  have k79 : Keeps [] h7 h9 := k8.new1 k9 (by omega)
  have H9 := H7.keep k79 (by simp)
  have z9 := k79.size
  conv => whnf
  refine LoadR.o H9.obj rfl ?_
  conv => whnf
  refine CallR.i (refPlace_spec H9 W2.w W2.data path hp) fun v h10 k10 hv => ?_
  subst hv
  have z10 := k10.size
  have H10 := H9.keep k10 (by simp)
  unfold placeV
  have hfin : Keeps [] h h10 := by
    have q1 : Keeps [] h h6 := (((k1.trans k2).new1 k3 (by omega)).trans k35).trans k6
    exact ((q1.new1 k7 (by omega)).trans k79).trans k10
  obtain ⟨e1, e2⟩ := W2.path path follow
  obtain ⟨g1, g2⟩ := W2.place path
  have ez := pathA_zero (viewFs S) path follow
  generalize pathA (viewFs S) path follow = rv at e1 e2 ez ⊢
  generalize pathA (docFs (nds L)) path follow = rd at e1 e2 ⊢
  generalize placeA (viewFs S) path = pv at g1 g2 hsp0 hsp1 ⊢
  generalize placeA (docFs (nds L)) path = pd at g1 g2 ⊢
  rw [e1, g1]
  by_cases he : rd.2 = 0
  case' pos =>
    obtain ⟨e3, e4⟩ := e2 he
    obtain ⟨k, bT, hk, ek, haT, etn, hcl⟩ := H10.at_ e4
    obtain ⟨kn, bN, hkn, ekn, haN, hcN⟩ := H10.num_ hnl e4
    rw [he, e3]
    conv => whnf
    refine LoadR.o H10.obj rfl ?_
    conv => whnf
    refine IdxS.i kn ekn hkn haN ?_
    conv => whnf
    refine LoadR.i hcN ?_
    conv => whnf
    refine LoadR.o H10.obj rfl ?_
    conv => whnf
    refine LoadR.o H10.tr rfl ?_
    conv => whnf
    refine IdxS.i k ek hk haT ?_
    conv => whnf
    refine LoadR.i (hcl 1 (by decide)) ?_
    have hkk : (S.C (nu num rd.1)).kind = (L[k]'hk).nd.kind := by rw [(W2.w.kind rd.1 e4).1, etn]
    conv => whnf
    refine IfR.f (by rw [if_pos rfl, hkk]; simp) ?_
    conv => whnf
  case' neg =>
    have hgf : (!(rd.2 != rd.2) && (rd.2 == 0)) = false := by simp [he]
    have h10z : rv.1 = 0 := ez (by rw [e1]; exact he)
    conv => whnf
    refine LoadR.o H10.obj rfl ?_
    conv => whnf
    refine IdxS.u 0 0 0 (fun hg => by rw [hgf] at hg; cases hg) ?_
    conv => whnf
    refine LoadR.u (.int .i64 0) (fun hg => by rw [hgf] at hg; cases hg) ?_
    conv => whnf
    refine LoadR.o H10.obj rfl ?_
    conv => whnf
    refine LoadR.o H10.tr rfl ?_
    conv => whnf
    refine IdxS.u 0 0 0 (fun hg => by simp [he] at hg) ?_
    conv => whnf
    refine LoadR.u (.int .i64 0) (fun hg => by simp [he] at hg) ?_
    conv => whnf
    refine IfR.f (by rw [h10z]; simp [he]) ?_
    conv => whnf
  all_goals
    refine IfR.f (by simp) ?_
    by_cases hg : pd.2.2.2 = 0
    · rw [hg]
      obtain ⟨f1, f2, f3, f4, f5⟩ := g2 hg
      obtain ⟨q1, q2, q3, q4⟩ := hsp0 (by rw [g1]; exact hg)
      obtain ⟨rq, hrq⟩ := eqT_spot sd sc snm snd
      obtain ⟨kd, bD, hkd, ekd, haD, hcD⟩ := H10.num_ hnl f1
      conv => whnf
      refine PureR.eqAgg (by kernel_rfl) hrq ?_
      conv => whnf
      refine LoadR.o H10.obj rfl ?_
      conv => whnf
      refine IdxS.i kd ekd hkd haD ?_
      conv => whnf
      refine LoadR.i hcD ?_
      have hs1 : (sd == nu num pd.1) = true := by rw [q1, f2]; simp
      have hs2 : ((ba snm).toList == (ba pd.2.1).toList) = true := by rw [q3, f4]; exact beq_self_eq_true _
      have hs3 : (sc.kind == 2) = true := by rw [q2, f3]; rfl
      conv => whnf
      refine LoadR.o H10.obj rfl ?_
      rcases f5 with ⟨f5, f6⟩ | ⟨f5, f6, f7⟩
      · conv => whnf
        refine IdxS.u 0 0 0 (fun hg => by simp [f5] at hg) ?_
        conv => whnf
        refine LoadR.u (.int .i64 0) (fun hg => by simp [f5] at hg) ?_
        conv => whnf
        refine ⟨hfin, ?_⟩
        rw [hs1, hs2, hs3, f5, q4, f6]
        rfl
      · obtain ⟨kx, bX, hkx, ekx, haX, hcX⟩ := H10.num_ hnl f6
        conv => whnf
        refine IdxS.i kx ekx hkx haX ?_
        conv => whnf
        refine LoadR.i hcX ?_
        conv => whnf
        refine ⟨hfin, ?_⟩
        have hs4 : (snd == nu num pd.2.2.1) = true := by rw [q4, f7]; simp
        have hs5 : (pd.2.2.1 == 0) = false := by simp [f5]
        have hs6 : (pd.2.2.1 != 0) = true := by simp [f5]
        rw [hs1, hs2, hs3, hs4, hs5, hs6]
        rfl
    · obtain ⟨q1, q2, q3, q4⟩ := hsp1 (by rw [g1]; exact hg)
      subst q1 q2 q3 q4
      conv => whnf
      refine PureR.eqAgg (by kernel_rfl) eqT_spot0 ?_
      conv => whnf
      refine LoadR.o H10.obj rfl ?_
      conv => whnf
      refine IdxS.u 0 0 0 (fun hg2 => by simp [hg] at hg2) ?_
      conv => whnf
      refine LoadR.u (.int .i64 0) (fun hg2 => by simp [hg] at hg2) ?_
      conv => whnf
      refine LoadR.o H10.obj rfl ?_
      conv => whnf
      refine IdxS.u 0 0 0 (fun hg2 => by simp [hg] at hg2) ?_
      conv => whnf
      refine LoadR.u (.int .i64 0) (fun hg2 => by simp [hg] at hg2) ?_
      conv => whnf
      refine ⟨hfin, ?_⟩
      have hs1 : (pd.2.2.2 != 0) = true := by simp [hg]
      rw [hs1]
      rfl
end Go.Proofs.YtdfgkdoplagelaaGreatDoor
