/-
  Joined texts: WalI, PthA, WldA, WldB, EntB, MemB.
-/
import Derived.Test.YtkdmlieckkdmgaaGreatDoorJLawWSeenl
import Derived.Test.YtkdmlieckkdmgaaGreatDoorJLawWSeenj
import Derived.Test.YtkdmlieckkdmgaaGreatDoorJLawWSeenk
import Derived.Test.YtkdmlieckkdmgaaGreatDoorJLawWSeeni
/-
  Layer 12's plain law: a file is put into a view and into the document's tree: it is added, or all stays.
-/
set_option linter.all false
set_option maxRecDepth 100000
set_option maxHeartbeats 4000000
namespace Go.Proofs.YtkdmlieckkdmgaaGreatDoor
open Go Go.Eng

theorem freshC_kind (kind : Int) (v : UInt64) : (freshC kind v).kind = kind := rfl

/-- a number that was taken is given back -/
theorem rel_plain {B : Int → UInt64} {X Y : VS} {S : FS} {T : List Nod} {num : List Int} (W : WI B X S T num) {n kind : Int} (hn : 2 ≤ n ∧ n < 24) (hk : (S.C n).kind = 0) (hkk : 1 ≤ kind ∧ kind ≤ 3) {v : UInt64}
    (hY : Y.now = setW X.now n (freshC kind v)) (haw : Y.awayN = X.awayN) (hay : Y.away = X.away) :
    (releaseP Y n).1 = 0 ∧ ∃ S', WI B (releaseP Y n).2 S' T num := by
  have hcr : cardR (rdL Y.now (8 + n * 8) 8) = some (freshC kind v) := by
    rw [hY, setW_rd]; exact cardR_W (freshC_ok hkk v).2
  unfold releaseP
  rw [if_pos ⟨by omega, hn.2⟩, hcr]
  simp only
  rw [if_neg (show ¬ (freshC kind v).kind = 0 by rw [freshC_kind]; omega)]
  refine ⟨rfl, W.back hn hk (c := noneC ((freshC kind v).ver + 1)) (fun _ => rfl) rfl (fun a ha => ?_) setW_rd (fun k k0 k1 hne => ?_) haw hay⟩
  · show setW Y.now n _ a = X.now a
    rw [setW_high hn.2 ha, hY, setW_high hn.2 ha]
  · show rdL (setW Y.now n _) (8 + k * 8) 8 = _
    rw [setW_ne hne, hY, setW_ne hne]

theorem refWrite_zero (data : List UInt8) (h : data.length ≤ 130) : refWriteL [] ((0 : Nat) : Int) data = (data, 0) := by
  unfold refWriteL
  rw [if_neg (by omega)]
  by_cases h0 : data = []
  · rw [if_pos h0, h0]
  · rw [if_neg h0, if_neg (by omega)]
    congr 1
    simp [zeros]

/-- a name more, and a file -/
structure Added (B : Int → UInt64) (X : VS) (S : FS) (T : List Nod) (num : List Int) (d n kind : Int) (name data : List UInt8) (v : UInt64) : Prop where
  cAt : cardR (rdL (setS X n (freshC kind v)).now (8 + nu num d * 8) 8) = some (S.C (nu num d))
  okAt : (S.C (nu num d)).ok
  fail : (addP B (seeS (setS X n (freshC kind v)) (nu num d)) (nu num d) (S.C (nu num d)) name n).2.1 ≠ 0 →
    (addP B (seeS (setS X n (freshC kind v)) (nu num d)) (nu num d) (S.C (nu num d)) name n).2.2 = seeS (setS X n (freshC kind v)) (nu num d) ∧ 10 ≤ (tn T d).names.length
  good : (addP B (seeS (setS X n (freshC kind v)) (nu num d)) (nu num d) (S.C (nu num d)) name n).2.1 = 0 →
    (addP B (seeS (setS X n (freshC kind v)) (nu num d)) (nu num d) (S.C (nu num d)) name n).1.ok ∧ rightC (addP B (seeS (setS X n (freshC kind v)) (nu num d)) (nu num d) (S.C (nu num d)) name n).1 = true ∧
    ∀ X4, X4 = setS (addP B (seeS (setS X n (freshC kind v)) (nu num d)) (nu num d) (S.C (nu num d)) name n).2.2 (nu num d) (addP B (seeS (setS X n (freshC kind v)) (nu num d)) (nu num d) (S.C (nu num d)) name n).1 →
      cardR (rdL X4.now (8 + n * 8) 8) = some (freshC kind v) ∧ okMap X4.now (freshC kind v) ∧
      (writeP B (seeS X4 n) n (freshC kind v) 0 data).2.1 = 0 ∧ (writeP B (seeS X4 n) n (freshC kind v) 0 data).1.ok ∧ rightC (writeP B (seeS X4 n) n (freshC kind v) 0 data).1 = true ∧
      ∃ S', WI B (setS (writeP B (seeS X4 n) n (freshC kind v) 0 data).2.2 n (writeP B (seeS X4 n) n (freshC kind v) 0 data).1) S' (nset T d (insL (tn T d).names ⟨name, (T.length : Int)⟩) ++ [⟨n, kind, 1, data, []⟩]) (num ++ [n])

theorem WI.added {B : Int → UInt64} {X : VS} {S : FS} {T : List Nod} {num : List Int} (W : WI B X S T num) (hT : T.length ≤ 20) {d n kind : Int} {name data : List UInt8} {v : UInt64} (hd : inT T d) (hk : (tn T d).kind = 2) (hkk : 1 ≤ kind ∧ kind ≤ 3) (hn : 2 ≤ n ∧ n < 24) (hn0 : (S.C n).kind = 0)
    (hname : nameB name = true) (hpt : plT (tn T d).names name = false) (hdl : data.length ≤ 130) (hdd : kind = 2 → data = []) : Added B X S T num d n kind name data v := by
  have htwo := W.w.two
  have hfree := W.free
  have hr := W.w.rng d hd
  have hkd := W.w.kind d hd
  have hkd2 : (S.C (nu num d)).kind = 2 := by rw [hkd.1]; exact hk
  have hne : nu num d ≠ n := by
    intro e
    rw [e, hn0] at hkd2
    cases hkd2
  obtain ⟨q1, q2, q3⟩ := W.w.dir d hd hk
  have hno : ∀ x, 0 ≤ x → x < 96 → X.now (200 + x) ≠ w64 (n + 1) := ((W.fs.node n (by omega) hn.2).free hn0).2
  -- the number is taken
  have N1 : NodeI X.now n (freshC kind v) [] [] := fresh_node hkk v hno
  have I1 : FsI (setW X.now n (freshC kind v)) (S.put n (freshC kind v) [] []) := W.fs.set (by omega) (Fr.refl n X.now) N1
  have C1 : (S.put n (freshC kind v) [] []).C (nu num d) = S.C (nu num d) := if_neg hne
  have nm1 : (S.put n (freshC kind v) [] []).nm (nu num d) = S.nm (nu num d) := if_neg hne
  have Nat1 := I1.node (nu num d) (by omega) hr.2
  have hcAt : cardR (rdL (setW X.now n (freshC kind v)) (8 + nu num d * 8) 8) = some (S.C (nu num d)) := by
    have := I1.card (nu num d) (by omega) hr.2
    rw [C1] at this
    rw [this]
    have hrt := Nat1.right
    rw [C1] at hrt
    exact cardR_W hrt
  rw [C1, nm1] at Nat1
  obtain ⟨m, D⟩ := Nat1.dir hkd2
  have hn24 : 0 ≤ nu num d ∧ nu num d < 24 := ⟨by omega, hr.2⟩
  have hfr1 : freeN B (seeS (setS X n (freshC kind v)) (nu num d)) 96 = freeN B X 96 := by rw [freeN_seeS, freeN_setS hn.2]
  have hpt2 : plT (S.nm (nu num d)) name = false := by rw [q1, plT_map (rn num) (fun _ => rfl)]; exact hpt
  have hlen : (S.nm (nu num d)).length = (tn T d).names.length := by rw [q1, List.length_map]
  have href : refAdd (S.nm (nu num d)) name n = (insL (S.nm (nu num d)) ⟨name, n⟩, 0) := by
    unfold refAdd
    rw [if_neg (by omega), if_neg (by rw [hname]; simp), if_neg (by rw [hpt2]; simp)]
  have D' : DirI (seeS (setS X n (freshC kind v)) (nu num d)).now (nu num d) (S.C (nu num d)) m (S.nm (nu num d)) := D
  have AP := addP_plain (B := B) (X := seeS (setS X n (freshC kind v)) (nu num d)) hn24 D' name n
  have AE := addP_err (B := B) (X := seeS (setS X n (freshC kind v)) (nu num d)) hn24 D' name n (by rw [hfr1]; omega)
  have AC := addP_cnt (B := B) (X := seeS (setS X n (freshC kind v)) (nu num d)) hn24 D' name n
  rw [href] at AP
  refine ⟨hcAt, Nat1.ok, fun he => ⟨AE he, ?_⟩, fun he => ?_⟩
  · rcases AP with ⟨_, a2, _⟩ | ⟨_, a2, a3⟩ | ⟨_, a2, _⟩
    · exact absurd rfl a2
    · rw [hfr1] at a3
      have h1 : hadL (S.nm (nu num d)) name ≤ (S.nm (nu num d)).length := List.length_filter_le _ _
      have h2 : 10 ≤ roomN (bucketL name) := by unfold roomN; split <;> omega
      rcases a3 with a3 | a3 <;> omega
    · exact absurd a2 he
  · have hAP : ∃ m', DirI (addP B (seeS (setS X n (freshC kind v)) (nu num d)) (nu num d) (S.C (nu num d)) name n).2.2.now (nu num d) (addP B (seeS (setS X n (freshC kind v)) (nu num d)) (nu num d) (S.C (nu num d)) name n).1 m' (insL (S.nm (nu num d)) ⟨name, n⟩) ∧ Fr (nu num d) (setW X.now n (freshC kind v)) (addP B (seeS (setS X n (freshC kind v)) (nu num d)) (nu num d) (S.C (nu num d)) name n).2.2.now := by
      rcases AP with ⟨_, a2, _⟩ | ⟨_, a2, _⟩ | ⟨_, _, _, m', a4, a5⟩
      · exact absurd rfl a2
      · rw [he] at a2; cases a2
      · exact ⟨m', a4, a5⟩
    obtain ⟨m', D2, F2⟩ := hAP
    generalize addP B (seeS (setS X n (freshC kind v)) (nu num d)) (nu num d) (S.C (nu num d)) name n = r at he D2 F2 AC ⊢
    obtain ⟨ac1, ac2⟩ := AC
    rw [hfr1] at ac1
    have hk2 := D2.kind
    have N2 : NodeI r.2.2.now (nu num d) r.1 (insL (S.nm (nu num d)) ⟨name, n⟩) (S.by_ (nu num d)) := ⟨by rw [hk2.1]; decide, fun h => (by rw [hk2.1] at h; cases h), fun _ => ⟨m', D2⟩, fun h => (by rw [hk2.1] at h; omega)⟩
    have I2 := I1.set (n := nu num d) (by omega) F2 N2
    refine ⟨D2.right.2, D2.right.1, fun X4 hX4 => ?_⟩
    have hX4now : X4.now = setW r.2.2.now (nu num d) r.1 := by rw [hX4]; rfl
    have hX4free : freeN B X4 96 = freeN B r.2.2 96 := by rw [hX4]; exact freeN_setS hr.2
    have C2 : ((S.put n (freshC kind v) [] []).put (nu num d) r.1 (insL (S.nm (nu num d)) ⟨name, n⟩) (S.by_ (nu num d))).C n = freshC kind v := by
      show (if n = nu num d then _ else (if n = n then _ else _)) = _
      rw [if_neg (fun e => hne e.symm), if_pos rfl]
    have nm2 : ((S.put n (freshC kind v) [] []).put (nu num d) r.1 (insL (S.nm (nu num d)) ⟨name, n⟩) (S.by_ (nu num d))).nm n = [] := by
      show (if n = nu num d then _ else (if n = n then _ else _)) = _
      rw [if_neg (fun e => hne e.symm), if_pos rfl]
    have by2 : ((S.put n (freshC kind v) [] []).put (nu num d) r.1 (insL (S.nm (nu num d)) ⟨name, n⟩) (S.by_ (nu num d))).by_ n = [] := by
      show (if n = nu num d then _ else (if n = n then _ else _)) = _
      rw [if_neg (fun e => hne e.symm), if_pos rfl]
    have Nn := I2.node n (by omega) hn.2
    have hcn := I2.card n (by omega) hn.2
    rw [C2, nm2, by2] at Nn
    rw [C2] at hcn
    rw [← hX4now] at hcn Nn
    have hmapf : mapOf X4.now (freshC kind v) = some m0 := rfl
    have hokm : okMap X4.now (freshC kind v) := by
      intro mm hmm x hx
      rw [hmapf] at hmm
      cases hmm
      left
      exact (List.mem_replicate.1 hx).2
    -- the bytes are written
    have hwr : (writeP B (seeS X4 n) n (freshC kind v) 0 data).2.1 = 0 ∧ freeN B X4 96 ≤ freeN B (writeP B (seeS X4 n) n (freshC kind v) 0 data).2.2 96 + 3 ∧ Fr n X4.now (writeP B (seeS X4 n) n (freshC kind v) 0 data).2.2.now ∧ (writeP B (seeS X4 n) n (freshC kind v) 0 data).2.2 = { (seeS X4 n) with now := (writeP B (seeS X4 n) n (freshC kind v) 0 data).2.2.now } ∧
        NodeI (writeP B (seeS X4 n) n (freshC kind v) 0 data).2.2.now n (writeP B (seeS X4 n) n (freshC kind v) 0 data).1 [] data ∧ (writeP B (seeS X4 n) n (freshC kind v) 0 data).1.kind = kind := by
      by_cases hkind : kind = 2
      · have hdn := hdd hkind
        subst hdn
        have hw : writeP B (seeS X4 n) n (freshC kind v) 0 [] = (freshC kind v, 0, seeS X4 n) := by
          unfold writeP
          rw [if_neg (by simp; omega), if_pos rfl]
          rfl
        rw [hw]
        exact ⟨rfl, Nat.le_add_right _ _, Fr.refl _ _, rfl, Nn, rfl⟩
      · obtain ⟨mm, FF⟩ := Nn.file (by rw [freshC_kind]; omega)
        have FF' : FileI (seeS X4 n).now n (freshC kind v) mm [] := FF
        have hroom : (0 + data.length + 127) / 128 - 0 / 128 + 1 ≤ 3 := by omega
        have WR := writeP_room (B := B) (X := seeS X4 n) ⟨by omega, hn.2⟩ FF' 0 data (by rw [freeN_seeS, hX4free]; omega)
        rw [refWrite_zero data hdl] at WR
        rw [show ((0 : Nat) : Int) = 0 from rfl] at WR
        obtain ⟨w1, w2⟩ := WR
        obtain ⟨w3, mw, w4⟩ := w2 rfl
        have w5 := writeP_same w1
        have hwk : (writeP B (seeS X4 n) n (freshC kind v) 0 data).1.kind = kind := w5.1
        refine ⟨w1, ?_, w4.fr, w4.x, ⟨by rw [hwk]; omega, fun h => ?_, fun h => ?_, fun _ => ⟨mw, w4.file⟩⟩, hwk⟩
        · rw [freeN_seeS] at w3
          omega
        · rw [hwk] at h; omega
        · rw [hwk] at h; omega
    generalize writeP B (seeS X4 n) n (freshC kind v) 0 data = q at hwr ⊢
    obtain ⟨w1, w2, w3, w4, w5, w6⟩ := hwr
    refine ⟨by rw [hcn]; exact cardR_W (freshC_ok hkk v).2, hokm, w1, w5.ok, w5.right, ?_⟩
    have I2' : FsI X4.now ((S.put n (freshC kind v) [] []).put (nu num d) r.1 (insL (S.nm (nu num d)) ⟨name, n⟩) (S.by_ (nu num d))) := by rw [hX4now]; exact I2
    have I3 := I2'.set (n := n) (by omega) w3 w5
    refine ⟨_, I3, ?_, fun k k0 k1 hkk' => ?_, ?_, ?_⟩
    · refine W.w.grow hd hk hn0 (by omega) hpt hkk (fun x h1 h2 => ?_) ?_ ?_
      · show (if x = n then q.1 else (if x = nu num d then r.1 else (if x = n then freshC kind v else S.C x))).kind = _ ∧ (if x = n then [] else (if x = nu num d then _ else (if x = n then [] else S.nm x))) = _ ∧ (if x = n then data else (if x = nu num d then _ else (if x = n then [] else S.by_ x))) = _
        rw [if_neg h1, if_neg h1, if_neg h1, if_neg h2, if_neg h2, if_neg h2, if_neg h1, if_neg h1, if_neg h1]
        exact ⟨rfl, rfl, rfl⟩
      · show (if nu num d = n then q.1 else (if nu num d = nu num d then r.1 else _)).kind = 2 ∧ (if nu num d = n then [] else (if nu num d = nu num d then insL (S.nm (nu num d)) ⟨name, n⟩ else _)) = _
        rw [if_neg hne, if_neg hne, if_pos rfl, if_pos rfl]
        exact ⟨hk2.1, rfl⟩
      · show (if n = n then q.1 else _).kind = kind ∧ (kind ≠ 2 → (if n = n then data else _) = data) ∧ (kind = 2 → (if n = n then ([] : List Ent) else _) = [])
        rw [if_pos rfl, if_pos rfl, if_pos rfl]
        exact ⟨w6, fun _ => rfl, fun _ => rfl⟩
    · have hkk' : (if k = n then q.1 else (if k = nu num d then r.1 else (if k = n then freshC kind v else S.C k))).kind ≠ 0 := hkk'
      have hLT : (nset T d (insL (tn T d).names ⟨name, (T.length : Int)⟩) ++ [(⟨n, kind, 1, data, []⟩ : Nod)]).length = T.length + 1 := by unfold nset; simp
      have hnl := W.w.len
      by_cases e : k = n
      · refine ⟨(T.length : Int), ⟨by omega, by rw [hLT]; omega⟩, ?_⟩
        rw [nu_app (by omega), if_pos (by omega), e]
      · rw [if_neg e] at hkk'
        have hold : (S.C k).kind ≠ 0 := by
          by_cases e2 : k = nu num d
          · rw [e2, hkd2]; decide
          · rw [if_neg e2, if_neg e] at hkk'; exact hkk'
        obtain ⟨i, hi, he'⟩ := W.all k k0 k1 hold
        have := hi.1
        have := hi.2
        refine ⟨i, ⟨by omega, by rw [hLT]; omega⟩, ?_⟩
        rw [nu_app (by omega), if_neg (by omega)]; exact he'
    · have hLT : (nset T d (insL (tn T d).names ⟨name, (T.length : Int)⟩) ++ [(⟨n, kind, 1, data, []⟩ : Nod)]).length = T.length + 1 := by unfold nset; simp
      rw [hLT, freeN_setS hn.2]
      omega
    · show q.2.2.awayN = []
      rw [w4]
      show X4.awayN = []
      rw [hX4]
      show r.2.2.awayN = []
      rw [ac2]
      exact W.aw
end Go.Proofs.YtkdmlieckkdmgaaGreatDoor
/-
  Layer 12: the file that a path names; where a name stands.
-/
set_option linter.all false
set_option maxRecDepth 100000
set_option maxHeartbeats 2000000
namespace Go.Proofs.YtkdmlieckkdmgaaGreatDoor
open Go Go.Eng

/-- the file that a path names, over files -/
def pathA (F : Fs) (path : List UInt8) (follow : Bool) : Int × Int := match pathP path with | none => (0, 3) | some l => walkA F 1 follow 600 1 0 l

theorem walkV_in {X : VS} {S : FS} (C : FsC S) {follow : Bool} (f : Nat) (at_ : Int) (links : Nat) (l : List (List UInt8)) (h : 0 ≤ at_ ∧ at_ < 24 ∧ (S.C at_).kind ≠ 0) (he : (walkA (viewFs S) 1 follow f at_ links l).2 = 0) :
    0 ≤ (walkA (viewFs S) 1 follow f at_ links l).1 ∧ (walkA (viewFs S) 1 follow f at_ links l).1 < 24 ∧ (S.C (walkA (viewFs S) 1 follow f at_ links l).1).kind ≠ 0 := by
  have A : Alike (viewFs S) (viewFs S) id (fun n => 0 ≤ n ∧ n < 24 ∧ (S.C n).kind ≠ 0) := by
    refine ⟨fun x _ => rfl, fun x n _ _ => by simp, fun x n y hx hk hf => ?_, fun x _ _ => rfl⟩
    have hf' : (findE (S.nm x) n).map (·.node) = some y := hf
    cases hfe : findE (S.nm x) n with
    | none => rw [hfe] at hf'; cases hf'
    | some e =>
      rw [hfe] at hf'
      have : e.node = y := by simpa using hf'
      rw [← this]
      exact C.names x hx.1 hx.2.1 hk e (List.mem_of_find?_eq_some hfe)
  exact ((walkA_alike A (root := 1) ⟨by decide, by decide, by rw [C.root]; decide⟩ f at_ links l h).2 he).2

theorem pathP_names {path : List UInt8} {l : List (List UInt8)} (h : pathP path = some l) : ∀ x ∈ l, x.length ≤ 200 := by
  obtain ⟨p1, p2, p3, p4⟩ := pathP_len h
  intro x hx
  have h1 := joinS_le hx
  by_cases hh : l = []
  · rw [hh] at hx; cases hx
  · rw [if_neg hh] at p4
    rw [p4] at h1; omega

theorem vpathS_spec {h : Heap} {V : VL} {M : MemS} {X : VS} (A : At h V M X) {S : FS} (I : FsI X.now S) (C : FsC S) (path : List UInt8) (hp : path.length ≤ 140737488351232) (follow : Bool) :
    CallH Tryz.prog 9 [.pointer (some ⟨V.v, 0, none⟩), .string (ba path), .bool follow] h (fun v h' => Keeps [V.sb] h h' ∧ v = walkV S (pathA (viewFs S) path follow) ∧ ∃ s, At h' V M { X with seen := s } ∧ (pathP path ≠ none → 1 ∈ s ∧ ((pathA (viewFs S) path follow).2 = 0 → (pathA (viewFs S) path follow).1 ∈ s))) := by
  have bl := A.blt
  have msb : V.sb ∈ V.blocks := by simp [VL.blocks]
  refine call_of hmix Tryz.func9 rfl ok9 (by simp [Tryz.f9]) ?_
  conv => whnf
  refine AllocR.i fun b1 h1 e1 s1 o1 k1 => ?_
  have nb1 : ∀ b ∈ V.blocks, b ≠ b1 := fun b hb => by have := bl b hb; omega
  conv => whnf
  refine IfR.f rfl ?_
  conv => whnf
  refine CallR.i (nsplit_spec path hp h1) fun v h2 k2 hv => ?_
  have k02 := k1.trans k2
  have z1 := k1.size
  have z2 := k2.size
  unfold pathA
  cases hpp : pathP path with
  | none =>
    rw [hpp] at hv
    have hv : v = .tuple #[.slice none 0 0, .int .i64 3] := hv
    subst hv
    conv => whnf
    refine IfR.t rfl ?_
    conv => whnf
    refine BoxR.i fun h3 s3 k3 => ?_
    conv => whnf
    exact ⟨(k02.mono (by simp)).m1 k3 (by omega), rfl, X.seen, (A.on k02).keep k3 (fun b hb => by simp; exact nb1 b hb), fun h => absurd rfl h⟩
  | some l =>
    rw [hpp] at hv
    obtain ⟨a, c, rfl, T2, n2⟩ := hv
    obtain ⟨p1, p2, p3, p4⟩ := pathP_len hpp
    conv => whnf
    refine IfR.f rfl ?_
    conv => whnf
    refine CallR.m (vwalkS_spec (A.on k02) I C follow T2 (fun b hb => by have := n2 b hb; have := bl V.sb msb; omega) p1 (pathP_names hpp)) (by simp [blocksOf, setB]; exact fun e => nb1 V.sb msb e.symm) fun v h3 k3 hv => ?_
    obtain ⟨rfl, s, A3, m3⟩ := hv
    unfold walkV
    conv => whnf
    refine BoxR.i fun h4 s4 k4 => ?_
    conv => whnf
    exact ⟨((k02.mono (by simp)).trans k3).m1 k4 (by omega), rfl, s, A3.keep k4 (fun b hb => by simp; exact nb1 b hb), fun _ => m3⟩

theorem vpath_spec {h : Heap} {V : VL} {M : MemS} {X : VS} (A : At h V M X) {S : FS} (I : FsI X.now S) (C : FsC S) (path : List UInt8) (hp : path.length ≤ 140737488351232) (follow : Bool) :
    CallH Tryz.prog 9 [.pointer (some ⟨V.v, 0, none⟩), .string (ba path), .bool follow] h (fun v h' => Keeps [V.sb] h h' ∧ v = walkV S (pathA (viewFs S) path follow) ∧ ∃ s, At h' V M { X with seen := s }) :=
  (vpathS_spec A I C path hp follow).mono fun _ _ ⟨k, e, s, A', _⟩ => ⟨k, e, s, A'⟩

/-- where a name stands, over files: the directory, its name, the file that has it, the error -/
def placeA (F : Fs) (path : List UInt8) : Int × List UInt8 × Int × Int :=
  match pathP path with
  | none => (0, [], 0, 3)
  | some l => if l = [] then (0, [], 0, 1) else
    let r := walkA F 1 true 600 1 0 l.dropLast
    if r.2 ≠ 0 then (0, [], 0, r.2) else if F.kind r.1 ≠ 2 then (0, [], 0, 6) else (r.1, l.getLast?.getD [], (F.find r.1 (l.getLast?.getD [])).getD 0, 0)

/-- a spot's cells -/
def spotC (S : FS) (r : Int × List UInt8 × Int × Int) : List Value := if r.2.2.2 = 0 then [.int .i64 r.1] ++ (S.C r.1).cells ++ [.string (ba r.2.1), .int .i64 r.2.2.1] else [.int .i64 0] ++ Crd.zero.cells ++ [.string ⟨#[]⟩, .int .i64 0]

theorem vplace_spec {h : Heap} {V : VL} {M : MemS} {X : VS} (A : At h V M X) {S : FS} (I : FsI X.now S) (C : FsC S) (path : List UInt8) (hp : path.length ≤ 140737488351232) :
    CallH Tryz.prog 110 [.pointer (some ⟨V.v, 0, none⟩), .string (ba path)] h (fun v h' => Keeps [V.sb] h h' ∧ v = .tuple #[.agg ⟨spotC S (placeA (viewFs S) path)⟩, .int .i64 (placeA (viewFs S) path).2.2.2] ∧ ∃ s, At h' V M { X with seen := s }) := by
  have bl := A.blt
  have msb : V.sb ∈ V.blocks := by simp [VL.blocks]
  refine call_of hmix Tryz.func110 rfl ok110 (by simp [Tryz.f110]) ?_
  conv => whnf
  refine AllocR.i fun b1 h1 e1 s1 o1 k1 => ?_
  have nb1 : ∀ b ∈ V.blocks, b ≠ b1 := fun b hb => by have := bl b hb; omega
  conv => whnf
  refine IfR.f rfl ?_
  conv => whnf
  refine CallR.i (parent_spec path hp h1) fun v h2 k2 hv => ?_
  have k02 := k1.trans k2
  have z1 := k1.size
  have z2 := k2.size
  have stop : ∀ (h2 h3 : Heap) (r : Int × List UInt8 × Int × Int), Keeps [V.sb] h h2 → (∃ s, At h2 V M { X with seen := s }) → Keeps [b1] h2 h3 → r.2.2.2 ≠ 0 → placeA (viewFs S) path = r →
      Keeps [V.sb] h h3 ∧ Value.tuple #[.agg ⟨[.int .i64 0] ++ Crd.zero.cells ++ [.string ⟨#[]⟩, .int .i64 0]⟩, .int .i64 r.2.2.2] = .tuple #[.agg ⟨spotC S (placeA (viewFs S) path)⟩, .int .i64 (placeA (viewFs S) path).2.2.2] ∧ ∃ s, At h3 V M { X with seen := s } := by
    intro h2 h3 r k2 ⟨s, A2⟩ k3 hr he
    refine ⟨k2.m1 k3 (by omega), ?_, s, A2.keep k3 (fun b hb => by simp; exact nb1 b hb)⟩
    rw [he]
    unfold spotC
    rw [if_neg hr]
  have hpl : placeA (viewFs S) path = placeA (viewFs S) path := rfl
  conv at hpl => rhs; unfold placeA
  cases hpp : pathP path with
  | none =>
    rw [hpp] at hv hpl
    simp only at hv hpl
    subst hv
    conv => whnf
    refine IfR.t rfl ?_
    conv => whnf
    refine BoxR.i fun h3 s3 k3 => ?_
    conv => whnf
    exact stop h2 h3 _ (k02.mono (by simp)) ⟨X.seen, A.on k02⟩ k3 (by decide) hpl
  | some l =>
    rw [hpp] at hv hpl
    simp only at hv hpl
    obtain ⟨p1, p2, p3, p4⟩ := pathP_len hpp
    by_cases h0 : l = []
    · rw [if_pos h0] at hv hpl
      subst hv
      conv => whnf
      refine IfR.t rfl ?_
      conv => whnf
      refine BoxR.i fun h3 s3 k3 => ?_
      conv => whnf
      exact stop h2 h3 _ (k02.mono (by simp)) ⟨X.seen, A.on k02⟩ k3 (by decide) hpl
    · rw [if_neg h0] at hv hpl
      subst hv
      have hall : l.dropLast.all nameB = true := List.all_eq_true.2 fun x hx => List.all_eq_true.1 p2 x (List.dropLast_subset _ hx)
      have hjl : (joinS l.dropLast).length ≤ 120 := by
        rw [List.dropLast_eq_take]
        have := joinS_take l (l.length - 1)
        rw [if_neg h0] at p4
        rw [p4] at this
        omega
      have hup : pathP (pathJ l.dropLast) = some l.dropLast := pathP_join hall hjl
      have hul : (pathJ l.dropLast).length ≤ 120 := by
        unfold pathJ
        split
        · simp
        · exact hjl
      conv => whnf
      refine IfR.f rfl ?_
      conv => whnf
      refine CallR.m (vpath_spec (A.on k02) I C (pathJ l.dropLast) (by omega) true) (by simp [blocksOf, setB]; exact fun e => nb1 V.sb msb e.symm) fun v h3 k3 hv => ?_
      obtain ⟨rfl, s, A3⟩ := hv
      have hpa : pathA (viewFs S) (pathJ l.dropLast) true = walkA (viewFs S) 1 true 600 1 0 l.dropLast := by
        unfold pathA
        rw [hup]
      rw [hpa]
      generalize hr : walkA (viewFs S) 1 true 600 1 0 l.dropLast = r at hpl
      unfold walkV
      conv => whnf
      refine AllocR.i fun b4 h4 e4 s4 o4 k4 => ?_
      conv => whnf
      refine BoxR.i fun h5 s5 k5 => ?_
      have z3 := k3.size
      have k35 : Keeps [] h3 h5 := k4.new1 k5 (by omega)
      have A5 := A3.on k35
      have k05 : Keeps [V.sb] h h5 := ((k02.mono (by simp)).trans k3).trans_nil k35
      by_cases hr2 : r.2 = 0
      · rw [if_neg (fun h => h hr2)] at hpl
        have hin := walkV_in (X := X) C (follow := true) 600 1 0 l.dropLast ⟨by decide, by decide, by rw [C.root]; decide⟩
        rw [hr] at hin
        obtain ⟨r0, r1, rk⟩ := hin hr2
        rw [hr2]
        conv => whnf
        refine IfR.f rfl ?_
        have N5 := I.node r.1 r0 r1
        conv => whnf
        refine CallR.i (ffind_spec A5 (S.C r.1) N5.ok (l.getLast?.getD [])) fun v h6 k6 hv => ?_
        have A6 := A5.on k6
        have k06 := k05.trans_nil k6
        by_cases hk2 : (S.C r.1).kind = 2
        · obtain ⟨m, D⟩ := N5.dir hk2
          rw [dir_find D] at hv
          simp only at hv
          subst hv
          rw [if_neg (show ¬ ((viewFs S).kind r.1 ≠ 2) from fun h => h hk2)] at hpl
          have hfr : (findR (S.nm r.1) (l.getLast?.getD [])).1 = ((viewFs S).find r.1 (l.getLast?.getD [])).getD 0 := by
            rw [viewFs_find]
            unfold findR
            cases findE (S.nm r.1) (l.getLast?.getD []) <;> rfl
          conv => whnf
          refine IfR.f rfl ?_
          conv => whnf
          refine BoxR.i fun h7 s7 k7 => ?_
          conv => whnf
          have z6 := k6.size
          refine ⟨k06.m1 k7 (by omega), ?_, s, A6.keep k7 (fun b hb => by simp; exact nb1 b hb)⟩
          rw [hpl]
          unfold spotC
          simp only
          rw [if_pos trivial, hfr]
          rfl
        · rw [if_pos (show (viewFs S).kind r.1 ≠ 2 from hk2)] at hpl
          have hop : findP X.now (S.C r.1) (l.getLast?.getD []) = (0, false, 6) := by
            unfold findP openP
            rw [if_pos hk2]
            rfl
          have hop' : findP ({ X with seen := s } : VS).now (S.C r.1) (l.getLast?.getD []) = (0, false, 6) := hop
          rw [hop'] at hv
          subst hv
          conv => whnf
          refine IfR.t rfl ?_
          conv => whnf
          refine BoxR.i fun h7 s7 k7 => ?_
          conv => whnf
          have z6 := k6.size
          exact stop h6 h7 _ k06 ⟨s, A6⟩ k7 (by decide) hpl
      · rw [if_pos hr2] at hpl
        conv => whnf
        refine IfR.t (by simp; exact hr2) ?_
        conv => whnf
        refine BoxR.i fun h7 s7 k7 => ?_
        conv => whnf
        exact stop h5 h7 _ k05 ⟨s, A5⟩ k7 hr2 hpl
end Go.Proofs.YtkdmlieckkdmgaaGreatDoor
/-
  Layer 12's statements: a world lies in the heap.
-/
set_option linter.all false
set_option maxRecDepth 100000
set_option maxHeartbeats 4000000
namespace Go.Proofs.YtkdmlieckkdmgaaGreatDoor
open Go Go.Eng

structure NodH where
  nd : Nod
  a : Option Addr
  n : Nat
  c : Nat
def NodH.cells (x : NodH) : List Value := [.int .i64 x.nd.id, .int .i64 x.nd.kind, .int .i64 x.nd.links, .string (ba x.nd.data), .slice x.a x.n x.c]
def nodC (L : List NodH) : List Value := L.flatMap NodH.cells

theorem nodC_len : ∀ L : List NodH, (nodC L).length = L.length * 5
  | [] => rfl
  | x :: L => by
    have ih := nodC_len L
    unfold nodC at ih ⊢
    rw [List.flatMap_cons, List.length_append, ih, List.length_cons]
    show 5 + _ = _
    omega
theorem nodC_get : ∀ (L : List NodH) (i j : Nat) (hi : i < L.length), j < 5 → (nodC L)[i * 5 + j]? = L[i].cells[j]?
  | [], i, j, hi, _ => by simp at hi
  | x :: L, 0, j, _, hj => by
    unfold nodC
    rw [List.flatMap_cons, List.getElem?_append_left (by show 0 * 5 + j < 5; omega)]
    simp
  | x :: L, i + 1, j, hi, hj => by
    have ih := nodC_get L i j (by simpa using hi) hj
    unfold nodC at ih ⊢
    rw [List.flatMap_cons, List.getElem?_append_right (by show 5 ≤ _; omega)]
    have : (i + 1) * 5 + j - x.cells.length = i * 5 + j := by show (i + 1) * 5 + j - 5 = _; omega
    rw [this]
    simpa using ih
theorem own_cell {h : Heap} {e : TypeId} {sz : Nat} {a : Option Addr} {n c : Nat} {l : List Value} (O : Own h e sz a n c l) {k : Nat} (hk : k < l.length) : ∃ b cs, a = some ⟨b, 0, none⟩ ∧ h[b]? = some (.cells ⟨cs⟩ e (0, 0)) ∧ Heap.cell? h b k = l[k]? ∧ cs.take l.length = l ∧ l.length ≤ cs.length := by
  rcases O with ⟨_, _, _, rfl⟩ | ⟨b, cs, rfl, o, ht, h1, h2, h3⟩
  · simp at hk
  · have hle : l.length ≤ cs.length := by
      have := congrArg List.length ht
      rw [List.length_take] at this
      omega
    refine ⟨b, cs, rfl, o, ?_, ht, hle⟩
    simp only [Heap.cell?, o]
    have : l[k]? = (cs.take l.length)[k]? := by rw [ht]
    rw [this, List.getElem?_take, if_pos hk]
    simp

structure WorldH (h : Heap) (z w t : Nat) (V : VL) (aT : Option Addr) (cT : Nat) (L : List NodH) (aN : Option Addr) (cN : Nat) (num : List Int) : Prop where
  obj : h[w]? = some (.cells ⟨[.pointer (some ⟨V.v, 0, none⟩), .pointer (some ⟨t, 0, none⟩), .slice aN num.length cN]⟩ 30 (0, 0))
  tr : h[t]? = some (.cells ⟨[.slice aT L.length cT]⟩ 71 (0, 0))
  own : Own h 122 5 aT L.length cT (nodC L)
  nums : Own h 3 1 aN num.length cN (num.map fun x => .int .i64 x)
  nam : ∀ x ∈ L, x.n = x.nd.names.length ∧ Own h 120 2 x.a x.n x.c (entC x.nd.names) ∧ (∀ b ∈ blkA x.a, z ≤ b) ∧ (∀ e ∈ x.nd.names, e.ok) ∧ x.nd.names.length ≤ 105
  zw : z ≤ w ∧ z ≤ t ∧ (∀ b ∈ blkA aT, z ≤ b) ∧ (∀ b ∈ blkA aN, z ≤ b)
  zv : ∀ b ∈ V.blocks, b < z

theorem WorldH.keep {F : List Nat} {h h' : Heap} {z w t : Nat} {V : VL} {aT : Option Addr} {cT : Nat} {L : List NodH} {aN : Option Addr} {cN : Nat} {num : List Int} (W : WorldH h z w t V aT cT L aN cN num) (k : Keeps F h h') (hF : ∀ x ∈ F, x < z) : WorldH h' z w t V aT cT L aN cN num := by
  obtain ⟨z1, z2, z3, z4⟩ := W.zw
  have no : ∀ b, z ≤ b → b ∉ F := fun b hb hx => by have := hF b hx; omega
  exact ⟨k.obj W.obj (no _ z1), k.obj W.tr (no _ z2), W.own.keep k (fun b hb => no b (z3 b hb)), W.nums.keep k (fun b hb => no b (z4 b hb)), fun x hx => by
    obtain ⟨n1, n2, n3, n4, n5⟩ := W.nam x hx
    exact ⟨n1, n2.keep k (fun b hb => no b (n3 b hb)), n3, n4, n5⟩, W.zw, W.zv⟩

/-- a world's blocks are old -/
theorem WorldH.old {h : Heap} {z w t : Nat} {V : VL} {aT : Option Addr} {cT : Nat} {L : List NodH} {aN : Option Addr} {cN : Nat} {num : List Int} (W : WorldH h z w t V aT cT L aN cN num) : w < h.size ∧ t < h.size ∧ (∀ b ∈ blkA aT, b < h.size) ∧ (∀ b ∈ blkA aN, b < h.size) ∧ ∀ x ∈ L, ∀ b ∈ blkA x.a, b < h.size :=
  ⟨obj_lt W.obj, obj_lt W.tr, W.own.lt, W.nums.lt, fun x hx => (W.nam x hx).2.1.lt⟩
theorem WorldH.keepW {F : List Nat} {h h' h'' : Heap} {z w t : Nat} {V : VL} {aT : Option Addr} {cT : Nat} {L : List NodH} {aN : Option Addr} {cN : Nat} {num : List Int} (W0 : WorldH h z w t V aT cT L aN cN num) (W : WorldH h' z w t V aT cT L aN cN num) (k : Keeps F h' h'') (hF : ∀ x ∈ F, x < z ∨ h.size ≤ x) : WorldH h'' z w t V aT cT L aN cN num := by
  obtain ⟨z1, z2, z3, z4⟩ := W.zw
  obtain ⟨o1, o2, o3, o4, o5⟩ := W0.old
  have no : ∀ b, z ≤ b → b < h.size → b ∉ F := fun b hb hb2 hx => by have := hF b hx; omega
  exact ⟨k.obj W.obj (no _ z1 o1), k.obj W.tr (no _ z2 o2), W.own.keep k (fun b hb => no b (z3 b hb) (o3 b hb)), W.nums.keep k (fun b hb => no b (z4 b hb) (o4 b hb)), fun x hx => by
    obtain ⟨n1, n2, n3, n4, n5⟩ := W.nam x hx
    exact ⟨n1, n2.keep k (fun b hb => no b (n3 b hb) (o5 x hx b hb)), n3, n4, n5⟩, W.zw, W.zv⟩

theorem cells_ne {h : Heap} {a b : Nat} {x y : Array Value} {S T : TypeId} {f g : Nat × Nat} (h1 : h[a]? = some (.cells x S f)) (h2 : h[b]? = some (.cells y T g)) (hne : S ≠ T) : a ≠ b := by
  rintro rfl
  rw [h1] at h2
  cases h2
  exact hne rfl

/-- the nodes of a world -/
def nds (L : List NodH) : List Nod := L.map (·.nd)
theorem nds_len (L : List NodH) : (nds L).length = L.length := by simp [nds]
theorem tn_nds {L : List NodH} {i : Nat} (hi : i < L.length) : tn (nds L) (i : Int) = L[i].nd := by
  unfold tn nds
  rw [Int.toNat_natCast, List.getElem?_map, List.getElem?_eq_getElem hi]
  rfl

/-- a file that is put -/
structure Fil where
  in_ : Int
  kind : Int
  name : List UInt8
  data : List UInt8
def Fil.cells (f : Fil) : List Value := [.int .i64 f.in_, .int .i64 f.kind, .string (ba f.name), .string (ba f.data)]
def Fil.ok (f : Fil) : Prop := inI64 f.in_ ∧ inI64 f.kind ∧ f.name.length ≤ 140737488351232 ∧ f.data.length ≤ 140737488351232

def u64N (x : Int) : Nat := (x % 18446744073709551616).toNat
/-- where a file goes, of which kind it is -/
def dirOf (f : Fil) (len : Nat) : Nat := 1 + u64N f.in_ % (len - 1)
def kindOf (f : Fil) : Int := 1 + ((u64N f.kind % 3 : Nat) : Int)
theorem dirOf_in {f : Fil} {len : Nat} (h : 2 ≤ len) : 1 ≤ dirOf f len ∧ dirOf f len < len := by
  unfold dirOf
  have := Nat.mod_lt (u64N f.in_) (show 0 < len - 1 by omega)
  omega
theorem kindOf_in (f : Fil) : 1 ≤ kindOf f ∧ kindOf f ≤ 3 := by
  unfold kindOf
  have := Nat.mod_lt (u64N f.kind) (show 0 < 3 by decide)
  omega

/-! ### A name's node is set -/

theorem plK_ins (l : List Ent) (name : List UInt8) (x : Int) : plK (insL l ⟨name, x⟩) name = plK l name := by
  have h1 : l.take (plK l name) = l.takeWhile fun e => blt e.name name := (List.prefix_iff_eq_take.1 (List.takeWhile_prefix _)).symm
  have hall : ∀ e ∈ l.take (plK l name), blt e.name name = true := by
    rw [h1]
    intro e he
    have := List.all_takeWhile (p := fun e : Ent => blt e.name name) (l := l)
    exact List.all_eq_true.1 this e he
  have hle := plK_le l name
  show (List.takeWhile (fun e : Ent => blt e.name name) (l.take (plK l name) ++ ⟨name, x⟩ :: l.drop (plK l name))).length = plK l name
  rw [List.takeWhile_append_of_pos hall, List.takeWhile_cons, if_neg (by rw [blt_irr]; simp), List.append_nil, List.length_take]
  show min (plK l name) l.length = plK l name
  omega
theorem insL_len (l : List Ent) (e : Ent) : (insL l e).length = l.length + 1 := by rw [(insL_perm l e).length_eq]; rfl
theorem ins_set (l : List Ent) (name : List UInt8) (x y : Int) : (entC (insL l ⟨name, x⟩)).set (plK l name * 2 + 1) (.int .i64 y) = entC (insL l ⟨name, y⟩) := by
  have hle := plK_le l name
  unfold insL
  rw [entC_app, entC_app]
  have hl : (entC (l.take (plK l name))).length = plK l name * 2 := by rw [entC_len, List.length_take]; omega
  rw [List.set_append, if_neg (by rw [hl]; omega), hl]
  have : plK l name * 2 + 1 - plK l name * 2 = 1 := by omega
  rw [this]
  rfl
theorem nodC_app (a b : List NodH) : nodC (a ++ b) = nodC a ++ nodC b := by unfold nodC; rw [List.flatMap_append]
theorem nodC_set : ∀ (L : List NodH) (i : Nat) (hi : i < L.length) (x : NodH), x.nd.id = L[i].nd.id → x.nd.kind = L[i].nd.kind → x.nd.links = L[i].nd.links → x.nd.data = L[i].nd.data → (nodC L).set (i * 5 + 4) (.slice x.a x.n x.c) = nodC (L.set i x)
  | [], i, hi, _, _, _, _, _ => by simp at hi
  | y :: L, 0, _, x, h1, h2, h3, h4 => by
    simp only [List.getElem_cons_zero] at h1 h2 h3 h4
    unfold nodC
    rw [List.set_cons_zero, List.flatMap_cons, List.flatMap_cons, List.set_append, if_pos (by show 0 * 5 + 4 < 5; decide)]
    congr 1
    unfold NodH.cells
    rw [h1, h2, h3, h4]; rfl
  | y :: L, i + 1, hi, x, h1, h2, h3, h4 => by
    have ih := nodC_set L i (by simpa using hi) x (by simpa using h1) (by simpa using h2) (by simpa using h3) (by simpa using h4)
    unfold nodC at ih ⊢
    rw [List.set_cons_succ, List.flatMap_cons, List.flatMap_cons, List.set_append, if_neg (by show ¬ ((i + 1) * 5 + 4 < 5); omega)]
    have : (i + 1) * 5 + 4 - y.cells.length = i * 5 + 4 := by show (i + 1) * 5 + 4 - 5 = _; omega
    rw [this, ih]
theorem own_set {h h' : Heap} {e : TypeId} {sz : Nat} {b n c : Nat} {l : List Value} (O : Own h e sz (some ⟨b, 0, none⟩) n c l) {k : Nat} (hk : k < l.length) {v : Value} {cs : List Value} (o : h[b]? = some (.cells ⟨cs⟩ e (0, 0))) (o' : h'[b]? = some (.cells ⟨spliceL k [v] cs⟩ e (0, 0))) : Own h' e sz (some ⟨b, 0, none⟩) n c (l.set k v) := by
  rcases O with ⟨h0, _⟩ | ⟨b', cs', hb, ob, ht, h1, h2, h3⟩
  · cases h0
  · cases hb
    rw [o] at ob
    cases ob
    have hle : l.length ≤ cs.length := by
      have := congrArg List.length ht
      rw [List.length_take] at this
      omega
    rw [splice_set1 _ _ _ (by omega)] at o'
    refine .inr ⟨b, _, rfl, o', ?_, by rw [List.length_set]; exact h1, by rw [List.length_set]; exact h2, h3⟩
    rw [List.length_set, List.take_set, ht]
/-! ### A world is changed -/

theorem own_ty {h : Heap} {e : TypeId} {sz : Nat} {a : Option Addr} {n c : Nat} {l : List Value} (O : Own h e sz a n c l) : ∀ b ∈ blkA a, ∃ cs, h[b]? = some (.cells cs e (0, 0)) := by
  intro b hb
  rcases O with ⟨rfl, _⟩ | ⟨b', cs, rfl, o, _⟩
  · cases hb
  · have : b = b' := by simpa [blkA] using hb
    subst this
    exact ⟨_, o⟩

theorem WorldH.setNames {h h' : Heap} {z w t : Nat} {V : VL} {aT : Option Addr} {cT : Nat} {L : List NodH} {aN : Option Addr} {cN : Nat} {num : List Int} (W : WorldH h z w t V aT cT L aN cN num) {d : Nat} (hd : d < L.length) {bT : Nat} (haT : aT = some ⟨bT, 0, none⟩) {csT : List Value} (o : h[bT]? = some (.cells ⟨csT⟩ 122 (0, 0))) (k : Keeps [bT] h h') (x : NodH)
    (h1 : x.nd.id = L[d].nd.id) (h2 : x.nd.kind = L[d].nd.kind) (h3 : x.nd.links = L[d].nd.links) (h4 : x.nd.data = L[d].nd.data) (o' : h'[bT]? = some (.cells ⟨spliceL (d * 5 + 4) [.slice x.a x.n x.c] csT⟩ 122 (0, 0)))
    (hx : x.n = x.nd.names.length ∧ Own h 120 2 x.a x.n x.c (entC x.nd.names) ∧ (∀ b ∈ blkA x.a, z ≤ b) ∧ (∀ e ∈ x.nd.names, e.ok) ∧ x.nd.names.length ≤ 105) : WorldH h' z w t V aT cT (L.set d x) aN cN num := by
  have hw : w ≠ bT := cells_ne W.obj o (by decide)
  have ht : t ≠ bT := cells_ne W.tr o (by decide)
  have O' := own_set (haT ▸ W.own) (k := d * 5 + 4) (by rw [nodC_len]; omega) o o'
  rw [nodC_set L d hd x h1 h2 h3 h4, ← haT] at O'
  have nk : ∀ y : NodH, Own h 120 2 y.a y.n y.c (entC y.nd.names) → Own h' 120 2 y.a y.n y.c (entC y.nd.names) := fun y oy => oy.keep k (fun b hb hx => by
    obtain ⟨cs, oc⟩ := own_ty oy b hb
    have := cells_ne oc o (by decide)
    simp at hx; exact this hx)
  refine ⟨k.obj W.obj (by simpa using hw), by rw [List.length_set]; exact k.obj W.tr (by simpa using ht), by rw [List.length_set]; exact O', W.nums.keep k (fun b hb hx => ?_), fun y hy => ?_, W.zw, W.zv⟩
  · obtain ⟨cs, oc⟩ := own_ty W.nums b hb
    have := cells_ne oc o (by decide)
    simp at hx; exact this hx
  · rcases List.mem_or_eq_of_mem_set hy with hy | rfl
    · obtain ⟨n1, n2, n3, n4, n5⟩ := W.nam y hy
      exact ⟨n1, nk y n2, n3, n4, n5⟩
    · exact ⟨hx.1, nk y hx.2.1, hx.2.2⟩

theorem WorldH.pushNode {h h1 h' : Heap} {z w t : Nat} {V : VL} {aT : Option Addr} {cT : Nat} {L : List NodH} {aN : Option Addr} {cN : Nat} {num : List Int} (W : WorldH h z w t V aT cT L aN cN num) {aT' : Option Addr} {cT' : Nat} (k1 : Keeps (blkA aT) h h1) (n1 : ∀ b ∈ blkA aT', b ∈ blkA aT ∨ h.size ≤ b) (x : NodH) (O1 : Own h1 122 5 aT' (L.length + 1) cT' (nodC L ++ x.cells)) (k2 : Keeps [t] h1 h')
    (o' : h'[t]? = some (.cells ⟨[.slice aT' (L.length + 1) cT']⟩ 71 (0, 0))) (hx : x.n = 0 ∧ x.a = none ∧ x.c = 0 ∧ x.nd.names = []) : WorldH h' z w t V aT' cT' (L ++ [x]) aN cN num := by
  obtain ⟨z1, z2, z3, z4⟩ := W.zw
  have ndT : ∀ {b : Nat} {cs : Array Value} {T : TypeId} {fz : Nat × Nat}, h[b]? = some (.cells cs T fz) → T ≠ 122 → b ∉ blkA aT := by
    intro b cs T fz o hne hb
    obtain ⟨cs2, o2⟩ := own_ty W.own b hb
    exact cells_ne o o2 hne rfl
  have ob1 := k1.obj W.obj (ndT W.obj (by decide))
  have tr1 := k1.obj W.tr (ndT W.tr (by decide))
  have nums1 := W.nums.keep k1 (fun b hb => by
    obtain ⟨cs, oc⟩ := own_ty W.nums b hb
    exact ndT oc (by decide))
  have wt : w ≠ t := cells_ne W.obj W.tr (by decide)
  have zh := W.old
  have z1' := k1.size
  have nt : ∀ {b : Nat} {cs : Array Value} {T : TypeId} {fz : Nat × Nat}, h1[b]? = some (.cells cs T fz) → T ≠ 71 → b ∉ [t] := by
    intro b cs T fz o hne hb
    have : b = t := by simpa using hb
    subst this
    exact cells_ne o tr1 hne rfl
  refine ⟨k2.obj ob1 (by simpa using wt), by simpa using o', ?_, nums1.keep k2 (fun b hb => ?_), fun y hy => ?_, ⟨z1, z2, fun b hb => ?_, z4⟩, W.zv⟩
  · have e : nodC (L ++ [x]) = nodC L ++ x.cells := by rw [nodC_app]; unfold nodC; simp
    rw [e, List.length_append]
    exact O1.keep k2 (fun b hb => by
      obtain ⟨cs, oc⟩ := own_ty O1 b hb
      exact nt oc (by decide))
  · obtain ⟨cs, oc⟩ := own_ty nums1 b hb
    exact nt oc (by decide)
  · rcases List.mem_append.1 hy with hy | hy
    · obtain ⟨m1, m2, m3, m4, m5⟩ := W.nam y hy
      have o1 := m2.keep k1 (fun b hb => by
        obtain ⟨cs, oc⟩ := own_ty m2 b hb
        exact ndT oc (by decide))
      exact ⟨m1, o1.keep k2 (fun b hb => by
        obtain ⟨cs, oc⟩ := own_ty o1 b hb
        exact nt oc (by decide)), m3, m4, m5⟩
    · have : y = x := by simpa using hy
      subst this
      obtain ⟨q1, q2, q3, q4⟩ := hx
      rw [q1, q2, q3, q4]
      exact ⟨rfl, .inl ⟨rfl, rfl, rfl, rfl⟩, by simp [blkA], by simp, by simp⟩
  · rcases n1 b hb with h2 | h2
    · exact z3 b h2
    · have := zh.1; omega

theorem WorldH.pushNum {h h1 h' : Heap} {z w t : Nat} {V : VL} {aT : Option Addr} {cT : Nat} {L : List NodH} {aN : Option Addr} {cN : Nat} {num : List Int} (W : WorldH h z w t V aT cT L aN cN num) {aN' : Option Addr} {cN' : Nat} (k1 : Keeps (blkA aN) h h1) (n1 : ∀ b ∈ blkA aN', b ∈ blkA aN ∨ h.size ≤ b) (x : Int) (O1 : Own h1 3 1 aN' (num.length + 1) cN' ((num ++ [x]).map fun x => .int .i64 x)) (k2 : Keeps [w] h1 h')
    (o' : h'[w]? = some (.cells ⟨[.pointer (some ⟨V.v, 0, none⟩), .pointer (some ⟨t, 0, none⟩), .slice aN' (num.length + 1) cN']⟩ 30 (0, 0))) : WorldH h' z w t V aT cT L aN' cN' (num ++ [x]) := by
  obtain ⟨z1, z2, z3, z4⟩ := W.zw
  have ndN : ∀ {b : Nat} {cs : Array Value} {T : TypeId} {fz : Nat × Nat}, h[b]? = some (.cells cs T fz) → T ≠ 3 → b ∉ blkA aN := by
    intro b cs T fz o hne hb
    obtain ⟨cs2, o2⟩ := own_ty W.nums b hb
    exact cells_ne o o2 hne rfl
  have ob1 := k1.obj W.obj (ndN W.obj (by decide))
  have tr1 := k1.obj W.tr (ndN W.tr (by decide))
  have own1 := W.own.keep k1 (fun b hb => by
    obtain ⟨cs, oc⟩ := own_ty W.own b hb
    exact ndN oc (by decide))
  have zh := W.old
  have nw : ∀ {b : Nat} {cs : Array Value} {T : TypeId} {fz : Nat × Nat}, h1[b]? = some (.cells cs T fz) → T ≠ 30 → b ∉ [w] := by
    intro b cs T fz o hne hb
    have : b = w := by simpa using hb
    subst this
    exact cells_ne o ob1 hne rfl
  refine ⟨by simpa using o', k2.obj tr1 (nw tr1 (by decide)), own1.keep k2 (fun b hb => ?_), ?_, fun y hy => ?_, ⟨z1, z2, z3, fun b hb => ?_⟩, W.zv⟩
  · obtain ⟨cs, oc⟩ := own_ty own1 b hb
    exact nw oc (by decide)
  · rw [List.length_append]
    exact O1.keep k2 (fun b hb => by
      obtain ⟨cs, oc⟩ := own_ty O1 b hb
      exact nw oc (by decide))
  · obtain ⟨m1, m2, m3, m4, m5⟩ := W.nam y hy
    have o1 := m2.keep k1 (fun b hb => by
      obtain ⟨cs, oc⟩ := own_ty m2 b hb
      exact ndN oc (by decide))
    exact ⟨m1, o1.keep k2 (fun b hb => by
      obtain ⟨cs, oc⟩ := own_ty o1 b hb
      exact nw oc (by decide)), m3, m4, m5⟩
  · rcases n1 b hb with h2 | h2
    · exact z4 b h2
    · have := zh.1; omega
end Go.Proofs.YtkdmlieckkdmgaaGreatDoor
/-
  Layer 12's statements: a file is put.
-/
set_option linter.all false
set_option maxRecDepth 100000
set_option maxHeartbeats 8000000
namespace Go.Proofs.YtkdmlieckkdmgaaGreatDoor
open Go Go.Eng

def datOf (f : Fil) : List UInt8 := if kindOf f = 2 then [] else f.data.take 130

/-- what a file that is put comes to -/
def PutT (T : List Nod) (num : List Int) (f : Fil) (T' : List Nod) (num' : List Int) : Prop :=
  (T' = T ∧ num' = num) ∨
  ∃ n, 2 ≤ n ∧ n < 24 ∧ (∀ i, inT T i → nu num i ≠ n) ∧ (∀ k, 2 ≤ k → k < n → ∃ i, inT T i ∧ nu num i = k) ∧
    T' = nset T (dirOf f T.length) (insL (tn T (dirOf f T.length)).names ⟨f.name, (T.length : Int)⟩) ++ [⟨n, kindOf f, 1, datOf f, []⟩] ∧ num' = num ++ [n]
def PutG (T : List Nod) (f : Fil) : Prop := (tn T (dirOf f T.length)).kind = 2 ∧ nameB f.name = true ∧ plT (tn T (dirOf f T.length)).names f.name = false ∧ (tn T (dirOf f T.length)).names.length < 10

theorem names_few {B : Int → UInt64} {X : VS} {S : FS} {T : List Nod} {num : List Int} (W : WI B X S T num) {i : Int} (hi : inT T i) (hk : (tn T i).kind = 2) : (tn T i).names.length ≤ 105 := by
  obtain ⟨q1, _, _⟩ := W.w.dir i hi hk
  have hr := W.w.rng i hi
  obtain ⟨m, D⟩ := (W.fs.node (nu num i) (by omega) hr.2).dir (by rw [(W.w.kind i hi).1]; exact hk)
  have h1 := D.few
  rw [q1, List.length_map] at h1
  exact h1

def putBk (V : VL) (w t : Nat) (aT aN : Option Addr) : List Nat := [V.ob, V.sb, V.mb] ++ ([t, w] ++ (blkA aT ++ blkA aN))
theorem putB_in {h : Heap} {z w t : Nat} {V : VL} {aT : Option Addr} {cT : Nat} {L : List NodH} {aN : Option Addr} {cN : Nat} {num : List Int} (H : WorldH h z w t V aT cT L aN cN num) : ∀ x ∈ putBk V w t aT aN, x ∈ V.blocks ∨ z ≤ x := by
  intro x hx
  obtain ⟨z1, z2, z3, z4⟩ := H.zw
  rcases List.mem_append.1 hx with hx | hx
  · left
    simp at hx
    rcases hx with rfl | rfl | rfl <;> simp [VL.blocks]
  · right
    rcases List.mem_append.1 hx with hx | hx
    · simp at hx; omega
    · rcases List.mem_append.1 hx with hx | hx
      · exact z3 x hx
      · exact z4 x hx

theorem subF (a b c d e f g : Nat) (l m : List Nat) : (∀ x ∈ [a, b, c] ++ [d, e], x ∈ [a, b, c] ++ ([d, e, f, g] ++ (l ++ m))) ∧ (∀ x ∈ [b], x ∈ [a, b, c] ++ ([d, e, f, g] ++ (l ++ m))) ∧ (∀ x ∈ [a], x ∈ [a, b, c] ++ ([d, e, f, g] ++ (l ++ m))) ∧ (∀ x ∈ [a, b, c], x ∈ [a, b, c] ++ ([d, e, f, g] ++ (l ++ m))) ∧
    (∀ x ∈ l, x ∈ [a, b, c] ++ ([d, e, f, g] ++ (l ++ m))) ∧ (∀ x ∈ [f], x ∈ [a, b, c] ++ ([d, e, f, g] ++ (l ++ m))) ∧ (∀ x ∈ m, x ∈ [a, b, c] ++ ([d, e, f, g] ++ (l ++ m))) ∧ (∀ x ∈ [g], x ∈ [a, b, c] ++ ([d, e, f, g] ++ (l ++ m))) := by
  refine ⟨fun x hx => ?_, fun x hx => ?_, fun x hx => ?_, fun x hx => ?_, fun x hx => ?_, fun x hx => ?_, fun x hx => ?_, fun x hx => ?_⟩
  · simp at hx ⊢
    rcases hx with h | h | h | h | h <;> simp [h]
  · simp at hx ⊢; simp [hx]
  · simp at hx ⊢; simp [hx]
  · simp at hx ⊢
    rcases hx with h | h | h <;> simp [h]
  · simp [hx]
  · simp at hx ⊢; simp [hx]
  · simp [hx]
  · simp at hx ⊢; simp [hx]

theorem put12_spec {h : Heap} {z w t : Nat} {V : VL} {aT : Option Addr} {cT : Nat} {L : List NodH} {aN : Option Addr} {cN : Nat} {num : List Int} (H : WorldH h z w t V aT cT L aN cN num) {M : MemS} {X : VS} (A : At h V M X) {S : FS} (W : WI M.read X S (nds L) num) (hL : L.length ≤ 20) (f : Fil) (hf : f.ok) :
    CallH Tryz.prog 24 [.pointer (some ⟨w, 0, none⟩), .agg ⟨f.cells⟩] h (fun v h' => ∃ (F : List Nat) (aT' : Option Addr) (cT' : Nat) (L' : List NodH) (aN' : Option Addr) (cN' : Nat) (num' : List Int) (X' : VS) (S' : FS),
      Keeps F h h' ∧ (∀ x ∈ F, x ∈ putBk V w t aT aN ∨ h.size ≤ x) ∧ WorldH h' z w t V aT' cT' L' aN' cN' num' ∧ At h' V M X' ∧ WI M.read X' S' (nds L') num' ∧ PutT (nds L) num f (nds L') num' ∧ (PutG (nds L) f → (nds L').length = (nds L).length + 1)) := by
  have htwo : 2 ≤ L.length := by have := W.w.two; rw [nds_len] at this; exact this
  have hdin := dirOf_in (f := f) htwo
  have hkin := kindOf_in f
  have hzw := H.zw
  -- where all stays
  have stay : ∀ (h' : Heap) (X' : VS) (S' : FS), Keeps [V.ob, V.sb, V.mb] h h' → At h' V M X' → WI M.read X' S' (nds L) num → ¬ PutG (nds L) f → ∃ (F : List Nat) (aT' : Option Addr) (cT' : Nat) (L' : List NodH) (aN' : Option Addr) (cN' : Nat) (num' : List Int) (X' : VS) (S' : FS),
      Keeps F h h' ∧ (∀ x ∈ F, x ∈ putBk V w t aT aN ∨ h.size ≤ x) ∧ WorldH h' z w t V aT' cT' L' aN' cN' num' ∧ At h' V M X' ∧ WI M.read X' S' (nds L') num' ∧ PutT (nds L) num f (nds L') num' ∧ (PutG (nds L) f → (nds L').length = (nds L).length + 1) := by
    intro h' X' S' k A' W' hg
    refine ⟨_, aT, cT, L, aN, cN, num, X', S', k, fun x hx => .inl (List.mem_append_left _ hx), H.keep k (fun x hx => H.zv x ?_), A', W', .inl ⟨rfl, rfl⟩, fun h => absurd h hg⟩
    simp at hx
    rcases hx with rfl | rfl | rfl <;> simp [VL.blocks]
  refine call_of hmix Tryz.func24 rfl ok24 (by simp [Tryz.f24]) ?_
  conv => whnf
  refine AllocR.i fun b1 h1 e1 s1 o1 k1 => ?_
  have H1 := H.keep k1 (by simp)
  have A1 := A.on k1
  have z0 : z ≤ h.size := by have := obj_lt H.obj; omega
  conv => whnf
  refine LoadR.o H1.obj rfl ?_
  conv => whnf
  refine LoadR.o H1.tr rfl ?_
  have ew : IntKind.u64.wrap (IntKind.i64.wrap ((L.length : Int) - 1)) = ((L.length - 1 : Nat) : Int) := by
    rw [wrapN (x := (L.length : Int) - 1) (n := L.length - 1) (by omega) (by omega), wrap_u64']; omega
  conv => whnf
  rw [ew]
  refine Need.i (by omega) ?_
  conv => whnf
  refine Need.i (by decide) ?_
  have hbs : (ba f.data).size = f.data.length := bs_size _
  have emin : (if (130 : Int) < ((ba f.data).size : Int) then (130 : Int) else ((ba f.data).size : Int)) = ((min f.data.length 130 : Nat) : Int) := by
    rw [hbs]; split <;> omega
  conv => whnf
  refine SliceR.i 0 (min f.data.length 130) rfl emin (Nat.zero_le _) (by rw [hbs]; omega) ?_
  have eda : ByteArray.extract (ba f.data) 0 (min f.data.length 130) = ba (f.data.take 130) := by
    have h1 : ByteArray.extract (ba f.data) 0 (min f.data.length 130) = ⟨((f.data.take (min f.data.length 130)).drop 0).toArray⟩ := bs_extract _ _ _
    rw [h1, List.drop_zero]
    have : f.data.take (min f.data.length 130) = f.data.take 130 := by
      rw [show min f.data.length 130 = min 130 f.data.length by omega, ← List.take_take, List.take_length]
    rw [this]; rfl
  have ed : IntKind.i64.wrap (1 + IntKind.i64.wrap ((IntKind.u64.wrap f.in_).tmod ((L.length - 1 : Nat) : Int))) = ((dirOf f L.length : Nat) : Int) := by
    have h1 : IntKind.u64.wrap f.in_ = ((u64N f.in_ : Nat) : Int) := by rw [wrap_u64']; unfold u64N; omega
    have h2 : ((u64N f.in_ : Nat) : Int).tmod ((L.length - 1 : Nat) : Int) = ((u64N f.in_ % (L.length - 1) : Nat) : Int) := rfl
    have h3 := Nat.mod_lt (u64N f.in_) (show 0 < L.length - 1 by omega)
    rw [h1, h2, wrapN (n := u64N f.in_ % (L.length - 1)) rfl (by omega)]
    unfold dirOf
    exact wrapN (by simp) (by omega)
  have ek : IntKind.i64.wrap (1 + IntKind.i64.wrap ((IntKind.u64.wrap f.kind).tmod 3)) = kindOf f := by
    have h1 : IntKind.u64.wrap f.kind = ((u64N f.kind : Nat) : Int) := by rw [wrap_u64']; unfold u64N; omega
    have h2 : ((u64N f.kind : Nat) : Int).tmod 3 = ((u64N f.kind % 3 : Nat) : Int) := rfl
    have h3 := Nat.mod_lt (u64N f.kind) (show 0 < 3 by decide)
    rw [h1, h2, wrapN (n := u64N f.kind % 3) rfl (by omega)]
    unfold kindOf
    exact wrapI (by omega) (by omega)
  conv => whnf
  refine LoadR.o H1.obj rfl ?_
  conv => whnf
  refine LoadR.o H1.tr rfl ?_
  conv => whnf
  rw [ed, ek, eda]
  have hd1 : dirOf f L.length < L.length := hdin.2
  have hdT : inT (nds L) (dirOf f L.length : Int) := by unfold inT; rw [nds_len]; omega
  have htn : tn (nds L) (dirOf f L.length : Int) = (L[dirOf f L.length]'hd1).nd := tn_nds hd1
  obtain ⟨bT, csT, haT, oT, hcT, htkT, hleT⟩ := own_cell H1.own (k := dirOf f L.length * 5 + 1) (by rw [nodC_len]; omega)
  have hgT : ∀ j, j < 5 → Heap.cell? h1 bT (0 + dirOf f L.length * 5 + j) = ((L[dirOf f L.length]'hd1).cells)[j]? := by
    intro j hj
    obtain ⟨b', cs', ha', o', hc', _⟩ := own_cell H1.own (k := dirOf f L.length * 5 + j) (by rw [nodC_len]; omega)
    rw [haT] at ha'
    cases ha'
    rw [Nat.zero_add, hc', nodC_get L _ j hd1 hj]
  refine IdxS.i (dirOf f L.length) rfl hd1 haT ?_
  conv => whnf
  refine LoadR.i (hgT 1 (by decide)) ?_
  by_cases hk2 : (L[dirOf f L.length]'hd1).nd.kind = 2
  · rw [hk2]
    conv => whnf
    refine IfR.f rfl ?_
    obtain ⟨nn1, nn2, nn3, nn4, nn5⟩ := H1.nam _ (List.getElem_mem hd1)
    have S1 := own_ents nn2 nn4 (by omega)
    conv => whnf
    refine LoadR.o H1.obj rfl ?_
    conv => whnf
    refine LoadR.o H1.tr rfl ?_
    conv => whnf
    refine IdxS.i (dirOf f L.length) rfl hd1 haT ?_
    conv => whnf
    refine LoadR.i (hgT 4 (by decide)) ?_
    conv => whnf
    refine CallR.i (refAdd_spec S1 (by rw [nn1]; omega) f.name hf.2.2.1 1 ⟨by decide, by decide⟩ nn4) fun v h2 k2 hv => ?_
    obtain ⟨a7, c7, rfl, O7, n7⟩ := hv
    have H2 := H1.keep k2 (by simp)
    have A2 := A1.on k2
    have z1 := k1.size
    have z2 := k2.size
    have nb1 : ∀ b ∈ V.blocks, b ≠ b1 := fun b hb => by have := H.zv b hb; omega
    conv => whnf
    refine LoadR.o H2.obj rfl ?_
    conv => whnf
    refine CallR.m (node_spec A2 (kindOf f)) (fun y hy hx => by
        have hy2 : y = b1 := by simpa [blocksOf, setB] using hy
        have q1 := nb1 V.ob (by simp [VL.blocks])
        have q2 := nb1 V.sb (by simp [VL.blocks])
        have q3 := nb1 V.mb (by simp [VL.blocks])
        simp at hx; omega) fun v h3 k3 hv => ?_
    obtain ⟨rfl, A3⟩ := hv
    have H3 := H2.keep k3 (fun x hx => by
      apply H.zv
      simp at hx
      rcases hx with rfl | rfl | rfl <;> simp [VL.blocks])
    have k03 : Keeps [V.ob, V.sb, V.mb] h h3 := ((k1.trans k2).mono (by simp)).trans k3
    have hTk : (tn (nds L) (dirOf f L.length : Int)).kind = 2 := by rw [htn]; exact hk2
    rcases node_found W hkin with ⟨hn9, hT20⟩ | ⟨n, ver, hnP, hn2, hn24, hn0, hleast⟩
    · rw [nds_len] at hT20
      omega
    · rw [hnP] at A3
      rw [hnP]
      simp only at A3 ⊢
      have e7 : (refAdd (L[dirOf f L.length]'hd1).nd.names f.name 1).2 = 0 ∧ nameB f.name = true ∧ plT (L[dirOf f L.length]'hd1).nd.names f.name = false ∧ (refAdd (L[dirOf f L.length]'hd1).nd.names f.name 1).1 = insL (L[dirOf f L.length]'hd1).nd.names ⟨f.name, 1⟩ ∨
          (refAdd (L[dirOf f L.length]'hd1).nd.names f.name 1).2 ≠ 0 ∧ (nameB f.name = false ∨ plT (L[dirOf f L.length]'hd1).nd.names f.name = true) := by
        unfold refAdd
        rw [if_neg (by decide)]
        by_cases q1 : nameB f.name = false
        · rw [if_pos q1]; exact .inr ⟨by decide, .inl q1⟩
        · rw [if_neg q1]
          by_cases q2 : plT (L[dirOf f L.length]'hd1).nd.names f.name = true
          · rw [if_pos q2]; exact .inr ⟨by decide, .inr q2⟩
          · rw [if_neg q2]; exact .inl ⟨rfl, by simpa using q1, by simpa using q2, rfl⟩
      rcases e7 with ⟨e70, hname, hpt, hins⟩ | ⟨e70, hbad⟩
      · rw [e70]
        rw [hins] at O7 ⊢
        conv => whnf
        refine IfR.f rfl ?_
        have hvin : ∀ y ∈ [V.ob, V.sb, V.mb], y < z := fun y hy => by
          apply H.zv
          simp at hy
          rcases hy with rfl | rfl | rfl <;> simp [VL.blocks]
        have hADD := W.added (data := datOf f) (v := ver) (by rw [nds_len]; exact hL) hdT hTk hkin ⟨hn2, hn24⟩ hn0 hname (by rw [htn]; exact hpt) (by
          unfold datOf
          split
          · simp
          · rw [List.length_take]; omega) (fun h => by unfold datOf; rw [if_pos h])
        have hnl := W.w.len
        rw [nds_len] at hnl
        obtain ⟨bN, csN, haN, oN, hcN, _, _⟩ := own_cell H3.nums (k := dirOf f L.length) (by rw [List.length_map]; omega)
        have hnu : nu num (dirOf f L.length : Int) = num[dirOf f L.length]'(by omega) := by
          unfold nu
          rw [Int.toNat_natCast, List.getElem?_eq_getElem (by omega)]; rfl
        have hcN2 : Heap.cell? h3 bN (0 + dirOf f L.length * 1) = some (.int .i64 (nu num (dirOf f L.length : Int))) := by
          rw [show 0 + dirOf f L.length * 1 = dirOf f L.length by omega, hcN, hnu, List.getElem?_map, List.getElem?_eq_getElem (by omega)]
          rfl
        conv => whnf
        refine LoadR.o H3.obj rfl ?_
        conv => whnf
        refine IdxS.i (dirOf f L.length) rfl (by omega) haN ?_
        conv => whnf
        refine LoadR.i hcN2 ?_
        generalize hat : nu num (dirOf f L.length : Int) = at_ at hADD
        have hatr : 0 ≤ at_ ∧ at_ < 24 := by have := W.w.rng _ hdT; omega
        conv => whnf
        refine LoadR.o H3.obj rfl ?_
        have z3 := k3.size
        conv => whnf
        refine CallR.m (vcard_spec A3 at_) (fun y hy hx => by
            have := hvin V.sb (by simp)
            have hy2 : y = b1 := by simpa [blocksOf, setB] using hy
            simp at hx; omega) fun v h4 k4 hv => ?_
        rw [if_pos hatr] at hv
        obtain ⟨rfl, A4⟩ := hv
        have hcAt := hADD.cAt
        rw [hat] at hcAt
        rw [hcAt]
        unfold cardT
        have z4 := k4.size
        have H4 := H3.keep k4 (fun x hx => by have := hvin V.sb (by simp); simp at hx; omega)
        conv => whnf
        refine AllocR.i fun b5 h5 e5 s5 o5 k5 => ?_
        conv => whnf
        refine BoxR.i fun h6 s6 k6 => ?_
        have k46 : Keeps [] h4 h6 := k5.new1 k6 (by omega)
        have A6 := A4.on k46
        have H6 := H4.keep k46 (by simp)
        have z46 := k46.size
        have hokAt := hADD.okAt
        rw [hat] at hokAt
        have hfail := hADD.fail
        have hgood := hADD.good
        rw [hat] at hfail hgood
        conv => whnf
        refine LoadR.o H6.obj rfl ?_
        have zh6 : z ≤ h6.size := by omega
        conv => whnf
        refine BothR.i ?c1 ?c2
        case' c1 =>
          conv => whnf
          refine CallR.m (add_spec A6 at_ (S.C at_) hokAt f.name hf.2.2.1 n) (fun y hy hx => by
              have := hvin V.ob (by simp)
              have hy2 : y = b1 ∨ y = b5 := by simpa [blocksOf, setB] using hy
              simp at hx; omega) fun v h7 k7 hv => ?_
          obtain ⟨rfl, A7⟩ := hv
          conv => whnf
          refine AllocR.i fun b8 h8 e8 s8 o8 k8 => ?_
          conv => whnf
          refine BoxR.i fun h9 s9 k9 => ?_
          have z7 := k7.size
          have z8 := k8.size
          have k69 : Keeps [V.ob] h6 h9 := (k7.trans_nil k8).m1 k9 (by omega)
          have A9 := (A7.on k8).keep k9 (fun b hb => by have := H.zv b hb; simp; omega)
          have hb8 : h6.size ≤ b8 := by omega
        case' c2 =>
          conv => whnf
          refine AllocR.i fun b8 h7 e8 s8 o8 k8 => ?_
          conv => whnf
          refine CallR.m (add_spec (A6.on k8) at_ (S.C at_) hokAt f.name hf.2.2.1 n) (fun y hy hx => by
              have := hvin V.ob (by simp)
              have hy2 : y = b1 ∨ y = b5 ∨ y = b8 := by simpa [blocksOf, setB] using hy
              simp at hx; omega) fun v h8 k7 hv => ?_
          obtain ⟨rfl, A7⟩ := hv
          conv => whnf
          refine BoxR.i fun h9 s9 k9 => ?_
          have z7 := k7.size
          have z8 := k8.size
          have k69 : Keeps [V.ob] h6 h9 := ((k8.mono (by simp)).trans k7).m1 k9 (by omega)
          have A9 := A7.keep k9 (fun b hb => by have := H.zv b hb; simp; omega)
          have hb8 : h6.size ≤ b8 := by omega
        all_goals
          generalize addP M.read (seeS (setS X n (freshC (kindOf f) ver)) at_) at_ (S.C at_) f.name n = r at *
          have H9 := H6.keep k69 (fun x hx => by have := hvin V.ob (by simp); simp at hx; omega)
          have z69 := k69.size
          have k09 : Keeps [V.ob, V.sb, V.mb] h h9 := ((k03.trans (k4.mono (by simp))).trans_nil k46).trans (k69.mono (by simp))
          by_cases hr0 : r.2.1 = 0
          · rw [hr0]
            conv => whnf
            refine IfR.f rfl ?_
            obtain ⟨ro, rr, hX4⟩ := hgood hr0
            obtain ⟨g1, g2, g3, g4, g5, S', g6⟩ := hX4 _ rfl
            conv => whnf
            refine LoadR.o H9.obj rfl ?_
            conv => whnf
            refine CallR.m (vset_spec A9 at_ hatr r.1 ro rr) (fun y hy hx => by
                have q1 := hvin y hx
                have hy2 : y = b1 ∨ y = b5 ∨ y = b8 := by simpa [blocksOf, setB] using hy
                omega) fun v h10 k10 hv => ?_
            obtain ⟨rfl, A10⟩ := hv
            generalize hX4e : setS r.2.2 at_ r.1 = X4 at *
            have z10 := k10.size
            have H10 := H9.keep k10 (fun x hx => hvin x hx)
            have k0_10 : Keeps [V.ob, V.sb, V.mb] h h10 := k09.trans k10
            have k2_10 : Keeps [V.ob, V.sb, V.mb] h2 h10 := (((k3.trans (k4.mono (by simp))).trans_nil k46).trans (k69.mono (by simp))).trans k10
            have nok : ∀ e ∈ insL (L[dirOf f L.length]'hd1).nd.names ⟨f.name, 1⟩, e.ok := fun e he => by
              rcases List.mem_cons.1 ((insL_perm _ _).mem_iff.1 he) with rfl | h
              · exact ⟨hf.2.2.1, (show (-9223372036854775808 : Int) ≤ 1 by decide), (show (1 : Int) ≤ 9223372036854775807 by decide)⟩
              · exact nn4 e h
            have O10 : Own h10 120 2 a7 (insL (L[dirOf f L.length]'hd1).nd.names ⟨f.name, 1⟩).length c7 (entC (insL (L[dirOf f L.length]'hd1).nd.names ⟨f.name, 1⟩)) := O7.keep k2_10 (fun b hb hx => by have := n7 b hb; have := hvin b hx; omega)
            have hl1 := insL_len (L[dirOf f L.length]'hd1).nd.names ⟨f.name, 1⟩
            have S10 := own_ents O10 nok (by omega)
            conv => whnf
            refine CallR.i (place_spec S10 (by omega) f.name hf.2.2.1) fun v h11 k11 hv => ?_
            subst hv
            rw [plK_ins]
            have z11 := k11.size
            have H11 := H10.keep k11 (by simp)
            have A11 := A10.on k11
            have O11 := O10.keep k11 (by simp)
            have hkle := plK_le (L[dirOf f L.length]'hd1).nd.names f.name
            obtain ⟨b7, cs7, ha7, o7, _, ht7, hl7⟩ := own_cell O11 (k := 0) (by rw [entC_len]; omega)
            have hb7 : h1.size ≤ b7 ∧ b7 < h2.size := by
              have hm : b7 ∈ blkA a7 := by rw [ha7]; simp [blkA]
              exact ⟨n7 b7 hm, O7.lt b7 hm⟩
            conv => whnf
            refine LoadR.o H11.obj rfl ?_
            conv => whnf
            refine LoadR.o H11.tr rfl ?_
            conv => whnf
            refine IdxS.i (plK (L[dirOf f L.length]'hd1).nd.names f.name) rfl (by omega) ha7 ?_
            have hkl : plK (L[dirOf f L.length]'hd1).nd.names f.name * 2 + 1 < (entC (insL (L[dirOf f L.length]'hd1).nd.names ⟨f.name, 1⟩)).length := by rw [entC_len, hl1]; omega
            conv => whnf
            refine StoreR.i o7 ?_ ?_ fun h12 s12 o12 k12 => ?_
            · show 0 + plK (L[dirOf f L.length]'hd1).nd.names f.name * 2 + 1 + 1 ≤ cs7.length
              omega
            · intro hy
              have hy2 : b7 = b1 ∨ b7 = b5 ∨ b7 = b8 := by simpa [blocksOf, setB] using hy
              omega
            have o12' : h12[b7]? = some (.cells ⟨spliceL (plK (L[dirOf f L.length]'hd1).nd.names f.name * 2 + 1) [.int .i64 (L.length : Int)] cs7⟩ 120 (0, 0)) := by
              have : 0 + plK (L[dirOf f L.length]'hd1).nd.names f.name * 2 + 1 = plK (L[dirOf f L.length]'hd1).nd.names f.name * 2 + 1 := by omega
              rw [← this]; exact o12
            have O12 := own_set (ha7 ▸ O11) hkl o7 o12'
            rw [ins_set] at O12
            have H12 := H.keepW H11 k12 (fun x hx => by simp at hx; omega)
            have A12 := A11.keep k12 (fun b hb => by have := H.zv b hb; simp; omega)
            have htk := htn ▸ hTk
            conv => whnf
            refine LoadR.o H12.obj rfl ?_
            conv => whnf
            refine LoadR.o H12.tr rfl ?_
            have oT12 : h12[bT]? = some (.cells ⟨csT⟩ 122 (0, 0)) := by
              have q1 : bT < h.size := by
                obtain ⟨_, _, o3, _⟩ := H.old
                exact o3 bT (by rw [haT]; simp [blkA])
              have q2 : z ≤ bT := hzw.2.2.1 bT (by rw [haT]; simp [blkA])
              have r1 := (k2.obj oT (by simp))
              have r2 := k2_10.obj r1 (fun hx => by have := hvin bT hx; omega)
              have r3 := k11.obj r2 (by simp)
              exact k12.obj r3 (by simp; omega)
            conv => whnf
            refine IdxS.i (dirOf f L.length) rfl hd1 haT ?_
            conv => whnf
            refine StoreR.i oT12 ?_ ?_ fun h13 s13 o13 k13 => ?_
            · show 0 + dirOf f L.length * 5 + 4 + 1 ≤ csT.length
              rw [nodC_len] at hleT
              omega
            · intro hy
              have q1 : bT < h.size := by
                obtain ⟨_, _, o3, _⟩ := H.old
                exact o3 bT (by rw [haT]; simp [blkA])
              have hy2 : bT = b1 ∨ bT = b5 ∨ bT = b8 := by simpa [blocksOf, setB] using hy
              omega
            have o13' : h13[bT]? = some (.cells ⟨spliceL (dirOf f L.length * 5 + 4) [.slice a7 (insL (L[dirOf f L.length]'hd1).nd.names ⟨f.name, 1⟩).length c7] csT⟩ 122 (0, 0)) := by
              have : 0 + dirOf f L.length * 5 + 4 = dirOf f L.length * 5 + 4 := by omega
              rw [← this]; exact o13
            have hnlen : (insL (L[dirOf f L.length]'hd1).nd.names ⟨f.name, 1⟩).length = (insL (L[dirOf f L.length]'hd1).nd.names ⟨f.name, (L.length : Int)⟩).length := by rw [insL_len, insL_len]
            have hLT : (nds L).length = L.length := nds_len L
            have hnfew : (insL (L[dirOf f L.length]'hd1).nd.names ⟨f.name, (L.length : Int)⟩).length ≤ 105 := by
              have hts := tn_set hdT (insL (L[dirOf f L.length]'hd1).nd.names ⟨f.name, (L.length : Int)⟩) ⟨n, kindOf f, 1, datOf f, []⟩ (i := (dirOf f L.length : Int)) ⟨hdT.1, by have := hdT.2; omega⟩
              rw [if_neg (by omega), if_pos rfl] at hts
              have q0 := g6
              rw [htn, hLT] at q0
              have q2 := names_few q0 (i := (dirOf f L.length : Int)) ⟨hdT.1, by unfold nset; simp; have := hdT.2; omega⟩ (by rw [hts]; exact hTk)
              rw [hts] at q2
              exact q2
            have H13 := H12.setNames hd1 haT oT12 k13 ⟨{ (L[dirOf f L.length]'hd1).nd with names := insL (L[dirOf f L.length]'hd1).nd.names ⟨f.name, (L.length : Int)⟩ }, a7, (insL (L[dirOf f L.length]'hd1).nd.names ⟨f.name, 1⟩).length, c7⟩ rfl rfl rfl rfl o13'
              ⟨hnlen, by rw [ha7]; exact O12, fun b hb => by have := n7 b hb; omega, fun e he => by
                rcases List.mem_cons.1 ((insL_perm _ _).mem_iff.1 he) with rfl | h
                · exact ⟨hf.2.2.1, by show (-9223372036854775808 : Int) ≤ (L.length : Int); omega, by show (L.length : Int) ≤ 9223372036854775807; omega⟩
                · exact nn4 e h, hnfew⟩
            have A13 := A12.keep k13 (fun b hb => by
              have := H.zv b hb
              have q2 : z ≤ bT := hzw.2.2.1 bT (by rw [haT]; simp [blkA])
              simp; omega)
            generalize hL1 : L.set (dirOf f L.length) ⟨{ (L[dirOf f L.length]'hd1).nd with names := insL (L[dirOf f L.length]'hd1).nd.names ⟨f.name, (L.length : Int)⟩ }, a7, (insL (L[dirOf f L.length]'hd1).nd.names ⟨f.name, 1⟩).length, c7⟩ = L1 at H13
            have hL1l : L1.length = L.length := by rw [← hL1, List.length_set]
            have hnds : nds L1 = nset (nds L) (dirOf f L.length : Int) (insL (tn (nds L) (dirOf f L.length : Int)).names ⟨f.name, ((nds L).length : Int)⟩) := by
              unfold nset
              rw [Int.toNat_natCast, htn, hLT, ← hL1]
              unfold nds
              rw [List.map_set]
            have hnds2 : nds (L1 ++ [⟨⟨n, kindOf f, 1, datOf f, []⟩, none, 0, 0⟩]) = nset (nds L) (dirOf f L.length : Int) (insL (tn (nds L) (dirOf f L.length : Int)).names ⟨f.name, ((nds L).length : Int)⟩) ++ [⟨n, kindOf f, 1, datOf f, []⟩] := by
              rw [← hnds]; unfold nds; rw [List.map_append]; rfl
            have hnnew : ∀ i, inT (nds L) i → nu num i ≠ n := fun i hi e => by
              have q1 := W.w.kind i hi
              rw [e, hn0] at q1
              omega
            have hnleast : ∀ k, 2 ≤ k → k < n → ∃ i, inT (nds L) i ∧ nu num i = k := fun k q1 q2 => W.all k (by omega) (by omega) (hleast k q1 q2)
            by_cases hk3 : kindOf f = 2
            case' pos =>
              conv => whnf
              first | refine IfR.t (by simp; exact hk3) ?_ | (refine MeetR.pass ?_; (conv => whnf); refine IfR.t (by simp; exact hk3) ?_)
              conv => whnf
              have hdat : datOf f = [] := by unfold datOf; rw [if_pos hk3]
              have e0 : (Value.string ⟨#[]⟩) = Value.string (ba (datOf f)) := by rw [hdat]; rfl
              rw [e0]
            case' neg =>
              conv => whnf
              first | refine IfR.f (by simp; exact hk3) ?_ | (refine MeetR.pass ?_; (conv => whnf); refine IfR.f (by simp; exact hk3) ?_)
              conv => whnf
              have hdat : datOf f = f.data.take 130 := by unfold datOf; rw [if_neg hk3]
              rw [← hdat]
            all_goals
              have hdl : (datOf f).length ≤ 130 := by
                rw [hdat]
                first
                  | simp; done
                  | (rw [List.length_take]; omega)
              refine LoadR.o H13.obj rfl ?_
              have k0_13 : Keeps ([V.ob, V.sb, V.mb] ++ [b7, bT]) h h13 := (((k0_10.trans_nil k11).mono (by simp)).trans (k12.mono (by simp))).trans (k13.mono (by simp))
              have z0_13 := k0_13.size
              have zT := H.old
              conv => whnf
              refine CallR.m (vcard_spec A13 n) (fun y hy hx => by
                  have := hvin V.sb (by simp)
                  have hy2 : y = b1 ∨ y = b5 ∨ y = b8 := by simpa [blocksOf, setB] using hy
                  simp at hx; omega) fun v h14 k14 hv => ?_
              rw [if_pos (show 0 ≤ n ∧ n < 24 by omega)] at hv
              obtain ⟨rfl, A14⟩ := hv
              rw [g1]
              unfold cardT
              have z14 := k14.size
              have H14 := H13.keep k14 (fun x hx => by have := hvin V.sb (by simp); simp at hx; omega)
              conv => whnf
              refine AllocR.i fun b15 h15 e15 s15 o15 k15 => ?_
              conv => whnf
              refine BoxR.i fun h16 s16 k16 => ?_
              have k14_16 : Keeps [] h14 h16 := k15.new1 k16 (by omega)
              have A16 := A14.on k14_16
              have H16 := H14.keep k14_16 (by simp)
              have z14_16 := k14_16.size
              conv => whnf
              refine LoadR.o H16.obj rfl ?_
              conv => whnf
              refine BothR.i ?_ ?_
              case' refine_1 =>
                conv => whnf
                refine CallR.m (write_spec A16 n (freshC (kindOf f) ver) (freshC_ok hkin ver).1 g2 0 (datOf f)) (fun y hy hx => by
                    have := hvin V.ob (by simp)
                    have hy2 : y = b1 ∨ y = b5 ∨ y = b8 ∨ y = b15 := by simpa [blocksOf, setB] using hy
                    simp at hx; omega) fun v h17 k17 hv => ?_
                obtain ⟨rfl, A17⟩ := hv
                conv => whnf
                refine AllocR.i fun b18 h18 e18 s18 o18 k18 => ?_
                conv => whnf
                refine BoxR.i fun h19 s19 k19 => ?_
                have z17 := k17.size
                have z18 := k18.size
                have k16_19 : Keeps [V.ob] h16 h19 := (k17.trans_nil k18).m1 k19 (by omega)
                have A19 := (A17.on k18).keep k19 (fun b hb => by have := H.zv b hb; simp; omega)
                have hb18 : h16.size ≤ b18 := by omega
              case' refine_2 =>
                conv => whnf
                refine AllocR.i fun b18 h17 e18 s18 o18 k18 => ?_
                conv => whnf
                refine CallR.m (write_spec (A16.on k18) n (freshC (kindOf f) ver) (freshC_ok hkin ver).1 g2 0 (datOf f)) (fun y hy hx => by
                    have := hvin V.ob (by simp)
                    have hy2 : y = b1 ∨ y = b5 ∨ y = b8 ∨ y = b15 ∨ y = b18 := by simpa [blocksOf, setB] using hy
                    simp at hx; omega) fun v h18 k17 hv => ?_
                obtain ⟨rfl, A17⟩ := hv
                conv => whnf
                refine BoxR.i fun h19 s19 k19 => ?_
                have z17 := k17.size
                have z18 := k18.size
                have k16_19 : Keeps [V.ob] h16 h19 := ((k18.mono (by simp)).trans k17).m1 k19 (by omega)
                have A19 := A17.keep k19 (fun b hb => by have := H.zv b hb; simp; omega)
                have hb18 : h16.size ≤ b18 := by omega
              all_goals
                generalize writeP M.read (seeS X4 n) n (freshC (kindOf f) ver) 0 (datOf f) = r2 at *
                have H19 := H16.keep k16_19 (fun x hx => by have := hvin V.ob (by simp); simp at hx; omega)
                have z16_19 := k16_19.size
                rw [g3]
                conv => whnf
                first | refine IfR.t rfl ?_ | (refine MeetR.pass ?_; (conv => whnf); refine IfR.t rfl ?_)
                conv => whnf
                refine LoadR.o H19.obj rfl ?_
                conv => whnf
                refine CallR.m (vset_spec A19 n (by omega) r2.1 g4 g5) (fun y hy hx => by
                  have q1 := hvin y hx
                  have hy2 : y = b1 ∨ y = b5 ∨ y = b8 ∨ y = b15 ∨ y = b18 := by simpa [blocksOf, setB] using hy
                  omega) fun v h20 k20 hv => ?_
                obtain ⟨rfl, A20⟩ := hv
                have z20 := k20.size
                have H20 := H19.keep k20 (fun x hx => hvin x hx)
                conv => whnf
                refine LoadR.o H20.obj rfl ?_
                conv => whnf
                refine LoadR.o H20.tr rfl ?_
                obtain ⟨zT1, zT2, zT3, zT4, zT5⟩ := zT
                conv => whnf
                refine BothR.i ?_ ?_
                case' refine_1 =>
                  conv => whnf
                  refine LoadR.o H20.obj rfl ?_
                  conv => whnf
                  refine AllocR.i fun b21 h21 e21 s21 o21 k21 => ?_
                  have z21 := k21.size
                  have H21 := H20.keep k21 (by simp)
                  conv => whnf
                case' refine_2 =>
                  conv => whnf
                  refine AllocR.i fun b21 h21 e21 s21 o21 k21 => ?_
                  have z21 := k21.size
                  have H21 := H20.keep k21 (by simp)
                  conv => whnf
                  refine BothR.i ?_ ?_
                  case' refine_1 =>
                    conv => whnf
                    refine LoadR.o H21.obj rfl ?_
                    conv => whnf
                  case' refine_2 =>
                    conv => whnf
                all_goals
                  refine append_own (e := 122) (sz := 5) (by_ := 64) (new := NodH.cells ⟨⟨n, kindOf f, 1, datOf f, []⟩, none, 0, 0⟩) rfl rfl rfl rfl rfl rfl rfl H21.own rfl ?_ rfl (by omega) (by omega) ?_ ?_
                  · intro j hj
                    unfold Heap.cell?
                    rw [o21]
                    have : j = 0 ∨ j = 1 ∨ j = 2 ∨ j = 3 ∨ j = 4 := by simp [NodH.cells] at hj; omega
                    rcases this with rfl | rfl | rfl | rfl | rfl <;> rfl
                  · intro y hy hx2
                    have := zT3 y hy
                    have hx3 : y = b1 ∨ y = b5 ∨ y = b8 ∨ y = b15 ∨ y = b18 := by simpa [blocksOf, setB] using hx2
                    omega
                  · intro a22 c22 h22 O22 k22 n22
                    have z22 := k22.size
                    have obj22 := k22.obj H21.obj (fun hb => by
                      obtain ⟨cs, oc⟩ := own_ty H21.own w hb
                      exact cells_ne H21.obj oc (by decide) rfl)
                    have tr22 := k22.obj H21.tr (fun hb => by
                      obtain ⟨cs, oc⟩ := own_ty H21.own t hb
                      exact cells_ne H21.tr oc (by decide) rfl)
                    have htb : t ∉ ([] : List Nat) := by simp
                    first
                      | ((conv => whnf); refine StoreR.i tr22 (Nat.le_of_ble_eq_true rfl) ?_ fun h23 s23 o23 k23 => ?_)
                      | ((conv => whnf); refine LoadR.o obj22 rfl ?_; (conv => whnf); refine StoreR.i tr22 (Nat.le_of_ble_eq_true rfl) ?_ fun h23 s23 o23 k23 => ?_)
                    · intro hx2
                      have hx3 : t = b1 ∨ t = b5 ∨ t = b8 ∨ t = b15 ∨ t = b18 := by simpa [blocksOf, setB] using hx2
                      omega
                    · have H23 := H21.pushNode k22 n22 ⟨⟨n, kindOf f, 1, datOf f, []⟩, none, 0, 0⟩ O22 k23 o23 ⟨rfl, rfl, rfl, rfl⟩
                      have z23 := k23.size
                      conv => whnf
                      refine LoadR.o H23.obj rfl ?_
                      conv => whnf
                      refine AllocR.i fun b24 h24 e24 s24 o24 k24 => ?_
                      have z24 := k24.size
                      have H24 := H23.keep k24 (by simp)
                      have hnl := W.w.len
                      conv => whnf
                      refine append_own (e := 3) (sz := 1) (by_ := 8) (new := [.int .i64 n]) rfl rfl rfl rfl rfl rfl rfl H24.nums rfl ?_ rfl (by omega) (by decide) ?_ ?_
                      · intro j hj
                        have hj0 : j = 0 := by simpa using hj
                        subst hj0
                        simp only [Heap.cell?, o24]; rfl
                      · intro y hy hx2
                        have := zT4 y hy
                        have hx3 : y = b1 ∨ y = b5 ∨ y = b8 ∨ y = b15 ∨ y = b18 := by simpa [blocksOf, setB] using hx2
                        omega
                      · intro a25 c25 h25 O25 k25 n25
                        have z25 := k25.size
                        have obj25 := k25.obj H24.obj (fun hb => by
                          obtain ⟨cs, oc⟩ := own_ty H24.nums w hb
                          exact cells_ne H24.obj oc (by decide) rfl)
                        conv => whnf
                        refine StoreR.i obj25 (Nat.le_of_ble_eq_true rfl) ?_ fun h26 s26 o26 k26 => ?_
                        · intro hx2
                          have hx3 : w = b1 ∨ w = b5 ∨ w = b8 ∨ w = b15 ∨ w = b18 := by simpa [blocksOf, setB] using hx2
                          omega
                        · have H26 := H24.pushNum k25 n25 n (by rw [List.map_append]; exact O25) k26 o26
                          have z26 := k26.size
                          have A26 := ((((A20.on k21).keep k22 (fun b hb hx => by have := H.zv b hb; have := hzw.2.2.1 b hx; omega)).keep k23 (fun b hb hx => by have := H.zv b hb; simp at hx; omega)).on k24).keep k25 (fun b hb hx => by have := H.zv b hb; have := hzw.2.2.2 b hx; omega)
                          have A26 := A26.keep k26 (fun b hb hx => by have := H.zv b hb; simp at hx; omega)
                          conv => whnf
                          obtain ⟨m1, m2, m3, m4, m5, m6, m7, m8⟩ := subF V.ob V.sb V.mb b7 bT t w (blkA aT) (blkA aN)
                          refine ⟨[V.ob, V.sb, V.mb] ++ ([b7, bT, t, w] ++ (blkA aT ++ blkA aN)), _, _, _, _, _, _, _, S', ?_, ?_, H26, A26, ?_, ?_, ?_⟩
                          · exact ((((((((((k0_13.mono m1).trans (k14.mono m2)).trans_nil k14_16).trans (k16_19.mono m3)).trans (k20.mono m4)).trans_nil k21).trans (k22.mono m5)).trans (k23.mono m6)).trans_nil k24).trans (k25.mono m7)).trans (k26.mono m8)
                          · intro x hx
                            rcases List.mem_append.1 hx with hx | hx
                            · exact .inl (List.mem_append_left _ hx)
                            · rcases List.mem_append.1 hx with hx | hx
                              · have q2 : bT ∈ blkA aT := by rw [haT]; simp [blkA]
                                have q3 : x = b7 ∨ x = bT ∨ x = t ∨ x = w := by simpa using hx
                                rcases q3 with rfl | rfl | rfl | rfl
                                · right; omega
                                · exact .inl (List.mem_append_right _ (List.mem_append_right _ (List.mem_append_left _ q2)))
                                · exact .inl (List.mem_append_right _ (List.mem_append_left _ (by simp)))
                                · exact .inl (List.mem_append_right _ (List.mem_append_left _ (by simp)))
                              · exact .inl (List.mem_append_right _ (List.mem_append_right _ hx))
                          · rw [hnds2]; exact g6
                          · exact .inr ⟨n, hn2, hn24, hnnew, hnleast, by rw [hnds2, nds_len], rfl⟩
                          · intro _
                            rw [nds_len, nds_len, List.length_append, hL1l]; rfl
          · obtain ⟨f1, f2⟩ := hfail hr0
            conv => whnf
            refine IfR.t (by simp; exact hr0) ?_
            conv => whnf
            refine LoadR.o H9.obj rfl ?_
            conv => whnf
            refine CallR.m (release_spec A9 n) (fun y hy hx => by
                have q1 := hvin y (by simpa using hx)
                have hy2 : y = b1 ∨ y = b5 ∨ y = b8 := by simpa [blocksOf, setB] using hy
                omega) fun v h10 k10 hv => ?_
            obtain ⟨rfl, A10⟩ := hv
            conv => whnf
            rw [f1] at A10
            obtain ⟨_, S', W'⟩ := rel_plain (Y := seeS (setS X n (freshC (kindOf f) ver)) at_) W ⟨hn2, hn24⟩ hn0 hkin rfl rfl rfl
            exact stay h10 _ S' (k09.trans k10) A10 W' (fun hg => by
              have := hg.2.2.2
              rw [nds_len] at this
              omega)
      · conv => whnf
        first | refine IfR.t (by simp [bif_or]; exact e70) ?_ | (refine MeetR.pass ?_; (conv => whnf); refine IfR.t (by simp [bif_or]; exact e70) ?_)
        conv => whnf
        first | refine IfR.t rfl ?_ | (refine MeetR.pass ?_; (conv => whnf); refine IfR.t rfl ?_)
        conv => whnf
        refine LoadR.o H3.obj rfl ?_
        conv => whnf
        refine CallR.m (release_spec A3 n) (fun y hy hx => by
            have hy2 : y = b1 := by simpa [blocksOf, setB] using hy
            have q1 := nb1 V.ob (by simp [VL.blocks])
            have q2 := nb1 V.sb (by simp [VL.blocks])
            have q3 := nb1 V.mb (by simp [VL.blocks])
            simp at hx; omega) fun v h4 k4 hv => ?_
        obtain ⟨rfl, A4⟩ := hv
        conv => whnf
        obtain ⟨_, S', W'⟩ := rel_plain (Y := setS X n (freshC (kindOf f) ver)) W ⟨hn2, hn24⟩ hn0 hkin rfl rfl rfl
        exact stay h4 _ S' (k03.trans k4) A4 W' (fun hg => by
          obtain ⟨g1, g2, g3, _⟩ := hg
          rw [nds_len, htn] at g3
          rcases hbad with hb | hb
          · rw [g2] at hb; cases hb
          · rw [g3] at hb; cases hb)
  · conv => whnf
    refine IfR.t (by simp; exact hk2) ?_
    conv => whnf
    exact stay h1 X S (k1.mono (by simp)) A1 W (fun hg => hk2 (by
      have := hg.1
      rw [nds_len, htn] at this
      exact this))

theorem put12_spec' {h : Heap} {z w t : Nat} {V : VL} {aT : Option Addr} {cT : Nat} {L : List NodH} {aN : Option Addr} {cN : Nat} {num : List Int} (H : WorldH h z w t V aT cT L aN cN num) {M : MemS} {X : VS} (A : At h V M X) {S : FS} (W : WI M.read X S (nds L) num) (hL : L.length ≤ 20) (f : Fil) (hf : f.ok) :
    CallH Tryz.prog 24 [.pointer (some ⟨w, 0, none⟩), .agg ⟨f.cells⟩] h (fun v h' => Keeps (putBk V w t aT aN) h h' ∧ ∃ (aT' : Option Addr) (cT' : Nat) (L' : List NodH) (aN' : Option Addr) (cN' : Nat) (num' : List Int) (X' : VS) (S' : FS),
      WorldH h' z w t V aT' cT' L' aN' cN' num' ∧ At h' V M X' ∧ WI M.read X' S' (nds L') num' ∧ PutT (nds L) num f (nds L') num' ∧ (PutG (nds L) f → (nds L').length = (nds L).length + 1)) := by
  refine (put12_spec H A W hL f hf).mono fun v h' ⟨F, aT', cT', L', aN', cN', num', X', S', k, hF, r1, r2, r3, r4, r5⟩ => ⟨?_, aT', cT', L', aN', cN', num', X', S', r1, r2, r3, r4, r5⟩
  exact (Keeps.refl _ h).trans_new k hF
end Go.Proofs.YtkdmlieckkdmgaaGreatDoor
/-
  The engine: an entry of a map is deleted; a map is cleared.
-/
set_option linter.all false
set_option maxRecDepth 100000
set_option maxHeartbeats 1000000
namespace Go.Eng

theorem eraseIdx_mp {α β : Type} (f : α → β) : ∀ (l : List α) (j : Nat), (l.map f).eraseIdx j = (l.eraseIdx j).map f
  | [], _ => rfl
  | _ :: _, 0 => rfl
  | x :: l, j + 1 => by simp [eraseIdx_mp f l j]

theorem SemR.del {P : Program} {T kT eT kT' ty : TypeId} (hu : P.underlying T = some (.map kT eT)) (hk : P.underlying kT = some (.int .i64)) {h : Heap} {r : Nat} {m : List (Int × Value)} (o : MapL h r m) {n : Int} (hn : lookI m n ≠ none) {bs : List Nat} (hb : r ∉ bs)
    {K : Value → Heap → Prop} (H : ∀ h' j, j < m.length → (m[j]?).map (·.1) = some n → h'.size = h.size → MapL h' r (m.eraseIdx j) → Keeps [r] h h' → K (.tuple #[]) h') : SemR P (Builtin.delete_ #[T, kT'] ty ⟨[.map (some r), .int .i64 n]⟩) bs h K := by
  unfold SemR
  intro hlt w hw
  subst hw
  have hr := o.lt
  obtain ⟨es, cl, h1, h2, h3, h4, h5⟩ := o
  obtain ⟨q, h6, h7, h8⟩ := findNow_look es.toList m n 0 h2
  obtain ⟨p, rfl⟩ : ∃ p, q = some p := by
    cases q with
    | none => exact absurd (by simpa using h7.symm) hn
    | some p => exact ⟨p, rfl⟩
  obtain ⟨j, hj1, hj2, hj3⟩ := h8 p rfl
  have hj : p.1 = j := by omega
  have hjl : j < es.size := by simpa using hj2
  have hml : m.length = es.size := by
    have := congrArg List.length h2
    simpa using this.symm
  have hel : (es.eraseIdxIfInBounds j).toList = es.toList.eraseIdx j := by
    rw [Array.eraseIdxIfInBounds, dif_pos hjl, Array.toList_eraseIdx]
  refine ⟨.tuple #[], { w with heap := w.heap.setIfInBounds r (.map (es.eraseIdxIfInBounds j) cl) }, ?_, ⟨rfl, rfl, rfl⟩, fun b hb' => ?_, H _ j (by omega) hj3 (by simp) ⟨es.eraseIdxIfInBounds j, cl, by rw [set_get _ _ _ _ hr, if_pos rfl], ?_, ?_, ?_, ?_⟩ (keeps_set _ _ _ hr)⟩
  · simp only [Builtin.delete_, Sem.run_bind, underlying_run P T w hu, Result.andThen_ok, getObj_run h1, List.getElem?_toArray, List.getElem?_cons_zero, List.getElem?_cons_succ]
    rw [checkKey_plain hk (.inl ⟨_, rfl⟩)]
    simp only [Result.andThen_ok, findKey_now hk h6 w, hj, Sem.run_bind, setObj_run h1, Sem.run_pure]
  · show (w.heap.setIfInBounds r _)[b]? = _
    rw [set_get _ _ _ _ hr, if_neg (by intro e; subst e; exact hb hb')]
  · rw [hel, ← eraseIdx_mp, h2, eraseIdx_mp]
  · rw [← eraseIdx_mp]; exact h3.sublist (List.eraseIdx_sublist _ _)
  · rw [hel, ← eraseIdx_mp]; exact h4.sublist (List.eraseIdx_sublist _ _)
  · intro e he
    rw [hel] at he
    exact h5 e (List.mem_of_mem_eraseIdx he)

theorem SemR.clearM {P : Program} {T kT eT ty : TypeId} (hu : P.underlying T = some (.map kT eT)) {h : Heap} {r : Nat} {m : List (Int × Value)} (o : MapL h r m) {bs : List Nat} (hb : r ∉ bs)
    {K : Value → Heap → Prop} (H : ∀ h', h'.size = h.size → MapL h' r [] → Keeps [r] h h' → K (.tuple #[]) h') : SemR P (Builtin.clear_ #[T] ty ⟨[.map (some r)]⟩) bs h K := by
  unfold SemR
  intro hlt w hw
  subst hw
  have hr := o.lt
  obtain ⟨es, cl, h1, h2, h3, h4, h5⟩ := o
  refine ⟨.tuple #[], { w with heap := w.heap.setIfInBounds r (.map #[] cl) }, ?_, ⟨rfl, rfl, rfl⟩, fun b hb' => ?_, H _ (by simp) ⟨#[], cl, by rw [set_get _ _ _ _ hr, if_pos rfl], rfl, List.nodup_nil, List.nodup_nil, by simp⟩ (keeps_set _ _ _ hr)⟩
  · simp [Builtin.clear_, Sem.run_bind, underlying_run P T w hu, getObj_run h1, setObj_run h1]
  · show (w.heap.setIfInBounds r _)[b]? = _
    rw [set_get _ _ _ _ hr, if_neg (by intro e; subst e; exact hb hb')]
end Go.Eng
/-
  Layer 2: a memory's loose words are on their way, and made sure.
-/
set_option linter.all false
set_option maxRecDepth 100000
set_option maxHeartbeats 1000000
namespace Go.Proofs.YtkdmlieckkdmgaaGreatDoor
open Go Go.Eng

/-- a memory's sure words lie in a block of its own -/
def MemO (h : Heap) (L : ML) (M : MemS) : Prop := Own h 32 1 L.sa L.len L.cap (M.sure.map wv)

theorem cloneO_spec {h : Heap} {b off n c : Nat} {ws : List UInt64} (S : Sl h (some ⟨b, off, none⟩) n c ws) (hn : n ≤ 1099511627776) : CallH Tryz.prog 28 [.slice (some ⟨b, off, none⟩) n c] h (fun v h' => Keeps [] h h' ∧ ∃ a' c', v = .slice a' n c' ∧ Own h' 32 1 a' n c' (ws.map wv) ∧ Sl h' a' n c' ws ∧ ∀ x ∈ blkA a', h.size ≤ x ∧ x < h'.size) := by
  refine call_of hmix Tryz.func28 rfl ok28 (by simp [Tryz.f28]) ?_
  conv => whnf
  refine IfR.f rfl ?_
  conv => whnf
  refine AllocR.i fun b1 h1 e1 s1 o1 k1 => ?_
  conv => whnf
  have hl := S.hlen
  have O : Own h1 32 1 (some ⟨b1, 0, none⟩) 0 0 [] := .inr ⟨b1, [], rfl, o1, rfl, rfl, rfl, Nat.le_refl _⟩
  refine append_own (e := 32) (sz := 1) (by_ := 8) (new := ws.map wv) rfl rfl rfl rfl rfl rfl rfl O (by simp [hl]) ((S.keep k1).cells1) (allOne_wv ws) (by omega) (by decide) (by simp [blocksOf]) ?_
  intro a2 c2 h2 O2 k2 n2
  conv => whnf
  rw [Nat.zero_add] at O2
  have nb : ∀ x ∈ blkA a2, h.size ≤ x ∧ x < h2.size := fun x hx => by
    refine ⟨?_, O2.lt x hx⟩
    rcases n2 x hx with h | h
    · simp [blkA] at h; omega
    · omega
  refine ⟨k1.nil_of k2 (by intro x hx; simp [blkA] at hx; omega), a2, c2, by rw [Nat.zero_add], O2, ?_, nb⟩
  have R : Reps h2 ([] ++ ws.map wv) ws := by
    rw [List.nil_append]
    exact reps_w h2 ws
  exact O2.sl R rfl (by decide) (by omega)

theorem loadO_spec {h : Heap} {b off n c : Nat} {ws : List UInt64} (S : Sl h (some ⟨b, off, none⟩) n c ws) (hn : n ≤ 4096) : CallH Tryz.prog 12 [.slice (some ⟨b, off, none⟩) n c] h (fun v h' => Keeps [] h h' ∧ ∃ L : ML, v = .pointer (some ⟨L.m, 0, none⟩) ∧ MemAt h' L ⟨ws, [], [], 0, -1⟩ ∧ MemO h' L ⟨ws, [], [], 0, -1⟩ ∧ ∀ x ∈ L.blocks, h.size ≤ x) := by
  refine call_of hmix Tryz.func12 rfl ok12 (by simp [Tryz.f12]) ?_
  conv => whnf
  have hm : (if (4096 : Int) < (n : Int) then (4096 : Int) else (n : Int)) = (n : Int) := if_neg (by omega)
  have hl := S.hlen
  refine SliceR.i 0 n rfl hm (Nat.zero_le _) S.hcap ?_
  conv => whnf
  have S1 := S.part (l := 0) (r := n) (Nat.zero_le _) (Nat.le_refl _)
  have e1 : ∀ s, slA (some ⟨b, off, none⟩) c 0 s = some ⟨b, off, none⟩ := fun s => by
    unfold slA; split
    · rfl
    · simp [Addr.add]
  rw [e1, Nat.sub_zero, Nat.sub_zero, List.drop_zero, hl, List.take_length, ← hl] at S1
  rw [e1, Nat.sub_zero, Nat.sub_zero]
  refine CallR.i (cloneO_spec S1 (by omega)) fun v h1 k1 hv => ?_
  obtain ⟨a', c', rfl, O2, S2, nb⟩ := hv
  conv => whnf
  refine AllocR.i fun b2 h2 e2 s2 o2 k2 => ?_
  conv => whnf
  refine AllocR.i fun b3 h3 e3 s3 o3 k3 => ?_
  conv => whnf
  refine AllocR.i fun b4 h4 e4 s4 o4 k4 => ?_
  conv => whnf
  have z1 := k1.size
  refine ⟨k1.trans (k2.trans (k3.trans k4)), ⟨b4, a', n, c', b2, b3⟩, rfl, ⟨o4, S2.keep (k2.trans (k3.trans k4)), (MapL.new o2).keep (k3.trans k4) (by simp), (MapL.new o3).keep k4 (by simp), by show b2 ≠ b3; omega, fun x hx => ?_, fun x hx => by have := nb x hx; omega⟩, O2.keep (k2.trans (k3.trans k4)) (by simp), ?_⟩
  · have := nb x hx
    show x ≠ b4 ∧ x ≠ b2 ∧ x ≠ b3
    omega
  · intro x hx
    simp only [ML.blocks, List.mem_cons] at hx
    rcases hx with hx | hx | hx | hx
    · have hx : x = b4 := hx; omega
    · have hx : x = b2 := hx; omega
    · have hx : x = b3 := hx; omega
    · exact (nb x hx).1

theorem mnew_spec (n : Nat) (hp : 0 < n) (hn : n ≤ 4096) (h : Heap) : CallH Tryz.prog 19 [.int .i64 (n : Int)] h (fun v h' => Keeps [] h h' ∧ ∃ L : ML, v = .pointer (some ⟨L.m, 0, none⟩) ∧ MemAt h' L ⟨List.replicate n 0, [], [], 0, -1⟩ ∧ MemO h' L ⟨List.replicate n 0, [], [], 0, -1⟩ ∧ ∀ x ∈ L.blocks, h.size ≤ x) := by
  refine call_of hmix Tryz.func19 rfl ok19 (by simp [Tryz.f19]) ?_
  conv => whnf
  have e1 : (if (4096 : Int) < (if (n : Int) < 0 then 0 else (n : Int)) then (4096 : Int) else (if (n : Int) < 0 then 0 else (n : Int))) = (n : Int) := by
    rw [if_neg (show ¬ ((n : Int) < 0) by omega), if_neg (by omega)]
  have e2 : (if (4096 : Int) < (if (0 : Int) > (n : Int) then 0 else (n : Int)) then (4096 : Int) else (if (0 : Int) > (n : Int) then 0 else (n : Int))) = (n : Int) := e1
  rw [e2]
  refine SemR.make (n := n) rfl rfl rfl rfl rfl (by show 8 * n ≤ _; omega) (by omega) fun b1 h1 e3 s1 o1 k1 => ?_
  have o1' : h1[b1]? = some (.cells ⟨(List.replicate n (0 : UInt64)).map wv⟩ 32 (0, 0)) := by
    rw [o1, List.map_replicate]; rfl
  have S1 : Sl h1 (some ⟨b1, 0, none⟩) n n (List.replicate n (0 : UInt64)) := Sl.of1' o1' (by simp [One.ok]) (by simp) (by simp; omega)
  conv => whnf
  refine CallR.i (loadO_spec S1 hn) fun v h2 k2 hv => ?_
  obtain ⟨L, rfl, A2, O2, nb⟩ := hv
  conv => whnf
  exact ⟨k1.trans k2, L, rfl, A2, O2, fun x hx => by have := nb x hx; omega⟩

/-! ### On the way -/

def flushN (loose way : List (Int × UInt64)) (first : Int) : Nat → List (Int × UInt64)
  | 0 => way
  | k + 1 => match lk loose (first + (k : Int)) with | some v => putW (flushN loose way first k) (first + (k : Int)) v | none => flushN loose way first k
theorem lk_flushN (loose way : List (Int × UInt64)) (first : Int) : ∀ (k : Nat) (x : Int), lk (flushN loose way first k) x = if first ≤ x ∧ x < first + (k : Int) then (match lk loose x with | some v => some v | none => lk way x) else lk way x
  | 0, x => by rw [if_neg (by omega)]; rfl
  | k + 1, x => by
    have ih := lk_flushN loose way first k x
    unfold flushN
    cases hl : lk loose (first + (k : Int)) with
    | none =>
      simp only
      rw [ih]
      by_cases e : x = first + (k : Int)
      · subst e
        rw [if_neg (by omega), if_pos (by omega), hl]
      · by_cases h2 : first ≤ x ∧ x < first + (k : Int)
        · rw [if_pos h2, if_pos (by omega)]
        · rw [if_neg h2, if_neg (by omega)]
    | some v =>
      simp only
      rw [lk_put]
      by_cases e : x = first + (k : Int)
      · rw [if_pos e, e, if_pos (by omega), hl]
      · rw [if_neg e, ih]
        by_cases h2 : first ≤ x ∧ x < first + (k : Int)
        · rw [if_pos h2, if_pos (by omega)]
        · rw [if_neg h2, if_neg (by omega)]

def lineOf (i : Int) : Int := i - i.tmod 8

theorem flush_spec {h : Heap} {L : ML} {M : MemS} (A : MemAt h L M) (i : Int) (hi : 0 ≤ i ∧ i < 1000000) (h0 : (M.call (M.there i)).1 = 0) : CallH Tryz.prog 33 [.pointer (some ⟨L.m, 0, none⟩), .int .i64 i] h (fun v h' => Keeps [L.m, L.wb] h h' ∧ v = .int .i64 0 ∧ MemAt h' L { (M.call (M.there i)).2 with way := flushN (M.call (M.there i)).2.loose (M.call (M.there i)).2.way (lineOf i) 8 }) := by
  refine call_of hmix Tryz.func33 rfl ok33 (by simp [Tryz.f33]) ?_
  conv => whnf
  refine CallR.i (there_spec A i) fun v h1 k1 hv => ?_
  subst hv
  have A1 := A.on k1
  conv => whnf
  refine CallR.m (call_spec A1 (M.there i)) (by simp [blocksOf]) fun v h2 k2 hv => ?_
  obtain ⟨rfl, A2⟩ := hv
  generalize (M.call (M.there i)).2 = N at A2 ⊢
  rw [h0]
  conv => whnf
  refine IfR.f rfl ?_
  have hm8 : 0 ≤ i.tmod 8 ∧ i.tmod 8 < 8 := by
    rw [Int.tmod_eq_emod_of_nonneg hi.1]; omega
  have ew : IntKind.i64.wrap (i - i.tmod 8) = lineOf i := wrapI (by omega) (by omega)
  have hlo : 0 ≤ lineOf i ∧ lineOf i < 1000000 := by
    unfold lineOf
    have : i.tmod 8 ≤ i := by rw [Int.tmod_eq_emod_of_nonneg hi.1]; omega
    omega
  conv => whnf
  refine Need.i (by decide) ?_
  conv => whnf
  rw [ew]
  generalize lineOf i = q at hlo ⊢
  refine LoopR.on [0, 6, 7] [] (fun k : Nat => [(0, .v (.pointer (some ⟨L.m, 0, none⟩))), (6, .v (.int .i64 q)), (7, .v (.int .i64 (q + (k : Int))))]) (fun _ => [])
    (fun k h' => k ≤ 8 ∧ Keeps [L.m, L.wb] h h' ∧ MemAt h' L { N with way := flushN N.loose N.way q k }) (fun k => 8 - k) 0 ?_ ?_
  · conv => whnf
    refine ⟨0, rfl, by simp, rfl, Nat.zero_le _, ?_, A2⟩
    exact (k1.mono (by simp)).trans (k2.mono (by simp))
  · rintro k h3 ⟨hk, k3, A3⟩
    have e8 : IntKind.i64.wrap (q + 8) = q + 8 := wrapI (by omega) (by omega)
    conv => whnf
    rw [e8]
    refine IfR.i (fun hc => ?_) (fun hc => ?_)
    · have hk1 : k < 8 := by simp at hc; omega
      conv => whnf
      first | refine LoadR.o A3.obj rfl ?_ | (refine MeetR.pass ?_; (conv => whnf); refine LoadR.o A3.obj rfl ?_)
      have en : IntKind.i64.wrap (q + (k : Int) + 1) = q + ((k + 1 : Nat) : Int) := by
        rw [wrapI (by omega) (by omega)]; simp; omega
      cases hl : lk N.loose (q + (k : Int)) with
      | some w =>
        conv => whnf
        refine LookR.is A3.loose (by rw [lookI_mapW, hl]) ?_
        conv => whnf
        first | refine IfR.t rfl ?_ | (refine MeetR.pass ?_; (conv => whnf); refine IfR.t rfl ?_)
        conv => whnf
        refine LoadR.o A3.obj rfl ?_
        conv => whnf
        refine SemR.put rfl rfl A3.way (by simp [blocksOf]) fun h4 s4 M4 k4 => ?_
        conv => whnf
        refine ⟨8 - (k + 1), by omega, ?_⟩
        conv => whnf
        refine ⟨k + 1, rfl, by rw [en], rfl, by omega, k3.trans (k4.mono (by simp)), ?_⟩
        have hfl : flushN N.loose N.way q (k + 1) = putW (flushN N.loose N.way q k) (q + (k : Int)) w := by
          conv => lhs; unfold flushN
          rw [hl]
        rw [hfl]
        have a3 := A3.ap3
        exact ⟨k4.obj A3.obj (by simpa using a3.2), A3.sure.keepM k4 (fun b hb => by simpa using (A3.ap2 b hb).2.2), A3.loose.keep k4 (by simpa using A3.ap1), by rw [← putI_mapW]; exact M4, A3.ap1, A3.ap2, fun b hb => Nat.lt_of_lt_of_le (A3.lt b hb) k4.size⟩
      | none =>
        conv => whnf
        refine LookR.is A3.loose (by rw [lookI_mapW, hl]) ?_
        conv => whnf
        first | refine IfR.f rfl ?_ | (refine MeetR.pass ?_; (conv => whnf); refine IfR.f rfl ?_)
        conv => whnf
        refine ⟨8 - (k + 1), by omega, ?_⟩
        conv => whnf
        refine ⟨k + 1, rfl, by rw [en], rfl, by omega, k3, ?_⟩
        have hfl : flushN N.loose N.way q (k + 1) = flushN N.loose N.way q k := by
          conv => lhs; unfold flushN
          rw [hl]
        rw [hfl]; exact A3
    · have hk1 : k = 8 := by simp at hc; omega
      subst hk1
      conv => whnf
      exact ⟨k3, rfl, A3⟩
end Go.Proofs.YtkdmlieckkdmgaaGreatDoor
