/-
  Joined texts: FolF, FolG, FolH, FolI, FolJ, FolK, FolL, FolM, FolN.
-/
import Derived.Test.YtkjkdnphikendaaGreatDoorJLawCLinksg
/-
  Layer 11: a directory that is read.
-/
set_option linter.all false
set_option maxRecDepth 100000
set_option maxHeartbeats 1000000
namespace Go.Proofs.YtkjkdnphikendaaGreatDoor
open Go Go.Eng

/-! ### What is read, in plain words -/

def blkW (now : Int → UInt64) (x : Int) : List UInt64 := rdL now (1288 + x * 16) 16
theorem blkW_len (now : Int → UInt64) (x : Int) : (blkW now x).length = 16 := rdL_len _ _ _
def slotOk (ws : List UInt64) (place k : Nat) : Bool := emptyB ws k || entB ws k place
def slotE (ws : List UInt64) (k : Nat) : List Ent := if emptyB ws k then [] else [entE ws k]
def blkOkB (now : Int → UInt64) (x : Int) (place : Nat) : Bool := decide (0 ≤ x ∧ x < 96) && (decide (wAt (blkW now x) 15 = 0) && (List.range 5).all (slotOk (blkW now x) place))
def blkE (now : Int → UInt64) (x : Int) : List Ent := (List.range 5).flatMap (slotE (blkW now x))
/-- a place's block -/
def plc (m : List Int) (i : Nat) : Int := m[i]?.getD (-1)
def placeOk (now : Int → UInt64) (m : List Int) (i : Nat) : Bool := decide (plc m i = -1) || blkOkB now (plc m i) i
def placeE (now : Int → UInt64) (m : List Int) (i : Nat) : List Ent := if plc m i = -1 then [] else blkE now (plc m i)
def rawE (now : Int → UInt64) (m : List Int) : List Ent := (List.range 21).flatMap (placeE now m)

/-- entries in order -/
def leE (x y : Ent) : Bool := !blt y.name x.name
def insE (x : Ent) : List Ent → List Ent
  | [] => [x]
  | y :: l => if leE x y then x :: y :: l else y :: insE x l
def sortE : List Ent → List Ent
  | [] => []
  | x :: l => insE x (sortE l)
def openP (now : Int → UInt64) (c : Crd) : Int × List Int × List Ent :=
  if c.kind ≠ 2 then (6, [], [])
  else match mapOf now c with
    | none => (15, [], [])
    | some m => if (List.range 21).all (placeOk now m) = true ∧ ((rawE now m).map (·.name)).Nodup ∧ ((rawE now m).length : Int) = c.size then (0, m, sortE (rawE now m)) else (15, [], [])

theorem slotE_len (ws : List UInt64) (k : Nat) : (slotE ws k).length ≤ 1 := by unfold slotE; split <;> simp
theorem flat_le {α β : Type} (f : α → List β) (n : Nat) (h : ∀ x, (f x).length ≤ n) : ∀ l : List α, (l.flatMap f).length ≤ n * l.length
  | [] => by simp
  | x :: l => by
    have := flat_le f n h l
    have hx := h x
    rw [List.flatMap_cons, List.length_append, List.length_cons, Nat.mul_add]
    omega
theorem blkE_len (now : Int → UInt64) (x : Int) : (blkE now x).length ≤ 5 := by
  have := flat_le _ 1 (slotE_len (blkW now x)) (List.range 5)
  simpa [blkE] using this
theorem placeE_len (now : Int → UInt64) (m : List Int) (i : Nat) : (placeE now m i).length ≤ 5 := by
  unfold placeE
  split
  · simp
  · exact blkE_len _ _
theorem rawE_len (now : Int → UInt64) (m : List Int) : (rawE now m).length ≤ 105 := by
  have := flat_le _ 5 (placeE_len now m) (List.range 21)
  simpa [rawE] using this
theorem entE_ok (ws : List UInt64) (k : Nat) : (entE ws k).ok := by
  refine ⟨by have := entN_len ws k; simp only [entE]; omega, ?_⟩
  unfold inI64
  simp only [entE, entV]
  generalize ((wAt ws (3 * k)).toNat : Int) = z
  simp only [IntKind.wrap, IntKind.bits, IntKind.signed]
  simp
  split <;> omega
theorem slotE_ok {ws : List UInt64} {k : Nat} : ∀ e ∈ slotE ws k, e.ok := by
  intro e he
  unfold slotE at he
  split at he
  · cases he
  · simp at he; subst he; exact entE_ok ws k
theorem placeE_ok {now : Int → UInt64} {m : List Int} {i : Nat} : ∀ e ∈ placeE now m i, e.ok := by
  intro e he
  unfold placeE at he
  split at he
  · cases he
  · unfold blkE at he
    obtain ⟨k, _, hk⟩ := List.mem_flatMap.1 he
    exact slotE_ok e hk
theorem rawE_ok {now : Int → UInt64} {m : List Int} : ∀ e ∈ rawE now m, e.ok := by
  intro e he
  obtain ⟨i, _, hi⟩ := List.mem_flatMap.1 he
  exact placeE_ok e hi

/-! ### The order -/

theorem leE_trans (a b c : Ent) (h1 : leE a b = true) (h2 : leE b c = true) : leE a c = true := by
  unfold leE at *
  rw [Bool.not_eq_true'] at *
  rcases blt_tri a.name b.name with h | h | h
  · rcases blt_tri b.name c.name with g | g | g
    · exact blt_asym (blt_trans h g)
    · rw [← g]; exact blt_asym h
    · rw [g] at h2; cases h2
  · rw [h]; exact h2
  · rw [h] at h1; cases h1
theorem leE_total (a b : Ent) : (leE a b || leE b a) = true := by
  unfold leE
  cases h : blt b.name a.name
  · rfl
  · rw [blt_asym h]; rfl
theorem insE_perm (x : Ent) : ∀ l : List Ent, (insE x l).Perm (x :: l)
  | [] => List.Perm.refl _
  | y :: l => by
    unfold insE
    split
    · exact List.Perm.refl _
    · exact ((insE_perm x l).cons y).trans (List.Perm.swap x y l)
theorem sortE_perm : ∀ l : List Ent, (sortE l).Perm l
  | [] => List.Perm.refl _
  | x :: l => (insE_perm x (sortE l)).trans ((sortE_perm l).cons x)
theorem insE_sorted (x : Ent) : ∀ l : List Ent, l.Pairwise (fun x y => leE x y = true) → (insE x l).Pairwise (fun x y => leE x y = true)
  | [], _ => by simp [insE]
  | y :: l, h => by
    obtain ⟨h1, h2⟩ := List.pairwise_cons.1 h
    unfold insE
    split
    · rename_i hx
      refine List.pairwise_cons.2 ⟨fun z hz => ?_, h⟩
      rcases List.mem_cons.1 hz with rfl | hz
      · exact hx
      · exact leE_trans _ _ _ hx (h1 z hz)
    · rename_i hx
      refine List.pairwise_cons.2 ⟨fun z hz => ?_, insE_sorted x l h2⟩
      rcases List.mem_cons.1 ((insE_perm x l).mem_iff.1 hz) with rfl | hz
      · have := leE_total z y
        rw [Bool.or_eq_true] at this
        exact this.resolve_left hx
      · exact h1 z hz
theorem sortE_sorted : ∀ l : List Ent, (sortE l).Pairwise (fun x y => leE x y = true)
  | [] => List.Pairwise.nil
  | x :: l => insE_sorted x _ (sortE_sorted l)

/-- lists without a name twice, in order, are one -/
theorem sorted_unique : ∀ {l m : List Ent}, l.Perm m → (l.map (·.name)).Nodup → l.Pairwise (fun x y => leE x y = true) → m.Pairwise (fun x y => leE x y = true) → l = m
  | [], m, p, _, _, _ => (List.Perm.nil_eq p)
  | x :: l, [], p, _, _, _ => by have := p.length_eq; simp at this
  | x :: l, y :: m, p, hn, hl, hm => by
    have hxy : x = y := by
      by_cases e : x = y
      · exact e
      exfalso
      have h1 : y ∈ l := by
        have : y ∈ x :: l := p.mem_iff.2 (by simp)
        simp at this
        exact this.resolve_left (fun h => e h.symm)
      have h2 : x ∈ m := by
        have : x ∈ y :: m := p.mem_iff.1 (by simp)
        simp at this
        exact this.resolve_left e
      have g1 := (List.pairwise_cons.1 hl).1 y h1
      have g2 := (List.pairwise_cons.1 hm).1 x h2
      unfold leE at g1 g2
      rw [Bool.not_eq_true'] at g1 g2
      rcases blt_tri x.name y.name with h | h | h
      · rw [h] at g2; cases g2
      · simp only [List.map_cons, List.nodup_cons] at hn
        exact hn.1 (h ▸ List.mem_map_of_mem h1)
      · rw [h] at g1; cases g1
    subst hxy
    rw [sorted_unique (p.cons_inv) (List.nodup_cons.1 hn).2 (List.pairwise_cons.1 hl).2 (List.pairwise_cons.1 hm).2]

/-- in a list in order what is twice is next to one another -/
theorem noAdj_nodup {l : List Ent} (hs : l.Pairwise (fun x y => leE x y = true)) : noAdj l ↔ (l.map (·.name)).Nodup := by
  constructor
  · intro h
    have hst : ∀ i d (hj : i + d + 1 < l.length), blt (l[i]'(by omega)).name l[i + d + 1].name = true := by
      intro i d
      induction d with
      | zero =>
        intro hj
        have g := List.pairwise_iff_getElem.1 hs i (i + 1) (by omega) hj (by omega)
        unfold leE at g
        rw [Bool.not_eq_true'] at g
        rcases blt_tri (l[i]'(by omega)).name l[i + 1].name with h' | h' | h'
        · exact h'
        · exact absurd h'.symm (h i hj)
        · rw [h'] at g; cases g
      | succ d ih =>
        intro hj
        have g := List.pairwise_iff_getElem.1 hs (i + d + 1) (i + d + 1 + 1) (by omega) hj (by omega)
        unfold leE at g
        rw [Bool.not_eq_true'] at g
        have ih' := ih (by omega)
        rcases blt_tri (l[i + d + 1]'(by omega)).name l[i + d + 1 + 1].name with h' | h' | h'
        · exact blt_trans ih' h'
        · exact absurd h'.symm (h (i + d + 1) hj)
        · rw [h'] at g; cases g
    rw [List.nodup_iff_pairwise_ne, List.pairwise_map, List.pairwise_iff_getElem]
    intro i j hi hj hij e
    have e2 : i + (j - i - 1) + 1 = j := by omega
    have := hst i (j - i - 1) (by rw [e2]; exact hj)
    simp only [e2] at this
    rw [e, blt_irr] at this; cases this
  · intro h j hj e
    rw [List.nodup_iff_pairwise_ne, List.pairwise_map, List.pairwise_iff_getElem] at h
    exact h j (j + 1) (by omega) hj (by omega) e.symm
end Go.Proofs.YtkjkdnphikendaaGreatDoor
/-
  Layer 11: a directory is read: the walk.
-/
set_option linter.all false
set_option maxRecDepth 100000
set_option maxHeartbeats 1000000
namespace Go.Proofs.YtkjkdnphikendaaGreatDoor
open Go Go.Eng

/-- where a book lies -/
structure BL where
  pb : Nat
  pcap : Nat
  sp : List Value
  r : Nat
  mb : List (Int × Nat)
def mbV (mb : List (Int × Nat)) : List (Int × Value) := mb.map fun p => (p.1, .slice (some ⟨p.2, 0, none⟩) 16 16)
def BL.blocks (b : Nat) (L : BL) : List Nat := b :: L.pb :: L.r :: L.mb.map (·.2)

/-- a book: the places below i have been read -/
structure BookAt (h : Heap) (b : Nat) (L : BL) (m : List Int) (i : Nat) (W : Int → List UInt64) : Prop where
  obj : h[b]? = some (.cells ⟨[.slice (some ⟨L.pb, 0, none⟩) 21 L.pcap, .map (some L.r)]⟩ 200 (0, 0))
  pl : IntsAt h L.pb m L.sp
  cap : 21 ≤ L.pcap
  len : m.length = 21
  map : MapL h L.r (mbV L.mb)
  keys : ∀ p : Int, p ∈ L.mb.map (·.1) ↔ (0 ≤ p ∧ p < (i : Int) ∧ plc m p.toNat ≠ -1)
  blk : ∀ p ∈ L.mb, h[p.2]? = some (.cells ⟨(W p.1).map wv⟩ 56 (0, 0)) ∧ (W p.1).length = 16
  nod : (BL.blocks b L).Nodup

theorem BookAt.keep {F : List Nat} {h h' : Heap} {b : Nat} {L : BL} {m : List Int} {i : Nat} {W : Int → List UInt64} (B : BookAt h b L m i W) (k : Keeps F h h') (hF : ∀ x ∈ BL.blocks b L, x ∉ F) : BookAt h' b L m i W where
  obj := k.obj B.obj (hF b (by simp [BL.blocks]))
  pl := k.obj B.pl (hF L.pb (by simp [BL.blocks]))
  cap := B.cap
  len := B.len
  map := B.map.keep k (hF L.r (by simp [BL.blocks]))
  keys := B.keys
  blk := fun p hp => ⟨k.obj (B.blk p hp).1 (hF p.2 (by simp only [BL.blocks, List.mem_cons]; exact .inr (.inr (.inr (List.mem_map_of_mem hp))))), (B.blk p hp).2⟩
  nod := B.nod
theorem BookAt.on {h h' : Heap} {b : Nat} {L : BL} {m : List Int} {i : Nat} {W : Int → List UInt64} (B : BookAt h b L m i W) (k : Keeps [] h h') : BookAt h' b L m i W := B.keep k (by simp)
theorem BookAt.lt {h : Heap} {b : Nat} {L : BL} {m : List Int} {i : Nat} {W : Int → List UInt64} (B : BookAt h b L m i W) : ∀ x ∈ BL.blocks b L, x < h.size := by
  intro x hx
  simp only [BL.blocks, List.mem_cons] at hx
  rcases hx with rfl | rfl | rfl | hx
  · exact obj_lt B.obj
  · exact obj_lt B.pl
  · exact B.map.lt
  · obtain ⟨p, hp, rfl⟩ := List.mem_map.1 hx
    exact obj_lt (B.blk p hp).1

/-- an open book's place: words of a view -/
def wordsAt (now : Int → UInt64) (m : List Int) (p : Int) : List UInt64 := blkW now (plc m p.toNat)

theorem BookAt.skip {h : Heap} {b : Nat} {L : BL} {m : List Int} {i : Nat} {W : Int → List UInt64} (B : BookAt h b L m i W) (hi : plc m i = -1) : BookAt h b L m (i + 1) W := by
  refine ⟨B.obj, B.pl, B.cap, B.len, B.map, fun p => ?_, B.blk, B.nod⟩
  rw [B.keys p]
  constructor
  · rintro ⟨h0, h1, h2⟩; exact ⟨h0, by omega, h2⟩
  · rintro ⟨h0, h1, h2⟩
    refine ⟨h0, ?_, h2⟩
    by_cases e : p = (i : Int)
    · subst e; simp at h2; exact absurd hi h2
    · omega

theorem putI_new : ∀ (m : List (Int × Value)) (n : Int) (v : Value), n ∉ m.map (·.1) → putI m n v = m ++ [(n, v)]
  | [], n, v, _ => rfl
  | (k, u) :: r, n, v, h => by
    simp only [List.map_cons, List.mem_cons, not_or] at h
    simp only [putI, if_neg h.1, List.cons_append]
    rw [putI_new r n v h.2]
theorem mbV_keys (mb : List (Int × Nat)) : (mbV mb).map (·.1) = mb.map (·.1) := by simp [mbV]

/-- a block more is noted -/
theorem BookAt.add {h h' : Heap} {b : Nat} {L : BL} {m : List Int} {i x : Nat} {W : Int → List UInt64} (B : BookAt h b L m i W) (hi : plc m i ≠ -1) (k : Keeps [L.r] h h') (hM : MapL h' L.r (putI (mbV L.mb) (i : Int) (.slice (some ⟨x, 0, none⟩) 16 16))) (hx : h[x]? = some (.cells ⟨(W i).map wv⟩ 56 (0, 0))) (hl : (W i).length = 16) (hn : x ∉ BL.blocks b L) :
    BookAt h' b { L with mb := L.mb ++ [((i : Int), x)] } m (i + 1) W := by
  have hnd := B.nod
  have hne : b ≠ L.r ∧ L.pb ≠ L.r ∧ L.r ∉ L.mb.map (·.2) := by
    simp only [BL.blocks, List.nodup_cons, List.mem_cons, not_or] at hnd
    exact ⟨hnd.1.2.1, hnd.2.1.1, hnd.2.2.1⟩
  have hnk : (i : Int) ∉ L.mb.map (·.1) := fun hk => by have := (B.keys i).1 hk; omega
  constructor
  · exact k.obj B.obj (by simp; exact hne.1)
  · exact k.obj B.pl (by simp; exact hne.2.1)
  · exact B.cap
  · exact B.len
  · rw [putI_new _ _ _ (by rw [mbV_keys]; exact hnk)] at hM
    simpa [mbV] using hM
  · intro p
    simp only [List.map_append, List.map_cons, List.map_nil, List.mem_append, List.mem_cons, List.not_mem_nil, or_false]
    rw [B.keys p]
    constructor
    · rintro (⟨h0, h1, h2⟩ | rfl)
      · exact ⟨h0, by omega, h2⟩
      · exact ⟨by omega, by omega, by simpa using hi⟩
    · rintro ⟨h0, h1, h2⟩
      by_cases e : p = (i : Int)
      · exact .inr e
      · exact .inl ⟨h0, by omega, h2⟩
  · intro p hp
    simp only [List.mem_append, List.mem_cons, List.not_mem_nil, or_false] at hp
    rcases hp with hp | rfl
    · exact ⟨k.obj (B.blk p hp).1 (by simp; intro e; exact hne.2.2 (e ▸ List.mem_map_of_mem hp)), (B.blk p hp).2⟩
    · exact ⟨k.obj hx (by simp; intro e; exact hn (by simp [BL.blocks, e])), hl⟩
  · have hperm : (BL.blocks b { L with mb := L.mb ++ [((i : Int), x)] }) = BL.blocks b L ++ [x] := by simp [BL.blocks]
    rw [hperm]
    rw [List.nodup_append]
    exact ⟨hnd, by simp, fun a ha c hc => by simp at hc; subst hc; exact fun e => hn (e ▸ ha)⟩

/-- what 'open' tells -/
def OpenR (h h' : Heap) (now : Int → UInt64) (r : Int × List Int × List Ent) (v : Value) : Prop :=
  if r.1 = 0 then ∃ b L a cc, v = .tuple #[.pointer (some ⟨b, 0, none⟩), .slice a r.2.2.length cc, .int .i64 0] ∧ BookAt h' b L r.2.1 21 (wordsAt now r.2.1) ∧ (∀ x ∈ BL.blocks b L, h.size ≤ x) ∧ Own h' 92 2 a r.2.2.length cc (entC r.2.2) ∧ (∀ x ∈ blkA a, h.size ≤ x) ∧ (∀ e ∈ r.2.2, e.ok)
  else v = .tuple #[.pointer none, .slice none 0 0, .int .i64 r.1]

def accE (now : Int → UInt64) (m : List Int) (i : Nat) : List Ent := (List.range i).flatMap (placeE now m)
def accK (ws : List UInt64) (k : Nat) : List Ent := (List.range k).flatMap (slotE ws)
theorem accE_succ (now : Int → UInt64) (m : List Int) (i : Nat) : accE now m (i + 1) = accE now m i ++ placeE now m i := by
  unfold accE
  rw [List.range_succ, List.flatMap_append]; simp
theorem accK_succ (ws : List UInt64) (k : Nat) : accK ws (k + 1) = accK ws k ++ slotE ws k := by
  unfold accK
  rw [List.range_succ, List.flatMap_append]; simp
theorem accE_len (now : Int → UInt64) (m : List Int) (i : Nat) : (accE now m i).length ≤ 5 * i := by
  have := flat_le _ 5 (placeE_len now m) (List.range i)
  simpa [accE] using this
theorem accK_len (ws : List UInt64) (k : Nat) : (accK ws k).length ≤ k := by
  have := flat_le _ 1 (slotE_len ws) (List.range k)
  simpa [accK] using this
theorem all_lt {p : Nat → Bool} {n : Nat} (h : (List.range n).all p = true) {i : Nat} (hi : i < n) : p i = true := List.all_eq_true.1 h i (List.mem_range.2 hi)

theorem fopen_spec {h : Heap} {V : VL} {M : MemS} {X : VS} (A : At h V M X) (c : Crd) (hc : c.ok) : CallH Tryz.prog 127 [.pointer (some ⟨V.v, 0, none⟩), .agg ⟨c.cells⟩] h (fun v h' => Keeps [] h h' ∧ OpenR h h' X.now (openP X.now c) v) := by
  refine call_of hmix Tryz.func127 rfl ok127 (by simp [Tryz.f127]) ?_
  conv => whnf
  refine AllocR.i fun b1 h1 e1 s1 o1 k1 => ?_
  conv => whnf
  refine IfR.f rfl ?_
  conv => whnf
  refine IfR.i (fun hk => ?_) (fun hk => ?_)
  · conv => whnf
    refine ⟨k1, ?_⟩
    have : c.kind ≠ 2 := by simpa using hk
    unfold openP
    rw [if_pos this]
    exact rfl
  have hkind : ¬ c.kind ≠ 2 := by simpa using hk
  conv => whnf
  refine CallR.i (map_spec (A.on k1) c hc) fun v h2 k2 hv => ?_
  have k02 := k1.trans k2
  cases hm : mapOf X.now c with
  | none =>
    rw [hm] at hv
    simp only at hv
    subst hv
    conv => whnf
    refine IfR.t rfl ?_
    conv => whnf
    refine ⟨k02, ?_⟩
    unfold openP
    rw [if_neg hkind, hm]
    exact rfl
  | some m =>
    rw [hm] at hv
    simp only at hv
    obtain ⟨pb, pcap, sp, rfl, I2, hpb, hpcap⟩ := hv
    have hml := mapOf_length hm
    have hop : openP X.now c = if (List.range 21).all (placeOk X.now m) = true ∧ ((rawE X.now m).map (·.name)).Nodup ∧ ((rawE X.now m).length : Int) = c.size then (0, m, sortE (rawE X.now m)) else (15, [], []) := by
      unfold openP
      rw [if_neg hkind, hm]
    have bad : ∀ h', Keeps [] h h' → ¬ ((List.range 21).all (placeOk X.now m) = true ∧ ((rawE X.now m).map (·.name)).Nodup ∧ ((rawE X.now m).length : Int) = c.size) → Keeps [] h h' ∧ OpenR h h' X.now (openP X.now c) (.tuple #[.pointer none, .slice none 0 0, .int .i64 15]) := by
      intro h' kk hn
      refine ⟨kk, ?_⟩
      rw [hop, if_neg hn]
      exact rfl
    have z1 := k1.size
    have z2 := k2.size
    conv => whnf
    refine IfR.f rfl ?_
    conv => whnf
    refine AllocR.i fun r3 h3 e3 s3 o3 k3 => ?_
    conv => whnf
    refine AllocR.i fun b4 h4 e4 s4 o4 k4 => ?_
    have z24 := (k3.trans k4).size
    have B0 : BookAt h4 b4 ⟨pb, pcap, sp, r3, []⟩ m 0 (wordsAt X.now m) :=
      { obj := o4, pl := (k3.trans k4).obj I2 (by simp), cap := hpcap, len := hml, map := (MapL.new o3).keep k4 (by simp), keys := (fun p => ⟨fun h => (by cases h), fun h => (by omega)⟩), blk := (fun p hp => (by cases hp)), nod := (by have := obj_lt I2; simp [BL.blocks]; omega) }
    conv => whnf
    refine LoopR.on [0, 3, 9, 10, 39, 40, 41] [3] (fun q : Nat × List (Int × Nat) × Option Addr × Nat => [(0, .v (.pointer (some ⟨V.v, 0, none⟩))), (3, .lp 3 0), (9, .v (.pointer (some ⟨b4, 0, none⟩))), (10, .v (.slice q.2.2.1 (accE X.now m q.1).length q.2.2.2)), (39, .v (.slice (some ⟨pb, 0, none⟩) 21 pcap)), (40, .v (.int .i64 21)), (41, .v (.int .i64 (q.1 : Int)))]) (fun _ => [(3, b1, c.cells)])
      (fun q h' => q.1 ≤ 21 ∧ Keeps [] h h' ∧ h4.size ≤ h'.size ∧ (List.range q.1).all (placeOk X.now m) = true ∧ BookAt h' b4 ⟨pb, pcap, sp, r3, q.2.1⟩ m q.1 (wordsAt X.now m) ∧ (∀ x ∈ BL.blocks b4 ⟨pb, pcap, sp, r3, q.2.1⟩, h.size ≤ x) ∧ Own h' 92 2 q.2.2.1 (accE X.now m q.1).length q.2.2.2 (entC (accE X.now m q.1)) ∧ (∀ x ∈ blkA q.2.2.1, h1.size ≤ x ∧ x ∉ BL.blocks b4 ⟨pb, pcap, sp, r3, q.2.1⟩)) (fun q => 21 - q.1) (0, [], none, 0) ?_ ?_
    · conv => whnf
      refine ⟨(0, [], none, 0), rfl, rfl, rfl, by decide, (k02.trans k3).trans k4, Nat.le_refl _, rfl, B0, ?_, Own.nil _ _ _, by simp [blkA]⟩
      intro x hx
      simp [BL.blocks] at hx
      omega
    · rintro ⟨i, mb, a, ca⟩ h5 ⟨q1, kk, z5, hall, B5, n5, O5, a5⟩
      simp only at q1 hall B5 n5 O5 a5
      conv => whnf
      refine IfR.i (fun hd => ?_) (fun hd => ?_)
      · have hi : i < 21 := by simp at hd; omega
        have hin : m[i]? = some (plc m i) := by unfold plc; rw [List.getElem?_eq_getElem (by omega)]; rfl
        have hin2 : m[i]'(by omega) = plc m i := by unfold plc; rw [List.getElem?_eq_getElem (by omega)]; rfl
        have hla := accE_len X.now m i
        have hsucc := accE_succ X.now m i
        conv => whnf
        first | refine IdxS.i i rfl hi rfl ?_ | (refine MeetR.pass ?_; (conv => whnf); refine IdxS.i i rfl hi rfl ?_)
        conv => whnf
        refine LoadR.i (IntsAt.nth B5.pl (by omega)) ?_
        conv => whnf
        rw [hin2]
        refine IfR.i (fun hx => ?_) (fun hx => ?_)
        · have hx1 : plc m i = -1 := by simpa using hx
          have hpe : placeE X.now m i = [] := by unfold placeE; rw [if_pos hx1]
          rw [hpe, List.append_nil] at hsucc
          conv => whnf
          refine ⟨21 - (i + 1), by simp only; omega, ?_⟩
          conv => whnf
          refine ⟨(i + 1, mb, a, ca), rfl, ?_, rfl, by simp only; omega, kk, z5, ?_, B5.skip hx1, n5, ?_, a5⟩
          · rw [hsucc, wrapN (n := i + 1) (by simp) (by omega)]
          · simp only
            rw [List.range_succ, List.all_append, hall]
            simp [placeOk, hx1]
          · simp only
            rw [hsucc]; exact O5
        · have hx1 : plc m i ≠ -1 := by simpa using hx
          have A5 := A.on kk
          conv => whnf
          refine CallR.i (block_spec A5 (plc m i)) fun v h6 k6 hv => ?_
          have kk6 := kk.trans k6
          rcases hv with ⟨g0, g1, x, rfl, x0, x1, o6⟩ | ⟨hout, rfl⟩
          · have o6' : h6[x]? = some (.cells ⟨(blkW X.now (plc m i)).map wv⟩ 56 (0, 0)) := o6
            have hwl := blkW_len X.now (plc m i)
            have hW : wordsAt X.now m (i : Int) = blkW X.now (plc m i) := by simp [wordsAt]
            have hpo : placeOk X.now m i = (decide (wAt (blkW X.now (plc m i)) 15 = 0) && (List.range 5).all (slotOk (blkW X.now (plc m i)) i)) := by
              unfold placeOk blkOkB
              rw [decide_eq_false hx1, decide_eq_true ⟨g0, g1⟩]; rfl
            have hpe : placeE X.now m i = accK (blkW X.now (plc m i)) 5 := by
              unfold placeE
              rw [if_neg hx1]; rfl
            generalize blkW X.now (plc m i) = ws at o6' hwl hW hpo hpe
            conv => whnf
            refine IdxS.i 15 rfl (by decide) rfl ?_
            conv => whnf
            refine LoadR.o o6' (nth_w (i := 0 + 15 * 1) (by omega)) ?_
            conv => whnf
            refine IfR.i (fun hw => ?_) (fun hw => ?_)
            · conv => whnf
              refine bad _ kk6 fun hh => ?_
              have h1 := all_lt hh.1 hi
              rw [hpo] at h1
              have h2 : wAt ws 15 = 0 := by simp at h1; exact h1.1
              have h3 : ((wAt ws (0 + 15 * 1)).toNat : Int) = 0 := by rw [show 0 + 15 * 1 = 15 by omega, h2]; rfl
              rw [h3] at hw
              revert hw; decide
            · have hw15 : decide (wAt ws 15 = 0) = true := by
                rw [← wv_zero]
                have h3 : (0 + 15 * 1) = 15 := by omega
                rw [h3] at hw
                simpa using hw
              have B6 := B5.on k6
              have hlt5 := B5.lt
              conv => whnf
              refine LoadR.o B6.obj rfl ?_
              conv => whnf
              refine SemR.put rfl rfl B6.map (by simp [blocksOf]; intro e; have := n5 r3 (by simp [BL.blocks]); omega) fun h7 s7 M7 k7 => ?_
              have hxn : x ∉ BL.blocks b4 ⟨pb, pcap, sp, r3, mb⟩ := fun hx => by have := hlt5 x hx; omega
              have B7 := B6.add (x := x) hx1 k7 M7 (by rw [hW]; exact o6') (by rw [hW]; exact hwl) hxn
              have n7 : ∀ y ∈ BL.blocks b4 ⟨pb, pcap, sp, r3, mb ++ [((i : Int), x)]⟩, h.size ≤ y := by
                intro y hy
                have e : BL.blocks b4 ⟨pb, pcap, sp, r3, mb ++ [((i : Int), x)]⟩ = BL.blocks b4 ⟨pb, pcap, sp, r3, mb⟩ ++ [x] := by simp [BL.blocks]
                rw [e] at hy
                simp only [List.mem_append, List.mem_cons, List.not_mem_nil, or_false] at hy
                rcases hy with hy | rfl
                · exact n5 y hy
                · have := kk.size; omega
              have O7 := (O5.keep k6 (by simp)).keep k7 (fun y hy => by simp; intro e; exact (a5 y hy).2 (by simp [BL.blocks, e]))
              have al5 := O5.lt
              have a7 : ∀ y ∈ blkA a, h1.size ≤ y ∧ y ∉ BL.blocks b4 ⟨pb, pcap, sp, r3, mb ++ [((i : Int), x)]⟩ := by
                intro y hy
                refine ⟨(a5 y hy).1, fun hx => ?_⟩
                have e : BL.blocks b4 ⟨pb, pcap, sp, r3, mb ++ [((i : Int), x)]⟩ = BL.blocks b4 ⟨pb, pcap, sp, r3, mb⟩ ++ [x] := by simp [BL.blocks]
                rw [e] at hx
                simp only [List.mem_append, List.mem_cons, List.not_mem_nil, or_false] at hx
                rcases hx with hx | rfl
                · exact (a5 y hy).2 hx
                · have := al5 y hy; omega
              have z56 := k6.size
              have kk7 : Keeps [] h h7 := kk6.new1 k7 (n5 r3 (by simp [BL.blocks]))
              have hxm : ((i : Int), x) ∈ (mb ++ [((i : Int), x)]) := by simp
              generalize mb ++ [((i : Int), x)] = mb' at B7 n7 a7 hxm
              conv => whnf
              refine LoopR.on [0, 3, 9, 10, 11, 13, 39, 40, 41, 68] [3] (fun q : Nat × Option Addr × Nat => [(0, .v (.pointer (some ⟨V.v, 0, none⟩))), (3, .lp 3 0), (9, .v (.pointer (some ⟨b4, 0, none⟩))), (10, .v (.slice q.2.1 (accE X.now m i ++ accK ws q.1).length q.2.2)), (11, .v (.int .i64 (i : Int))), (13, .v (.slice (some ⟨x, 0, none⟩) 16 16)), (39, .v (.slice (some ⟨pb, 0, none⟩) 21 pcap)), (40, .v (.int .i64 21)), (41, .v (.int .i64 (i : Int))), (68, .v (.int .i64 (q.1 : Int)))]) (fun _ => [(3, b1, c.cells)])
                (fun q h' => q.1 ≤ 5 ∧ Keeps [] h h' ∧ h4.size ≤ h'.size ∧ (List.range q.1).all (slotOk ws i) = true ∧ BookAt h' b4 ⟨pb, pcap, sp, r3, mb'⟩ m (i + 1) (wordsAt X.now m) ∧ Own h' 92 2 q.2.1 (accE X.now m i ++ accK ws q.1).length q.2.2 (entC (accE X.now m i ++ accK ws q.1)) ∧ (∀ x ∈ blkA q.2.1, h1.size ≤ x ∧ x ∉ BL.blocks b4 ⟨pb, pcap, sp, r3, mb'⟩)) (fun q => 5 - q.1) (0, a, ca) ?_ ?_
              · conv => whnf
                refine ⟨(0, a, ca), rfl, ?_, rfl, Nat.zero_le _, kk7, by omega, rfl, B7, ?_, a7⟩
                · have e : accE X.now m i ++ accK ws 0 = accE X.now m i := by simp [accK]
                  simp only [e]; rfl
                · have e : accE X.now m i ++ accK ws 0 = accE X.now m i := by simp [accK]
                  simp only [e]; exact O7
              · rintro ⟨k, a, ca⟩ h8 ⟨q2, kk8, z8, hall8, B8, O8, a8⟩
                simp only at q2 hall8 O8 a8
                conv => whnf
                refine IfR.i (fun hd2 => ?_) (fun hd2 => ?_)
                · have hk5 : k < 5 := by simp at hd2; omega
                  have ox := (B8.blk _ hxm).1
                  simp only [hW] at ox
                  have hks := accK_succ ws k
                  have hlk := accK_len ws k
                  have hallk : (List.range (k + 1)).all (slotOk ws i) = slotOk ws i k := by
                    rw [List.range_succ, List.all_append, hall8]
                    simp
                  conv => whnf
                  first | refine CallR.i (slot_spec x k hk5 h8) fun v h9 k9 hv => ?_ | (refine MeetR.pass ?_; (conv => whnf); refine CallR.i (slot_spec x k hk5 h8) fun v h9 k9 hv => ?_)
                  subst hv
                  conv => whnf
                  refine CallR.i (empty_spec (k9.obj ox (by simp)) hwl k hk5) fun v h10 k10 hv => ?_
                  subst hv
                  have k8_10 := k9.trans k10
                  conv => whnf
                  refine IfR.i (fun he => ?_) (fun he => ?_)
                  · have hse : slotE ws k = [] := by unfold slotE; rw [if_pos he]
                    rw [hse, List.append_nil] at hks
                    conv => whnf
                    refine ⟨5 - (k + 1), by simp only; omega, ?_⟩
                    conv => whnf
                    have z10 := k8_10.size
                    refine ⟨(k + 1, a, ca), rfl, ?_, rfl, by simp only; omega, kk8.trans k8_10, by omega, ?_, B8.on k8_10, ?_, a8⟩
                    · simp only
                      rw [hks, wrapN (n := k + 1) (by simp) (by omega)]
                    · simp only
                      rw [hallk]; unfold slotOk; rw [he]; rfl
                    · simp only
                      rw [hks]; exact O8.keep k8_10 (by simp)
                  · have hse : slotE ws k = [entE ws k] := by unfold slotE; rw [if_neg (by rw [he]; decide)]
                    have ho1 : slotOk ws i k = entB ws k i := by unfold slotOk; rw [he]; rfl
                    conv => whnf
                    refine CallR.i (slot_spec x k hk5 h10) fun v h11 k11 hv => ?_
                    subst hv
                    conv => whnf
                    refine CallR.i (entry_spec ((k8_10.trans k11).obj ox (by simp)) hwl k i hk5 (by omega)) fun v h12 k12 hv => ?_
                    subst hv
                    conv => whnf
                    refine AllocR.i fun b13 h13 e13 s13 o13 k13 => ?_
                    conv => whnf
                    refine BoxR.i fun h14 s14 k14 => ?_
                    have k8_12 := (k8_10.trans k11).trans k12
                    have z12 := k8_12.size
                    have z8' := kk8.size
                    have k8_14 : Keeps [] h8 h14 := (k8_12.trans k13).new1 k14 (by omega)
                    have O14 := O8.keep k8_14 (by simp)
                    have B14 := B8.on k8_14
                    conv => whnf
                    refine IfR.i (fun hf => ?_) (fun hf => ?_)
                    · conv => whnf
                      refine bad _ (kk8.trans k8_14) fun hh => ?_
                      have h1 := all_lt hh.1 hi
                      rw [hpo] at h1
                      have h2 : (List.range 5).all (slotOk ws i) = true := by simp only [Bool.and_eq_true] at h1; exact h1.2
                      have h3 := all_lt h2 hk5
                      rw [ho1] at h3
                      rw [h3] at hf; cases hf
                    · have hfine : entB ws k i = true := by simpa using hf
                      conv => whnf
                      refine AllocR.i fun b15 h15 e15 s15 o15 k15 => ?_
                      have hle : (accE X.now m i ++ accK ws k).length ≤ 110 := by rw [List.length_append]; omega
                      conv => whnf
                      refine append_own (e := 92) (sz := 2) (by_ := 24) (new := (entE ws k).cells) rfl rfl rfl rfl rfl rfl rfl (O14.keep k15 (by simp)) rfl ?_ rfl (by omega) (by omega) ?_ ?_
                      · intro j hj
                        unfold Heap.cell?
                        rw [o15]
                        have : j = 0 ∨ j = 1 := by simp [Ent.cells] at hj; omega
                        rcases this with rfl | rfl <;> rfl
                      · intro y hy hx2
                        have := (a8 y hy).1
                        have := O8.lt y hy
                        have hx3 : y = b1 ∨ y = b13 := by simpa [blocksOf, setB] using hx2
                        omega
                      · intro a' c' h16 O16 k16 n16
                        conv => whnf
                        refine ⟨5 - (k + 1), by simp only; omega, ?_⟩
                        conv => whnf
                        have e16 : accE X.now m i ++ accK ws (k + 1) = (accE X.now m i ++ accK ws k) ++ [entE ws k] := by rw [hks, hse, List.append_assoc]
                        have k8_16 : Keeps (blkA a) h8 h16 := ((k8_14.trans k15).mono (by simp)).trans k16
                        have z16 := k8_16.size
                        refine ⟨(k + 1, a', c'), rfl, ?_, rfl, by simp only; omega, kk8.nil_of k8_16 (fun y hy => by have := (a8 y hy).1; omega), by omega, ?_, B8.keep k8_16 (fun y hy hx2 => (a8 y hx2).2 hy), ?_, fun y hy => ?_⟩
                        · simp only
                          rw [e16, wrapN (n := k + 1) (by simp) (by omega)]
                          simp [Nat.add_assoc]
                        · simp only
                          rw [hallk, ho1]; exact hfine
                        · simp only
                          rw [e16, List.length_append, entC_app]; exact O16
                        · have h15z := k15.size
                          have h14z := k8_14.size
                          rcases n16 y hy with g | g
                          · exact a8 y g
                          · exact ⟨by omega, fun hx2 => by have := B8.lt y hx2; omega⟩
                · have hk5 : k = 5 := by simp at hd2; omega
                  subst hk5
                  conv => whnf
                  refine ⟨21 - (i + 1), by simp only; omega, ?_⟩
                  conv => whnf
                  rw [hpe] at hsucc
                  refine ⟨(i + 1, mb', a, ca), rfl, ?_, rfl, by simp only; omega, kk8, z8, ?_, B8, n7, ?_, a8⟩
                  · rw [hsucc, wrapN (n := i + 1) (by simp) (by omega)]
                  · simp only
                    rw [List.range_succ, List.all_append, hall]
                    simp only [List.all_cons, List.all_nil, Bool.and_true, Bool.true_and]
                    rw [hpo, hw15, hall8]; rfl
                  · simp only
                    rw [hsucc]; exact O8
          · conv => whnf
            refine IdxS.u 0 0 0 (fun hf => absurd hf (by decide)) ?_
            conv => whnf
            refine LoadR.u (.int .u64 0) (fun hf => absurd hf (by decide)) ?_
            conv => whnf
            refine IfR.t rfl ?_
            conv => whnf
            refine bad _ kk6 fun hh => ?_
            have hpo := all_lt hh.1 hi
            unfold placeOk blkOkB at hpo
            rw [decide_eq_false hx1, decide_eq_false hout] at hpo
            cases hpo
      · have hi : i = 21 := by simp at hd; omega
        subst hi
        have hraw : accE X.now m 21 = rawE X.now m := rfl
        rw [hraw] at O5
        have hrl := rawE_len X.now m
        conv => whnf
        rw [hraw]
        refine CallR.m (sortE_spec O5 (by omega)) ?_ fun v h6 k6 hv => ?_
        · intro y hy hx2
          have := (a5 y hx2).1
          have : y = b1 := by simpa [blocksOf, setB] using hy
          omega
        obtain ⟨rfl, l', pm, ps, O6⟩ := hv
        have hl' := pm.length_eq
        have hok' : ∀ e ∈ l', e.ok := fun e he => rawE_ok e (pm.mem_iff.1 he)
        have k56 : Keeps [] h h6 := kk.nil_of k6 (fun y hy => by have := (a5 y hy).1; omega)
        conv => whnf
        refine CallR.i (cloneE_spec O6 hok' (by omega)) fun v h7 k7 hv => ?_
        obtain ⟨a7, c7, rfl, O7, n7⟩ := hv
        have z6 := k56.size
        have z16 := k6.size
        have z55 := kk.size
        conv => whnf
        refine CallR.m (compact_spec O7 hok' (by omega)) ?_ fun v h8 k8 hv => ?_
        · intro y hy hx2
          have := n7 y hx2
          have : y = b1 := by simpa [blocksOf, setB] using hy
          omega
        obtain ⟨a8, m8, c8, rfl, hv8⟩ := hv
        have k58 : Keeps [] h h8 := (k56.trans k7).nil_of k8 (fun y hy => by have := n7 y hy; have := k56.size; omega)
        have k68 : Keeps [] h6 h8 := k7.nil_of k8 (fun y hy => n7 y hy)
        have ps2 : l'.Pairwise (fun x y => leE x y = true) := ps.imp fun {x y} hxy => by unfold leE; rw [hxy]; rfl
        have hnd : noAdj l' ↔ ((rawE X.now m).map (·.name)).Nodup := by
          rw [noAdj_nodup ps2]
          exact (pm.map _).nodup_iff
        conv => whnf
        refine IfR.i (fun hq => ?_) (fun hq => ?_)
        · conv => whnf
          refine bad _ k58 fun hh => ?_
          obtain ⟨g1, g2, g3⟩ := hh
          have : m8 = (rawE X.now m).length := by
            rcases hv8 with ⟨h1, _⟩ | ⟨_, h2⟩
            · exact h1
            · exact absurd (hnd.2 g2) h2
          subst this
          rw [g3] at hq
          revert hq
          simp [bif_or]
        · conv => whnf
          have hq2 : m8 = (rawE X.now m).length ∧ ((rawE X.now m).length : Int) = c.size := by
            rw [bif_or] at hq
            simp at hq
            omega
          have g2 : ((rawE X.now m).map (·.name)).Nodup := by
            rcases hv8 with ⟨_, h2⟩ | ⟨h1, _⟩
            · exact hnd.1 h2
            · omega
          have hls : l' = sortE (rawE X.now m) := by
            refine sorted_unique (pm.trans (sortE_perm _).symm) ?_ ps2 (sortE_sorted _)
            exact (pm.map _).nodup_iff.2 g2
          refine ⟨k58, ?_⟩
          rw [hop, if_pos ⟨hall, g2, hq2.2⟩]
          unfold OpenR
          rw [if_pos rfl]
          have hlen2 : (sortE (rawE X.now m)).length = (rawE X.now m).length := (sortE_perm _).length_eq
          have B6 := (B5.keep k6 (fun y hy hx => (a5 y hx).2 hy)).on k68
          rw [hls] at O6 hok'
          refine ⟨b4, _, a, ca, ?_, B6, n5, ?_, fun y hy => by have := (a5 y hy).1; omega, hok'⟩
          · simp only [hlen2]
          · simp only [hlen2]
            exact O6.keep k68 (by simp)
end Go.Proofs.YtkjkdnphikendaaGreatDoor
/-
  Layer 11: names that are told; maps whose entry is made first; a text that is too long.
-/
set_option linter.all false
set_option maxRecDepth 100000
set_option maxHeartbeats 1000000
namespace Go.Eng

/-- a map whose newest entry, at a key that wasn't there, waits for its value -/
def MapP (h : Heap) (r : Nat) (m : List (Int × Value)) (n : Int) (born : Int) : Prop :=
  ∃ (es : Array MapEntry) (cl : Nat) (z : Value), h[r]? = some (.map (es.push { key := .int .i64 n, val := z, born := cl }) (cl + 1)) ∧ born = (cl : Int) ∧ es.toList.map (fun e => (e.key, e.val)) = m.map (fun p => (Value.int .i64 p.1, p.2)) ∧ ((m.map (·.1)) ++ [n]).Nodup ∧
    (es.toList.map (·.born)).Nodup ∧ ∀ e ∈ es.toList, e.born < cl

theorem lookI_none : ∀ (m : List (Int × Value)) (a : Int), lookI m a = none ↔ a ∉ m.map (·.1)
  | [], a => by simp [lookI]
  | (k, v) :: m, a => by
    simp only [lookI, List.map_cons, List.mem_cons, not_or]
    by_cases h : a = k
    · simp [h]
    · rw [if_neg h, lookI_none m a]; simp [h]

theorem SemR.entryNew {P : Program} {T kT eT : TypeId} {i : TypeInfo} {z : Value} (hu : P.underlying T = some (.map kT eT)) (hk : P.underlying kT = some (.int .i64)) (hi : P.info? eT = some i) (hz : i.zero = some z) {h : Heap} {r : Nat} {m : List (Int × Value)} (o : MapL h r m) {n : Int} (hn : n ∉ m.map (·.1)) {bs : List Nat} (hb : r ∉ bs)
    {K : Value → Heap → Prop} (H : ∀ h' born, h'.size = h.size → MapP h' r m n born → Keeps [r] h h' → K (.tuple #[z, .int .i64 born]) h') : SemR P (Instr.mapEntry T (.map (some r)) (.int .i64 n)) bs h K := by
  unfold SemR
  intro hlt w hw
  subst hw
  have hr := o.lt
  obtain ⟨es, cl, h1, h2, h3, h4, h5⟩ := o
  obtain ⟨q, h6, h7, h8⟩ := findNow_look es.toList m n 0 h2
  have hq : q = none := by
    cases q with
    | none => rfl
    | some q =>
      have := (lookI_none m n).2 hn
      rw [this] at h7
      simp at h7
  subst hq
  have hf := findKey_now (P := P) hk h6 w
  have hg := getObj_run (P := P) h1
  have hs := setObj_run (P := P) h1 (.map (es.push { key := .int .i64 n, val := z, born := cl }) (cl + 1))
  have hzr : (zeroValue eT).run P w = .ok z w := by simp [zeroValue, typeInfo_run P eT w hi, hz]
  refine ⟨.tuple #[z, .int .i64 cl], { w with heap := w.heap.setIfInBounds r (.map (es.push { key := .int .i64 n, val := z, born := cl }) (cl + 1)) }, ?_, ⟨rfl, rfl, rfl⟩, fun b hb' => ?_, H _ _ (by simp) ⟨es, cl, z, by rw [set_get _ _ _ _ hr, if_pos rfl], rfl, h2, ?_, h4, h5⟩ (keeps_set _ _ _ hr)⟩
  · simp only [Instr.mapEntry, Sem.run_bind, underlying_run P T w hu, Result.andThen_ok, hg]
    rw [checkKey_plain hk (.inl ⟨_, rfl⟩)]
    simp only [Result.andThen_ok, hf, Sem.run_bind, hzr, hs, Sem.run_pure, goInt]
  · show (w.heap.setIfInBounds r _)[b]? = _
    rw [set_get _ _ _ _ hr, if_neg (by intro e; subst e; exact hb hb')]
  · exact List.nodup_append.2 ⟨h3, by simp, fun a ha b hb hab => by simp at hb; subst hb; subst hab; exact hn ha⟩

theorem SemR.entryStore {P : Program} {T : TypeId} {h : Heap} {r : Nat} {m : List (Int × Value)} {n born : Int} (o : MapP h r m n born) {v : Value} {bs : List Nat} (hb : r ∉ bs)
    {K : Unit → Heap → Prop} (H : ∀ h', h'.size = h.size → MapL h' r (m ++ [(n, v)]) → Keeps [r] h h' → K () h') : SemR P (Instr.entryStore T (.map (some r)) (.int .i64 born) v) bs h K := by
  unfold SemR
  intro hlt w hw
  subst hw
  obtain ⟨es, cl, z, h1, rfl, h2, h3, h4, h5⟩ := o
  have hr := obj_lt h1
  have hg := getObj_run (P := P) h1
  have hfind : (es.push { key := .int .i64 n, val := z, born := cl }).findIdx? (fun e => (e.born : Int) == (cl : Int)) = some es.size := by
    rw [Array.findIdx?_eq_some_iff_getElem]
    refine ⟨by simp, by simp, fun j hj => ?_⟩
    have hj2 : j < es.size := hj
    rw [Array.getElem_push_lt hj2]
    have := h5 es[j] (by simp)
    simp; omega
  have hmod : (es.push { key := .int .i64 n, val := z, born := cl }).modify es.size (fun e => { e with val := v }) = es.push { key := .int .i64 n, val := v, born := cl } := by
    apply Array.ext
    · simp
    · intro j j1 j2
      rw [Array.getElem_modify]
      have hj : j < es.size + 1 := by simpa using j2
      by_cases e : j = es.size
      · subst e; simp
      · rw [if_neg (fun x => e x.symm), Array.getElem_push_lt (by omega), Array.getElem_push_lt (by omega)]
  have hs := setObj_run (P := P) h1 (.map (es.push { key := .int .i64 n, val := v, born := cl }) (cl + 1))
  refine ⟨(), { w with heap := w.heap.setIfInBounds r (.map (es.push { key := .int .i64 n, val := v, born := cl }) (cl + 1)) }, ?_, ⟨rfl, rfl, rfl⟩, fun b hb' => ?_, H _ (by simp) ⟨es.push { key := .int .i64 n, val := v, born := cl }, cl + 1, by rw [set_get _ _ _ _ hr, if_pos rfl], ?_, ?_, ?_, ?_⟩ (keeps_set _ _ _ hr)⟩
  · simp [Instr.entryStore, hg, asInt, asIntOf, hfind, hmod, hs]
  · show (w.heap.setIfInBounds r _)[b]? = _
    rw [set_get _ _ _ _ hr, if_neg (by intro e; subst e; exact hb hb')]
  · simp only [Array.toList_push, List.map_append, List.map_cons, List.map_nil, h2]
  · simpa using h3
  · simp only [Array.toList_push, List.map_append, List.map_cons, List.map_nil]
    refine List.nodup_append.2 ⟨h4, by simp, fun a ha b hb hab => ?_⟩
    simp at hb; subst hb; subst hab
    obtain ⟨e, he, hx⟩ := List.mem_map.1 ha
    have := h5 e he
    omega
  · intro e he
    simp only [Array.toList_push, List.mem_append, List.mem_cons, List.not_mem_nil, or_false] at he
    rcases he with he | rfl
    · have := h5 e he; omega
    · simp
end Go.Eng
namespace Go.Proofs.YtkjkdnphikendaaGreatDoor
open Go Go.Eng

theorem text_long (l : List UInt8) (n : Nat) (h : Heap) (hn : n ≤ 64) (hs : 8 * n < l.length) (hl : l.length ≤ 140737488351232) : CallH Tryz.prog 128 [.string ⟨l.toArray⟩, .int .i64 (n : Int)] h (fun v h' => Keeps [] h h' ∧ v = .tuple #[.slice none 0 0, .int .i64 2]) := by
  refine call_of hmix Tryz.func128 rfl ok128 (by simp [Tryz.f128]) ?_
  conv => whnf
  have e8 : IntKind.i64.wrap (8 * (n : Int)) = ((8 * n : Nat) : Int) := wrapN (by omega) (by omega)
  refine IfR.f (by simp [bif_or]; omega) ?_
  conv => whnf
  refine IfR.t (by rw [bs_size, e8]; simp; omega) ?_
  conv => whnf
  exact ⟨Keeps.refl _ _, rfl⟩

theorem fmay_spec {v0 : Nat} (node : Int) (h : Heap) : CallH Tryz.prog 126 [.pointer (some ⟨v0, 0, none⟩), .int .i64 node] h (fun v h' => Keeps [] h h' ∧ v = .int .i64 (if 0 ≤ node ∧ node < 24 then 0 else 1)) := by
  refine call_of hmix Tryz.func126 rfl ok126 (by simp [Tryz.f126]) ?_
  conv => whnf
  refine CallR.i (cardAt_spec node h) fun v h1 k1 hv => ?_
  subst hv
  conv => whnf
  first | refine IfR.f rfl ?_ | (refine MeetR.pass ?_; (conv => whnf); refine IfR.f rfl ?_)
  conv => whnf
  exact ⟨k1, rfl⟩

/-- what 'List' tells -/
def ListR (h h' : Heap) (r : Int × List Int × List Ent) (v : Value) : Prop :=
  if r.1 = 0 then ∃ a cc, v = .tuple #[.slice a r.2.2.length cc, .int .i64 0] ∧ Own h' 92 2 a r.2.2.length cc (entC r.2.2) ∧ (∀ x ∈ blkA a, h.size ≤ x) ∧ (∀ e ∈ r.2.2, e.ok)
  else v = .tuple #[.slice none 0 0, .int .i64 r.1]

def findP (now : Int → UInt64) (c : Crd) (name : List UInt8) : Int × Bool × Int :=
  if (openP now c).1 = 0 then ((findR (openP now c).2.2 name).1, (findR (openP now c).2.2 name).2, 0) else (0, false, (openP now c).1)

theorem openP_len (now : Int → UInt64) (c : Crd) : (openP now c).2.2.length ≤ 105 := by
  unfold openP
  split
  · simp
  · split
    · simp
    · split
      · simp only
        rw [(sortE_perm _).length_eq]
        exact rawE_len _ _
      · simp

theorem ffind_spec {h : Heap} {V : VL} {M : MemS} {X : VS} (A : At h V M X) (c : Crd) (hc : c.ok) (name : List UInt8) : CallH Tryz.prog 119 [.pointer (some ⟨V.v, 0, none⟩), .agg ⟨c.cells⟩, .string ⟨name.toArray⟩] h (fun v h' => Keeps [] h h' ∧ v = .tuple #[.int .i64 (findP X.now c name).1, .bool (findP X.now c name).2.1, .int .i64 (findP X.now c name).2.2]) := by
  have hlen := openP_len X.now c
  unfold findP
  refine call_of hmix Tryz.func119 rfl ok119 (by simp [Tryz.f119]) ?_
  conv => whnf
  refine AllocR.i fun b1 h1 e1 s1 o1 k1 => ?_
  conv => whnf
  refine CallR.i (fopen_spec (A.on k1) c hc) fun v h2 k2 hv => ?_
  generalize openP X.now c = r at hv hlen
  unfold OpenR at hv
  split at hv
  · rename_i h0
    obtain ⟨b, L, a, cc, rfl, B, nB, O, nO, ok⟩ := hv
    conv => whnf
    refine IfR.f rfl ?_
    conv => whnf
    refine CallR.i (find_spec (own_ents O ok (by omega)) (by omega) name) fun v h3 k3 hv => ?_
    subst hv
    conv => whnf
    rw [if_pos h0]
    exact ⟨(k1.trans k2).trans k3, rfl⟩
  · rename_i h0
    subst hv
    conv => whnf
    refine IfR.t (by simpa using h0) ?_
    conv => whnf
    rw [if_neg h0]
    exact ⟨k1.trans k2, rfl⟩
end Go.Proofs.YtkjkdnphikendaaGreatDoor
/-
  Layer 11: where an entry stands, and may stand; an entry is put.
-/
set_option linter.all false
set_option maxRecDepth 100000
set_option maxHeartbeats 1000000
namespace Go.Proofs.YtkjkdnphikendaaGreatDoor
open Go Go.Eng

theorem lookI_mem : ∀ {m : List (Int × Value)} {k : Int} {v : Value}, (m.map (·.1)).Nodup → (k, v) ∈ m → lookI m k = some v
  | [], _, _, _, h => by cases h
  | (k', u) :: m, k, v, hn, h => by
    simp only [List.map_cons, List.nodup_cons] at hn
    simp only [lookI]
    rcases List.mem_cons.1 h with h | h
    · cases h; rw [if_pos rfl]
    · rw [if_neg (fun e => hn.1 (by rw [← e]; exact List.mem_map_of_mem (f := fun p : Int × Value => p.1) h))]
      exact lookI_mem hn.2 h

theorem BookAt.hole {h : Heap} {b : Nat} {L : BL} {m : List Int} {i : Nat} {W : Int → List UInt64} (B : BookAt h b L m i W) {p : Nat} (hp : plc m p = -1) : lookI (mbV L.mb) (p : Int) = none := by
  rw [lookI_none, mbV_keys, B.keys]
  rintro ⟨_, _, h3⟩
  exact h3 (by simpa using hp)
theorem BookAt.used {h : Heap} {b : Nat} {L : BL} {m : List Int} {i : Nat} {W : Int → List UInt64} (B : BookAt h b L m i W) {p : Nat} (hi : p < i) (hp : plc m p ≠ -1) : ∃ x, ((p : Int), x) ∈ L.mb ∧ lookI (mbV L.mb) (p : Int) = some (.slice (some ⟨x, 0, none⟩) 16 16) := by
  have hk : (p : Int) ∈ L.mb.map (·.1) := (B.keys p).2 ⟨by omega, by omega, by simpa using hp⟩
  obtain ⟨⟨q, x⟩, hq, e⟩ := List.mem_map.1 hk
  simp only at e; subst e
  refine ⟨x, hq, lookI_mem ?_ (List.mem_map.2 ⟨_, hq, rfl⟩)⟩
  obtain ⟨es, cl, _, _, g, _⟩ := B.map
  exact g

def firstK (p : List UInt64 → Nat → Bool) (ws : List UInt64) : Nat → Nat → Option Nat
  | 0, _ => none
  | f + 1, k => if p ws k then some k else firstK p ws f (k + 1)
def spotF (W : Int → List UInt64) (m : List Int) (p : List UInt64 → Nat → Bool) : Nat → Nat → Option (Nat × Nat)
  | 0, _ => none
  | f + 1, pl => if pl < 21 then (if plc m pl = -1 then spotF W m p f (pl + 8) else (match firstK p (W (pl : Int)) 5 0 with | some k => some (pl, k) | none => spotF W m p f (pl + 8))) else none
def spotV : Option (Nat × Nat) → Value
  | some (pl, k) => .tuple #[.int .i64 (pl : Int), .int .i64 (k : Int), .bool true]
  | none => .tuple #[.int .i64 0, .int .i64 0, .bool false]

/-- is an entry a name's? -/
def isB (name : List UInt8) (ws : List UInt64) (k : Nat) : Bool := entB ws k (bucketL name) && decide (entN ws k = name)

theorem dropC_spec {h : Heap} {b q : Nat} {ws : List UInt64} {T : TypeId} {fz : Nat × Nat} {name : List UInt8} (hnl : name.length ≤ 140737488351232) (hq : h[q]? = some (.cells ⟨[.string ⟨name.toArray⟩]⟩ 9 (0, 0))) (o : h[b]? = some (.cells ⟨ws.map wv⟩ T fz)) (hl : ws.length = 16) (k : Nat) (hk : k < 5) :
    CallH Tryz.prog 201 [.slice (some ⟨b, 3 * k, none⟩) 3 3, .pointer (some ⟨q, 0, none⟩)] h (fun v h' => Keeps [] h h' ∧ v = .bool (isB name ws k)) := by
  have hlt := bucketL_lt name
  refine call_of hmix Tryz.func201 rfl ok201 (by simp [Tryz.f201]) ?_
  conv => whnf
  refine LoadR.o hq rfl ?_
  conv => whnf
  refine CallR.i (bucket_spec name hnl h) fun v h1 k1 hv => ?_
  subst hv
  conv => whnf
  refine CallR.i (entry_spec (k1.obj o (by simp)) hl k (bucketL name) hk (by omega)) fun v h2 k2 hv => ?_
  subst hv
  conv => whnf
  refine AllocR.i fun b3 h3 e3 s3 o3 k3 => ?_
  conv => whnf
  refine BoxR.i fun h4 s4 k4 => ?_
  have k04 : Keeps [] h h4 := ((k1.trans k2).trans k3).new1 k4 (by have := (k1.trans k2).size; omega)
  conv => whnf
  refine LoadR.o (k04.obj hq (by simp)) rfl ?_
  conv => whnf
  refine ⟨k04, ?_⟩
  rw [bs_eq, bif_and]
  rfl

theorem spotE_spec {h : Heap} {b : Nat} {L : BL} {m : List Int} {W : Int → List UInt64} (B : BookAt h b L m 21 W) (name : List UInt8) (hnl : name.length ≤ 140737488351232) :
    CallH Tryz.prog 187 [.pointer (some ⟨b, 0, none⟩), .string ⟨name.toArray⟩, .func (.func 175) #[] #[]] h (fun v h' => Keeps [] h h' ∧ v = spotV (spotF W m emptyB 4 (bucketL name))) := by
  have hbk := bucketL_lt name
  refine call_of hmix Tryz.func187 rfl ok187 (by simp [Tryz.f187]) ?_
  conv => whnf
  refine CallR.i (bucket_spec name hnl h) fun v h1 k1 hv => ?_
  subst hv
  conv => whnf
  refine LoopR.on [0, 2, 9] [] (fun p : Nat => [(0, .v (.pointer (some ⟨b, 0, none⟩))), (2, .v (.func (.func 175) #[] #[])), (9, .v (.int .i64 (p : Int)))]) (fun _ => [])
    (fun p h' => Keeps [] h h' ∧ ∃ f, p + 8 * f ≤ 32 + 7 ∧ f ≤ 4 ∧ p + 8 * f = bucketL name + 32 ∧ spotF W m emptyB 4 (bucketL name) = spotF W m emptyB f p) (fun p => 40 - p) (bucketL name) ?_ ?_
  · exact ⟨bucketL name, rfl, rfl, rfl, k1, 4, by omega, by omega, by omega, rfl⟩
  · rintro p h2 ⟨k2, f, q1, q2, q3, hf⟩
    have hst : spotF W m emptyB f p = (if p < 21 then (if plc m p = -1 then spotF W m emptyB (f - 1) (p + 8) else (match firstK emptyB (W (p : Int)) 5 0 with | some k => some (p, k) | none => spotF W m emptyB (f - 1) (p + 8))) else none) := by
      cases f with
      | zero => simp only [spotF]; rw [if_neg (by omega)]
      | succ f => rfl
    have B2 := B.on k2
    conv => whnf
    refine IfR.i (fun hc => ?_) (fun hc => ?_)
    · have hp : p < 21 := by simp at hc; omega
      rw [if_pos hp] at hst
      conv => whnf
      first | refine LoadR.o B2.obj rfl ?_ | (refine MeetR.pass ?_; (conv => whnf); refine LoadR.o B2.obj rfl ?_)
      by_cases hh : plc m p = -1
      · rw [if_pos hh] at hst
        conv => whnf
        refine LookR.is B2.map (B2.hole hh) ?_
        conv => whnf
        refine IfR.t rfl ?_
        conv => whnf
        refine ⟨40 - (p + 8), by omega, ?_⟩
        conv => whnf
        exact ⟨p + 8, rfl, by rw [wrapN (n := p + 8) (by simp) (by omega)], rfl, k2, f - 1, by omega, by omega, by omega, by rw [hf, hst]⟩
      · rw [if_neg hh] at hst
        obtain ⟨x, hx, hlk⟩ := B2.used hp hh
        obtain ⟨ox, hwl⟩ := B2.blk _ hx
        simp only at ox hwl
        conv => whnf
        refine LookR.is B2.map hlk ?_
        conv => whnf
        refine IfR.f rfl ?_
        conv => whnf
        refine LoopR.on [0, 2, 9, 10, 30] [] (fun k : Nat => [(0, .v (.pointer (some ⟨b, 0, none⟩))), (2, .v (.func (.func 175) #[] #[])), (9, .v (.int .i64 (p : Int))), (10, .v (.slice (some ⟨x, 0, none⟩) 16 16)), (30, .v (.int .i64 (k : Int)))]) (fun _ => [])
          (fun k h' => Keeps [] h2 h' ∧ k ≤ 5 ∧ firstK emptyB (W (p : Int)) 5 0 = firstK emptyB (W (p : Int)) (5 - k) k) (fun k => 5 - k) 0 ?_ ?_
        · conv => whnf
          exact ⟨0, rfl, rfl, rfl, Keeps.refl _ _, by decide, rfl⟩
        · rintro k h3 ⟨k3, hk5, hfk⟩
          conv => whnf
          refine IfR.i (fun hc2 => ?_) (fun hc2 => ?_)
          · have hk : k < 5 := by simp at hc2; omega
            have hf2 : firstK emptyB (W (p : Int)) (5 - k) k = if emptyB (W (p : Int)) k then some k else firstK emptyB (W (p : Int)) (5 - (k + 1)) (k + 1) := by
              have : 5 - k = (5 - (k + 1)) + 1 := by omega
              rw [this]; rfl
            rw [hf2] at hfk
            have o3 := k3.obj ox (by simp)
            conv => whnf
            first | refine CallR.i (slot_spec x k hk h3) fun v h4 k4 hv => ?_ | (refine MeetR.pass ?_; (conv => whnf); refine CallR.i (slot_spec x k hk h3) fun v h4 k4 hv => ?_)
            subst hv
            conv => whnf
            refine CallR.i (empty_spec (k4.obj o3 (by simp)) hwl k hk) fun v h5 k5 hv => ?_
            subst hv
            have k25 := (k3.trans k4).trans k5
            conv => whnf
            refine IfR.i (fun he => ?_) (fun he => ?_)
            · conv => whnf
              rw [if_pos he] at hfk
              rw [hfk] at hst
              refine ⟨k2.trans k25, ?_⟩
              rw [hf, hst]; rfl
            · rw [if_neg (by rw [he]; decide)] at hfk
              conv => whnf
              refine ⟨5 - (k + 1), by omega, ?_⟩
              conv => whnf
              exact ⟨k + 1, rfl, by rw [wrapN (n := k + 1) (by simp) (by omega)], rfl, k25, by omega, hfk⟩
          · have hk : k = 5 := by simp at hc2; omega
            subst hk
            have hfn : firstK emptyB (W (p : Int)) 5 0 = none := hfk
            rw [hfn] at hst
            conv => whnf
            refine ⟨40 - (p + 8), by omega, ?_⟩
            conv => whnf
            exact ⟨p + 8, rfl, by rw [wrapN (n := p + 8) (by simp) (by omega)], rfl, k2.trans k3, f - 1, by omega, by omega, by omega, by rw [hf, hst]⟩
    · have hp : ¬ p < 21 := by simp at hc; omega
      rw [if_neg hp] at hst
      conv => whnf
      refine ⟨k2, ?_⟩
      rw [hf, hst]; rfl

theorem spotD_spec {h : Heap} {b : Nat} {L : BL} {m : List Int} {W : Int → List UInt64} (B : BookAt h b L m 21 W) (name : List UInt8) (hnl : name.length ≤ 140737488351232) {q : Nat} (hq : h[q]? = some (.cells ⟨[.string ⟨name.toArray⟩]⟩ 9 (0, 0))) :
    CallH Tryz.prog 187 [.pointer (some ⟨b, 0, none⟩), .string ⟨name.toArray⟩, .func (.func 201) #[] #[.pointer (some ⟨q, 0, none⟩)]] h (fun v h' => Keeps [] h h' ∧ v = spotV (spotF W m (isB name) 4 (bucketL name))) := by
  have hbk := bucketL_lt name
  refine call_of hmix Tryz.func187 rfl ok187 (by simp [Tryz.f187]) ?_
  conv => whnf
  refine CallR.i (bucket_spec name hnl h) fun v h1 k1 hv => ?_
  subst hv
  conv => whnf
  refine LoopR.on [0, 2, 9] [] (fun p : Nat => [(0, .v (.pointer (some ⟨b, 0, none⟩))), (2, .v (.func (.func 201) #[] #[.pointer (some ⟨q, 0, none⟩)])), (9, .v (.int .i64 (p : Int)))]) (fun _ => [])
    (fun p h' => Keeps [] h h' ∧ ∃ f, p + 8 * f ≤ 32 + 7 ∧ f ≤ 4 ∧ p + 8 * f = bucketL name + 32 ∧ spotF W m (isB name) 4 (bucketL name) = spotF W m (isB name) f p) (fun p => 40 - p) (bucketL name) ?_ ?_
  · exact ⟨bucketL name, rfl, rfl, rfl, k1, 4, by omega, by omega, by omega, rfl⟩
  · rintro p h2 ⟨k2, f, q1, q2, q3, hf⟩
    have hst : spotF W m (isB name) f p = (if p < 21 then (if plc m p = -1 then spotF W m (isB name) (f - 1) (p + 8) else (match firstK (isB name) (W (p : Int)) 5 0 with | some k => some (p, k) | none => spotF W m (isB name) (f - 1) (p + 8))) else none) := by
      cases f with
      | zero => simp only [spotF]; rw [if_neg (by omega)]
      | succ f => rfl
    have B2 := B.on k2
    conv => whnf
    refine IfR.i (fun hc => ?_) (fun hc => ?_)
    · have hp : p < 21 := by simp at hc; omega
      rw [if_pos hp] at hst
      conv => whnf
      first | refine LoadR.o B2.obj rfl ?_ | (refine MeetR.pass ?_; (conv => whnf); refine LoadR.o B2.obj rfl ?_)
      by_cases hh : plc m p = -1
      · rw [if_pos hh] at hst
        conv => whnf
        refine LookR.is B2.map (B2.hole hh) ?_
        conv => whnf
        refine IfR.t rfl ?_
        conv => whnf
        refine ⟨40 - (p + 8), by omega, ?_⟩
        conv => whnf
        exact ⟨p + 8, rfl, by rw [wrapN (n := p + 8) (by simp) (by omega)], rfl, k2, f - 1, by omega, by omega, by omega, by rw [hf, hst]⟩
      · rw [if_neg hh] at hst
        obtain ⟨x, hx, hlk⟩ := B2.used hp hh
        obtain ⟨ox, hwl⟩ := B2.blk _ hx
        simp only at ox hwl
        conv => whnf
        refine LookR.is B2.map hlk ?_
        conv => whnf
        refine IfR.f rfl ?_
        conv => whnf
        refine LoopR.on [0, 2, 9, 10, 30] [] (fun k : Nat => [(0, .v (.pointer (some ⟨b, 0, none⟩))), (2, .v (.func (.func 201) #[] #[.pointer (some ⟨q, 0, none⟩)])), (9, .v (.int .i64 (p : Int))), (10, .v (.slice (some ⟨x, 0, none⟩) 16 16)), (30, .v (.int .i64 (k : Int)))]) (fun _ => [])
          (fun k h' => Keeps [] h2 h' ∧ k ≤ 5 ∧ firstK (isB name) (W (p : Int)) 5 0 = firstK (isB name) (W (p : Int)) (5 - k) k) (fun k => 5 - k) 0 ?_ ?_
        · conv => whnf
          exact ⟨0, rfl, rfl, rfl, Keeps.refl _ _, by decide, rfl⟩
        · rintro k h3 ⟨k3, hk5, hfk⟩
          conv => whnf
          refine IfR.i (fun hc2 => ?_) (fun hc2 => ?_)
          · have hk : k < 5 := by simp at hc2; omega
            have hf2 : firstK (isB name) (W (p : Int)) (5 - k) k = if (isB name) (W (p : Int)) k then some k else firstK (isB name) (W (p : Int)) (5 - (k + 1)) (k + 1) := by
              have : 5 - k = (5 - (k + 1)) + 1 := by omega
              rw [this]; rfl
            rw [hf2] at hfk
            have o3 := k3.obj ox (by simp)
            conv => whnf
            first | refine CallR.i (slot_spec x k hk h3) fun v h4 k4 hv => ?_ | (refine MeetR.pass ?_; (conv => whnf); refine CallR.i (slot_spec x k hk h3) fun v h4 k4 hv => ?_)
            subst hv
            conv => whnf
            refine CallR.i (dropC_spec hnl ((k2.trans (k3.trans k4)).obj hq (by simp)) (k4.obj o3 (by simp)) hwl k hk) fun v h5 k5 hv => ?_
            subst hv
            have k25 := (k3.trans k4).trans k5
            conv => whnf
            refine IfR.i (fun he => ?_) (fun he => ?_)
            · conv => whnf
              rw [if_pos he] at hfk
              rw [hfk] at hst
              refine ⟨k2.trans k25, ?_⟩
              rw [hf, hst]; rfl
            · rw [if_neg (by rw [he]; decide)] at hfk
              conv => whnf
              refine ⟨5 - (k + 1), by omega, ?_⟩
              conv => whnf
              exact ⟨k + 1, rfl, by rw [wrapN (n := k + 1) (by simp) (by omega)], rfl, k25, by omega, hfk⟩
          · have hk : k = 5 := by simp at hc2; omega
            subst hk
            have hfn : firstK (isB name) (W (p : Int)) 5 0 = none := hfk
            rw [hfn] at hst
            conv => whnf
            refine ⟨40 - (p + 8), by omega, ?_⟩
            conv => whnf
            exact ⟨p + 8, rfl, by rw [wrapN (n := p + 8) (by simp) (by omega)], rfl, k2.trans k3, f - 1, by omega, by omega, by omega, by rw [hf, hst]⟩
    · have hp : ¬ p < 21 := by simp at hc; omega
      rw [if_neg hp] at hst
      conv => whnf
      refine ⟨k2, ?_⟩
      rw [hf, hst]; rfl
end Go.Proofs.YtkjkdnphikendaaGreatDoor
/-
  Layer 11: a block more for a bucket; an entry is put.
-/
set_option linter.all false
set_option maxRecDepth 100000
set_option maxHeartbeats 1000000
namespace Go.Proofs.YtkjkdnphikendaaGreatDoor
open Go Go.Eng

def growF (m : List Int) : Nat → Nat → Option Nat
  | 0, _ => none
  | f + 1, pl => if pl < 21 then (if plc m pl = -1 then some pl else growF m f (pl + 8)) else none
theorem growF_is {m : List Int} : ∀ {f pl q : Nat}, growF m f pl = some q → q < 21 ∧ plc m q = -1 ∧ pl ≤ q ∧ q % 8 = pl % 8
  | 0, _, _, h => by cases h
  | f + 1, pl, q, h => by
    unfold growF at h
    split at h
    · split at h
      · cases h; exact ⟨by assumption, by assumption, Nat.le_refl _, rfl⟩
      · have := growF_is h
        omega
    · cases h
def growP (B : Int → UInt64) (X : VS) (node : Int) (m : List Int) (bk : Nat) : Int × Int × VS × List Int :=
  match growF m 4 bk with
  | none => (0, 9, X, m)
  | some pl => if (takeP B X node).2.1 = 0 then ((pl : Int), 0, (takeP B X node).2.2, m.set pl (takeP B X node).1) else (0, (takeP B X node).2.1, (takeP B X node).2.2, m)

/-- a book on its way to a block more -/
structure GS (h0 : Heap) (b : Nat) (L : BL) (m : List Int) (pl : Nat) (blk : Int) (W : Int → List UInt64) (s : Bool) (e : Nat) (xo : Option Nat) (born : Int) (h : Heap) : Prop where
  k : Keeps [L.pb, L.r] h0 h
  obj : h[b]? = some (.cells ⟨[.slice (some ⟨L.pb, 0, none⟩) 21 L.pcap, .map (some L.r)]⟩ 200 (0, 0))
  pl_ : IntsAt h L.pb (if s then m.set pl blk else m) L.sp
  map0 : e = 0 → MapL h L.r (mbV L.mb)
  map1 : e = 1 → MapP h L.r (mbV L.mb) (pl : Int) born
  map2 : e = 2 → ∃ x, xo = some x ∧ MapL h L.r (mbV L.mb ++ [((pl : Int), .slice (some ⟨x, 0, none⟩) 16 16)])
  new : ∀ x, xo = some x → h0.size ≤ x ∧ h[x]? = some (.cells ⟨List.replicate 16 (wv 0)⟩ 56 (0, 0))

section
variable {h0 h : Heap} {b : Nat} {L : BL} {m : List Int} {pl : Nat} {blk : Int} {W : Int → List UInt64} {s : Bool} {e : Nat} {xo : Option Nat} {born : Int}

theorem GS.pl0 (G : GS h0 b L m pl blk W false e xo born h) : h[L.pb]? = some (.cells ⟨m.map (fun x => Value.int .i64 x) ++ L.sp⟩ 3 (0, 0)) := G.pl_
theorem GS.make (G : GS h0 b L m pl blk W s e none born h) (he : e ≠ 2) (B : BookAt h0 b L m 21 W) {x : Nat} {h' : Heap} (ex : x = h.size) (ox : h'[x]? = some (.cells ⟨List.replicate 16 (wv 0)⟩ 56 (0, 0))) (kx : Keeps [] h h') : GS h0 b L m pl blk W s e (some x) born h' := by
  have z := G.k.size
  refine ⟨G.k.trans_nil kx, kx.obj G.obj (by simp), kx.obj G.pl_ (by simp), fun h => (G.map0 h).keep kx (by simp), fun h => ?_, fun h => absurd h he, fun y hy => by cases hy; exact ⟨by omega, ox⟩⟩
  obtain ⟨es, cl, z, h1, h2⟩ := G.map1 h
  exact ⟨es, cl, z, kx.obj h1 (by simp), h2⟩
theorem GS.store (G : GS h0 b L m pl blk W false e xo born h) (B : BookAt h0 b L m 21 W) (hp : pl < 21) {h' : Heap} (o : h'[L.pb]? = some (.cells ⟨spliceL (0 + pl * 1) [.int .i64 blk] (m.map (fun x => Value.int .i64 x) ++ L.sp)⟩ 3 (0, 0))) (kx : Keeps [L.pb] h h') : GS h0 b L m pl blk W true e xo born h' := by
  have hnd := B.nod
  simp only [BL.blocks, List.nodup_cons, List.mem_cons, not_or] at hnd
  have hm := B.len
  rw [ints_set (by omega)] at o
  refine ⟨G.k.trans (kx.mono (by simp)), kx.obj G.obj (by simp; exact hnd.1.1), o, fun h => (G.map0 h).keep kx (by simp; exact fun e => hnd.2.1.1 e.symm), fun h => ?_, fun h => ?_, fun y hy => ⟨(G.new y hy).1, kx.obj (G.new y hy).2 (by simp; intro e; have := B.lt L.pb (by simp [BL.blocks]); have := (G.new y hy).1; omega)⟩⟩
  · obtain ⟨es, cl, z, h1, h2⟩ := G.map1 h
    exact ⟨es, cl, z, kx.obj h1 (by simp; exact fun e => hnd.2.1.1 e.symm), h2⟩
  · obtain ⟨x, h1, h2⟩ := G.map2 h
    exact ⟨x, h1, h2.keep kx (by simp; exact fun e => hnd.2.1.1 e.symm)⟩
theorem GS.entry (G : GS h0 b L m pl blk W s 0 xo born h) (B : BookAt h0 b L m 21 W) {h' : Heap} {born' : Int} (p : MapP h' L.r (mbV L.mb) (pl : Int) born') (kx : Keeps [L.r] h h') : GS h0 b L m pl blk W s 1 xo born' h' := by
  have hnd := B.nod
  simp only [BL.blocks, List.nodup_cons, List.mem_cons, not_or] at hnd
  refine ⟨G.k.trans (kx.mono (by simp)), kx.obj G.obj (by simp; exact hnd.1.2.1), kx.obj G.pl_ (by simp; exact hnd.2.1.1), fun h => (by cases h), fun _ => p, fun h => (by cases h), fun y hy => ⟨(G.new y hy).1, kx.obj (G.new y hy).2 (by simp; intro e; have := B.lt L.r (by simp [BL.blocks]); have := (G.new y hy).1; omega)⟩⟩
theorem GS.fill {x : Nat} (G : GS h0 b L m pl blk W s 1 (some x) born h) (B : BookAt h0 b L m 21 W) {h' : Heap} (p : MapL h' L.r (mbV L.mb ++ [((pl : Int), .slice (some ⟨x, 0, none⟩) 16 16)])) (kx : Keeps [L.r] h h') : GS h0 b L m pl blk W s 2 (some x) born h' := by
  have hnd := B.nod
  simp only [BL.blocks, List.nodup_cons, List.mem_cons, not_or] at hnd
  refine ⟨G.k.trans (kx.mono (by simp)), kx.obj G.obj (by simp; exact hnd.1.2.1), kx.obj G.pl_ (by simp; exact hnd.2.1.1), fun h => (by cases h), fun h => (by cases h), fun _ => ⟨x, rfl, p⟩, fun y hy => ⟨(G.new y hy).1, kx.obj (G.new y hy).2 (by simp; intro e; have := B.lt L.r (by simp [BL.blocks]); have := (G.new y hy).1; omega)⟩⟩

theorem plc_set {m : List Int} {pl q : Nat} {x : Int} (hp : pl < m.length) : plc (m.set pl x) q = if q = pl then x else plc m q := by
  unfold plc
  rw [List.getElem?_set]
  by_cases h : q = pl
  · subst h; simp [hp]
  · rw [if_neg (fun e => h e.symm), if_neg h]

/-- the words of a book with a block more -/
def growW (W : Int → List UInt64) (pl : Nat) : Int → List UInt64 := fun p => if p = (pl : Int) then List.replicate 16 0 else W p

theorem GS.book {x : Nat} (G : GS h0 b L m pl blk W true 2 (some x) born h) (B : BookAt h0 b L m 21 W) (hp : pl < 21) (hh : plc m pl = -1) (hb : blk ≠ -1) : ∃ L', BookAt h b L' (m.set pl blk) 21 (growW W pl) ∧ ∀ y ∈ BL.blocks b L', y ∈ BL.blocks b L ∨ h0.size ≤ y := by
  obtain ⟨x', hx', M2⟩ := G.map2 rfl
  cases hx'
  obtain ⟨n1, n2⟩ := G.new x rfl
  have hnd := B.nod
  have hblt := B.lt
  have hml := B.len
  have hnk : (pl : Int) ∉ L.mb.map (·.1) := fun hk => ((B.keys pl).1 hk).2.2 (by simpa using hh)
  refine ⟨{ L with mb := L.mb ++ [((pl : Int), x)] }, ⟨G.obj, G.pl_, B.cap, by rw [List.length_set]; exact hml, by simpa [mbV] using M2, fun p => ?_, fun p hp' => ?_, ?_⟩, ?_⟩
  · simp only [List.map_append, List.map_cons, List.map_nil, List.mem_append, List.mem_cons, List.not_mem_nil, or_false]
    rw [B.keys p, plc_set (by omega)]
    constructor
    · rintro (⟨h0, h1, h2⟩ | rfl)
      · refine ⟨h0, h1, ?_⟩
        split
        · exact hb
        · exact h2
      · refine ⟨by omega, by omega, ?_⟩
        rw [if_pos (by simp)]; exact hb
    · rintro ⟨h0, h1, h2⟩
      by_cases e : p = (pl : Int)
      · exact .inr e
      · rw [if_neg (by omega)] at h2
        exact .inl ⟨h0, h1, h2⟩
  · simp only [List.mem_append, List.mem_cons, List.not_mem_nil, or_false] at hp'
    rcases hp' with hp' | rfl
    · have hne : p.1 ≠ (pl : Int) := fun e => hnk (e ▸ List.mem_map_of_mem hp')
      have hm2 : p.2 ∈ L.mb.map (·.2) := List.mem_map_of_mem hp'
      simp only [BL.blocks, List.nodup_cons, List.mem_cons, not_or] at hnd
      unfold growW
      rw [if_neg hne]
      refine ⟨G.k.obj (B.blk p hp').1 ?_, (B.blk p hp').2⟩
      simp only [List.mem_cons, List.not_mem_nil, or_false, not_or]
      exact ⟨fun e => hnd.2.1.2 (e ▸ hm2), fun e => hnd.2.2.1 (e ▸ hm2)⟩
    · unfold growW
      rw [if_pos rfl]
      exact ⟨by rw [n2]; rfl, rfl⟩
  · have e : BL.blocks b { L with mb := L.mb ++ [((pl : Int), x)] } = BL.blocks b L ++ [x] := by simp [BL.blocks]
    rw [e, List.nodup_append]
    refine ⟨hnd, by simp, fun y hy z hz hyz => ?_⟩
    simp at hz; subst hz; subst hyz
    have := hblt y hy
    omega
  · intro y hy
    have e : BL.blocks b { L with mb := L.mb ++ [((pl : Int), x)] } = BL.blocks b L ++ [x] := by simp [BL.blocks]
    rw [e] at hy
    simp only [List.mem_append, List.mem_cons, List.not_mem_nil, or_false] at hy
    rcases hy with hy | rfl
    · exact .inl hy
    · exact .inr n1
end

theorem grow_spec' {h : Heap} {V : VL} {M : MemS} {X : VS} (A : At h V M X) (node : Int) {b : Nat} {L : BL} {m : List Int} {W : Int → List UInt64} (B : BookAt h b L m 21 W) (hd : ∀ x ∈ BL.blocks b L, x ∉ V.blocks) (name : List UInt8) (hnl : name.length ≤ 140737488351232) :
    CallH Tryz.prog 188 [.pointer (some ⟨b, 0, none⟩), .pointer (some ⟨V.v, 0, none⟩), .int .i64 node, .string ⟨name.toArray⟩] h (fun v h' => Keeps (V.ob :: BL.blocks b L) h h' ∧
      v = .tuple #[.int .i64 (growP M.read X node m (bucketL name)).1, .int .i64 (growP M.read X node m (bucketL name)).2.1] ∧ At h' V M (growP M.read X node m (bucketL name)).2.2.1 ∧
      ((growP M.read X node m (bucketL name)).2.1 = 0 → ∃ L' pl, growF m 4 (bucketL name) = some pl ∧ BookAt h' b L' (growP M.read X node m (bucketL name)).2.2.2 21 (growW W pl) ∧ ∀ y ∈ BL.blocks b L', y ∈ BL.blocks b L ∨ h.size ≤ y)) := by
  have hbk := bucketL_lt name
  unfold growP
  refine call_of hmix Tryz.func188 rfl ok188 (by simp [Tryz.f188]) ?_
  conv => whnf
  refine CallR.i (bucket_spec name hnl h) fun v h1 k1 hv => ?_
  subst hv
  conv => whnf
  refine LoopR.on [0, 1, 2, 10] [] (fun p : Nat => [(0, .v (.pointer (some ⟨b, 0, none⟩))), (1, .v (.pointer (some ⟨V.v, 0, none⟩))), (2, .v (.int .i64 node)), (10, .v (.int .i64 (p : Int)))]) (fun _ => [])
    (fun p h' => Keeps [] h h' ∧ ∃ f, f ≤ 4 ∧ p + 8 * f = bucketL name + 32 ∧ growF m 4 (bucketL name) = growF m f p) (fun p => 40 - p) (bucketL name) ?_ ?_
  · exact ⟨bucketL name, rfl, rfl, rfl, k1, 4, by omega, by omega, rfl⟩
  · rintro p h2 ⟨k2, f, q1, q2, hf⟩
    have hst : growF m f p = (if p < 21 then (if plc m p = -1 then some p else growF m (f - 1) (p + 8)) else none) := by
      cases f with
      | zero => simp only [growF]; rw [if_neg (by omega)]
      | succ f => rfl
    have B2 := B.on k2
    have A2 := A.on k2
    have hml := B.len
    conv => whnf
    refine IfR.i (fun hc => ?_) (fun hc => ?_)
    · have hp : p < 21 := by simp at hc; omega
      rw [if_pos hp] at hst
      have hin2 : m[p]'(by omega) = plc m p := by unfold plc; rw [List.getElem?_eq_getElem (by omega)]; rfl
      conv => whnf
      first | refine LoadR.o B2.obj rfl ?_ | (refine MeetR.pass ?_; (conv => whnf); refine LoadR.o B2.obj rfl ?_)
      conv => whnf
      refine IdxS.i p rfl hp rfl ?_
      conv => whnf
      refine LoadR.i (IntsAt.nth B2.pl (by omega)) ?_
      conv => whnf
      rw [hin2]
      refine IfR.i (fun hx => ?_) (fun hx => ?_)
      · have hx1 : plc m p ≠ -1 := by simpa using hx
        rw [if_neg hx1] at hst
        conv => whnf
        refine ⟨40 - (p + 8), by omega, ?_⟩
        conv => whnf
        exact ⟨p + 8, rfl, by rw [wrapN (n := p + 8) (by simp) (by omega)], rfl, k2, f - 1, by omega, by omega, by rw [hf, hst]⟩
      · have hx1 : plc m p = -1 := by simpa using hx
        rw [if_pos hx1] at hst
        rw [hf, hst]
        simp only
        have hrng := takeP_rng (B := M.read) (X := X) (node := node)
        have TS := take_spec A2 node
        generalize takeP M.read X node = t at TS hrng
        obtain ⟨blk, e, X'⟩ := t
        simp only at TS hrng
        conv => whnf
        refine CallR.m TS (by simp [blocksOf]) fun v h3 k3 hv => ?_
        obtain ⟨rfl, A3⟩ := hv
        have kk3 : Keeps (V.ob :: BL.blocks b L) h h3 := (k2.mono (by simp)).trans (k3.mono (by simp))
        conv => whnf
        refine IfR.i (fun he => ?_) (fun he => ?_)
        · have he1 : ¬ e = 0 := by simpa using he
          conv => whnf
          rw [if_neg he1]
          exact ⟨kk3, rfl, A3, fun h => absurd h he1⟩
        · have he1 : e = 0 := by simpa using he
          have hr := hrng he1
          have hobv : V.ob ∈ V.blocks := by simp [VL.blocks]
          have B3 := B2.keep k3 (fun y hy hx => by simp at hx; exact hd y hy (hx ▸ hobv))
          have G : GS h3 b L m p blk W false 0 none 0 h3 := ⟨Keeps.refl _ _, B3.obj, B3.pl, fun _ => B3.map, fun h => (by cases h), fun h => (by cases h), fun x h => (by cases h)⟩
          rw [if_pos he1, he1]
          have hnk : (p : Int) ∉ (mbV L.mb).map (·.1) := by
            rw [mbV_keys, B3.keys]; rintro ⟨_, _, h3⟩; exact h3 (by simpa using hx1)
          have fin : ∀ (x : Nat) (born : Int) (h' : Heap), GS h3 b L m p blk W true 2 (some x) born h' → Keeps (V.ob :: BL.blocks b L) h h' ∧ Value.tuple #[.int .i64 (p : Int), .int .i64 0] = .tuple #[.int .i64 (p : Int), .int .i64 0] ∧ At h' V M X' ∧ ((0 : Int) = 0 → ∃ L' pl, some p = some pl ∧ BookAt h' b L' (m.set p blk) 21 (growW W pl) ∧ ∀ y ∈ BL.blocks b L', y ∈ BL.blocks b L ∨ h.size ≤ y) := by
            intro x born h' G
            obtain ⟨L', B', n'⟩ := G.book B3 hp hx1 (by omega)
            have z3 := kk3.size
            refine ⟨kk3.trans (G.k.mono (by simp [BL.blocks])), rfl, A3.keep G.k (fun y hy hx => ?_), fun _ => ⟨L', p, rfl, B', fun y hy => (n' y hy).imp id (fun h => by omega)⟩⟩
            simp only [List.mem_cons, List.not_mem_nil, or_false] at hx
            rcases hx with rfl | rfl
            · exact hd _ (by simp [BL.blocks]) hy
            · exact hd _ (by simp [BL.blocks]) hy
          repeat' ((conv => whnf); first
            | refine LoadR.o G.obj rfl ?_
            | refine BothR.i ?_ ?_
            | refine IdxS.i p rfl hp rfl ?_
            | (refine SemR.make (n := 16) rfl rfl rfl rfl rfl (by decide) (by decide) fun x hx ex sx ox kx => ?_; have G := G.make (by decide) B3 ex ox kx)
            | (refine StoreR.i G.pl0 (by show 0 + p * 1 + 1 ≤ _; have := hml; simp; omega) (by simp [blocksOf]) fun hx sx ox kx => ?_; have G := G.store B3 hp ox kx)
            | (refine SemR.entryNew rfl rfl rfl rfl (G.map0 rfl) hnk (by simp [blocksOf]) fun hx born sx px kx => ?_; have G := G.entry B3 px kx)
            | (refine SemR.entryStore (G.map1 rfl) (by simp [blocksOf]) fun hx sx px kx => ?_; have G := G.fill B3 px kx))
          all_goals
            conv => whnf
            exact fin _ _ _ G
    · have hp : ¬ p < 21 := by simp at hc; omega
      rw [if_neg hp] at hst
      conv => whnf
      rw [hf, hst]
      exact ⟨k2.mono (by simp), rfl, A2, fun h => by cases h⟩
end Go.Proofs.YtkjkdnphikendaaGreatDoor
/-
  Layer 11: the first empty entry; an entry is put.
-/
set_option linter.all false
set_option maxRecDepth 100000
set_option maxHeartbeats 1000000
namespace Go.Proofs.YtkjkdnphikendaaGreatDoor
open Go Go.Eng

theorem firstK_is {p : List UInt64 → Nat → Bool} {ws : List UInt64} : ∀ {f k q : Nat}, firstK p ws f k = some q → p ws q = true ∧ k ≤ q ∧ q < k + f
  | 0, _, _, h => by cases h
  | f + 1, k, q, h => by
    unfold firstK at h
    split at h
    · cases h; exact ⟨by assumption, Nat.le_refl _, by omega⟩
    · have := firstK_is h
      exact ⟨this.1, by omega, by omega⟩
theorem spotF_is {W : Int → List UInt64} {m : List Int} {p : List UInt64 → Nat → Bool} : ∀ {f pl : Nat} {q : Nat × Nat}, spotF W m p f pl = some q → q.1 < 21 ∧ plc m q.1 ≠ -1 ∧ q.2 < 5 ∧ p (W (q.1 : Int)) q.2 = true ∧ q.1 % 8 = pl % 8
  | 0, _, _, h => by cases h
  | f + 1, pl, q, h => by
    unfold spotF at h
    split at h
    · split at h
      · have := spotF_is h
        exact ⟨this.1, this.2.1, this.2.2.1, this.2.2.2.1, by omega⟩
      · split at h
        · rename_i k hk
          cases h
          have := firstK_is hk
          exact ⟨by assumption, by assumption, by simp only; omega, this.1, rfl⟩
        · have := spotF_is h
          exact ⟨this.1, this.2.1, this.2.2.1, this.2.2.2.1, by omega⟩
    · cases h

structure Frst where
  pl : Int
  k : Int
  e : Int
  X : VS
  m : List Int
  W : Int → List UInt64
def firstR (B : Int → UInt64) (X : VS) (node : Int) (m : List Int) (W : Int → List UInt64) (bk : Nat) : Frst :=
  match spotF W m emptyB 4 bk with
  | some (pl, k) => ⟨(pl : Int), (k : Int), 0, X, m, W⟩
  | none => ⟨(growP B X node m bk).1, 0, (growP B X node m bk).2.1, (growP B X node m bk).2.2.1, (growP B X node m bk).2.2.2, match growF m 4 bk with | some pl => growW W pl | none => W⟩

theorem first_spec' {h : Heap} {V : VL} {M : MemS} {X : VS} (A : At h V M X) (node : Int) {b : Nat} {L : BL} {m : List Int} {W : Int → List UInt64} (B : BookAt h b L m 21 W) (hd : ∀ x ∈ BL.blocks b L, x ∉ V.blocks) (name : List UInt8) (hnl : name.length ≤ 140737488351232) :
    CallH Tryz.prog 131 [.pointer (some ⟨b, 0, none⟩), .pointer (some ⟨V.v, 0, none⟩), .int .i64 node, .string ⟨name.toArray⟩] h (fun v h' => Keeps (V.ob :: BL.blocks b L) h h' ∧
      v = .tuple #[.int .i64 (firstR M.read X node m W (bucketL name)).pl, .int .i64 (firstR M.read X node m W (bucketL name)).k, .int .i64 (firstR M.read X node m W (bucketL name)).e] ∧ At h' V M (firstR M.read X node m W (bucketL name)).X ∧
      ((firstR M.read X node m W (bucketL name)).e = 0 → ∃ L', BookAt h' b L' (firstR M.read X node m W (bucketL name)).m 21 (firstR M.read X node m W (bucketL name)).W ∧ ∀ y ∈ BL.blocks b L', y ∈ BL.blocks b L ∨ h.size ≤ y)) := by
  unfold firstR
  refine call_of hmix Tryz.func131 rfl ok131 (by simp [Tryz.f131]) ?_
  conv => whnf
  refine CallR.i (spotE_spec B name hnl) fun v h1 k1 hv => ?_
  subst hv
  cases hs : spotF W m emptyB 4 (bucketL name) with
  | some q =>
    obtain ⟨pl, k⟩ := q
    conv => whnf
    refine IfR.t rfl ?_
    conv => whnf
    exact ⟨k1.mono (by simp), rfl, A.on k1, fun _ => ⟨L, B.on k1, fun y hy => .inl hy⟩⟩
  | none =>
    conv => whnf
    refine IfR.f rfl ?_
    conv => whnf
    refine CallR.m (grow_spec' (A.on k1) node (B.on k1) hd name hnl) (by simp [blocksOf]) fun v h2 k2 hv => ?_
    obtain ⟨rfl, A2, hb⟩ := hv
    conv => whnf
    have z1 := k1.size
    refine ⟨(k1.mono (by simp)).trans k2, rfl, A2, fun he => ?_⟩
    obtain ⟨L', pl, h1, h2, h3⟩ := hb he
    rw [h1]
    exact ⟨L', h2, fun y hy => (h3 y hy).imp id (fun h => by omega)⟩

def setSlot (ws : List UInt64) (k : Nat) (new : List UInt64) : List UInt64 := ws.take (3 * k) ++ new ++ ws.drop (3 * k + 3)
theorem splice_mid : ∀ (a b c d : List Value), b.length = d.length → spliceL a.length d (a ++ (b ++ c)) = a ++ (d ++ c)
  | [], [], c, [], _ => by cases c <;> rfl
  | [], x :: b, c, y :: d, h => by
    have ih := splice_mid [] b c d (by simpa using h)
    simp only [List.length_nil, List.nil_append] at ih ⊢
    show y :: spliceL 0 d (b ++ c) = y :: (d ++ c)
    rw [ih]
  | x :: a, b, c, d, h => by
    have ih := splice_mid a b c d h
    show x :: spliceL a.length d (a ++ (b ++ c)) = x :: (a ++ (d ++ c))
    rw [ih]
  | [], [], c, y :: d, h => by simp at h
  | [], x :: b, c, [], h => by simp at h
theorem slot_splice {ws new : List UInt64} {k : Nat} (hl : ws.length = 16) (hk : k < 5) (hn : new.length = 3) : spliceL (3 * k) (new.map wv) (ws.map wv) = (setSlot ws k new).map wv := by
  have e : ws = ws.take (3 * k) ++ ((ws.drop (3 * k)).take 3 ++ ws.drop (3 * k + 3)) := by
    conv => lhs; rw [← List.take_append_drop (3 * k) ws]
    congr 1
    conv => lhs; rw [← List.take_append_drop 3 (ws.drop (3 * k))]
    rw [List.drop_drop]
  have h1 : ((ws.take (3 * k)).map wv).length = 3 * k := by simp; omega
  have g := splice_mid ((ws.take (3 * k)).map wv) (((ws.drop (3 * k)).take 3).map wv) ((ws.drop (3 * k + 3)).map wv) (new.map wv) (by simp; omega)
  rw [h1] at g
  conv => lhs; rw [e, List.map_append, List.map_append]
  rw [g]
  simp [setSlot]
theorem setSlot_len {ws new : List UInt64} {k : Nat} (hl : ws.length = 16) (hk : k < 5) (hn : new.length = 3) : (setSlot ws k new).length = 16 := by
  simp [setSlot]; omega

theorem put_spec' {h : Heap} {V : VL} {M : MemS} {X : VS} (A : At h V M X) {b : Nat} {L : BL} {m : List Int} {W : Int → List UInt64} (B : BookAt h b L m 21 W) (hd : ∀ x ∈ BL.blocks b L, x ∉ V.blocks) {pl k : Nat} (hp : pl < 21) (hu : plc m pl ≠ -1) (hr : 0 ≤ plc m pl ∧ plc m pl < 96) (hk : k < 5) {sb so c : Nat} {new : List UInt64} (S : Sl h (some ⟨sb, so, none⟩) 3 c new) :
    CallH Tryz.prog 132 [.pointer (some ⟨b, 0, none⟩), .pointer (some ⟨V.v, 0, none⟩), .int .i64 (pl : Int), .int .i64 (k : Int), .slice (some ⟨sb, so, none⟩) 3 c] h (fun v h' => Keeps (V.ob :: BL.blocks b L) h h' ∧ v = .int .i64 0 ∧ At h' V M { X with now := putBlk X.now (plc m pl) (setSlot (W (pl : Int)) k new) } ∧
      h'[b]? = some (.cells ⟨[.slice (some ⟨L.pb, 0, none⟩) 21 L.pcap, .map (some L.r)]⟩ 200 (0, 0)) ∧ IntsAt h' L.pb m L.sp) := by
  obtain ⟨x, hx, hlk⟩ := B.used hp hu
  obtain ⟨ox, hwl⟩ := B.blk _ hx
  simp only at ox hwl
  have hnl := S.hlen
  have hml := B.len
  have hxb : x ∈ BL.blocks b L := by simp only [BL.blocks, List.mem_cons]; exact .inr (.inr (.inr (List.mem_map_of_mem (f := fun p : Int × Nat => p.2) hx)))
  have hnd := B.nod
  have hxm : x ∈ L.mb.map (·.2) := List.mem_map_of_mem (f := fun p : Int × Nat => p.2) hx
  simp only [BL.blocks, List.nodup_cons, List.mem_cons, not_or] at hnd
  have nb : b ≠ x := fun e => hnd.1.2.2 (e ▸ hxm)
  have np : L.pb ≠ x := fun e => hnd.2.1.2 (e ▸ hxm)
  have nr : L.r ≠ x := fun e => hnd.2.2.1 (e ▸ hxm)
  refine call_of hmix Tryz.func132 rfl ok132 (by simp [Tryz.f132]) ?_
  conv => whnf
  refine LoadR.o B.obj rfl ?_
  conv => whnf
  refine LookR.is B.map hlk ?_
  conv => whnf
  refine CallR.i (slot_spec x k hk h) fun v h1 k1 hv => ?_
  subst hv
  have o1 := k1.obj ox (by simp)
  conv => whnf
  refine SemR.copy (sz := 1) (new := new.map wv) rfl rfl rfl o1 (by simp; omega) (by intro j hj; exact (S.keep k1).cells1 j (by simpa [One.val] using hj)) (allOne_wv _) (by simp; omega) (by simp [blocksOf]) fun h2 s2 o2 k2 => ?_
  have hsp := slot_splice hwl hk hnl.symm
  rw [hsp] at o2
  have k02 : Keeps [x] h h2 := (k1.mono (by simp)).trans k2
  have ob2 := k02.obj B.obj (by simp; exact nb)
  have pl2 : IntsAt h2 L.pb m L.sp := k02.obj B.pl (by simp; exact np)
  have mp2 := B.map.keep k02 (by simp; exact nr)
  have A2 := A.keep k02 (fun y hy hx2 => by simp at hx2; exact hd x hxb (hx2 ▸ hy))
  have hin2 : m[pl]'(by omega) = plc m pl := by unfold plc; rw [List.getElem?_eq_getElem (by omega)]; rfl
  have hsl := setSlot_len hwl hk hnl.symm
  have S2 := Sl.of1' (α := UInt64) (n := 16) o2 (by simp [One.ok]) hsl.symm (by omega)
  repeat' ((conv => whnf); first
    | refine LoadR.o ob2 rfl ?_
    | refine BothR.i ?_ ?_
    | refine IdxS.i pl rfl hp rfl ?_
    | refine LoadR.i (IntsAt.nth pl2 (by omega)) ?_
    | refine LookR.is mp2 hlk ?_
    | (rw [hin2]; refine CallR.m (setBlock_spec A2 (plc m pl) S2 (by simp [blkA]; intro e; exact hd x hxb (e ▸ by simp [VL.blocks]))) (by simp [blocksOf]) fun v h3 k3 hv => ?_))
  all_goals
    obtain ⟨rfl, A3⟩ := hv
    rw [if_pos ⟨hr.1, hr.2, by decide⟩] at A3 ⊢
    conv => whnf
    have hob : V.ob ∈ V.blocks := by simp [VL.blocks]
    refine ⟨(k02.mono (by simp; exact .inr hxb)).trans (k3.mono (by simp)), rfl, A3, k3.obj ob2 (by simp; intro e; exact hd b (by simp [BL.blocks]) (e ▸ hob)), k3.obj pl2 (by simp; intro e; exact hd L.pb (by simp [BL.blocks]) (e ▸ hob))⟩
end Go.Proofs.YtkjkdnphikendaaGreatDoor
/-
  Lists of words one behind the other.
-/
set_option linter.all false
set_option maxRecDepth 100000
set_option maxHeartbeats 1000000
namespace Go.Proofs.YtkjkdnphikendaaGreatDoor
open Go Go.Eng

theorem growW_spec (n : Nat) (hn : n ≤ 1000000) (h : Heap) : CallH Tryz.prog 189 [.slice none 0 0, .int .i64 (n : Int)] h (fun v h' => Keeps [] h h' ∧ ∃ a c, v = .slice a 0 c ∧ Own h' 56 1 a 0 c [] ∧ ∀ b ∈ blkA a, h.size ≤ b) := by
  have e1 : IntKind.i64.wrap ((n : Int) - IntKind.i64.wrap (((0 : Nat) : Int) - ((0 : Nat) : Int))) = (n : Int) := by
    rw [wrapN (x := ((0 : Nat) : Int) - ((0 : Nat) : Int)) (n := 0) (by simp) (by omega), wrapN (n := n) (by simp) (by omega)]
  refine call_of hmix Tryz.func189 rfl ok189 (by simp [Tryz.f189]) ?_
  conv => whnf
  refine MeetR.pass ?_
  conv => whnf
  refine IfR.f (by simp) ?_
  conv => whnf
  refine MeetR.pass ?_
  conv => whnf
  rw [e1]
  refine IfR.i (fun hc => ?_) (fun hc => ?_)
  · have hp : 0 < n := by simp at hc; omega
    conv => whnf
    refine SliceR.i 0 0 rfl rfl (Nat.le_refl _) (Nat.zero_le _) ?_
    conv => whnf
    rw [slA_zero]
    refine SemR.appendMake (by_ := 8) rfl rfl rfl rfl rfl rfl rfl hp (by omega) (by decide) fun b c h1 e1 s1 o1 hc k1 => ?_
    conv => whnf
    refine SliceR.i 0 0 rfl rfl (Nat.le_refl _) (Nat.zero_le _) ?_
    conv => whnf
    refine ⟨k1, some ⟨b, 0, none⟩, c, ?_, .inr ⟨b, _, rfl, o1, rfl, by simp, rfl, Nat.zero_le _⟩, by simp [blkA]; omega⟩
    rw [slA_zero]; rfl
  · conv => whnf
    exact ⟨Keeps.refl _ _, none, 0, rfl, .inl ⟨rfl, rfl, rfl, rfl⟩, by simp [blkA]⟩

/-- one behind the other -/
theorem concatW_spec {h : Heap} {a : Option Addr} {n c : Nat} {xss : List (List UInt64)} (S : Sl h a n c xss) (hb : xss.flatten.length ≤ 1000) (hn : n ≤ 1000) : CallH Tryz.prog 133 [.slice a n c] h
    (fun v h' => Keeps [] h h' ∧ ∃ a' c', v = .slice a' xss.flatten.length c' ∧ Own h' 56 1 a' xss.flatten.length c' (xss.flatten.map wv) ∧ ∀ b ∈ blkA a', h.size ≤ b) := by
  have hl := S.hlen
  have flen : ∀ i (hi : i < xss.length), (xss.take (i + 1)).flatten = (xss.take i).flatten ++ xss[i] := by
    intro i hi
    rw [List.take_succ_eq_append_getElem hi, List.flatten_append]; simp
  have fle : ∀ i, (xss.take i).flatten.length ≤ xss.flatten.length := by
    intro i
    have : xss.flatten = (xss.take i).flatten ++ (xss.drop i).flatten := by rw [← List.flatten_append, List.take_append_drop]
    rw [this, List.length_append]; omega
  refine call_of hmix Tryz.func133 rfl ok133 (by simp [Tryz.f133]) ?_
  conv => whnf
  refine LoopR.on [0, 3, 9, 10, 11] [] (fun i : Nat => [(0, .v (.slice a n c)), (3, .v (.int .i64 ((xss.take i).flatten.length : Int))), (9, .v (.slice a n c)), (10, .v (.int .i64 (n : Int))), (11, .v (.int .i64 (i : Int)))]) (fun _ => [])
    (fun i h' => i ≤ n ∧ h' = h) (fun i => n - i) 0 ?_ ?_
  · conv => whnf
    exact ⟨0, rfl, rfl, rfl, Nat.zero_le _, rfl⟩
  · rintro i h2 ⟨hi, rfl⟩
    conv => whnf
    refine IfR.i (fun hc => ?_) (fun hc => ?_)
    · have hi1 : i < xss.length := by simp at hc; omega
      obtain ⟨b, off, hb', cs, ⟨xa, xn, xc, rfl, SX⟩, hcell⟩ := S.at_ i hi1
      conv => whnf
      first | refine IdxS.i i rfl (by omega) hb' ?_ | (refine MeetR.pass ?_; (conv => whnf); refine IdxS.i i rfl (by omega) hb' ?_)
      conv => whnf
      refine LoadR.i (hcell 0 (by simp)) ?_
      have f1 := flen i hi1
      have f2 := fle (i + 1)
      have f3 : (xss.take (i + 1)).flatten.length = (xss.take i).flatten.length + xn := by rw [f1, List.length_append, SX.hlen]
      conv => whnf
      rw [wrapN (n := (xss.take (i + 1)).flatten.length) (by rw [f3]; simp) (by omega)]
      refine IfR.f (by simp) ?_
      conv => whnf
      refine ⟨n - (i + 1), by omega, ?_⟩
      conv => whnf
      exact ⟨i + 1, rfl, by rw [wrapN (x := (i : Int) + 1) (n := i + 1) (by simp) (by omega)], rfl, by omega, rfl⟩
    · have hi1 : i = xss.length := by simp at hc; omega
      subst hi1
      conv => whnf
      rw [List.take_length]
      refine CallR.i (growW_spec xss.flatten.length (by omega) h2) fun v h3 k3 hv => ?_
      obtain ⟨a3, c3, rfl, O3, n3⟩ := hv
      conv => whnf
      refine LoopR.on [6, 25, 26, 27] [] (fun q : Nat × Option Addr × Nat => [(6, .v (.slice q.2.1 (xss.take q.1).flatten.length q.2.2)), (25, .v (.slice a n c)), (26, .v (.int .i64 (n : Int))), (27, .v (.int .i64 (q.1 : Int)))]) (fun _ => [])
        (fun q h' => q.1 ≤ n ∧ Keeps [] h2 h' ∧ Own h' 56 1 q.2.1 (xss.take q.1).flatten.length q.2.2 ((xss.take q.1).flatten.map wv) ∧ ∀ b ∈ blkA q.2.1, h2.size ≤ b) (fun q => n - q.1) (0, a3, c3) ?_ ?_
      · conv => whnf
        exact ⟨(0, a3, c3), rfl, rfl, rfl, Nat.zero_le _, k3, O3, n3⟩
      · rintro ⟨i, ai, ci⟩ h4 ⟨hi, k4, O4, n4⟩
        simp only at hi O4 n4
        conv => whnf
        refine IfR.i (fun hc => ?_) (fun hc => ?_)
        · have hi1 : i < xss.length := by simp at hc; omega
          obtain ⟨b, off, hb', cs, ⟨xa, xn, xc, rfl, SX⟩, hcell⟩ := S.at_ i hi1
          have hc4 := hcell.keep k4
          conv => whnf
          refine IdxS.i i rfl (by omega) hb' ?_
          conv => whnf
          refine LoadR.i (hc4 0 (by simp)) ?_
          have f1 := flen i hi1
          have f2 := fle (i + 1)
          have f3 : (xss.take (i + 1)).flatten.length = (xss.take i).flatten.length + xn := by rw [f1, List.length_append, SX.hlen]
          have SX4 := SX.keep k4
          have lenX := SX.hlen
          conv => whnf
          rcases Nat.eq_zero_or_pos xn with h0 | h0
          · subst h0
            have hx0 : xss[i] = [] := List.eq_nil_of_length_eq_zero lenX.symm
            have hcap : (xss.take i).flatten.length ≤ ci := by
              rcases O4 with ⟨rfl, h1, rfl, h2⟩ | ⟨b, c, _, _, _, _, _, h6⟩
              · omega
              · exact h6
            refine SemR.append0 rfl rfl rfl hcap ?_
            conv => whnf
            refine ⟨n - (i + 1), by omega, ?_⟩
            conv => whnf
            refine ⟨(i + 1, ai, ci), rfl, ?_, rfl, by simp only; omega, k4, ?_, n4⟩
            · have e : (xss.take (i + 1)).flatten.length = (xss.take i).flatten.length := by rw [f3, Nat.add_zero]
              simp only [e, Nat.add_zero]
              rw [wrapN (x := (i : Int) + 1) (n := i + 1) (by simp) (by omega)]
            · simp only
              rw [f1, hx0, List.append_nil]; exact O4
          · obtain ⟨xb, xo, rfl⟩ := SX.nonnil h0
            refine append_own (e := 56) (sz := 1) (by_ := 8) (new := xss[i].map wv) rfl rfl rfl rfl rfl rfl rfl O4 (by simp [lenX]) (SX4.cells1) (allOne_wv _) (by omega) (by decide) (by simp [blocksOf]) ?_
            intro a5 c5 h5 O5 k5 n5
            conv => whnf
            refine ⟨n - (i + 1), by omega, ?_⟩
            conv => whnf
            refine ⟨(i + 1, a5, c5), rfl, ?_, rfl, by simp only; omega, k4.nil_of k5 n4, ?_, fun b hb => ?_⟩
            · simp only [f3]
              rw [wrapN (x := (i : Int) + 1) (n := i + 1) (by simp) (by omega)]
            · simp only
              rw [f1, List.length_append, ← lenX, List.map_append]; exact O5
            · rcases n5 b hb with h | h
              · exact n4 b h
              · have := k4.size; omega
        · have hi1 : i = xss.length := by simp at hc; omega
          subst hi1
          conv => whnf
          rw [List.take_length] at O4
          refine ⟨k4, ai, ci, ?_, O4, n4⟩
          rw [List.take_length]

end Go.Proofs.YtkjkdnphikendaaGreatDoor
/-
  Layer 11: a directory with a name more.
-/
set_option linter.all false
set_option maxRecDepth 100000
set_option maxHeartbeats 1000000
namespace Go.Proofs.YtkjkdnphikendaaGreatDoor
open Go Go.Eng

def addP (B : Int → UInt64) (X : VS) (node : Int) (c : Crd) (name : List UInt8) (target : Int) : Crd × Int × VS :=
  if ¬ (0 ≤ node ∧ node < 24) ∨ target < 1 ∨ 24 ≤ target then (Crd.zero, 1, X)
  else if (openP X.now c).1 ≠ 0 then (Crd.zero, (openP X.now c).1, X)
  else if (findR (openP X.now c).2.2 name).2 = true then (Crd.zero, 5, X)
  else if nameB name = false then (Crd.zero, 3, X)
  else
    let f := firstR B X node (openP X.now c).2.1 (wordsAt X.now (openP X.now c).2.1) (bucketL name)
    if f.e ≠ 0 then (Crd.zero, f.e, f.X)
    else keepP B { f.X with now := putBlk f.X.now (plc f.m f.pl.toNat) (setSlot (f.W f.pl) f.k.toNat (w64 target :: textL name 2)) } node { c with size := c.size + 1 } f.m

/-- a map's places are blocks or none -/
def mapRng (m : List Int) : Prop := m.length = 21 ∧ ∀ x ∈ m, x = -1 ∨ (0 ≤ x ∧ x < 96)
theorem mapRng.plc {m : List Int} (R : mapRng m) (i : Nat) : plc m i = -1 ∨ (0 ≤ plc m i ∧ plc m i < 96) := by
  unfold Proofs.YtkjkdnphikendaaGreatDoor.plc
  cases h : m[i]? with
  | none => exact .inl rfl
  | some x => exact R.2 x (List.mem_of_getElem? h)
theorem mapRng.in64 {m : List Int} (R : mapRng m) : ∀ x ∈ m, inI64 x := fun x hx => by
  unfold inI64
  rcases R.2 x hx with h | h <;> omega
theorem openP_rng {now : Int → UInt64} {c : Crd} (h : (openP now c).1 = 0) : mapRng (openP now c).2.1 ∧ ((openP now c).2.2.length : Int) = c.size := by
  unfold openP at h ⊢
  split at h
  · simp at h
  · rename_i hk
    rw [if_neg hk]
    split at h
    · simp at h
    · rename_i m hm
      split at h
      · rename_i hc
        rw [if_pos hc]
        refine ⟨⟨mapOf_length hm, fun x hx => ?_⟩, by simp only; rw [(sortE_perm _).length_eq]; exact hc.2.2⟩
        obtain ⟨i, hi, rfl⟩ := List.mem_iff_getElem.1 hx
        have hl := mapOf_length hm
        have := all_lt hc.1 (i := i) (by simp only at hi; omega)
        have e : plc m i = m[i]'hi := by unfold plc; rw [List.getElem?_eq_getElem hi]; rfl
        unfold placeOk blkOkB at this
        rw [e] at this
        by_cases h1 : m[i]'hi = -1
        · exact .inl h1
        · rw [decide_eq_false h1] at this
          simp only [Bool.false_or, Bool.and_eq_true] at this
          exact .inr (of_decide_eq_true this.1)
      · simp at h

theorem firstR_facts {B : Int → UInt64} {X : VS} {node : Int} {m : List Int} {W : Int → List UInt64} {bk : Nat} (R : mapRng m) (he : (firstR B X node m W bk).e = 0) :
    ∃ pl k : Nat, (firstR B X node m W bk).pl = (pl : Int) ∧ (firstR B X node m W bk).k = (k : Int) ∧ pl < 21 ∧ k < 5 ∧ plc (firstR B X node m W bk).m pl ≠ -1 ∧ mapRng (firstR B X node m W bk).m := by
  unfold firstR at he ⊢
  cases hs : spotF W m emptyB 4 bk with
  | some q =>
    have := spotF_is hs
    obtain ⟨pl, k⟩ := q
    exact ⟨pl, k, rfl, rfl, this.1, this.2.2.1, this.2.1, R⟩
  | none =>
    rw [hs] at he
    simp only at he ⊢
    unfold growP at he ⊢
    cases hg : growF m 4 bk with
    | none => rw [hg] at he; simp at he
    | some pl =>
      rw [hg] at he
      simp only at he ⊢
      split at he
      · rename_i h0
        rw [if_pos h0]
        have hr := takeP_rng h0
        have hg2 := growF_is hg
        refine ⟨pl, 0, rfl, rfl, hg2.1, by decide, ?_, by rw [List.length_set]; exact R.1, fun x hx => ?_⟩
        · rw [plc_set (by rw [R.1]; exact hg2.1), if_pos rfl]; omega
        · rcases List.mem_or_eq_of_mem_set hx with hx | rfl
          · exact R.2 x hx
          · exact .inr hr
      · rename_i h0
        simp only at he
        exact absurd he h0

theorem add_spec {h : Heap} {V : VL} {M : MemS} {X : VS} (A : At h V M X) (node : Int) (c : Crd) (hc : c.ok) (name : List UInt8) (hnl : name.length ≤ 140737488351232) (target : Int) :
    CallH Tryz.prog 72 [.pointer (some ⟨V.v, 0, none⟩), .int .i64 node, .agg ⟨c.cells⟩, .string ⟨name.toArray⟩, .int .i64 target] h (fun v h' => Keeps [V.ob] h h' ∧
      v = .tuple #[.agg ⟨(addP M.read X node c name target).1.cells⟩, .int .i64 (addP M.read X node c name target).2.1] ∧ At h' V M (addP M.read X node c name target).2.2) := by
  have hvb := A.blt
  have hopl := openP_len X.now c
  unfold addP
  refine call_of hmix Tryz.func72 rfl ok72 (by simp [Tryz.f72]) ?_
  conv => whnf
  refine AllocR.i fun b1 h1 e1 s1 o1 k1 => ?_
  conv => whnf
  refine AllocR.i fun b2 h2 e2 s2 o2 k2 => ?_
  conv => whnf
  refine CallR.i (fmay_spec node h2) fun v h3 k3 hv => ?_
  subst hv
  have k03 := (k1.trans k2).trans k3
  conv => whnf
  refine IfR.i (fun hq => ?_) (fun hq => ?_)
  · have hbad : ¬ (0 ≤ node ∧ node < 24) ∨ target < 1 ∨ 24 ≤ target := by
      by_cases hn : 0 ≤ node ∧ node < 24
      · rw [if_pos hn] at hq
        simp [bif_or] at hq
        omega
      · exact .inl hn
    conv => whnf
    refine BoxR.i fun h4 s4 k4 => ?_
    conv => whnf
    rw [if_pos hbad]
    have kk : Keeps [] h h4 := k03.new1 k4 (by have := k1.size; omega)
    exact ⟨kk.mono (by simp), rfl, A.on kk⟩
  have hgood : ¬ (¬ (0 ≤ node ∧ node < 24) ∨ target < 1 ∨ 24 ≤ target) := by
    by_cases hn : 0 ≤ node ∧ node < 24
    · rw [if_pos hn] at hq
      simp [bif_or] at hq
      omega
    · rw [if_neg hn] at hq
      simp [bif_or] at hq
  rw [if_neg hgood]
  conv => whnf
  refine CallR.i (fopen_spec (A.on k03) c hc) fun v h4 k4 hv => ?_
  have k04 := k03.trans k4
  have hrng := openP_rng (now := X.now) (c := c)
  generalize openP X.now c = r at hv hopl hrng
  have z1 := k1.size
  have z2 := k2.size
  have z3 := k3.size
  have z4 := k4.size
  unfold OpenR at hv
  by_cases h0 : r.1 = 0
  · rw [if_pos h0] at hv
    obtain ⟨b, L, a, cc, rfl, B4, nB, O4, nO, ok⟩ := hv
    obtain ⟨mR, hsz⟩ := hrng h0
    obtain ⟨e0, m, l⟩ := r
    simp only at h0 mR hsz O4 ok B4 hopl ⊢
    subst h0
    rw [if_neg (show ¬ (0 : Int) ≠ 0 by simp)]
    have hdis : ∀ x ∈ BL.blocks b L, x ∉ V.blocks := fun x hx hx2 => by have := nB x hx; have := hvb x hx2; omega
    have hob := hvb V.ob (by simp [VL.blocks])
    have done : ∀ (h' h'' : Heap) (e : Int), Keeps [] h h' → Keeps [b2] h' h'' → Keeps [V.ob] h h'' ∧ (Value.tuple #[.agg ⟨Crd.zero.cells⟩, .int .i64 e] = .tuple #[.agg ⟨Crd.zero.cells⟩, .int .i64 e]) ∧ At h'' V M X := by
      intro h' h'' e q1 q2
      have kk : Keeps [] h h'' := q1.new1 q2 (by omega)
      exact ⟨kk.mono (by simp), rfl, A.on kk⟩
    conv => whnf
    refine IfR.f rfl ?_
    have hSl := own_ents O4 ok (by omega)
    -- the text's words
    have key : ∀ (h5 : Heap) (sv : Value) (et : Int), Keeps [] h4 h5 → True := fun _ _ _ _ => trivial
    rcases Nat.lt_or_ge 16 name.length with hlong | hshort
    · have hnb : nameB name = false := by
        unfold nameB
        rw [decide_eq_false (show ¬ name.length ≤ 14 by omega)]
        simp
      conv => whnf
      refine CallR.i (text_long name 2 h4 (by decide) (by omega) hnl) fun v h5 k5 hv => ?_
      subst hv
      conv => whnf
      refine CallR.i (find_spec (hSl.keep k5) (by omega) name) fun v h6 k6 hv => ?_
      subst hv
      conv => whnf
      refine IfR.i (fun hth => ?_) (fun hth => ?_)
      · conv => whnf
        refine BoxR.i fun h7 s7 k7 => ?_
        conv => whnf
        rw [if_pos hth]
        exact done _ _ 5 ((k04.trans k5).trans k6) k7
      · conv => whnf
        refine IfR.f rfl ?_
        conv => whnf
        refine IfR.t rfl ?_
        conv => whnf
        refine BoxR.i fun h7 s7 k7 => ?_
        conv => whnf
        rw [if_neg (by rw [hth]; decide), if_pos hnb]
        exact done _ _ 3 ((k04.trans k5).trans k6) k7
    · conv => whnf
      refine CallR.i (text_spec ⟨name.toArray⟩ 2 h4 (by decide) (by rw [bs_size]; exact hshort)) fun v h5 k5 hv => ?_
      obtain ⟨tb, rfl, tb0, tb1, ot⟩ := hv
      conv => whnf
      refine CallR.i (find_spec (hSl.keep k5) (by omega) name) fun v h6 k6 hv => ?_
      subst hv
      conv => whnf
      refine IfR.i (fun hth => ?_) (fun hth => ?_)
      · conv => whnf
        refine BoxR.i fun h7 s7 k7 => ?_
        conv => whnf
        rw [if_pos hth]
        exact done _ _ 5 ((k04.trans k5).trans k6) k7
      · rw [if_neg (by rw [hth]; decide)]
        conv => whnf
        refine IfR.t rfl ?_
        conv => whnf
        refine CallR.i (right4_spec name hnl h6) fun v h7 k7 hv => ?_
        subst hv
        have k07 := ((k04.trans k5).trans k6).trans k7
        conv => whnf
        refine IfR.i (fun hnr => ?_) (fun hnr => ?_)
        · conv => whnf
          refine BoxR.i fun h8 s8 k8 => ?_
          conv => whnf
          have hnb : nameB name = false := by simpa using hnr
          rw [if_pos hnb]
          exact done _ _ 3 k07 k8
        · have hnb : nameB name = true := by simpa using hnr
          rw [if_neg (by rw [hnb]; decide)]
          have k47 := (k5.trans k6).trans k7
          have B7 := B4.on k47
          have FS := first_spec' (A.on k07) node B7 hdis name hnl
          have ff := firstR_facts (B := M.read) (X := X) (node := node) (W := wordsAt X.now m) (bk := bucketL name) mR
          simp only
          generalize firstR M.read X node m (wordsAt X.now m) (bucketL name) = f at FS ff
          conv => whnf
          refine CallR.m FS ?_ fun v h8 k8 hv => ?_
          · intro y hy hx2
            have hy2 : y = b1 ∨ y = b2 := by simpa [blocksOf, setB] using hy
            simp only [List.mem_cons] at hx2
            rcases hx2 with rfl | hx2
            · omega
            · have := nB y hx2
              omega
          obtain ⟨rfl, A8, hbk⟩ := hv
          have kk8 : Keeps [V.ob] h h8 := (k07.mono (by simp)).trans_new k8 (fun y hy => by
            simp only [List.mem_cons] at hy
            rcases hy with rfl | hy
            · exact .inl (by simp)
            · have := nB y hy; right; omega)
          have z7 := k07.size
          have z8 := k8.size
          have z47 := k47.size
          conv => whnf
          refine IfR.i (fun hfe => ?_) (fun hfe => ?_)
          · have he1 : f.e ≠ 0 := by simpa using hfe
            conv => whnf
            refine BoxR.i fun h9 s9 k9 => ?_
            conv => whnf
            rw [if_pos he1]
            exact ⟨kk8.trans_new k9 (fun y hy => by simp at hy; right; omega), rfl, A8.keep k9 (fun y hy => by have := hvb y hy; simp; omega)⟩
          · have he1 : f.e = 0 := by simpa using hfe
            rw [if_neg (show ¬ f.e ≠ 0 by rw [he1]; simp)]
            obtain ⟨L', B8, n8⟩ := hbk he1
            obtain ⟨pl, k, epl, ek, hpl, hk5, hpu, fR⟩ := ff he1
            obtain ⟨fpl, fk, fe, fX, fm, fW⟩ := f
            simp only at he1 B8 epl ek hpu fR A8 ⊢
            subst epl; subst ek; subst he1
            have hdis8 : ∀ x ∈ BL.blocks b L', x ∉ V.blocks := fun x hx hx2 => by
              rcases n8 x hx with g | g
              · exact hdis x g hx2
              · have := hvb x hx2; omega
            have nB8 : ∀ x ∈ BL.blocks b L', h3.size ≤ x := fun x hx => by
              rcases n8 x hx with g | g
              · exact nB x g
              · omega
            have ot8 : h8[tb]? = some (.cells ⟨(textL name 2).map wv⟩ 56 (0, 0)) := by
              refine k8.obj ((k6.trans k7).obj ot (by simp)) ?_
              simp only [List.mem_cons, not_or]
              refine ⟨by omega, fun hx => ?_⟩
              have := B4.lt tb hx
              omega
            conv => whnf
            refine AllocR.i fun b9 h9 e9 s9 o9 k9 => ?_
            conv => whnf
            refine AllocR.i fun b10 h10 e10 s10 o10 k10 => ?_
            have o9' := k10.obj o9 (by simp)
            have ot10 := (k9.trans k10).obj ot8 (by simp)
            have k8_10 := k9.trans k10
            have z810 := k8_10.size
            have S1 : Sl h10 (some ⟨b9, 0, none⟩) 1 1 [w64 target] := by
              refine Sl.of1' (α := UInt64) (n := 1) (T := 56) (fz := (0, 0)) ?_ (by simp [One.ok]) rfl (by simp)
              rw [o9']
              show some (Obj.cells ⟨[.int .u64 (IntKind.u64.wrap target)]⟩ _ _) = _
              rw [← wv_w64]; rfl
            have S2 : Sl h10 (some ⟨tb, 0, none⟩) 2 2 (textL name 2) := Sl.of1' (α := UInt64) (n := 2) ot10 (by simp [One.ok]) (textL_len _ _).symm (by rw [textL_len]; decide)
            have S12 : Sl h10 (some ⟨b10, 0, none⟩) 2 2 [[w64 target], textL name 2] := by
              refine ⟨rfl, Nat.le_refl _, by simp, fun i hi => ⟨b10, 0, rfl, ?_⟩⟩
              have hi2 : i = 0 ∨ i = 1 := by simp at hi; omega
              rcases hi2 with rfl | rfl
              · refine ⟨[.slice (some ⟨b9, 0, none⟩) 1 1], ⟨_, _, _, rfl, S1⟩, fun j hj => ?_⟩
                have : j = 0 := by simpa using hj
                subst this
                unfold Heap.cell?
                rw [o10]; rfl
              · refine ⟨[.slice (some ⟨tb, 0, none⟩) 2 2], ⟨_, _, _, rfl, S2⟩, fun j hj => ?_⟩
                have : j = 0 := by simpa using hj
                subst this
                unfold Heap.cell?
                rw [o10]; rfl
            conv => whnf
            refine CallR.i (concatW_spec S12 (by simp [textL_len]) (by decide)) fun v h11 k11 hv => ?_
            obtain ⟨a11, c11, rfl, O11, n11⟩ := hv
            have hfl : ([[w64 target], textL name 2].flatten) = w64 target :: textL name 2 := by simp
            have hfn : (w64 target :: textL name 2).length = 3 := by simp [textL_len]
            rw [hfl, hfn] at O11
            have S11 : Sl h11 a11 3 c11 (w64 target :: textL name 2) := O11.sl (reps_w h11 _) rfl (by decide) (by rw [hfn]; decide)
            obtain ⟨sb, so, rfl⟩ := S11.nonnil (by decide)
            have k8_11 := k8_10.trans k11
            have A11 := A8.on k8_11
            have B11 := B8.on k8_11
            have hrp := (fR.plc pl).resolve_left hpu
            have PS := put_spec' A11 B11 hdis8 hpl hpu hrp hk5 S11
            conv => whnf
            rw [hfl, hfn]
            refine CallR.m PS ?_ fun v h12 k12 hv => ?_
            · intro y hy hx2
              have hy2 : y = b1 ∨ y = b2 := by simpa [blocksOf, setB] using hy
              simp only [List.mem_cons] at hx2
              rcases hx2 with rfl | hx2
              · omega
              · have := nB8 y hx2
                omega
            obtain ⟨rfl, A12, ob12, pl12⟩ := hv
            have kk12 : Keeps [V.ob] h h12 := (kk8.trans_nil k8_11).trans_new k12 (fun y hy => by
              simp only [List.mem_cons] at hy
              rcases hy with rfl | hy
              · exact .inl (by simp)
              · have := nB8 y hy; right; omega)
            conv => whnf
            refine IfR.f rfl ?_
            conv => whnf
            refine BoxR.i fun h13 s13 k13 => ?_
            have hwr : IntKind.i64.wrap (c.size + 1) = c.size + 1 := by rw [← hsz]; exact wrapI (by omega) (by omega)
            have hL1 : ∀ y ∈ BL.blocks b L', y ∉ [b1] := fun y hy => by have := nB8 y hy; simp; omega
            have A13 := A12.keep k13 (fun y hy => by have := hvb y hy; simp; omega)
            have ob13 := k13.obj ob12 (hL1 b (by simp [BL.blocks]))
            have pl13 : IntsAt h13 L'.pb fm L'.sp := k13.obj pl12 (hL1 _ (by simp [BL.blocks]))
            have SM := pl13.sl fR.in64 (n := 21) (cap := L'.pcap) fR.1.symm B8.cap (by rw [fR.1]; decide)
            have hobp : V.ob ≠ L'.pb := fun e => hdis8 L'.pb (by simp [BL.blocks]) (e ▸ by simp [VL.blocks])
            conv => whnf
            refine LoadR.o ob13 rfl ?_
            conv => whnf
            have hcok : ({ c with size := c.size + 1 } : Crd).cells = spliceL (0 + 2) (cellsOf (.int .i64 (IntKind.i64.wrap (c.size + 1)))) c.cells := by rw [hwr]; rfl
            have KS := keep_spec A13 node { c with size := c.size + 1 } SM (fun _ => by simp [blkA]; exact hobp)
            rw [hcok] at KS
            refine CallR.m KS ?_ fun v h14 k14 hv => ?_
            · intro y hy hx2
              have hy2 : y = b1 ∨ y = b2 := by simpa [blocksOf, setB] using hy
              simp at hx2
              omega
            obtain ⟨rfl, A14⟩ := hv
            conv => whnf
            refine BoxR.i fun h15 s15 k15 => ?_
            conv => whnf
            have kk15 : Keeps [V.ob] h h15 := ((kk12.trans_new k13 (fun y hy => by simp at hy; right; omega)).trans k14).trans_new k15 (fun y hy => by simp at hy; right; omega)
            exact ⟨kk15, rfl, A14.keep k15 (fun y hy => by have := hvb y hy; simp; omega)⟩
    
  · rw [if_neg h0] at hv
    subst hv
    conv => whnf
    refine IfR.t (by simpa using h0) ?_
    conv => whnf
    refine BoxR.i fun h5 s5 k5 => ?_
    conv => whnf
    rw [if_pos h0]
    have kk : Keeps [] h h5 := k04.new1 k5 (by omega)
    exact ⟨kk.mono (by simp), rfl, A.on kk⟩
end Go.Proofs.YtkjkdnphikendaaGreatDoor
/-
  The document's answers for names: which may be, which is ahead, where one stands.
-/
set_option linter.all false
set_option maxRecDepth 100000
set_option maxHeartbeats 1000000
namespace Go.Proofs.YtkjkdnphikendaaGreatDoor
open Go Go.Eng

/-- how many names are ahead -/
def plK (l : List Ent) (name : List UInt8) : Nat := (l.takeWhile fun e => blt e.name name).length
def plT (l : List Ent) (name : List UInt8) : Bool := match l[plK l name]? with | some e => decide (e.name = name) | none => false

theorem plK_le (l : List Ent) (name : List UInt8) : plK l name ≤ l.length := (List.takeWhile_prefix _).length_le
theorem plK_lt {l : List Ent} {name : List UInt8} {i : Nat} (hi : i < plK l name) : ∃ hl : i < l.length, blt (l[i]).name name = true := by
  have hl := plK_le l name
  refine ⟨by omega, ?_⟩
  have hp := List.takeWhile_prefix (p := fun e : Ent => blt e.name name) (l := l)
  have : (l.takeWhile fun e => blt e.name name)[i]'hi = l[i]'(by omega) := hp.getElem hi
  rw [← this]
  exact List.all_eq_true.1 (List.all_takeWhile (p := fun e : Ent => blt e.name name) (l := l)) _ (List.getElem_mem _)
theorem plK_more : ∀ {l : List Ent} {name : List UInt8} {i : Nat}, i ≤ plK l name → (hl : i < l.length) → blt (l[i]).name name = true → i + 1 ≤ plK l name
  | [], _, _, _, hl, _ => by simp at hl
  | x :: l, name, 0, _, _, h => by
    unfold plK
    have h' : blt x.name name = true := h
    rw [List.takeWhile_cons, if_pos h']; simp
  | x :: l, name, i + 1, hi, hl, h => by
    by_cases hx : blt x.name name = true
    · have e : plK (x :: l) name = plK l name + 1 := by unfold plK; rw [List.takeWhile_cons, if_pos hx]; rfl
      rw [e] at hi ⊢
      have := plK_more (l := l) (name := name) (i := i) (by omega) (by simpa using hl) (by simpa using h)
      omega
    · have e : plK (x :: l) name = 0 := by unfold plK; rw [List.takeWhile_cons, if_neg hx]; rfl
      omega

end Go.Proofs.YtkjkdnphikendaaGreatDoor
