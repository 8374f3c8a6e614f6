/-
  Joined texts: FolJ, FolK, FolL, FolM, FolN, ChgB, BodyY, ChgA, FileF, FileG, FolO, FolQ, FolR, FolT.
-/
import Derived.Test.YtkdmlieckkdmgaaGreatDoorJLawWSeenh
import Derived.Test.YtkdmlieckkdmgaaGreatDoorJLawWSeeng
import Derived.Shelf.SlLaysF0
import Derived.Test.YtkdmlieckkdmgaaGreatDoorProg
import Derived.Shelf.SlSortCmp.NoneTotal
/-
  Layer 11: a block more for a bucket; an entry is put.
-/
set_option linter.all false
set_option maxRecDepth 100000
set_option maxHeartbeats 1000000
namespace Go.Proofs.YtkdmlieckkdmgaaGreatDoor
open Go Go.Eng

def growF (m : List Int) : Nat → Nat → Option Nat
  | 0, _ => none
  | f + 1, pl => if pl < 21 then (if plc m pl = -1 then some pl else growF m f (pl + 8)) else none
theorem growF_is {m : List Int} : ∀ {f pl q : Nat}, growF m f pl = some q → q < 21 ∧ plc m q = -1 ∧ pl ≤ q ∧ q % 8 = pl % 8
  | 0, _, _, h => by cases h
  | f + 1, pl, q, h => by
    unfold growF at h
    split at h
    · split at h
      · cases h; exact ⟨by assumption, by assumption, Nat.le_refl _, rfl⟩
      · have := growF_is h
        omega
    · cases h
def growP (B : Int → UInt64) (X : VS) (node : Int) (m : List Int) (bk : Nat) : Int × Int × VS × List Int :=
  match growF m 4 bk with
  | none => (0, 9, X, m)
  | some pl => if (takeP B X node).2.1 = 0 then ((pl : Int), 0, (takeP B X node).2.2, m.set pl (takeP B X node).1) else (0, (takeP B X node).2.1, (takeP B X node).2.2, m)

/-- a book on its way to a block more -/
structure GS (h0 : Heap) (b : Nat) (L : BL) (m : List Int) (pl : Nat) (blk : Int) (W : Int → List UInt64) (s : Bool) (e : Nat) (xo : Option Nat) (born : Int) (h : Heap) : Prop where
  k : Keeps [L.pb, L.r] h0 h
  obj : h[b]? = some (.cells ⟨[.slice (some ⟨L.pb, 0, none⟩) 21 L.pcap, .map (some L.r)]⟩ 163 (0, 0))
  pl_ : IntsAt h L.pb (if s then m.set pl blk else m) L.sp
  map0 : e = 0 → MapL h L.r (mbV L.mb)
  map1 : e = 1 → MapP h L.r (mbV L.mb) (pl : Int) born
  map2 : e = 2 → ∃ x, xo = some x ∧ MapL h L.r (mbV L.mb ++ [((pl : Int), .slice (some ⟨x, 0, none⟩) 16 16)])
  new : ∀ x, xo = some x → h0.size ≤ x ∧ h[x]? = some (.cells ⟨List.replicate 16 (wv 0)⟩ 32 (0, 0))

section
variable {h0 h : Heap} {b : Nat} {L : BL} {m : List Int} {pl : Nat} {blk : Int} {W : Int → List UInt64} {s : Bool} {e : Nat} {xo : Option Nat} {born : Int}

theorem GS.pl0 (G : GS h0 b L m pl blk W false e xo born h) : h[L.pb]? = some (.cells ⟨m.map (fun x => Value.int .i64 x) ++ L.sp⟩ 3 (0, 0)) := G.pl_
theorem GS.make (G : GS h0 b L m pl blk W s e none born h) (he : e ≠ 2) (B : BookAt h0 b L m 21 W) {x : Nat} {h' : Heap} (ex : x = h.size) (ox : h'[x]? = some (.cells ⟨List.replicate 16 (wv 0)⟩ 32 (0, 0))) (kx : Keeps [] h h') : GS h0 b L m pl blk W s e (some x) born h' := by
  have z := G.k.size
  refine ⟨G.k.trans_nil kx, kx.obj G.obj (by simp), kx.obj G.pl_ (by simp), fun h => (G.map0 h).keep kx (by simp), fun h => ?_, fun h => absurd h he, fun y hy => by cases hy; exact ⟨by omega, ox⟩⟩
  obtain ⟨es, cl, z, h1, h2⟩ := G.map1 h
  exact ⟨es, cl, z, kx.obj h1 (by simp), h2⟩
theorem GS.store (G : GS h0 b L m pl blk W false e xo born h) (B : BookAt h0 b L m 21 W) (hp : pl < 21) {h' : Heap} (o : h'[L.pb]? = some (.cells ⟨spliceL (0 + pl * 1) [.int .i64 blk] (m.map (fun x => Value.int .i64 x) ++ L.sp)⟩ 3 (0, 0))) (kx : Keeps [L.pb] h h') : GS h0 b L m pl blk W true e xo born h' := by
  have hnd := B.nod
  simp only [BL.blocks, List.nodup_cons, List.mem_cons, not_or] at hnd
  have hm := B.len
  rw [ints_set (by omega)] at o
  refine ⟨G.k.trans (kx.mono (by simp)), kx.obj G.obj (by simp; exact hnd.1.1), o, fun h => (G.map0 h).keep kx (by simp; exact fun e => hnd.2.1.1 e.symm), fun h => ?_, fun h => ?_, fun y hy => ⟨(G.new y hy).1, kx.obj (G.new y hy).2 (by simp; intro e; have := B.lt L.pb (by simp [BL.blocks]); have := (G.new y hy).1; omega)⟩⟩
  · obtain ⟨es, cl, z, h1, h2⟩ := G.map1 h
    exact ⟨es, cl, z, kx.obj h1 (by simp; exact fun e => hnd.2.1.1 e.symm), h2⟩
  · obtain ⟨x, h1, h2⟩ := G.map2 h
    exact ⟨x, h1, h2.keep kx (by simp; exact fun e => hnd.2.1.1 e.symm)⟩
theorem GS.entry (G : GS h0 b L m pl blk W s 0 xo born h) (B : BookAt h0 b L m 21 W) {h' : Heap} {born' : Int} (p : MapP h' L.r (mbV L.mb) (pl : Int) born') (kx : Keeps [L.r] h h') : GS h0 b L m pl blk W s 1 xo born' h' := by
  have hnd := B.nod
  simp only [BL.blocks, List.nodup_cons, List.mem_cons, not_or] at hnd
  refine ⟨G.k.trans (kx.mono (by simp)), kx.obj G.obj (by simp; exact hnd.1.2.1), kx.obj G.pl_ (by simp; exact hnd.2.1.1), fun h => (by cases h), fun _ => p, fun h => (by cases h), fun y hy => ⟨(G.new y hy).1, kx.obj (G.new y hy).2 (by simp; intro e; have := B.lt L.r (by simp [BL.blocks]); have := (G.new y hy).1; omega)⟩⟩
theorem GS.fill {x : Nat} (G : GS h0 b L m pl blk W s 1 (some x) born h) (B : BookAt h0 b L m 21 W) {h' : Heap} (p : MapL h' L.r (mbV L.mb ++ [((pl : Int), .slice (some ⟨x, 0, none⟩) 16 16)])) (kx : Keeps [L.r] h h') : GS h0 b L m pl blk W s 2 (some x) born h' := by
  have hnd := B.nod
  simp only [BL.blocks, List.nodup_cons, List.mem_cons, not_or] at hnd
  refine ⟨G.k.trans (kx.mono (by simp)), kx.obj G.obj (by simp; exact hnd.1.2.1), kx.obj G.pl_ (by simp; exact hnd.2.1.1), fun h => (by cases h), fun h => (by cases h), fun _ => ⟨x, rfl, p⟩, fun y hy => ⟨(G.new y hy).1, kx.obj (G.new y hy).2 (by simp; intro e; have := B.lt L.r (by simp [BL.blocks]); have := (G.new y hy).1; omega)⟩⟩

theorem plc_set {m : List Int} {pl q : Nat} {x : Int} (hp : pl < m.length) : plc (m.set pl x) q = if q = pl then x else plc m q := by
  unfold plc
  rw [List.getElem?_set]
  by_cases h : q = pl
  · subst h; simp [hp]
  · rw [if_neg (fun e => h e.symm), if_neg h]

/-- the words of a book with a block more -/
def growW (W : Int → List UInt64) (pl : Nat) : Int → List UInt64 := fun p => if p = (pl : Int) then List.replicate 16 0 else W p

theorem GS.book {x : Nat} (G : GS h0 b L m pl blk W true 2 (some x) born h) (B : BookAt h0 b L m 21 W) (hp : pl < 21) (hh : plc m pl = -1) (hb : blk ≠ -1) : ∃ L', BookAt h b L' (m.set pl blk) 21 (growW W pl) ∧ ∀ y ∈ BL.blocks b L', y ∈ BL.blocks b L ∨ h0.size ≤ y := by
  obtain ⟨x', hx', M2⟩ := G.map2 rfl
  cases hx'
  obtain ⟨n1, n2⟩ := G.new x rfl
  have hnd := B.nod
  have hblt := B.lt
  have hml := B.len
  have hnk : (pl : Int) ∉ L.mb.map (·.1) := fun hk => ((B.keys pl).1 hk).2.2 (by simpa using hh)
  refine ⟨{ L with mb := L.mb ++ [((pl : Int), x)] }, ⟨G.obj, G.pl_, B.cap, by rw [List.length_set]; exact hml, by simpa [mbV] using M2, fun p => ?_, fun p hp' => ?_, ?_⟩, ?_⟩
  · simp only [List.map_append, List.map_cons, List.map_nil, List.mem_append, List.mem_cons, List.not_mem_nil, or_false]
    rw [B.keys p, plc_set (by omega)]
    constructor
    · rintro (⟨h0, h1, h2⟩ | rfl)
      · refine ⟨h0, h1, ?_⟩
        split
        · exact hb
        · exact h2
      · refine ⟨by omega, by omega, ?_⟩
        rw [if_pos (by simp)]; exact hb
    · rintro ⟨h0, h1, h2⟩
      by_cases e : p = (pl : Int)
      · exact .inr e
      · rw [if_neg (by omega)] at h2
        exact .inl ⟨h0, h1, h2⟩
  · simp only [List.mem_append, List.mem_cons, List.not_mem_nil, or_false] at hp'
    rcases hp' with hp' | rfl
    · have hne : p.1 ≠ (pl : Int) := fun e => hnk (e ▸ List.mem_map_of_mem hp')
      have hm2 : p.2 ∈ L.mb.map (·.2) := List.mem_map_of_mem hp'
      simp only [BL.blocks, List.nodup_cons, List.mem_cons, not_or] at hnd
      unfold growW
      rw [if_neg hne]
      refine ⟨G.k.obj (B.blk p hp').1 ?_, (B.blk p hp').2⟩
      simp only [List.mem_cons, List.not_mem_nil, or_false, not_or]
      exact ⟨fun e => hnd.2.1.2 (e ▸ hm2), fun e => hnd.2.2.1 (e ▸ hm2)⟩
    · unfold growW
      rw [if_pos rfl]
      exact ⟨by rw [n2]; rfl, rfl⟩
  · have e : BL.blocks b { L with mb := L.mb ++ [((pl : Int), x)] } = BL.blocks b L ++ [x] := by simp [BL.blocks]
    rw [e, List.nodup_append]
    refine ⟨hnd, by simp, fun y hy z hz hyz => ?_⟩
    simp at hz; subst hz; subst hyz
    have := hblt y hy
    omega
  · intro y hy
    have e : BL.blocks b { L with mb := L.mb ++ [((pl : Int), x)] } = BL.blocks b L ++ [x] := by simp [BL.blocks]
    rw [e] at hy
    simp only [List.mem_append, List.mem_cons, List.not_mem_nil, or_false] at hy
    rcases hy with hy | rfl
    · exact .inl hy
    · exact .inr n1
end

theorem grow_spec' {h : Heap} {V : VL} {M : MemS} {X : VS} (A : At h V M X) (node : Int) {b : Nat} {L : BL} {m : List Int} {W : Int → List UInt64} (B : BookAt h b L m 21 W) (hd : ∀ x ∈ BL.blocks b L, x ∉ V.blocks) (name : List UInt8) (hnl : name.length ≤ 140737488351232) :
    CallH Tryz.prog 167 [.pointer (some ⟨b, 0, none⟩), .pointer (some ⟨V.v, 0, none⟩), .int .i64 node, .string ⟨name.toArray⟩] h (fun v h' => Keeps (V.ob :: BL.blocks b L) h h' ∧
      v = .tuple #[.int .i64 (growP M.read X node m (bucketL name)).1, .int .i64 (growP M.read X node m (bucketL name)).2.1] ∧ At h' V M (growP M.read X node m (bucketL name)).2.2.1 ∧
      ((growP M.read X node m (bucketL name)).2.1 = 0 → ∃ L' pl, growF m 4 (bucketL name) = some pl ∧ BookAt h' b L' (growP M.read X node m (bucketL name)).2.2.2 21 (growW W pl) ∧ ∀ y ∈ BL.blocks b L', y ∈ BL.blocks b L ∨ h.size ≤ y)) := by
  have hbk := bucketL_lt name
  unfold growP
  refine call_of hmix Tryz.func167 rfl ok167 (by simp [Tryz.f167]) ?_
  conv => whnf
  refine CallR.i (bucket_spec name hnl h) fun v h1 k1 hv => ?_
  subst hv
  conv => whnf
  refine LoopR.on [0, 1, 2, 10] [] (fun p : Nat => [(0, .v (.pointer (some ⟨b, 0, none⟩))), (1, .v (.pointer (some ⟨V.v, 0, none⟩))), (2, .v (.int .i64 node)), (10, .v (.int .i64 (p : Int)))]) (fun _ => [])
    (fun p h' => Keeps [] h h' ∧ ∃ f, f ≤ 4 ∧ p + 8 * f = bucketL name + 32 ∧ growF m 4 (bucketL name) = growF m f p) (fun p => 40 - p) (bucketL name) ?_ ?_
  · exact ⟨bucketL name, rfl, rfl, rfl, k1, 4, by omega, by omega, rfl⟩
  · rintro p h2 ⟨k2, f, q1, q2, hf⟩
    have hst : growF m f p = (if p < 21 then (if plc m p = -1 then some p else growF m (f - 1) (p + 8)) else none) := by
      cases f with
      | zero => simp only [growF]; rw [if_neg (by omega)]
      | succ f => rfl
    have B2 := B.on k2
    have A2 := A.on k2
    have hml := B.len
    conv => whnf
    refine IfR.i (fun hc => ?_) (fun hc => ?_)
    · have hp : p < 21 := by simp at hc; omega
      rw [if_pos hp] at hst
      have hin2 : m[p]'(by omega) = plc m p := by unfold plc; rw [List.getElem?_eq_getElem (by omega)]; rfl
      conv => whnf
      first | refine LoadR.o B2.obj rfl ?_ | (refine MeetR.pass ?_; (conv => whnf); refine LoadR.o B2.obj rfl ?_)
      conv => whnf
      refine IdxS.i p rfl hp rfl ?_
      conv => whnf
      refine LoadR.i (IntsAt.nth B2.pl (by omega)) ?_
      conv => whnf
      rw [hin2]
      refine IfR.i (fun hx => ?_) (fun hx => ?_)
      · have hx1 : plc m p ≠ -1 := by simpa using hx
        rw [if_neg hx1] at hst
        conv => whnf
        refine ⟨40 - (p + 8), by omega, ?_⟩
        conv => whnf
        exact ⟨p + 8, rfl, by rw [wrapN (n := p + 8) (by simp) (by omega)], rfl, k2, f - 1, by omega, by omega, by rw [hf, hst]⟩
      · have hx1 : plc m p = -1 := by simpa using hx
        rw [if_pos hx1] at hst
        rw [hf, hst]
        simp only
        have hrng := takeP_rng (B := M.read) (X := X) (node := node)
        have TS := take_spec A2 node
        generalize takeP M.read X node = t at TS hrng
        obtain ⟨blk, e, X'⟩ := t
        simp only at TS hrng
        conv => whnf
        refine CallR.m TS (by simp [blocksOf]) fun v h3 k3 hv => ?_
        obtain ⟨rfl, A3⟩ := hv
        have kk3 : Keeps (V.ob :: BL.blocks b L) h h3 := (k2.mono (by simp)).trans (k3.mono (by simp))
        conv => whnf
        refine IfR.i (fun he => ?_) (fun he => ?_)
        · have he1 : ¬ e = 0 := by simpa using he
          conv => whnf
          rw [if_neg he1]
          exact ⟨kk3, rfl, A3, fun h => absurd h he1⟩
        · have he1 : e = 0 := by simpa using he
          have hr := hrng he1
          have hobv : V.ob ∈ V.blocks := by simp [VL.blocks]
          have B3 := B2.keep k3 (fun y hy hx => by simp at hx; exact hd y hy (hx ▸ hobv))
          have G : GS h3 b L m p blk W false 0 none 0 h3 := ⟨Keeps.refl _ _, B3.obj, B3.pl, fun _ => B3.map, fun h => (by cases h), fun h => (by cases h), fun x h => (by cases h)⟩
          rw [if_pos he1, he1]
          have hnk : (p : Int) ∉ (mbV L.mb).map (·.1) := by
            rw [mbV_keys, B3.keys]; rintro ⟨_, _, h3⟩; exact h3 (by simpa using hx1)
          have fin : ∀ (x : Nat) (born : Int) (h' : Heap), GS h3 b L m p blk W true 2 (some x) born h' → Keeps (V.ob :: BL.blocks b L) h h' ∧ Value.tuple #[.int .i64 (p : Int), .int .i64 0] = .tuple #[.int .i64 (p : Int), .int .i64 0] ∧ At h' V M X' ∧ ((0 : Int) = 0 → ∃ L' pl, some p = some pl ∧ BookAt h' b L' (m.set p blk) 21 (growW W pl) ∧ ∀ y ∈ BL.blocks b L', y ∈ BL.blocks b L ∨ h.size ≤ y) := by
            intro x born h' G
            obtain ⟨L', B', n'⟩ := G.book B3 hp hx1 (by omega)
            have z3 := kk3.size
            refine ⟨kk3.trans (G.k.mono (by simp [BL.blocks])), rfl, A3.keep G.k (fun y hy hx => ?_), fun _ => ⟨L', p, rfl, B', fun y hy => (n' y hy).imp id (fun h => by omega)⟩⟩
            simp only [List.mem_cons, List.not_mem_nil, or_false] at hx
            rcases hx with rfl | rfl
            · exact hd _ (by simp [BL.blocks]) hy
            · exact hd _ (by simp [BL.blocks]) hy
          repeat' ((conv => whnf); first
            | refine LoadR.o G.obj rfl ?_
            | refine BothR.i ?_ ?_
            | refine IdxS.i p rfl hp rfl ?_
            | (refine SemR.make (n := 16) rfl rfl rfl rfl rfl (by decide) (by decide) fun x hx ex sx ox kx => ?_; have G := G.make (by decide) B3 ex ox kx)
            | (refine StoreR.i G.pl0 (by show 0 + p * 1 + 1 ≤ _; have := hml; simp; omega) (by simp [blocksOf]) fun hx sx ox kx => ?_; have G := G.store B3 hp ox kx)
            | (refine SemR.entryNew rfl rfl rfl rfl (G.map0 rfl) hnk (by simp [blocksOf]) fun hx born sx px kx => ?_; have G := G.entry B3 px kx)
            | (refine SemR.entryStore (G.map1 rfl) (by simp [blocksOf]) fun hx sx px kx => ?_; have G := G.fill B3 px kx))
          all_goals
            conv => whnf
            exact fin _ _ _ G
    · have hp : ¬ p < 21 := by simp at hc; omega
      rw [if_neg hp] at hst
      conv => whnf
      rw [hf, hst]
      exact ⟨k2.mono (by simp), rfl, A2, fun h => by cases h⟩
end Go.Proofs.YtkdmlieckkdmgaaGreatDoor
/-
  Layer 11: the first empty entry; an entry is put.
-/
set_option linter.all false
set_option maxRecDepth 100000
set_option maxHeartbeats 1000000
namespace Go.Proofs.YtkdmlieckkdmgaaGreatDoor
open Go Go.Eng

theorem firstK_is {p : List UInt64 → Nat → Bool} {ws : List UInt64} : ∀ {f k q : Nat}, firstK p ws f k = some q → p ws q = true ∧ k ≤ q ∧ q < k + f
  | 0, _, _, h => by cases h
  | f + 1, k, q, h => by
    unfold firstK at h
    split at h
    · cases h; exact ⟨by assumption, Nat.le_refl _, by omega⟩
    · have := firstK_is h
      exact ⟨this.1, by omega, by omega⟩
theorem spotF_is {W : Int → List UInt64} {m : List Int} {p : List UInt64 → Nat → Bool} : ∀ {f pl : Nat} {q : Nat × Nat}, spotF W m p f pl = some q → q.1 < 21 ∧ plc m q.1 ≠ -1 ∧ q.2 < 5 ∧ p (W (q.1 : Int)) q.2 = true ∧ q.1 % 8 = pl % 8
  | 0, _, _, h => by cases h
  | f + 1, pl, q, h => by
    unfold spotF at h
    split at h
    · split at h
      · have := spotF_is h
        exact ⟨this.1, this.2.1, this.2.2.1, this.2.2.2.1, by omega⟩
      · split at h
        · rename_i k hk
          cases h
          have := firstK_is hk
          exact ⟨by assumption, by assumption, by simp only; omega, this.1, rfl⟩
        · have := spotF_is h
          exact ⟨this.1, this.2.1, this.2.2.1, this.2.2.2.1, by omega⟩
    · cases h

structure Frst where
  pl : Int
  k : Int
  e : Int
  X : VS
  m : List Int
  W : Int → List UInt64
def firstR (B : Int → UInt64) (X : VS) (node : Int) (m : List Int) (W : Int → List UInt64) (bk : Nat) : Frst :=
  match spotF W m emptyB 4 bk with
  | some (pl, k) => ⟨(pl : Int), (k : Int), 0, X, m, W⟩
  | none => ⟨(growP B X node m bk).1, 0, (growP B X node m bk).2.1, (growP B X node m bk).2.2.1, (growP B X node m bk).2.2.2, match growF m 4 bk with | some pl => growW W pl | none => W⟩

theorem first_spec' {h : Heap} {V : VL} {M : MemS} {X : VS} (A : At h V M X) (node : Int) {b : Nat} {L : BL} {m : List Int} {W : Int → List UInt64} (B : BookAt h b L m 21 W) (hd : ∀ x ∈ BL.blocks b L, x ∉ V.blocks) (name : List UInt8) (hnl : name.length ≤ 140737488351232) :
    CallH Tryz.prog 121 [.pointer (some ⟨b, 0, none⟩), .pointer (some ⟨V.v, 0, none⟩), .int .i64 node, .string ⟨name.toArray⟩] h (fun v h' => Keeps (V.ob :: BL.blocks b L) h h' ∧
      v = .tuple #[.int .i64 (firstR M.read X node m W (bucketL name)).pl, .int .i64 (firstR M.read X node m W (bucketL name)).k, .int .i64 (firstR M.read X node m W (bucketL name)).e] ∧ At h' V M (firstR M.read X node m W (bucketL name)).X ∧
      ((firstR M.read X node m W (bucketL name)).e = 0 → ∃ L', BookAt h' b L' (firstR M.read X node m W (bucketL name)).m 21 (firstR M.read X node m W (bucketL name)).W ∧ ∀ y ∈ BL.blocks b L', y ∈ BL.blocks b L ∨ h.size ≤ y)) := by
  unfold firstR
  refine call_of hmix Tryz.func121 rfl ok121 (by simp [Tryz.f121]) ?_
  conv => whnf
  refine CallR.i (spotE_spec B name hnl) fun v h1 k1 hv => ?_
  subst hv
  cases hs : spotF W m emptyB 4 (bucketL name) with
  | some q =>
    obtain ⟨pl, k⟩ := q
    conv => whnf
    refine IfR.t rfl ?_
    conv => whnf
    exact ⟨k1.mono (by simp), rfl, A.on k1, fun _ => ⟨L, B.on k1, fun y hy => .inl hy⟩⟩
  | none =>
    conv => whnf
    refine IfR.f rfl ?_
    conv => whnf
    refine CallR.m (grow_spec' (A.on k1) node (B.on k1) hd name hnl) (by simp [blocksOf]) fun v h2 k2 hv => ?_
    obtain ⟨rfl, A2, hb⟩ := hv
    conv => whnf
    have z1 := k1.size
    refine ⟨(k1.mono (by simp)).trans k2, rfl, A2, fun he => ?_⟩
    obtain ⟨L', pl, h1, h2, h3⟩ := hb he
    rw [h1]
    exact ⟨L', h2, fun y hy => (h3 y hy).imp id (fun h => by omega)⟩

def setSlot (ws : List UInt64) (k : Nat) (new : List UInt64) : List UInt64 := ws.take (3 * k) ++ new ++ ws.drop (3 * k + 3)
theorem splice_mid : ∀ (a b c d : List Value), b.length = d.length → spliceL a.length d (a ++ (b ++ c)) = a ++ (d ++ c)
  | [], [], c, [], _ => by cases c <;> rfl
  | [], x :: b, c, y :: d, h => by
    have ih := splice_mid [] b c d (by simpa using h)
    simp only [List.length_nil, List.nil_append] at ih ⊢
    show y :: spliceL 0 d (b ++ c) = y :: (d ++ c)
    rw [ih]
  | x :: a, b, c, d, h => by
    have ih := splice_mid a b c d h
    show x :: spliceL a.length d (a ++ (b ++ c)) = x :: (a ++ (d ++ c))
    rw [ih]
  | [], [], c, y :: d, h => by simp at h
  | [], x :: b, c, [], h => by simp at h
theorem slot_splice {ws new : List UInt64} {k : Nat} (hl : ws.length = 16) (hk : k < 5) (hn : new.length = 3) : spliceL (3 * k) (new.map wv) (ws.map wv) = (setSlot ws k new).map wv := by
  have e : ws = ws.take (3 * k) ++ ((ws.drop (3 * k)).take 3 ++ ws.drop (3 * k + 3)) := by
    conv => lhs; rw [← List.take_append_drop (3 * k) ws]
    congr 1
    conv => lhs; rw [← List.take_append_drop 3 (ws.drop (3 * k))]
    rw [List.drop_drop]
  have h1 : ((ws.take (3 * k)).map wv).length = 3 * k := by simp; omega
  have g := splice_mid ((ws.take (3 * k)).map wv) (((ws.drop (3 * k)).take 3).map wv) ((ws.drop (3 * k + 3)).map wv) (new.map wv) (by simp; omega)
  rw [h1] at g
  conv => lhs; rw [e, List.map_append, List.map_append]
  rw [g]
  simp [setSlot]
theorem setSlot_len {ws new : List UInt64} {k : Nat} (hl : ws.length = 16) (hk : k < 5) (hn : new.length = 3) : (setSlot ws k new).length = 16 := by
  simp [setSlot]; omega

theorem put_spec' {h : Heap} {V : VL} {M : MemS} {X : VS} (A : At h V M X) {b : Nat} {L : BL} {m : List Int} {W : Int → List UInt64} (B : BookAt h b L m 21 W) (hd : ∀ x ∈ BL.blocks b L, x ∉ V.blocks) {pl k : Nat} (hp : pl < 21) (hu : plc m pl ≠ -1) (hr : 0 ≤ plc m pl ∧ plc m pl < 96) (hk : k < 5) {sb so c : Nat} {new : List UInt64} (S : Sl h (some ⟨sb, so, none⟩) 3 c new) :
    CallH Tryz.prog 122 [.pointer (some ⟨b, 0, none⟩), .pointer (some ⟨V.v, 0, none⟩), .int .i64 (pl : Int), .int .i64 (k : Int), .slice (some ⟨sb, so, none⟩) 3 c] h (fun v h' => Keeps (V.ob :: BL.blocks b L) h h' ∧ v = .int .i64 0 ∧ At h' V M { X with now := putBlk X.now (plc m pl) (setSlot (W (pl : Int)) k new) } ∧
      h'[b]? = some (.cells ⟨[.slice (some ⟨L.pb, 0, none⟩) 21 L.pcap, .map (some L.r)]⟩ 163 (0, 0)) ∧ IntsAt h' L.pb m L.sp) := by
  obtain ⟨x, hx, hlk⟩ := B.used hp hu
  obtain ⟨ox, hwl⟩ := B.blk _ hx
  simp only at ox hwl
  have hnl := S.hlen
  have hml := B.len
  have hxb : x ∈ BL.blocks b L := by simp only [BL.blocks, List.mem_cons]; exact .inr (.inr (.inr (List.mem_map_of_mem (f := fun p : Int × Nat => p.2) hx)))
  have hnd := B.nod
  have hxm : x ∈ L.mb.map (·.2) := List.mem_map_of_mem (f := fun p : Int × Nat => p.2) hx
  simp only [BL.blocks, List.nodup_cons, List.mem_cons, not_or] at hnd
  have nb : b ≠ x := fun e => hnd.1.2.2 (e ▸ hxm)
  have np : L.pb ≠ x := fun e => hnd.2.1.2 (e ▸ hxm)
  have nr : L.r ≠ x := fun e => hnd.2.2.1 (e ▸ hxm)
  refine call_of hmix Tryz.func122 rfl ok122 (by simp [Tryz.f122]) ?_
  conv => whnf
  refine LoadR.o B.obj rfl ?_
  conv => whnf
  refine LookR.is B.map hlk ?_
  conv => whnf
  refine CallR.i (slot_spec x k hk h) fun v h1 k1 hv => ?_
  subst hv
  have o1 := k1.obj ox (by simp)
  conv => whnf
  refine SemR.copy (sz := 1) (new := new.map wv) rfl rfl rfl o1 (by simp; omega) (by intro j hj; exact (S.keep k1).cells1 j (by simpa [One.val] using hj)) (allOne_wv _) (by simp; omega) (by simp [blocksOf]) fun h2 s2 o2 k2 => ?_
  have hsp := slot_splice hwl hk hnl.symm
  rw [hsp] at o2
  have k02 : Keeps [x] h h2 := (k1.mono (by simp)).trans k2
  have ob2 := k02.obj B.obj (by simp; exact nb)
  have pl2 : IntsAt h2 L.pb m L.sp := k02.obj B.pl (by simp; exact np)
  have mp2 := B.map.keep k02 (by simp; exact nr)
  have A2 := A.keep k02 (fun y hy hx2 => by simp at hx2; exact hd x hxb (hx2 ▸ hy))
  have hin2 : m[pl]'(by omega) = plc m pl := by unfold plc; rw [List.getElem?_eq_getElem (by omega)]; rfl
  have hsl := setSlot_len hwl hk hnl.symm
  have S2 := Sl.of1' (α := UInt64) (n := 16) o2 (by simp [One.ok]) hsl.symm (by omega)
  repeat' ((conv => whnf); first
    | refine LoadR.o ob2 rfl ?_
    | refine BothR.i ?_ ?_
    | refine IdxS.i pl rfl hp rfl ?_
    | refine LoadR.i (IntsAt.nth pl2 (by omega)) ?_
    | refine LookR.is mp2 hlk ?_
    | (rw [hin2]; refine CallR.m (setBlock_spec A2 (plc m pl) S2 (by simp [blkA]; intro e; exact hd x hxb (e ▸ by simp [VL.blocks]))) (by simp [blocksOf]) fun v h3 k3 hv => ?_))
  all_goals
    obtain ⟨rfl, A3⟩ := hv
    rw [if_pos ⟨hr.1, hr.2, by decide⟩] at A3 ⊢
    conv => whnf
    have hob : V.ob ∈ V.blocks := by simp [VL.blocks]
    refine ⟨(k02.mono (by simp; exact .inr hxb)).trans (k3.mono (by simp)), rfl, A3, k3.obj ob2 (by simp; intro e; exact hd b (by simp [BL.blocks]) (e ▸ hob)), k3.obj pl2 (by simp; intro e; exact hd L.pb (by simp [BL.blocks]) (e ▸ hob))⟩
end Go.Proofs.YtkdmlieckkdmgaaGreatDoor
/-
  Lists of words one behind the other.
-/
set_option linter.all false
set_option maxRecDepth 100000
set_option maxHeartbeats 1000000
namespace Go.Proofs.YtkdmlieckkdmgaaGreatDoor
open Go Go.Eng

theorem growW_spec (n : Nat) (hn : n ≤ 1000000) (h : Heap) : CallH Tryz.prog 169 [.slice none 0 0, .int .i64 (n : Int)] h (fun v h' => Keeps [] h h' ∧ ∃ a c, v = .slice a 0 c ∧ Own h' 32 1 a 0 c [] ∧ ∀ b ∈ blkA a, h.size ≤ b) := by
  have e1 : IntKind.i64.wrap ((n : Int) - IntKind.i64.wrap (((0 : Nat) : Int) - ((0 : Nat) : Int))) = (n : Int) := by
    rw [wrapN (x := ((0 : Nat) : Int) - ((0 : Nat) : Int)) (n := 0) (by simp) (by omega), wrapN (n := n) (by simp) (by omega)]
  refine call_of hmix Tryz.func169 rfl ok169 (by simp [Tryz.f169]) ?_
  conv => whnf
  refine MeetR.pass ?_
  conv => whnf
  refine IfR.f (by simp) ?_
  conv => whnf
  refine MeetR.pass ?_
  conv => whnf
  rw [e1]
  refine IfR.i (fun hc => ?_) (fun hc => ?_)
  · have hp : 0 < n := by simp at hc; omega
    conv => whnf
    refine SliceR.i 0 0 rfl rfl (Nat.le_refl _) (Nat.zero_le _) ?_
    conv => whnf
    rw [slA_zero]
    refine SemR.appendMake (by_ := 8) rfl rfl rfl rfl rfl rfl rfl hp (by omega) (by decide) fun b c h1 e1 s1 o1 hc k1 => ?_
    conv => whnf
    refine SliceR.i 0 0 rfl rfl (Nat.le_refl _) (Nat.zero_le _) ?_
    conv => whnf
    refine ⟨k1, some ⟨b, 0, none⟩, c, ?_, .inr ⟨b, _, rfl, o1, rfl, by simp, rfl, Nat.zero_le _⟩, by simp [blkA]; omega⟩
    rw [slA_zero]; rfl
  · conv => whnf
    exact ⟨Keeps.refl _ _, none, 0, rfl, .inl ⟨rfl, rfl, rfl, rfl⟩, by simp [blkA]⟩

/-- one behind the other -/
theorem concatW_spec {h : Heap} {a : Option Addr} {n c : Nat} {xss : List (List UInt64)} (S : Sl h a n c xss) (hb : xss.flatten.length ≤ 1000) (hn : n ≤ 1000) : CallH Tryz.prog 123 [.slice a n c] h
    (fun v h' => Keeps [] h h' ∧ ∃ a' c', v = .slice a' xss.flatten.length c' ∧ Own h' 32 1 a' xss.flatten.length c' (xss.flatten.map wv) ∧ ∀ b ∈ blkA a', h.size ≤ b) := by
  have hl := S.hlen
  have flen : ∀ i (hi : i < xss.length), (xss.take (i + 1)).flatten = (xss.take i).flatten ++ xss[i] := by
    intro i hi
    rw [List.take_succ_eq_append_getElem hi, List.flatten_append]; simp
  have fle : ∀ i, (xss.take i).flatten.length ≤ xss.flatten.length := by
    intro i
    have : xss.flatten = (xss.take i).flatten ++ (xss.drop i).flatten := by rw [← List.flatten_append, List.take_append_drop]
    rw [this, List.length_append]; omega
  refine call_of hmix Tryz.func123 rfl ok123 (by simp [Tryz.f123]) ?_
  conv => whnf
  refine LoopR.on [0, 3, 9, 10, 11] [] (fun i : Nat => [(0, .v (.slice a n c)), (3, .v (.int .i64 ((xss.take i).flatten.length : Int))), (9, .v (.slice a n c)), (10, .v (.int .i64 (n : Int))), (11, .v (.int .i64 (i : Int)))]) (fun _ => [])
    (fun i h' => i ≤ n ∧ h' = h) (fun i => n - i) 0 ?_ ?_
  · conv => whnf
    exact ⟨0, rfl, rfl, rfl, Nat.zero_le _, rfl⟩
  · rintro i h2 ⟨hi, rfl⟩
    conv => whnf
    refine IfR.i (fun hc => ?_) (fun hc => ?_)
    · have hi1 : i < xss.length := by simp at hc; omega
      obtain ⟨b, off, hb', cs, ⟨xa, xn, xc, rfl, SX⟩, hcell⟩ := S.at_ i hi1
      conv => whnf
      first | refine IdxS.i i rfl (by omega) hb' ?_ | (refine MeetR.pass ?_; (conv => whnf); refine IdxS.i i rfl (by omega) hb' ?_)
      conv => whnf
      refine LoadR.i (hcell 0 (by simp)) ?_
      have f1 := flen i hi1
      have f2 := fle (i + 1)
      have f3 : (xss.take (i + 1)).flatten.length = (xss.take i).flatten.length + xn := by rw [f1, List.length_append, SX.hlen]
      conv => whnf
      rw [wrapN (n := (xss.take (i + 1)).flatten.length) (by rw [f3]; simp) (by omega)]
      refine IfR.f (by simp) ?_
      conv => whnf
      refine ⟨n - (i + 1), by omega, ?_⟩
      conv => whnf
      exact ⟨i + 1, rfl, by rw [wrapN (x := (i : Int) + 1) (n := i + 1) (by simp) (by omega)], rfl, by omega, rfl⟩
    · have hi1 : i = xss.length := by simp at hc; omega
      subst hi1
      conv => whnf
      rw [List.take_length]
      refine CallR.i (growW_spec xss.flatten.length (by omega) h2) fun v h3 k3 hv => ?_
      obtain ⟨a3, c3, rfl, O3, n3⟩ := hv
      conv => whnf
      refine LoopR.on [6, 25, 26, 27] [] (fun q : Nat × Option Addr × Nat => [(6, .v (.slice q.2.1 (xss.take q.1).flatten.length q.2.2)), (25, .v (.slice a n c)), (26, .v (.int .i64 (n : Int))), (27, .v (.int .i64 (q.1 : Int)))]) (fun _ => [])
        (fun q h' => q.1 ≤ n ∧ Keeps [] h2 h' ∧ Own h' 32 1 q.2.1 (xss.take q.1).flatten.length q.2.2 ((xss.take q.1).flatten.map wv) ∧ ∀ b ∈ blkA q.2.1, h2.size ≤ b) (fun q => n - q.1) (0, a3, c3) ?_ ?_
      · conv => whnf
        exact ⟨(0, a3, c3), rfl, rfl, rfl, Nat.zero_le _, k3, O3, n3⟩
      · rintro ⟨i, ai, ci⟩ h4 ⟨hi, k4, O4, n4⟩
        simp only at hi O4 n4
        conv => whnf
        refine IfR.i (fun hc => ?_) (fun hc => ?_)
        · have hi1 : i < xss.length := by simp at hc; omega
          obtain ⟨b, off, hb', cs, ⟨xa, xn, xc, rfl, SX⟩, hcell⟩ := S.at_ i hi1
          have hc4 := hcell.keep k4
          conv => whnf
          refine IdxS.i i rfl (by omega) hb' ?_
          conv => whnf
          refine LoadR.i (hc4 0 (by simp)) ?_
          have f1 := flen i hi1
          have f2 := fle (i + 1)
          have f3 : (xss.take (i + 1)).flatten.length = (xss.take i).flatten.length + xn := by rw [f1, List.length_append, SX.hlen]
          have SX4 := SX.keep k4
          have lenX := SX.hlen
          conv => whnf
          rcases Nat.eq_zero_or_pos xn with h0 | h0
          · subst h0
            have hx0 : xss[i] = [] := List.eq_nil_of_length_eq_zero lenX.symm
            have hcap : (xss.take i).flatten.length ≤ ci := by
              rcases O4 with ⟨rfl, h1, rfl, h2⟩ | ⟨b, c, _, _, _, _, _, h6⟩
              · omega
              · exact h6
            refine SemR.append0 rfl rfl rfl hcap ?_
            conv => whnf
            refine ⟨n - (i + 1), by omega, ?_⟩
            conv => whnf
            refine ⟨(i + 1, ai, ci), rfl, ?_, rfl, by simp only; omega, k4, ?_, n4⟩
            · have e : (xss.take (i + 1)).flatten.length = (xss.take i).flatten.length := by rw [f3, Nat.add_zero]
              simp only [e, Nat.add_zero]
              rw [wrapN (x := (i : Int) + 1) (n := i + 1) (by simp) (by omega)]
            · simp only
              rw [f1, hx0, List.append_nil]; exact O4
          · obtain ⟨xb, xo, rfl⟩ := SX.nonnil h0
            refine append_own (e := 32) (sz := 1) (by_ := 8) (new := xss[i].map wv) rfl rfl rfl rfl rfl rfl rfl O4 (by simp [lenX]) (SX4.cells1) (allOne_wv _) (by omega) (by decide) (by simp [blocksOf]) ?_
            intro a5 c5 h5 O5 k5 n5
            conv => whnf
            refine ⟨n - (i + 1), by omega, ?_⟩
            conv => whnf
            refine ⟨(i + 1, a5, c5), rfl, ?_, rfl, by simp only; omega, k4.nil_of k5 n4, ?_, fun b hb => ?_⟩
            · simp only [f3]
              rw [wrapN (x := (i : Int) + 1) (n := i + 1) (by simp) (by omega)]
            · simp only
              rw [f1, List.length_append, ← lenX, List.map_append]; exact O5
            · rcases n5 b hb with h | h
              · exact n4 b h
              · have := k4.size; omega
        · have hi1 : i = xss.length := by simp at hc; omega
          subst hi1
          conv => whnf
          rw [List.take_length] at O4
          refine ⟨k4, ai, ci, ?_, O4, n4⟩
          rw [List.take_length]

end Go.Proofs.YtkdmlieckkdmgaaGreatDoor
/-
  Layer 11: a directory with a name more.
-/
set_option linter.all false
set_option maxRecDepth 100000
set_option maxHeartbeats 1000000
namespace Go.Proofs.YtkdmlieckkdmgaaGreatDoor
open Go Go.Eng

def addP (B : Int → UInt64) (X : VS) (node : Int) (c : Crd) (name : List UInt8) (target : Int) : Crd × Int × VS :=
  if ¬ (0 ≤ node ∧ node < 24) ∨ target < 1 ∨ 24 ≤ target then (Crd.zero, 1, X)
  else if (openP X.now c).1 ≠ 0 then (Crd.zero, (openP X.now c).1, X)
  else if (findR (openP X.now c).2.2 name).2 = true then (Crd.zero, 5, X)
  else if nameB name = false then (Crd.zero, 3, X)
  else
    let f := firstR B X node (openP X.now c).2.1 (wordsAt X.now (openP X.now c).2.1) (bucketL name)
    if f.e ≠ 0 then (Crd.zero, f.e, f.X)
    else keepP B { f.X with now := putBlk f.X.now (plc f.m f.pl.toNat) (setSlot (f.W f.pl) f.k.toNat (w64 target :: textL name 2)) } node { c with size := c.size + 1 } f.m

/-- a map's places are blocks or none -/
def mapRng (m : List Int) : Prop := m.length = 21 ∧ ∀ x ∈ m, x = -1 ∨ (0 ≤ x ∧ x < 96)
theorem mapRng.plc {m : List Int} (R : mapRng m) (i : Nat) : plc m i = -1 ∨ (0 ≤ plc m i ∧ plc m i < 96) := by
  unfold Proofs.YtkdmlieckkdmgaaGreatDoor.plc
  cases h : m[i]? with
  | none => exact .inl rfl
  | some x => exact R.2 x (List.mem_of_getElem? h)
theorem mapRng.in64 {m : List Int} (R : mapRng m) : ∀ x ∈ m, inI64 x := fun x hx => by
  unfold inI64
  rcases R.2 x hx with h | h <;> omega
theorem openP_rng {now : Int → UInt64} {c : Crd} (h : (openP now c).1 = 0) : mapRng (openP now c).2.1 ∧ ((openP now c).2.2.length : Int) = c.size := by
  unfold openP at h ⊢
  split at h
  · simp at h
  · rename_i hk
    rw [if_neg hk]
    split at h
    · simp at h
    · rename_i m hm
      split at h
      · rename_i hc
        rw [if_pos hc]
        refine ⟨⟨mapOf_length hm, fun x hx => ?_⟩, by simp only; rw [(sortE_perm _).length_eq]; exact hc.2.2⟩
        obtain ⟨i, hi, rfl⟩ := List.mem_iff_getElem.1 hx
        have hl := mapOf_length hm
        have := all_lt hc.1 (i := i) (by simp only at hi; omega)
        have e : plc m i = m[i]'hi := by unfold plc; rw [List.getElem?_eq_getElem hi]; rfl
        unfold placeOk blkOkB at this
        rw [e] at this
        by_cases h1 : m[i]'hi = -1
        · exact .inl h1
        · rw [decide_eq_false h1] at this
          simp only [Bool.false_or, Bool.and_eq_true] at this
          exact .inr (of_decide_eq_true this.1)
      · simp at h

theorem firstR_facts {B : Int → UInt64} {X : VS} {node : Int} {m : List Int} {W : Int → List UInt64} {bk : Nat} (R : mapRng m) (he : (firstR B X node m W bk).e = 0) :
    ∃ pl k : Nat, (firstR B X node m W bk).pl = (pl : Int) ∧ (firstR B X node m W bk).k = (k : Int) ∧ pl < 21 ∧ k < 5 ∧ plc (firstR B X node m W bk).m pl ≠ -1 ∧ mapRng (firstR B X node m W bk).m := by
  unfold firstR at he ⊢
  cases hs : spotF W m emptyB 4 bk with
  | some q =>
    have := spotF_is hs
    obtain ⟨pl, k⟩ := q
    exact ⟨pl, k, rfl, rfl, this.1, this.2.2.1, this.2.1, R⟩
  | none =>
    rw [hs] at he
    simp only at he ⊢
    unfold growP at he ⊢
    cases hg : growF m 4 bk with
    | none => rw [hg] at he; simp at he
    | some pl =>
      rw [hg] at he
      simp only at he ⊢
      split at he
      · rename_i h0
        rw [if_pos h0]
        have hr := takeP_rng h0
        have hg2 := growF_is hg
        refine ⟨pl, 0, rfl, rfl, hg2.1, by decide, ?_, by rw [List.length_set]; exact R.1, fun x hx => ?_⟩
        · rw [plc_set (by rw [R.1]; exact hg2.1), if_pos rfl]; omega
        · rcases List.mem_or_eq_of_mem_set hx with hx | rfl
          · exact R.2 x hx
          · exact .inr hr
      · rename_i h0
        simp only at he
        exact absurd he h0

theorem add_spec {h : Heap} {V : VL} {M : MemS} {X : VS} (A : At h V M X) (node : Int) (c : Crd) (hc : c.ok) (name : List UInt8) (hnl : name.length ≤ 140737488351232) (target : Int) :
    CallH Tryz.prog 60 [.pointer (some ⟨V.v, 0, none⟩), .int .i64 node, .agg ⟨c.cells⟩, .string ⟨name.toArray⟩, .int .i64 target] h (fun v h' => Keeps [V.ob] h h' ∧
      v = .tuple #[.agg ⟨(addP M.read X node c name target).1.cells⟩, .int .i64 (addP M.read X node c name target).2.1] ∧ At h' V M (addP M.read X node c name target).2.2) := by
  have hvb := A.blt
  have hopl := openP_len X.now c
  unfold addP
  refine call_of hmix Tryz.func60 rfl ok60 (by simp [Tryz.f60]) ?_
  conv => whnf
  refine AllocR.i fun b1 h1 e1 s1 o1 k1 => ?_
  conv => whnf
  refine AllocR.i fun b2 h2 e2 s2 o2 k2 => ?_
  conv => whnf
  refine CallR.i (fmay_spec node h2) fun v h3 k3 hv => ?_
  subst hv
  have k03 := (k1.trans k2).trans k3
  conv => whnf
  refine IfR.i (fun hq => ?_) (fun hq => ?_)
  · have hbad : ¬ (0 ≤ node ∧ node < 24) ∨ target < 1 ∨ 24 ≤ target := by
      by_cases hn : 0 ≤ node ∧ node < 24
      · rw [if_pos hn] at hq
        simp [bif_or] at hq
        omega
      · exact .inl hn
    conv => whnf
    refine BoxR.i fun h4 s4 k4 => ?_
    conv => whnf
    rw [if_pos hbad]
    have kk : Keeps [] h h4 := k03.new1 k4 (by have := k1.size; omega)
    exact ⟨kk.mono (by simp), rfl, A.on kk⟩
  have hgood : ¬ (¬ (0 ≤ node ∧ node < 24) ∨ target < 1 ∨ 24 ≤ target) := by
    by_cases hn : 0 ≤ node ∧ node < 24
    · rw [if_pos hn] at hq
      simp [bif_or] at hq
      omega
    · rw [if_neg hn] at hq
      simp [bif_or] at hq
  rw [if_neg hgood]
  conv => whnf
  refine CallR.i (fopen_spec (A.on k03) c hc) fun v h4 k4 hv => ?_
  have k04 := k03.trans k4
  have hrng := openP_rng (now := X.now) (c := c)
  generalize openP X.now c = r at hv hopl hrng
  have z1 := k1.size
  have z2 := k2.size
  have z3 := k3.size
  have z4 := k4.size
  unfold OpenR at hv
  by_cases h0 : r.1 = 0
  · rw [if_pos h0] at hv
    obtain ⟨b, L, a, cc, rfl, B4, nB, O4, nO, ok⟩ := hv
    obtain ⟨mR, hsz⟩ := hrng h0
    obtain ⟨e0, m, l⟩ := r
    simp only at h0 mR hsz O4 ok B4 hopl ⊢
    subst h0
    rw [if_neg (show ¬ (0 : Int) ≠ 0 by simp)]
    have hdis : ∀ x ∈ BL.blocks b L, x ∉ V.blocks := fun x hx hx2 => by have := nB x hx; have := hvb x hx2; omega
    have hob := hvb V.ob (by simp [VL.blocks])
    have done : ∀ (h' h'' : Heap) (e : Int), Keeps [] h h' → Keeps [b2] h' h'' → Keeps [V.ob] h h'' ∧ (Value.tuple #[.agg ⟨Crd.zero.cells⟩, .int .i64 e] = .tuple #[.agg ⟨Crd.zero.cells⟩, .int .i64 e]) ∧ At h'' V M X := by
      intro h' h'' e q1 q2
      have kk : Keeps [] h h'' := q1.new1 q2 (by omega)
      exact ⟨kk.mono (by simp), rfl, A.on kk⟩
    conv => whnf
    refine IfR.f rfl ?_
    have hSl := own_ents O4 ok (by omega)
    -- the text's words
    have key : ∀ (h5 : Heap) (sv : Value) (et : Int), Keeps [] h4 h5 → True := fun _ _ _ _ => trivial
    rcases Nat.lt_or_ge 16 name.length with hlong | hshort
    · have hnb : nameB name = false := by
        unfold nameB
        rw [decide_eq_false (show ¬ name.length ≤ 14 by omega)]
        simp
      conv => whnf
      refine CallR.i (text_long name 2 h4 (by decide) (by omega) hnl) fun v h5 k5 hv => ?_
      subst hv
      conv => whnf
      refine CallR.i (find_spec (hSl.keep k5) (by omega) name) fun v h6 k6 hv => ?_
      subst hv
      conv => whnf
      refine IfR.i (fun hth => ?_) (fun hth => ?_)
      · conv => whnf
        refine BoxR.i fun h7 s7 k7 => ?_
        conv => whnf
        rw [if_pos hth]
        exact done _ _ 5 ((k04.trans k5).trans k6) k7
      · conv => whnf
        refine IfR.f rfl ?_
        conv => whnf
        refine IfR.t rfl ?_
        conv => whnf
        refine BoxR.i fun h7 s7 k7 => ?_
        conv => whnf
        rw [if_neg (by rw [hth]; decide), if_pos hnb]
        exact done _ _ 3 ((k04.trans k5).trans k6) k7
    · conv => whnf
      refine CallR.i (text_spec ⟨name.toArray⟩ 2 h4 (by decide) (by rw [bs_size]; exact hshort)) fun v h5 k5 hv => ?_
      obtain ⟨tb, rfl, tb0, tb1, ot⟩ := hv
      conv => whnf
      refine CallR.i (find_spec (hSl.keep k5) (by omega) name) fun v h6 k6 hv => ?_
      subst hv
      conv => whnf
      refine IfR.i (fun hth => ?_) (fun hth => ?_)
      · conv => whnf
        refine BoxR.i fun h7 s7 k7 => ?_
        conv => whnf
        rw [if_pos hth]
        exact done _ _ 5 ((k04.trans k5).trans k6) k7
      · rw [if_neg (by rw [hth]; decide)]
        conv => whnf
        refine IfR.t rfl ?_
        conv => whnf
        refine CallR.i (right4_spec name hnl h6) fun v h7 k7 hv => ?_
        subst hv
        have k07 := ((k04.trans k5).trans k6).trans k7
        conv => whnf
        refine IfR.i (fun hnr => ?_) (fun hnr => ?_)
        · conv => whnf
          refine BoxR.i fun h8 s8 k8 => ?_
          conv => whnf
          have hnb : nameB name = false := by simpa using hnr
          rw [if_pos hnb]
          exact done _ _ 3 k07 k8
        · have hnb : nameB name = true := by simpa using hnr
          rw [if_neg (by rw [hnb]; decide)]
          have k47 := (k5.trans k6).trans k7
          have B7 := B4.on k47
          have FS := first_spec' (A.on k07) node B7 hdis name hnl
          have ff := firstR_facts (B := M.read) (X := X) (node := node) (W := wordsAt X.now m) (bk := bucketL name) mR
          simp only
          generalize firstR M.read X node m (wordsAt X.now m) (bucketL name) = f at FS ff
          conv => whnf
          refine CallR.m FS ?_ fun v h8 k8 hv => ?_
          · intro y hy hx2
            have hy2 : y = b1 ∨ y = b2 := by simpa [blocksOf, setB] using hy
            simp only [List.mem_cons] at hx2
            rcases hx2 with rfl | hx2
            · omega
            · have := nB y hx2
              omega
          obtain ⟨rfl, A8, hbk⟩ := hv
          have kk8 : Keeps [V.ob] h h8 := (k07.mono (by simp)).trans_new k8 (fun y hy => by
            simp only [List.mem_cons] at hy
            rcases hy with rfl | hy
            · exact .inl (by simp)
            · have := nB y hy; right; omega)
          have z7 := k07.size
          have z8 := k8.size
          have z47 := k47.size
          conv => whnf
          refine IfR.i (fun hfe => ?_) (fun hfe => ?_)
          · have he1 : f.e ≠ 0 := by simpa using hfe
            conv => whnf
            refine BoxR.i fun h9 s9 k9 => ?_
            conv => whnf
            rw [if_pos he1]
            exact ⟨kk8.trans_new k9 (fun y hy => by simp at hy; right; omega), rfl, A8.keep k9 (fun y hy => by have := hvb y hy; simp; omega)⟩
          · have he1 : f.e = 0 := by simpa using hfe
            rw [if_neg (show ¬ f.e ≠ 0 by rw [he1]; simp)]
            obtain ⟨L', B8, n8⟩ := hbk he1
            obtain ⟨pl, k, epl, ek, hpl, hk5, hpu, fR⟩ := ff he1
            obtain ⟨fpl, fk, fe, fX, fm, fW⟩ := f
            simp only at he1 B8 epl ek hpu fR A8 ⊢
            subst epl; subst ek; subst he1
            have hdis8 : ∀ x ∈ BL.blocks b L', x ∉ V.blocks := fun x hx hx2 => by
              rcases n8 x hx with g | g
              · exact hdis x g hx2
              · have := hvb x hx2; omega
            have nB8 : ∀ x ∈ BL.blocks b L', h3.size ≤ x := fun x hx => by
              rcases n8 x hx with g | g
              · exact nB x g
              · omega
            have ot8 : h8[tb]? = some (.cells ⟨(textL name 2).map wv⟩ 32 (0, 0)) := by
              refine k8.obj ((k6.trans k7).obj ot (by simp)) ?_
              simp only [List.mem_cons, not_or]
              refine ⟨by omega, fun hx => ?_⟩
              have := B4.lt tb hx
              omega
            conv => whnf
            refine AllocR.i fun b9 h9 e9 s9 o9 k9 => ?_
            conv => whnf
            refine AllocR.i fun b10 h10 e10 s10 o10 k10 => ?_
            have o9' := k10.obj o9 (by simp)
            have ot10 := (k9.trans k10).obj ot8 (by simp)
            have k8_10 := k9.trans k10
            have z810 := k8_10.size
            have S1 : Sl h10 (some ⟨b9, 0, none⟩) 1 1 [w64 target] := by
              refine Sl.of1' (α := UInt64) (n := 1) (T := 32) (fz := (0, 0)) ?_ (by simp [One.ok]) rfl (by simp)
              rw [o9']
              show some (Obj.cells ⟨[.int .u64 (IntKind.u64.wrap target)]⟩ _ _) = _
              rw [← wv_w64]; rfl
            have S2 : Sl h10 (some ⟨tb, 0, none⟩) 2 2 (textL name 2) := Sl.of1' (α := UInt64) (n := 2) ot10 (by simp [One.ok]) (textL_len _ _).symm (by rw [textL_len]; decide)
            have S12 : Sl h10 (some ⟨b10, 0, none⟩) 2 2 [[w64 target], textL name 2] := by
              refine ⟨rfl, Nat.le_refl _, by simp, fun i hi => ⟨b10, 0, rfl, ?_⟩⟩
              have hi2 : i = 0 ∨ i = 1 := by simp at hi; omega
              rcases hi2 with rfl | rfl
              · refine ⟨[.slice (some ⟨b9, 0, none⟩) 1 1], ⟨_, _, _, rfl, S1⟩, fun j hj => ?_⟩
                have : j = 0 := by simpa using hj
                subst this
                unfold Heap.cell?
                rw [o10]; rfl
              · refine ⟨[.slice (some ⟨tb, 0, none⟩) 2 2], ⟨_, _, _, rfl, S2⟩, fun j hj => ?_⟩
                have : j = 0 := by simpa using hj
                subst this
                unfold Heap.cell?
                rw [o10]; rfl
            conv => whnf
            refine CallR.i (concatW_spec S12 (by simp [textL_len]) (by decide)) fun v h11 k11 hv => ?_
            obtain ⟨a11, c11, rfl, O11, n11⟩ := hv
            have hfl : ([[w64 target], textL name 2].flatten) = w64 target :: textL name 2 := by simp
            have hfn : (w64 target :: textL name 2).length = 3 := by simp [textL_len]
            rw [hfl, hfn] at O11
            have S11 : Sl h11 a11 3 c11 (w64 target :: textL name 2) := O11.sl (reps_w h11 _) rfl (by decide) (by rw [hfn]; decide)
            obtain ⟨sb, so, rfl⟩ := S11.nonnil (by decide)
            have k8_11 := k8_10.trans k11
            have A11 := A8.on k8_11
            have B11 := B8.on k8_11
            have hrp := (fR.plc pl).resolve_left hpu
            have PS := put_spec' A11 B11 hdis8 hpl hpu hrp hk5 S11
            conv => whnf
            rw [hfl, hfn]
            refine CallR.m PS ?_ fun v h12 k12 hv => ?_
            · intro y hy hx2
              have hy2 : y = b1 ∨ y = b2 := by simpa [blocksOf, setB] using hy
              simp only [List.mem_cons] at hx2
              rcases hx2 with rfl | hx2
              · omega
              · have := nB8 y hx2
                omega
            obtain ⟨rfl, A12, ob12, pl12⟩ := hv
            have kk12 : Keeps [V.ob] h h12 := (kk8.trans_nil k8_11).trans_new k12 (fun y hy => by
              simp only [List.mem_cons] at hy
              rcases hy with rfl | hy
              · exact .inl (by simp)
              · have := nB8 y hy; right; omega)
            conv => whnf
            refine IfR.f rfl ?_
            conv => whnf
            refine BoxR.i fun h13 s13 k13 => ?_
            have hwr : IntKind.i64.wrap (c.size + 1) = c.size + 1 := by rw [← hsz]; exact wrapI (by omega) (by omega)
            have hL1 : ∀ y ∈ BL.blocks b L', y ∉ [b1] := fun y hy => by have := nB8 y hy; simp; omega
            have A13 := A12.keep k13 (fun y hy => by have := hvb y hy; simp; omega)
            have ob13 := k13.obj ob12 (hL1 b (by simp [BL.blocks]))
            have pl13 : IntsAt h13 L'.pb fm L'.sp := k13.obj pl12 (hL1 _ (by simp [BL.blocks]))
            have SM := pl13.sl fR.in64 (n := 21) (cap := L'.pcap) fR.1.symm B8.cap (by rw [fR.1]; decide)
            have hobp : V.ob ≠ L'.pb := fun e => hdis8 L'.pb (by simp [BL.blocks]) (e ▸ by simp [VL.blocks])
            conv => whnf
            refine LoadR.o ob13 rfl ?_
            conv => whnf
            have hcok : ({ c with size := c.size + 1 } : Crd).cells = spliceL (0 + 2) (cellsOf (.int .i64 (IntKind.i64.wrap (c.size + 1)))) c.cells := by rw [hwr]; rfl
            have KS := keep_spec A13 node { c with size := c.size + 1 } SM (fun _ => by simp [blkA]; exact hobp)
            rw [hcok] at KS
            refine CallR.m KS ?_ fun v h14 k14 hv => ?_
            · intro y hy hx2
              have hy2 : y = b1 ∨ y = b2 := by simpa [blocksOf, setB] using hy
              simp at hx2
              omega
            obtain ⟨rfl, A14⟩ := hv
            conv => whnf
            refine BoxR.i fun h15 s15 k15 => ?_
            conv => whnf
            have kk15 : Keeps [V.ob] h h15 := ((kk12.trans_new k13 (fun y hy => by simp at hy; right; omega)).trans k14).trans_new k15 (fun y hy => by simp at hy; right; omega)
            exact ⟨kk15, rfl, A14.keep k15 (fun y hy => by have := hvb y hy; simp; omega)⟩
    
  · rw [if_neg h0] at hv
    subst hv
    conv => whnf
    refine IfR.t (by simpa using h0) ?_
    conv => whnf
    refine BoxR.i fun h5 s5 k5 => ?_
    conv => whnf
    rw [if_pos h0]
    have kk : Keeps [] h h5 := k04.new1 k5 (by omega)
    exact ⟨kk.mono (by simp), rfl, A.on kk⟩
end Go.Proofs.YtkdmlieckkdmgaaGreatDoor
/-
  The document's answers for names: which may be, which is ahead, where one stands.
-/
set_option linter.all false
set_option maxRecDepth 100000
set_option maxHeartbeats 1000000
namespace Go.Proofs.YtkdmlieckkdmgaaGreatDoor
open Go Go.Eng

theorem rsign_val (c : UInt8) : (bif (bif (bif (bif !(bif decide ((c.toNat : Int) ≥ 97) then decide ((c.toNat : Int) ≤ 122) else false) then !(bif decide ((c.toNat : Int) ≥ 48) then decide ((c.toNat : Int) ≤ 57) else false) else false) then ((c.toNat : Int) != 46) else false) then ((c.toNat : Int) != 45) else false) then ((c.toNat : Int) != 95) else false) = !signB c := by
  have h1 : (c = 46) ↔ c.toNat = 46 := ⟨fun h => by rw [h]; rfl, fun h => UInt8.toNat_inj.1 h⟩
  have h2 : (c = 45) ↔ c.toNat = 45 := ⟨fun h => by rw [h]; rfl, fun h => UInt8.toNat_inj.1 h⟩
  have h3 : (c = 95) ↔ c.toNat = 95 := ⟨fun h => by rw [h]; rfl, fun h => UInt8.toNat_inj.1 h⟩
  rw [Bool.eq_iff_iff]
  simp only [bif_and]
  unfold signB
  have g1 : decide (c = 46) = decide (c.toNat = 46) := decide_eq_decide.2 h1
  have g2 : decide (c = 45) = decide (c.toNat = 45) := decide_eq_decide.2 h2
  have g3 : decide (c = 95) = decide (c.toNat = 95) := decide_eq_decide.2 h3
  rw [g1, g2, g3]
  simp
  omega

theorem refRight_spec (l : List UInt8) (hl : l.length ≤ 140737488351232) (h : Heap) : CallH Tryz.prog 114 [.string ⟨l.toArray⟩] h (fun v h' => Keeps [] h h' ∧ v = .bool (nameB l)) := by
  refine call_of hmix Tryz.func114 rfl ok114 (by simp [Tryz.f114]) ?_
  conv => whnf
  refine LoopR.on [0, 3] [] (fun i : Nat => [(0, .v (.string ⟨l.toArray⟩)), (3, .v (.int .i64 (i : Int)))]) (fun _ => []) (fun i h' => i ≤ l.length ∧ Keeps [] h h' ∧ (l.take i).all signB = true) (fun i => l.length - i) 0 ?_ ?_
  · exact ⟨0, rfl, rfl, rfl, Nat.zero_le _, Keeps.refl _ _, by simp⟩
  · rintro i h1 ⟨hi, k1, ha⟩
    conv => whnf
    refine IfR.i (fun hd => ?_) (fun hd => ?_)
    · have hi1 : i < l.length := by rw [bs_size] at hd; simp at hd; omega
      conv => whnf
      refine IdxR.i i rfl (by rw [bs_size]; exact hi1) ?_
      have htk : (l.take (i + 1)).all signB = signB l[i] := by
        rw [List.take_succ_eq_append_getElem hi1, List.all_append, ha]; simp
      conv => whnf
      rw [bs_get, List.getElem?_eq_getElem hi1, Option.getD_some, rsign_val]
      refine IfR.i (fun hs => ?_) (fun hs => ?_)
      · conv => whnf
        refine ⟨k1, ?_⟩
        have hf : l.all signB = false := by
          have : signB l[i] = false := by simpa using hs
          rw [← Bool.not_eq_true, List.all_eq_true]
          intro hx
          rw [hx _ (List.getElem_mem hi1)] at this; cases this
        simp [nameB, hf]
      · conv => whnf
        refine ⟨l.length - (i + 1), by omega, ?_⟩
        conv => whnf
        refine ⟨i + 1, rfl, by rw [wrapN (n := i + 1) (by simp) (by omega)], rfl, by omega, k1, ?_⟩
        rw [htk]; simpa using hs
    · have hi1 : i = l.length := by rw [bs_size] at hd; simp at hd; omega
      subst hi1
      rw [List.take_length] at ha
      conv => whnf
      refine ⟨k1, ?_⟩
      unfold nameB
      have hc : decide ((l.length : Int) ≤ 14) = decide (l.length ≤ 14) := decide_eq_decide.2 (by omega)
      have hc0 : decide ((l.length : Int) ≥ 1) = decide (l ≠ []) := decide_eq_decide.2 (by cases l <;> simp; omega)
      have e1 : (ByteArray.mk #[46]) = ⟨([46] : List UInt8).toArray⟩ := rfl
      have e2 : (ByteArray.mk #[46, 46]) = ⟨([46, 46] : List UInt8).toArray⟩ := rfl
      rw [ha, bs_size, hc0, hc, e1, e2, bs_eq, bs_eq]
      simp only [bif_and]
      by_cases h0 : l = [] <;> by_cases h1 : l.length ≤ 14 <;> by_cases h2 : l = [46] <;> by_cases h3 : l = [46, 46] <;> simp_all

theorem blt_pre : ∀ (n : Nat) (a b : List UInt8), n ≤ a.length → n ≤ b.length → a.take n = b.take n → blt a b = blt (a.drop n) (b.drop n)
  | 0, a, b, _, _, _ => rfl
  | n + 1, [], b, h, _, _ => by simp at h
  | n + 1, _ :: _, [], _, h, _ => by simp at h
  | n + 1, x :: a, y :: b, h1, h2, h3 => by
    simp only [List.take_succ_cons, List.cons.injEq] at h3
    obtain ⟨rfl, h3⟩ := h3
    have ih := blt_pre n a b (by simpa using h1) (by simpa using h2) h3
    rw [List.drop_succ_cons, List.drop_succ_cons, ← ih]
    rw [Bool.eq_iff_iff, blt_cons]
    constructor
    · rintro (h | ⟨_, h⟩)
      · exact absurd h (by simp [UInt8.lt_iff_toNat_lt])
      · exact h
    · exact fun h => .inr ⟨rfl, h⟩

theorem ahead_spec (a b : List UInt8) (ha : a.length ≤ 140737488351232) (hb : b.length ≤ 140737488351232) (h : Heap) : CallH Tryz.prog 126 [.string ⟨a.toArray⟩, .string ⟨b.toArray⟩] h (fun v h' => Keeps [] h h' ∧ v = .bool (blt a b)) := by
  refine call_of hmix Tryz.func126 rfl ok126 (by simp [Tryz.f126]) ?_
  conv => whnf
  refine LoopR.on [0, 1, 5] [] (fun i : Nat => [(0, .v (.string ⟨a.toArray⟩)), (1, .v (.string ⟨b.toArray⟩)), (5, .v (.int .i64 (i : Int)))]) (fun _ => []) (fun i h' => i ≤ a.length ∧ i ≤ b.length ∧ Keeps [] h h' ∧ a.take i = b.take i) (fun i => a.length - i) 0 ?_ ?_
  · exact ⟨0, rfl, rfl, rfl, Nat.zero_le _, Nat.zero_le _, Keeps.refl _ _, by simp⟩
  · rintro i h1 ⟨hia, hib, k1, he⟩
    have hpre := blt_pre i a b hia hib he
    conv => whnf
    refine IfR.i (fun hd => ?_) (fun hd => ?_)
    · have hi : i < a.length ∧ i < b.length := by rw [bs_size, bs_size, bif_and] at hd; simp at hd; omega
      have ga : a.drop i = a[i] :: a.drop (i + 1) := List.drop_eq_getElem_cons hi.1
      have gb : b.drop i = b[i] :: b.drop (i + 1) := List.drop_eq_getElem_cons hi.2
      conv => whnf
      refine IdxR.i i rfl (by rw [bs_size]; exact hi.1) ?_
      conv => whnf
      refine IdxR.i i rfl (by rw [bs_size]; exact hi.2) ?_
      conv => whnf
      rw [bs_get, bs_get, List.getElem?_eq_getElem hi.1, List.getElem?_eq_getElem hi.2, Option.getD_some, Option.getD_some]
      refine IfR.i (fun hn => ?_) (fun hn => ?_)
      · have hne : a[i].toNat ≠ b[i].toNat := by simp at hn; omega
        conv => whnf
        refine IdxR.i i rfl (by rw [bs_size]; exact hi.1) ?_
        conv => whnf
        refine IdxR.i i rfl (by rw [bs_size]; exact hi.2) ?_
        conv => whnf
        rw [bs_get, bs_get, List.getElem?_eq_getElem hi.1, List.getElem?_eq_getElem hi.2, Option.getD_some, Option.getD_some]
        refine ⟨k1, ?_⟩
        rw [hpre, ga, gb]
        congr 1
        rw [Bool.eq_iff_iff, blt_cons, UInt8.lt_iff_toNat_lt]
        constructor
        · intro h; exact .inl (by simp at h; omega)
        · rintro (h | ⟨h, _⟩)
          · simp; omega
          · exact absurd (by rw [h]) hne
      · have heq : a[i] = b[i] := UInt8.toNat_inj.1 (by simp at hn; omega)
        conv => whnf
        refine ⟨a.length - (i + 1), by omega, ?_⟩
        conv => whnf
        refine ⟨i + 1, rfl, by rw [wrapN (n := i + 1) (by simp) (by omega)], rfl, by omega, by omega, k1, ?_⟩
        rw [List.take_succ_eq_append_getElem hi.1, List.take_succ_eq_append_getElem hi.2, he, heq]
    · have hi : i = a.length ∨ i = b.length := by rw [bs_size, bs_size, bif_and] at hd; simp at hd; omega
      conv => whnf
      refine ⟨k1, ?_⟩
      rw [hpre, bs_size, bs_size]
      rcases hi with hi | hi
      · rw [show a.drop i = [] from List.drop_eq_nil_of_le (by omega)]
        cases hb2 : b.drop i with
        | nil =>
          have : b.length ≤ i := by
            have := congrArg List.length hb2
            simp at this; omega
          rw [blt_nil]
          congr 1
          exact decide_eq_false (by omega)
        | cons y r =>
          have : i < b.length := by
            have := congrArg List.length hb2
            simp at this; omega
          show _ = Value.bool true
          congr 1
          exact decide_eq_true (by omega)
      · rw [show b.drop i = [] from List.drop_eq_nil_of_le (by omega), blt_nil]
        congr 1
        exact decide_eq_false (by omega)

/-- how many names are ahead -/
def plK (l : List Ent) (name : List UInt8) : Nat := (l.takeWhile fun e => blt e.name name).length
def plT (l : List Ent) (name : List UInt8) : Bool := match l[plK l name]? with | some e => decide (e.name = name) | none => false

theorem plK_le (l : List Ent) (name : List UInt8) : plK l name ≤ l.length := (List.takeWhile_prefix _).length_le
theorem plK_lt {l : List Ent} {name : List UInt8} {i : Nat} (hi : i < plK l name) : ∃ hl : i < l.length, blt (l[i]).name name = true := by
  have hl := plK_le l name
  refine ⟨by omega, ?_⟩
  have hp := List.takeWhile_prefix (p := fun e : Ent => blt e.name name) (l := l)
  have : (l.takeWhile fun e => blt e.name name)[i]'hi = l[i]'(by omega) := hp.getElem hi
  rw [← this]
  exact List.all_eq_true.1 (List.all_takeWhile (p := fun e : Ent => blt e.name name) (l := l)) _ (List.getElem_mem _)
theorem plK_at {l : List Ent} {name : List UInt8} {i : Nat} (hi : i ≤ plK l name) (hl : i < l.length) (h : blt (l[i]).name name = false) : i = plK l name := by
  rcases Nat.lt_or_ge i (plK l name) with h1 | h1
  · obtain ⟨_, h2⟩ := plK_lt h1
    rw [h] at h2; cases h2
  · omega
theorem plK_more : ∀ {l : List Ent} {name : List UInt8} {i : Nat}, i ≤ plK l name → (hl : i < l.length) → blt (l[i]).name name = true → i + 1 ≤ plK l name
  | [], _, _, _, hl, _ => by simp at hl
  | x :: l, name, 0, _, _, h => by
    unfold plK
    have h' : blt x.name name = true := h
    rw [List.takeWhile_cons, if_pos h']; simp
  | x :: l, name, i + 1, hi, hl, h => by
    by_cases hx : blt x.name name = true
    · have e : plK (x :: l) name = plK l name + 1 := by unfold plK; rw [List.takeWhile_cons, if_pos hx]; rfl
      rw [e] at hi ⊢
      have := plK_more (l := l) (name := name) (i := i) (by omega) (by simpa using hl) (by simpa using h)
      omega
    · have e : plK (x :: l) name = 0 := by unfold plK; rw [List.takeWhile_cons, if_neg hx]; rfl
      omega

theorem place_spec {h : Heap} {a : Option Addr} {n c : Nat} {l : List Ent} (S : Sl h a n c l) (hn : n ≤ 1000000000) (name : List UInt8) (hnl : name.length ≤ 140737488351232) :
    CallH Tryz.prog 62 [.slice a n c, .string ⟨name.toArray⟩] h (fun v h' => Keeps [] h h' ∧ v = .tuple #[.int .i64 (plK l name : Int), .bool (plT l name)]) := by
  have hl := S.hlen
  refine call_of hmix Tryz.func62 rfl ok62 (by simp [Tryz.f62]) ?_
  conv => whnf
  refine LoopR.on [0, 1, 6] [] (fun i : Nat => [(0, .v (.slice a n c)), (1, .v (.string ⟨name.toArray⟩)), (6, .v (.int .i64 (i : Int)))]) (fun _ => []) (fun i h' => i ≤ plK l name ∧ Keeps [] h h') (fun i => l.length - i) 0 ?_ ?_
  · exact ⟨0, rfl, rfl, rfl, Nat.zero_le _, Keeps.refl _ _⟩
  · rintro i h1 ⟨hi, k1⟩
    have hple := plK_le l name
    have S1 := S.keep k1
    rcases Nat.lt_or_ge i l.length with hlt | hge
    · obtain ⟨b, off, hb, cs, ⟨hcs, hok⟩, hcell⟩ := S1.at_ i hlt
      subst hcs
      conv => whnf
      refine IdxS.i i rfl (by omega) hb ?_
      conv => whnf
      refine LoadR.i (v := .string ⟨l[i].name.toArray⟩) (hcell 0 (by simp [Ent.cells])) ?_
      conv => whnf
      refine IfR.t (by simp; omega) ?_
      conv => whnf
      refine CallR.i (ahead_spec l[i].name name hok.1 hnl h1) fun v h2 k2 hv => ?_
      subst hv
      conv => whnf
      refine IfR.i (fun hd => ?_) (fun hd => ?_)
      · have hd2 : blt l[i].name name = true := by rw [bif_and] at hd; simpa using (Bool.and_eq_true _ _ ▸ hd).2
        conv => whnf
        refine ⟨l.length - (i + 1), by omega, ?_⟩
        conv => whnf
        exact ⟨i + 1, rfl, by rw [wrapN (n := i + 1) (by simp) (by omega)], rfl, plK_more hi hlt hd2, k1.trans k2⟩
      · have hd2 : blt l[i].name name = false := by
          rw [bif_and] at hd
          have : decide ((i : Int) < (n : Int)) = true := by simp; omega
          rw [this] at hd
          simpa using hd
        have hik := plK_at hi hlt hd2
        obtain ⟨b', off', hb', cs, ⟨hcs, hok'⟩, hcell'⟩ := (S1.keep k2).at_ i hlt
        subst hcs
        conv => whnf
        refine IdxS.i i rfl (by omega) hb' ?_
        conv => whnf
        refine LoadR.i (v := .string ⟨l[i].name.toArray⟩) (hcell' 0 (by simp [Ent.cells])) ?_
        conv => whnf
        refine ⟨k1.trans k2, ?_⟩
        have hpt : plT l name = decide (l[i].name = name) := by
          unfold plT
          rw [← hik, List.getElem?_eq_getElem hlt]
        rw [hpt, bs_eq, ← hik]
        have : decide ((i : Int) < (n : Int)) = true := by simp; omega
        rw [this]; rfl
    · have hik : i = plK l name := by omega
      have hf : decide ((i : Int) < (n : Int)) = false := by simp; omega
      conv => whnf
      refine IdxS.u 0 0 0 (fun hx => by rw [hf] at hx; cases hx) ?_
      conv => whnf
      refine LoadR.u (.string ⟨#[]⟩) (fun hx => by rw [hf] at hx; cases hx) ?_
      conv => whnf
      refine IfR.f hf ?_
      conv => whnf
      refine IfR.f (by rw [hf]; rfl) ?_
      conv => whnf
      refine IdxS.u 0 0 0 (fun hx => by rw [hf] at hx; cases hx) ?_
      conv => whnf
      refine LoadR.u (.string ⟨#[]⟩) (fun hx => by rw [hf] at hx; cases hx) ?_
      conv => whnf
      refine ⟨k1, ?_⟩
      have hpt : plT l name = false := by
        unfold plT
        rw [← hik, List.getElem?_eq_none (by omega)]
      rw [hpt, ← hik, hf]; rfl
end Go.Proofs.YtkdmlieckkdmgaaGreatDoor
/-
  Layer 8: a view's changes.
-/
set_option linter.all false
set_option maxRecDepth 100000
set_option maxHeartbeats 1000000
namespace Go.Proofs.YtkdmlieckkdmgaaGreatDoor
open Go Go.Eng

/-- changes as cells -/
def chgC (l : List (Int × UInt64)) : List Value := l.flatMap fun p => [.int .i64 p.1, wv p.2]
theorem chgC_len (l : List (Int × UInt64)) : (chgC l).length = l.length * 2 := by
  induction l with
  | nil => rfl
  | cons x l ih => simp only [chgC, List.flatMap_cons, List.length_append, List.length_cons, List.length_nil] at ih ⊢; omega
theorem chgC_app (l m : List (Int × UInt64)) : chgC (l ++ m) = chgC l ++ chgC m := by simp [chgC]

/-- the words that are changed, by their places -/
def chgL (now old : Int → UInt64) : List (Int × UInt64) := ((List.range 2824).filter fun (i : Nat) => decide (now (i : Int) ≠ old (i : Int))).map fun (i : Nat) => ((i : Int), now (i : Int))

theorem openW_lt {a : Int} (h : openW a = true) : 0 ≤ a ∧ a < 2824 := by
  simp [openW] at h; omega

theorem lk_of_mem : ∀ {l : List (Int × UInt64)} {p : Int × UInt64}, (l.map (·.1)).Nodup → p ∈ l → lk l p.1 = some p.2
  | [], p, _, h => nomatch h
  | (k, v) :: l, p, hn, h => by
    simp only [List.map_cons, List.nodup_cons] at hn
    unfold lk
    rcases List.mem_cons.1 h with rfl | h
    · rw [if_pos rfl]
    · rw [if_neg (fun e => hn.1 (by rw [← e]; exact List.mem_map_of_mem h))]
      exact lk_of_mem hn.2 h
theorem mem_of_lk : ∀ {l : List (Int × UInt64)} {k : Int} {w : UInt64}, lk l k = some w → (k, w) ∈ l
  | [], k, w, h => by cases h
  | (k', v) :: l, k, w, h => by
    unfold lk at h
    split at h
    · rename_i e; subst e; cases h; exact List.mem_cons_self
    · exact List.mem_cons_of_mem _ (mem_of_lk h)

theorem nodup_of_map {α β : Type} (f : α → β) : ∀ {l : List α}, (l.map f).Nodup → l.Nodup
  | [], _ => List.nodup_nil
  | x :: l, h => by
    simp only [List.map_cons, List.nodup_cons] at h
    exact List.nodup_cons.2 ⟨fun hx => h.1 (List.mem_map_of_mem hx), nodup_of_map f h.2⟩

/-- keys that are open are few -/
theorem own_len {l : List (Int × UInt64)} (hn : (l.map (·.1)).Nodup) (ho : ∀ p ∈ l, openW p.1 = true) : l.length ≤ 2824 := by
  have h1 : (l.map (·.1)) ⊆ (List.range 2824).map fun (i : Nat) => (i : Int) := by
    intro x hx
    obtain ⟨p, hp, rfl⟩ := List.mem_map.1 hx
    have := openW_lt (ho p hp)
    exact List.mem_map.2 ⟨p.1.toNat, by simp; omega, by omega⟩
  have := hn.length_le_of_subset h1
  simpa using this

theorem chgL_sorted (now old : Int → UInt64) : (chgL now old).Pairwise (fun x y => x.1 < y.1) := by
  unfold chgL
  rw [List.pairwise_map]
  exact (List.pairwise_lt_range.filter _).imp fun h => by simpa using h

/-- what a view's words come to, sorted -/
theorem chgL_of {own l : List (Int × UInt64)} {now old : Int → UInt64} (hn : (own.map (·.1)).Nodup) (ho : ∀ a, lk own a ≠ none → openW a = true) (hx : ∀ a, now a = (lk own a).getD (old a))
    (hp : l.Perm (own.filter fun p => decide (p.2 ≠ old p.1))) (hs : l.Pairwise (fun x y => x.1 ≤ y.1)) : l = chgL now old := by
  have hmem : ∀ p, p ∈ l ↔ p ∈ chgL now old := by
    intro p
    rw [hp.mem_iff, List.mem_filter]
    unfold chgL
    simp only [List.mem_map, List.mem_filter, List.mem_range, decide_eq_true_eq]
    constructor
    · rintro ⟨h1, h2⟩
      have hl := lk_of_mem hn h1
      have hr := openW_lt (ho p.1 (by rw [hl]; simp))
      have hw := hx p.1
      rw [hl] at hw
      have e : ((p.1.toNat : Nat) : Int) = p.1 := by omega
      refine ⟨p.1.toNat, ⟨by omega, ?_⟩, ?_⟩
      · rw [e, hw]; exact h2
      · rw [e, hw]; rfl
    · rintro ⟨i, ⟨_, h1⟩, rfl⟩
      have hw := hx (i : Int)
      cases hl : lk own (i : Int) with
      | none => rw [hl] at hw; exact absurd hw h1
      | some w =>
        rw [hl] at hw
        have hw' : now (i : Int) = w := hw
        rw [hw'] at h1 ⊢
        exact ⟨mem_of_lk hl, h1⟩
  have hnl : l.Nodup := hp.symm.nodup (nodup_of_map (·.1) hn |>.sublist List.filter_sublist)
  have hnc : (chgL now old).Nodup := (chgL_sorted now old).imp fun h e => by rw [e] at h; omega
  refine List.Perm.eq_of_pairwise (le := fun x y => x.1 ≤ y.1) ?_ hs ((chgL_sorted now old).imp fun h => Int.le_of_lt h) ((List.perm_ext_iff_of_nodup hnl hnc).2 hmem)
  intro x y h1 h2 h3 h4
  have e : x.1 = y.1 := by omega
  have k1 : x ∈ own := (List.mem_filter.1 (hp.mem_iff.1 h1)).1
  have k2 : y ∈ own := (List.mem_filter.1 (hp.mem_iff.1 ((hmem y).2 h2))).1
  have l1 := lk_of_mem hn k1
  have l2 := lk_of_mem hn k2
  rw [e, l2] at l1
  exact Prod.ext e (Option.some.inj l1).symm

theorem mapW_split {m : List (Int × UInt64)} {R1 R2 : List (Int × Value)} {p : Int × Value} (h : mapW m = R1 ++ p :: R2) : ∃ m1 q m2, m = m1 ++ q :: m2 ∧ R1 = mapW m1 ∧ R2 = mapW m2 ∧ p = (q.1, wv q.2) := by
  unfold mapW at h
  obtain ⟨m1, m', rfl, h1, h2⟩ := List.map_eq_append_iff.1 h
  obtain ⟨q, m2, rfl, h3, h4⟩ := List.map_eq_cons_iff.1 h2
  exact ⟨m1, q, m2, rfl, h1.symm, h4.symm, h3.symm⟩

end Go.Proofs.YtkdmlieckkdmgaaGreatDoor
/-
  The library's sort of changes, laid at this program (made by wip/tools/laysrt.py).
-/
set_option linter.all false
namespace Go.Proofs.YtkdmlieckkdmgaaGreatDoor
open Go Go.Shelf
end Go.Proofs.YtkdmlieckkdmgaaGreatDoor
/-
  What the library's sort does to a view's changes.
-/
set_option linter.all false
set_option maxRecDepth 100000
set_option maxHeartbeats 2000000
namespace Go.Proofs.YtkdmlieckkdmgaaGreatDoor
open Go Go.Eng Go.Shelf Go.RowKit Go.Sort

/-- a change, its place known to be small -/
def encS (x : Fin 4096 × UInt64) : List Value := [.int .i64 (x.1.val : Int), wv x.2]
def cfS (x y : Fin 4096 × UInt64) : Int := (x.1.val : Int) - y.1.val

theorem swoS : SWO (ltOf cfS) where
  irrefl x := decide_eq_false (by unfold cfS; omega)
  trans x y z h1 h2 := by
    have a := of_decide_eq_true h1
    have b := of_decide_eq_true h2
    unfold cfS at a b
    exact decide_eq_true (by unfold cfS; omega)
  ntrans x y z h1 h2 := by
    have a := of_decide_eq_false h1
    have b := of_decide_eq_false h2
    unfold cfS at a b
    exact decide_eq_false (by unfold cfS; omega)

def unS (x : Fin 4096 × UInt64) : Int × UInt64 := ((x.1.val : Int), x.2)
def toS (p : Int × UInt64) : Fin 4096 × UInt64 := (⟨p.1.toNat % 4096, Nat.mod_lt _ (by decide)⟩, p.2)
theorem un_to {p : Int × UInt64} (h : 0 ≤ p.1 ∧ p.1 < 4096) : unS (toS p) = p := by
  unfold unS toS
  have : (((p.1.toNat % 4096 : Nat)) : Int) = p.1 := by omega
  exact Prod.ext this rfl

theorem chgC_get : ∀ (l : List (Fin 4096 × UInt64)) (j : Nat) (h : j < l.length * 2), (chgC (l.map unS))[j]? = (encS (l[j / 2]'(by omega)))[j % 2]?
  | [], j, h => by simp at h
  | x :: l, 0, h => rfl
  | x :: l, 1, h => rfl
  | x :: l, j + 2, h => by
    have h' : j < l.length * 2 := by simp at h; omega
    have ih := chgC_get l j h'
    have e1 : (j + 2) / 2 = j / 2 + 1 := by omega
    have e2 : (j + 2) % 2 = j % 2 := by omega
    simp only [e1, e2, List.getElem_cons_succ]
    rw [← ih]
    rfl

theorem flat_chg (d : Array (Fin 4096 × UInt64)) : flatK encS 2 d = ⟨chgC (d.toList.map unS)⟩ := by
  have hl := chgC_len (d.toList.map unS)
  simp at hl
  apply Array.ext
  · rw [size_flatK]
    show d.size * 2 = (chgC (d.toList.map unS)).length
    omega
  · intro j h1 h2
    have hj : j < d.size * 2 := by rw [size_flatK] at h1; exact h1
    have g := chgC_get d.toList j (by simpa using hj)
    have hd : j / 2 < d.size := by omega
    have hm : j % 2 < (encS d[j / 2]).length := by unfold encS; simp; omega
    have e1 := get_flatK encS 2 d j hj
    rw [getElem!_pos (flatK encS 2 d) j h1, getElem!_pos d (j / 2) hd, getElem!_pos (encS d[j / 2]) (j % 2) hm] at e1
    rw [e1]
    show _ = (chgC (d.toList.map unS))[j]
    have h3 : j < (chgC (d.toList.map unS)).length := by omega
    rw [List.getElem?_eq_getElem h3] at g
    have g2 : (encS (d.toList[j / 2]'(by simpa using hd)))[j % 2]? = some (encS d[j / 2])[j % 2] := by
      rw [Array.getElem_toList]
      exact List.getElem?_eq_getElem hm
    rw [g2] at g
    exact (Option.some.inj g).symm

end Go.Proofs.YtkdmlieckkdmgaaGreatDoor
/-
  Layer 10's law: what a step leaves is made in the memory, or undone.
-/
set_option linter.all false
set_option maxRecDepth 100000
set_option maxHeartbeats 1000000
namespace Go.Proofs.YtkdmlieckkdmgaaGreatDoor
open Go Go.Eng

theorem store_calm {M : MemS} (hu : M.until_ = -1) {i : Int} (hi : M.there i = true) (w : UInt64) : (M.store i w).2 = { M with calls := IntKind.i64.wrap (M.calls + 1), loose := putW M.loose i w } := by
  unfold MemS.store MemS.call
  rw [hi, hu]
  rfl

/-- words are stored one by one -/
def storeL (M : MemS) (l : List (Int × UInt64)) : MemS := l.foldl (fun M p => (M.store p.1 p.2).2) M

theorem storeL_calm (now : Int → UInt64) : ∀ (l : List (Int × UInt64)) (M : MemS), M.until_ = -1 → M.sure.length = 2824 → (∀ p ∈ l, (0 ≤ p.1 ∧ p.1 < 2824) ∧ p.2 = now p.1) →
    (storeL M l).until_ = -1 ∧ (storeL M l).sure.length = 2824 ∧ ∀ a, (storeL M l).read a = if a ∈ l.map (·.1) then now a else M.read a
  | [], M, hu, hs, _ => ⟨hu, hs, fun a => by simp [storeL]⟩
  | p :: l, M, hu, hs, h => by
    obtain ⟨hp, hw⟩ := h p List.mem_cons_self
    have ht : M.there p.1 = true := by unfold MemS.there; rw [hs]; simp; omega
    have e := store_calm hu ht p.2
    obtain ⟨i1, i2, i3⟩ := storeL_calm now l (M.store p.1 p.2).2 (by rw [e]; exact hu) (by rw [e]; exact hs) (fun q hq => h q (List.mem_cons_of_mem _ hq))
    refine ⟨i1, i2, fun a => ?_⟩
    show (storeL (M.store p.1 p.2).2 l).read a = _
    rw [i3 a]
    have hr : (M.store p.1 p.2).2.read a = if a = p.1 then p.2 else M.read a := by
      rw [e]
      have hth : ∀ x, MemS.there { M with calls := IntKind.i64.wrap (M.calls + 1), loose := putW M.loose p.1 p.2 } x = M.there x := fun _ => rfl
      unfold MemS.read
      rw [hth]
      simp only [lk_put]
      by_cases ha : a = p.1
      · subst ha; simp [ht]
      · simp [ha]
    by_cases h1 : a ∈ l.map (·.1)
    · rw [if_pos h1, if_pos (by simp only [List.map_cons, List.mem_cons]; exact .inr h1)]
    · rw [if_neg h1, hr]
      by_cases h2 : a = p.1
      · rw [if_pos h2, if_pos (by simp only [List.map_cons, List.mem_cons]; exact .inl h2), h2, hw]
      · rw [if_neg h2, if_neg (by simp only [List.map_cons, List.mem_cons]; rintro (x | x); exact h2 x; exact h1 x)]

theorem chgL_mem {now old : Int → UInt64} {p : Int × UInt64} (h : p ∈ chgL now old) : (0 ≤ p.1 ∧ p.1 < 2824) ∧ p.2 = now p.1 := by
  unfold chgL at h
  simp only [List.mem_map, List.mem_filter, List.mem_range] at h
  obtain ⟨i, ⟨h1, _⟩, rfl⟩ := h
  exact ⟨⟨by simp, by simp; omega⟩, rfl⟩
theorem chgL_keys {now old : Int → UInt64} {a : Int} : a ∈ (chgL now old).map (·.1) ↔ (0 ≤ a ∧ a < 2824) ∧ now a ≠ old a := by
  unfold chgL
  simp only [List.map_map, List.mem_map, List.mem_filter, List.mem_range, decide_eq_true_eq, Function.comp]
  constructor
  · rintro ⟨i, ⟨h1, h2⟩, rfl⟩; exact ⟨⟨by omega, by omega⟩, h2⟩
  · rintro ⟨⟨h0, h1⟩, h2⟩
    refine ⟨a.toNat, ⟨by omega, ?_⟩, by omega⟩
    rwa [show ((a.toNat : Nat) : Int) = a by omega]

/-- what a view changes, made in the memory -/
theorem storeL_now {h : Heap} {V : VL} {M : MemS} {X : VS} (A : At h V M X) (hu : M.until_ = -1) (hs : M.sure.length = 2824) :
    (storeL M (chgL X.now M.read)).until_ = -1 ∧ (storeL M (chgL X.now M.read)).sure.length = 2824 ∧ (storeL M (chgL X.now M.read)).read = X.now := by
  obtain ⟨i1, i2, i3⟩ := storeL_calm X.now (chgL X.now M.read) M hu hs fun p hp => chgL_mem hp
  refine ⟨i1, i2, funext fun a => ?_⟩
  rw [i3 a]
  by_cases h1 : a ∈ (chgL X.now M.read).map (·.1)
  · rw [if_pos h1]
  · rw [if_neg h1]
    obtain ⟨own, _, hx, ho⟩ := A.own
    cases hl : lk own a with
    | none => rw [hx a, hl]; rfl
    | some w =>
      have hr := openW_lt (ho a (by rw [hl]; simp))
      rw [chgL_keys] at h1
      exact (Classical.byContradiction fun h => h1 ⟨hr, fun e => h e.symm⟩)

theorem At.store {h h' : Heap} {V : VL} {M M' : MemS} {X : VS} (A : At h V M X) (hab : V.ab = none) (hanb : V.anb = none) (k : Keeps [V.mem.m, V.mem.lb] h h') (R : MemAt h' V.mem M') : ∃ now, At h' V M' { X with now := now } := by
  obtain ⟨own, O, hx, ho⟩ := A.own
  have nb : ∀ b ∈ [V.v, V.ob, V.sb, V.mb], b ∉ [V.mem.m, V.mem.lb] := by
    intro b hb hm
    refine A.ap2 b hb ?_
    simp only [ML.blocks]
    simp at hm ⊢
    rcases hm with h | h <;> simp [h]
  exact ⟨fun a => (lk own a).getD (M'.read a), {
    mem := R
    obj := k.obj A.obj (nb V.v (by simp))
    own := ⟨own, O.keep k (nb V.ob (by simp)), fun a => rfl, ho⟩
    seen := A.seen.keep k (nb V.sb (by simp))
    mine := A.mine.keep k (nb V.mb (by simp))
    away := A.away.keep k (by rw [hab]; simp)
    awayN := A.awayN.keep k (by rw [hanb]; simp)
    ap1 := A.ap1
    ap2 := A.ap2
    ap3 := A.ap3
    rng := A.rng }⟩

theorem reps_chg (h : Heap) : ∀ l : List (Int × UInt64), (∀ p ∈ l, inI64 p.1) → Reps h (chgC l) (l.map fun p => (⟨p.1, p.2⟩ : Chg))
  | [], _ => rfl
  | p :: l, hl => ⟨[.int .i64 p.1, wv p.2], chgC l, rfl, ⟨rfl, hl p List.mem_cons_self⟩, reps_chg h l fun q hq => hl q (List.mem_cons_of_mem _ hq)⟩

theorem storeL_take (M : MemS) (l : List (Int × UInt64)) (i : Nat) (hi : i < l.length) : storeL M (l.take (i + 1)) = ((storeL M (l.take i)).store l[i].1 l[i].2).2 := by
  unfold storeL
  rw [List.take_succ_eq_append_getElem hi, List.foldl_append]
  rfl

/-- a file of the law's -/
def fileC (V : VL) (node : Int) (c : Crd) (s : ByteArray) : List Value := [.pointer (some ⟨V.v, 0, none⟩), .pointer (some ⟨V.mem.m, 0, none⟩), .int .i64 node] ++ c.cells ++ [.string s]

end Go.Proofs.YtkdmlieckkdmgaaGreatDoor
/-
  Layer 10's law: a file's own blocks; whole; two files.
-/
set_option linter.all false
set_option maxRecDepth 100000
set_option maxHeartbeats 1000000
namespace Go.Proofs.YtkdmlieckkdmgaaGreatDoor
open Go Go.Eng

theorem has_spec {h : Heap} {a : Option Addr} {n c : Nat} {xs : List Int} (S : Sl h a n c xs) (hn : n ≤ 1000000) (x : Int) : CallH Tryz.prog 11 [.slice a n c, .int .i64 x] h (fun v h' => Keeps [] h h' ∧ v = .bool (decide (x ∈ xs))) := by
  have hl := S.hlen
  refine call_of hmix Tryz.func11 rfl ok11 (by simp [Tryz.f11]) ?_
  conv => whnf
  refine LoopR.on [0, 1, 5] [] (fun i : Nat => [(0, .v (.slice a n c)), (1, .v (.int .i64 x)), (5, .v (.int .i64 (i : Int)))]) (fun _ => []) (fun i h' => i ≤ n ∧ Keeps [] h h' ∧ x ∉ xs.take i) (fun i => n - i) 0 ?_ ?_
  · conv => whnf
    exact ⟨0, rfl, rfl, rfl, Nat.zero_le _, Keeps.refl _ _, by simp⟩
  · rintro i h2 ⟨hi, k2, ht⟩
    conv => whnf
    refine IfR.i (fun hd => ?_) (fun hd => ?_)
    · have hi1 : i < xs.length := by simp at hd; omega
      obtain ⟨b1, o1, hb1, _, hc1⟩ := (S.keep k2).at1 i hi1
      conv => whnf
      first | refine IdxS.i i rfl (by omega) hb1 ?_ | (refine MeetR.pass ?_; (conv => whnf); refine IdxS.i i rfl (by omega) hb1 ?_)
      conv => whnf
      refine LoadR.i hc1 ?_
      conv => whnf
      refine IfR.i (fun he => ?_) (fun he => ?_)
      · have hx : xs[i] = x := by simpa using he
        conv => whnf
        refine ⟨k2, ?_⟩
        have hm : x ∈ xs := hx ▸ List.getElem_mem hi1
        rw [decide_eq_true hm]
      · have hx : ¬ xs[i] = x := by simpa using he
        conv => whnf
        refine ⟨n - (i + 1), by omega, ?_⟩
        conv => whnf
        refine ⟨i + 1, rfl, by rw [wrapN (n := i + 1) (by simp) (by omega)], rfl, by omega, k2, ?_⟩
        rw [List.take_succ_eq_append_getElem hi1, List.mem_append]
        rintro (h | h)
        · exact ht h
        · exact hx (List.mem_singleton.1 h).symm
    · have hi1 : i = n := by simp at hd; omega
      conv => whnf
      refine ⟨k2, ?_⟩
      rw [List.take_of_length_le (by omega)] at ht
      rw [decide_eq_false ht]

/-- a view and its memory, between steps: the memory calm, the view as new -/
structure Idle (h : Heap) (V : VL) (M : MemS) : Prop where
  at_ : At h V M ⟨M.read, [], [], [], []⟩
  ab : V.ab = none
  anb : V.anb = none
  calm : M.until_ = -1
  size : M.sure.length = 2824

theorem Idle.on {h h' : Heap} {V : VL} {M : MemS} (I : Idle h V M) (k : Keeps [] h h') : Idle h' V M := ⟨I.at_.on k, I.ab, I.anb, I.calm, I.size⟩

end Go.Proofs.YtkdmlieckkdmgaaGreatDoor
/-
  Layer 11's laws: two empty directories on a new memory; the laws' own check that the program lives.
-/
set_option linter.all false
set_option maxRecDepth 100000
set_option maxHeartbeats 1000000
namespace Go.Proofs.YtkdmlieckkdmgaaGreatDoor
open Go Go.Eng

theorem img0_copy : spliceL 0 (([7021221306412823411, 2824, 0, 0, 0, 0, 0, 0] : List UInt64).map wv) (List.replicate 2824 (Value.int .u64 0)) = img0.map wv := by
  have : List.replicate 2824 (Value.int .u64 0) = List.replicate (([7021221306412823411, 2824, 0, 0, 0, 0, 0, 0] : List UInt64).map wv).length (Value.int .u64 0) ++ List.replicate 2816 (Value.int .u64 0) := by
    rw [List.replicate_append_replicate]; rfl
  rw [this, splice_head]
  have e : img0 = ([7021221306412823411, 2824, 0, 0, 0, 0, 0, 0] : List UInt64) ++ List.replicate 2816 0 := rfl
  rw [e, List.map_append, List.map_replicate]
  rfl

/-- a directory's words in memory -/
def bookC (V : VL) (node : Int) (c : Crd) (a : Option Addr) (n cc : Nat) : List Value := [.pointer (some ⟨V.v, 0, none⟩), .pointer (some ⟨V.mem.m, 0, none⟩), .int .i64 node] ++ c.cells ++ [.slice a n cc]
/-! ### The check -/

def lv1 : Crd × Int × VS := addP b0 ⟨b0, [], [], [], []⟩ 2 (freshC 2 1) [98] 5
def lv2 : Crd × Int × VS := addP b0 lv1.2.2 2 lv1.1 [97] 6
theorem lv_ok : lv1.2.1 = 0 ∧ lv2.2.1 = 0 ∧ (openP lv2.2.2.now lv2.1).1 = 0 ∧ (openP lv2.2.2.now lv2.1).2.2 = [⟨[97], 6⟩, ⟨[98], 5⟩] := by decide +kernel
theorem crd_ok_of {c : Crd} (h : (decide (-9223372036854775808 ≤ c.kind ∧ c.kind ≤ 9223372036854775807) && decide (-9223372036854775808 ≤ c.links ∧ c.links ≤ 9223372036854775807) && decide (-9223372036854775808 ≤ c.size ∧ c.size ≤ 9223372036854775807) && c.direct.all (fun x => decide (-9223372036854775808 ≤ x ∧ x ≤ 9223372036854775807)) && decide (-9223372036854775808 ≤ c.more ∧ c.more ≤ 9223372036854775807)) = true) : c.ok := by
  simp only [Bool.and_eq_true, decide_eq_true_eq, List.all_eq_true] at h
  exact ⟨h.1.1.1.1, h.1.1.1.2, h.1.1.2, fun x hx => h.1.2 x hx, h.2⟩
theorem lv1_crd : lv1.1.ok := crd_ok_of (by decide +kernel)
theorem lv2_crd : lv2.1.ok := crd_ok_of (by decide +kernel)

theorem dir_cells {V : VL} {node : Int} {c : Crd} {a : Option Addr} {n cc : Nat} : bookC V node c a n cc = [.pointer (some ⟨V.v, 0, none⟩), .pointer (some ⟨V.mem.m, 0, none⟩), .int .i64 node, .int .i64 c.kind, .int .i64 c.links, .int .i64 c.size, wv c.ver, .int .i64 c.d0, .int .i64 c.d1, .int .i64 c.d2, .int .i64 c.d3, .int .i64 c.d4, .int .i64 c.more, .slice a n cc] := rfl

end Go.Proofs.YtkdmlieckkdmgaaGreatDoor
/-
  Layer 11's law: whatever lies there, each call ends.
-/
set_option linter.all false
set_option maxRecDepth 100000
set_option maxHeartbeats 1000000
namespace Go.Proofs.YtkdmlieckkdmgaaGreatDoor
open Go Go.Eng

/-! ### What a list that is told has -/

def entGood (e : Ent) : Prop := 1 ≤ e.node ∧ e.node ≤ 23 ∧ nameB e.name = true

theorem slotE_good {ws : List UInt64} {place k : Nat} (h : slotOk ws place k = true) : ∀ e ∈ slotE ws k, entGood e ∧ bucketL e.name = place % 8 := by
  intro e he
  unfold slotE at he
  split at he
  · cases he
  · rename_i hx
    simp only [List.mem_cons, List.not_mem_nil, or_false] at he
    subst he
    unfold slotOk at h
    have hx2 : emptyB ws k = false := by simpa using hx
    rw [hx2, Bool.false_or] at h
    unfold entB at h
    simp only [Bool.and_eq_true, decide_eq_true_eq] at h
    obtain ⟨_, h1, h2, h3, h4⟩ := h
    refine ⟨⟨?_, ?_, h1⟩, h2⟩
    · simp only [entE, entV]
      rw [wrapI (by omega) (by omega)]; omega
    · simp only [entE, entV]
      rw [wrapI (by omega) (by omega)]; omega
theorem placeE_good {now : Int → UInt64} {m : List Int} {i : Nat} (h : placeOk now m i = true) : ∀ e ∈ placeE now m i, entGood e ∧ bucketL e.name = i % 8 := by
  intro e he
  unfold placeE at he
  split at he
  · cases he
  · rename_i hx
    unfold placeOk blkOkB at h
    rw [decide_eq_false hx, Bool.false_or] at h
    simp only [Bool.and_eq_true] at h
    obtain ⟨k, hk, hk2⟩ := List.mem_flatMap.1 he
    exact slotE_good (List.all_eq_true.1 h.2.2 k hk) e hk2

theorem openP_is {now : Int → UInt64} {c : Crd} (h : (openP now c).1 = 0) : ∃ m, mapOf now c = some m ∧ c.kind = 2 ∧ (List.range 21).all (placeOk now m) = true ∧ ((rawE now m).map (·.name)).Nodup ∧ ((rawE now m).length : Int) = c.size ∧ openP now c = (0, m, sortE (rawE now m)) := by
  have h0 := h
  unfold openP at h
  split at h
  · simp at h
  · rename_i hk
    split at h
    · simp at h
    · rename_i m hm
      split at h
      · rename_i hc
        refine ⟨m, hm, by omega, hc.1, hc.2.1, hc.2.2, ?_⟩
        unfold openP
        rw [if_neg hk, hm]
        simp only
        rw [if_pos hc]
      · simp at h
theorem openP_err {now : Int → UInt64} {c : Crd} (h : (openP now c).1 ≠ 0) : ((openP now c).1 = 6 ∧ c.kind ≠ 2) ∨ ((openP now c).1 = 15 ∧ c.kind = 2) := by
  unfold openP at h ⊢
  split
  · rename_i hk; exact .inl ⟨rfl, hk⟩
  · rename_i hk
    rw [if_neg hk] at h
    right
    refine ⟨?_, by omega⟩
    split
    · rfl
    · rename_i m hm
      rw [hm] at h
      simp only at h
      split
      · rename_i hc; rw [if_pos hc] at h; exact absurd rfl h
      · rfl

def strict (l : List Ent) : Prop := l.Pairwise fun x y => blt x.name y.name = true
theorem strict_of {l : List Ent} (hs : l.Pairwise (fun x y => leE x y = true)) (hn : (l.map (·.name)).Nodup) : strict l := by
  rw [List.nodup_iff_pairwise_ne, List.pairwise_map] at hn
  refine List.Pairwise.imp₂ (fun x y h1 h2 => ?_) hs hn
  unfold leE at h1
  rw [Bool.not_eq_true'] at h1
  rcases blt_tri x.name y.name with h | h | h
  · exact h
  · exact absurd h h2
  · rw [h] at h1; cases h1
theorem openP_good {now : Int → UInt64} {c : Crd} (h : (openP now c).1 = 0) : strict (openP now c).2.2 ∧ ∀ e ∈ (openP now c).2.2, entGood e := by
  obtain ⟨m, hm, hk, ha, hn, hl, e⟩ := openP_is h
  rw [e]
  simp only
  have hp := sortE_perm (rawE now m)
  refine ⟨strict_of (sortE_sorted _) ((hp.map _).nodup_iff.2 hn), fun x hx => ?_⟩
  have := hp.mem_iff.1 hx
  obtain ⟨i, hi, hxi⟩ := List.mem_flatMap.1 this
  exact (placeE_good (List.all_eq_true.1 ha i hi) x hxi).1

/-- in a list in order a name is found where it would stand -/
theorem find_place {name : List UInt8} : ∀ {l : List Ent}, strict l → (findR l name).2 = plT l name
  | [], _ => rfl
  | x :: l, hs => by
    obtain ⟨h1, h2⟩ := List.pairwise_cons.1 hs
    have ih := find_place (name := name) h2
    by_cases hx : blt x.name name = true
    · have e1 : plK (x :: l) name = plK l name + 1 := by unfold plK; rw [List.takeWhile_cons, if_pos hx]; rfl
      have e2 : plT (x :: l) name = plT l name := by unfold plT; rw [e1]; rfl
      have hne : ¬ x.name = name := by rintro rfl; rw [blt_irr] at hx; cases hx
      rw [e2, ← ih]
      unfold findR findE
      rw [List.find?_cons, decide_eq_false hne]
    · have e1 : plK (x :: l) name = 0 := by unfold plK; rw [List.takeWhile_cons, if_neg hx]; rfl
      have e2 : plT (x :: l) name = decide (x.name = name) := by unfold plT; rw [e1]; rfl
      rw [e2]
      unfold findR findE
      rw [List.find?_cons]
      by_cases hne : x.name = name
      · rw [decide_eq_true hne]
      · rw [decide_eq_false hne]
        have hgt : blt name x.name = true := by
          rcases blt_tri x.name name with g | g | g
          · exact absurd g hx
          · exact absurd g hne
          · exact g
        have : l.find? (fun e => decide (e.name = name)) = none := by
          rw [List.find?_eq_none]
          intro y hy
          have := blt_trans hgt (h1 y hy)
          simp only [decide_eq_true_eq]
          rintro rfl
          rw [blt_irr] at this; cases this
        simp only [this]

end Go.Proofs.YtkdmlieckkdmgaaGreatDoor
/-
  Layer 11's plain law: what an entry that is put, or struck, does to a block's entries.
-/
set_option linter.all false
set_option maxRecDepth 100000
set_option maxHeartbeats 1000000
namespace Go.Proofs.YtkdmlieckkdmgaaGreatDoor
open Go Go.Eng

/-! ### Bytes and words -/

theorem byteW_toNat (w : UInt64) (i : Nat) : (byteW w i).toNat = w.toNat / 2 ^ (8 * (i % 8)) % 256 := by
  unfold byteW
  simp [UInt8.toNat_ofNat]

theorem pack_bytes (w : UInt64) (j : Nat) : packN ((List.range 8).map fun i => byteW w (8 * j + i)) = w.toNat := by
  have hw := w.toNat_lt
  have h : ∀ i, i < 8 → (byteW w (8 * j + i)).toNat = w.toNat / 2 ^ (8 * i) % 256 := by
    intro i hi
    rw [byteW_toNat]
    congr 4
    omega
  have e : (List.range 8) = [0, 1, 2, 3, 4, 5, 6, 7] := rfl
  rw [e]
  simp only [List.map_cons, List.map_nil, packN]
  rw [h 0 (by decide), h 1 (by decide), h 2 (by decide), h 3 (by decide), h 4 (by decide), h 5 (by decide), h 6 (by decide), h 7 (by decide)]
  simp only [Nat.mul_zero, Nat.pow_zero, Nat.div_one, Nat.reduceMul, Nat.reducePow]
  omega

theorem untext_inj {ws vs : List UInt64} (hl : ws.length = vs.length) (h : untextL ws (8 * ws.length) = untextL vs (8 * ws.length)) : ws = vs := by
  apply List.ext_getElem hl
  intro j h1 h2
  have key : ∀ (us : List UInt64) (hj : j < us.length), ((untextL us (8 * us.length)).drop (8 * j)).take 8 = (List.range 8).map fun i => byteW us[j] (8 * j + i) := by
    intro us hj
    apply List.ext_getElem
    · simp [untextL]; omega
    · intro i i1 i2
      have hi : i < 8 := by simpa using i2
      simp only [untextL, List.getElem_take, List.getElem_drop, List.getElem_map, List.getElem_range]
      have : (8 * j + i) / 8 = j := by omega
      rw [this, List.getElem?_eq_getElem hj]; rfl
  have k1 := key ws h1
  have k2 := key vs h2
  rw [h, hl, k2] at k1
  apply UInt64.toNat_inj.1
  rw [← pack_bytes ws[j] j, ← pack_bytes vs[j] j, k1]

/-! ### A slot that is set -/

theorem wAt_set {ws new : List UInt64} {k i : Nat} (hl : ws.length = 16) (hk : k < 5) (hn : new.length = 3) : wAt (setSlot ws k new) i = if 3 * k ≤ i ∧ i < 3 * k + 3 then wAt new (i - 3 * k) else wAt ws i := by
  unfold wAt setSlot
  have h1 : (ws.take (3 * k)).length = 3 * k := by simp; omega
  by_cases ha : i < 3 * k
  · rw [if_neg (by omega), List.append_assoc, List.getElem?_append_left (by omega), List.getElem?_take, if_pos ha]
  · by_cases hb : i < 3 * k + 3
    · rw [if_pos ⟨by omega, hb⟩, List.append_assoc, List.getElem?_append_right (by omega), h1, List.getElem?_append_left (by omega)]
    · rw [if_neg (by omega), List.getElem?_append_right (by simp; omega)]
      have h2 : (ws.take (3 * k) ++ new).length = 3 * k + 3 := by simp; omega
      rw [h2, List.getElem?_drop]
      congr 2
      omega

theorem slot_same {ws vs : List UInt64} {k place : Nat} (h0 : wAt vs (3 * k) = wAt ws (3 * k)) (h1 : wAt vs (3 * k + 1) = wAt ws (3 * k + 1)) (h2 : wAt vs (3 * k + 2) = wAt ws (3 * k + 2)) : slotOk vs place k = slotOk ws place k ∧ slotE vs k = slotE ws k := by
  have e1 : emptyB vs k = emptyB ws k := by unfold emptyB; rw [h0, h1, h2]
  have e2 : entT vs k = entT ws k := by unfold entT; rw [h1, h2]
  have e3 : entE vs k = entE ws k := by unfold entE entN entV; rw [e2, h0]
  have e4 : entB vs k place = entB ws k place := by unfold entB entN; rw [e2, h0]
  constructor
  · unfold slotOk; rw [e1, e4]
  · unfold slotE; rw [e1, e3]

theorem set_other {ws new : List UInt64} {k j place : Nat} (hl : ws.length = 16) (hk : k < 5) (hn : new.length = 3) (hj : j ≠ k) : slotOk (setSlot ws k new) place j = slotOk ws place j ∧ slotE (setSlot ws k new) j = slotE ws j := by
  refine slot_same ?_ ?_ ?_ <;> rw [wAt_set hl hk hn, if_neg (by omega)]

/-- an entry's words -/
def entWs (e : Ent) : List UInt64 := w64 e.node :: textL e.name 2
theorem entWs_len (e : Ent) : (entWs e).length = 3 := by simp [entWs, textL_len]

theorem sign_nz {c : UInt8} (h : signB c = true) : c ≠ 0 := by
  rintro rfl
  revert h; decide
theorem takeW_zeros : ∀ (l : List UInt8) (n : Nat), l.all nz = true → (l ++ zeros n).takeWhile nz = l ∧ ((l ++ zeros n).dropWhile nz).all ez = true
  | [], n, _ => by
    cases n with
    | zero => exact ⟨rfl, rfl⟩
    | succ n =>
      constructor
      · simp [zeros, List.replicate_succ, nz]
      · simp [zeros, List.replicate_succ, nz, ez]
  | c :: l, n, h => by
    simp only [List.all_cons, Bool.and_eq_true] at h
    obtain ⟨h1, h2⟩ := takeW_zeros l n h.2
    rw [List.cons_append, List.takeWhile_cons, if_pos h.1, List.dropWhile_cons, if_pos h.1, h1]
    exact ⟨rfl, h2⟩
theorem all_drop {p : UInt8 → Bool} {l : List UInt8} {n : Nat} (h : l.all p = true) : (l.drop n).all p = true := by
  rw [List.all_eq_true] at h ⊢
  exact fun x hx => h x (List.mem_of_mem_drop hx)

theorem entWs_text {e : Ent} (hn : nameB e.name = true) : untextL [wordT e.name 0, wordT e.name 1] 16 = e.name ++ zeros (16 - e.name.length) := by
  have hlen : e.name.length ≤ 14 := by
    unfold nameB at hn
    simp only [Bool.and_eq_true, decide_eq_true_eq] at hn
    exact hn.2.1.1.2
  apply List.ext_getElem
  · simp [untextL, zeros]; omega
  · intro i h1 h2
    have hi : i < 16 := by simpa [untextL] using h1
    simp only [untextL, List.getElem_map, List.getElem_range]
    have hw : ([wordT e.name 0, wordT e.name 1] : List UInt64)[i / 8]?.getD 0 = wordT e.name (i / 8) := by
      have : i / 8 = 0 ∨ i / 8 = 1 := by omega
      rcases this with h | h <;> rw [h] <;> rfl
    rw [hw, byte_word]
    rcases Nat.lt_or_ge i e.name.length with h | h
    · rw [List.getElem_append_left h, List.getElem?_eq_getElem h]; rfl
    · rw [List.getElem_append_right h, List.getElem?_eq_none h]
      simp [zeros]

/-- an entry that is put stands there -/
theorem set_here {ws : List UInt64} {k place : Nat} {e : Ent} (hl : ws.length = 16) (hk : k < 5) (hn : nameB e.name = true) (h1 : 1 ≤ e.node) (h2 : e.node < 24) (hb : bucketL e.name = place % 8) : slotOk (setSlot ws k (entWs e)) place k = true ∧ slotE (setSlot ws k (entWs e)) k = [e] := by
  have hlen := entWs_len e
  have w0 : wAt (setSlot ws k (entWs e)) (3 * k) = w64 e.node := by rw [wAt_set hl hk hlen, if_pos ⟨by omega, by omega⟩, Nat.sub_self]; rfl
  have w1 : wAt (setSlot ws k (entWs e)) (3 * k + 1) = wordT e.name 0 := by rw [wAt_set hl hk hlen, if_pos ⟨by omega, by omega⟩, show 3 * k + 1 - 3 * k = 1 by omega]; rfl
  have w2 : wAt (setSlot ws k (entWs e)) (3 * k + 2) = wordT e.name 1 := by rw [wAt_set hl hk hlen, if_pos ⟨by omega, by omega⟩, show 3 * k + 2 - 3 * k = 2 by omega]; rfl
  have hw : ((w64 e.node).toNat : Int) = e.node := by rw [w64_toNat]; omega
  have hall : e.name.all nz = true := by
    unfold nameB at hn
    simp only [Bool.and_eq_true] at hn
    rw [List.all_eq_true] at hn ⊢
    intro c hc
    have := sign_nz (hn.1 c hc)
    simpa [nz] using this
  have hT : entT (setSlot ws k (entWs e)) k = e.name ++ zeros (16 - e.name.length) := by
    unfold entT
    rw [w1, w2, entWs_text hn]
  obtain ⟨t1, t2⟩ := takeW_zeros e.name (16 - e.name.length) hall
  have hN : entN (setSlot ws k (entWs e)) k = e.name := by unfold entN cutA; rw [hT, t1]
  have hV : entV (setSlot ws k (entWs e)) k = e.node := by unfold entV; rw [w0, hw, wrapI (by omega) (by omega)]
  have hE : emptyB (setSlot ws k (entWs e)) k = false := by
    unfold emptyB
    rw [w0, decide_eq_false (fun h => by rw [h] at hw; simp at hw; omega)]
    rfl
  have hB : entB (setSlot ws k (entWs e)) k place = true := by
    unfold entB
    rw [hN, w0, hn, hT]
    unfold cutB
    rw [all_drop t2, hb]
    have g1 : 1 ≤ (w64 e.node).toNat := by omega
    have g2 : (w64 e.node).toNat < 24 := by omega
    simp [g1, g2]
  constructor
  · unfold slotOk; rw [hB, Bool.or_true]
  · unfold slotE
    rw [hE]
    simp only [Bool.false_eq_true, if_false]
    unfold entE
    rw [hN, hV]

/-- an entry that is struck is none -/
theorem set_none {ws : List UInt64} {k place : Nat} (hl : ws.length = 16) (hk : k < 5) : slotOk (setSlot ws k [0, 0, 0]) place k = true ∧ slotE (setSlot ws k [0, 0, 0]) k = [] := by
  have hE : emptyB (setSlot ws k [0, 0, 0]) k = true := by
    unfold emptyB
    rw [wAt_set hl hk rfl, wAt_set hl hk rfl, wAt_set hl hk rfl, if_pos ⟨by omega, by omega⟩, if_pos ⟨by omega, by omega⟩, if_pos ⟨by omega, by omega⟩, Nat.sub_self, show 3 * k + 1 - 3 * k = 1 by omega, show 3 * k + 2 - 3 * k = 2 by omega]
    rfl
  constructor
  · unfold slotOk; rw [hE]; rfl
  · unfold slotE; rw [if_pos hE]

/-! ### Blocks -/

/-- a block's entries, by its words -/
def wsOk (ws : List UInt64) (place : Nat) : Bool := decide (wAt ws 15 = 0) && (List.range 5).all (slotOk ws place)
def wsE (ws : List UInt64) : List Ent := (List.range 5).flatMap (slotE ws)

theorem flat_one {α β : Type} {f g : α → List β} {a : α} : ∀ {l : List α}, l.Nodup → a ∈ l → (∀ x ∈ l, x ≠ a → f x = g x) → (l.flatMap f ++ g a).Perm (l.flatMap g ++ f a)
  | [], _, h, _ => by cases h
  | x :: l, hn, ha, he => by
    obtain ⟨h1, h2⟩ := List.nodup_cons.1 hn
    rw [List.flatMap_cons, List.flatMap_cons]
    by_cases e : x = a
    · subst e
      have hfg : l.flatMap f = l.flatMap g := by
        have : ∀ y ∈ l, f y = g y := fun y hy => he y (by simp [hy]) (fun h => h1 (h ▸ hy))
        clear ha he hn h1 h2
        induction l with
        | nil => rfl
        | cons z l ih =>
          rw [List.flatMap_cons, List.flatMap_cons, this z (by simp), ih (fun y hy => this y (by simp [hy]))]
      rw [hfg]
      have p1 : (f x ++ l.flatMap g ++ g x).Perm (g x ++ (f x ++ l.flatMap g)) := List.perm_append_comm
      refine p1.trans ?_
      rw [List.append_assoc]
      exact List.Perm.append_left _ List.perm_append_comm
    · have ha2 : a ∈ l := by
        rcases List.mem_cons.1 ha with h | h
        · exact absurd h.symm e
        · exact h
      have ih := flat_one h2 ha2 (fun y hy hne => he y (by simp [hy]) hne)
      rw [he x (by simp) e, List.append_assoc, List.append_assoc]
      exact List.Perm.append_left _ ih

theorem ws_put {ws : List UInt64} {k place : Nat} {e : Ent} (hl : ws.length = 16) (hk : k < 5) (hn : nameB e.name = true) (h1 : 1 ≤ e.node) (h2 : e.node < 24) (hb : bucketL e.name = place % 8) (ho : wsOk ws place = true) (he : emptyB ws k = true) : wsOk (setSlot ws k (entWs e)) place = true ∧ (wsE (setSlot ws k (entWs e))).Perm (e :: wsE ws) := by
  obtain ⟨g1, g2⟩ := set_here (place := place) hl hk hn h1 h2 hb
  have hlen := entWs_len e
  unfold wsOk at ho ⊢
  simp only [Bool.and_eq_true] at ho
  constructor
  · rw [wAt_set hl hk hlen, if_neg (by omega), ho.1, Bool.true_and, List.all_eq_true]
    intro j hj
    by_cases e : j = k
    · subst e; exact g1
    · rw [(set_other hl hk hlen e).1]; exact List.all_eq_true.1 ho.2 j hj
  · have hse : slotE ws k = [] := by unfold slotE; rw [if_pos he]
    have p := flat_one (f := slotE (setSlot ws k (entWs e))) (g := slotE ws) (a := k) (l := List.range 5) List.nodup_range (by simpa using hk) (fun j _ hne => (set_other (place := place) hl hk hlen hne).2)
    rw [hse, g2, List.append_nil] at p
    exact p.trans (List.perm_append_comm (l₂ := [e]))

theorem ws_strike {ws : List UInt64} {k place : Nat} (hl : ws.length = 16) (hk : k < 5) (ho : wsOk ws place = true) (he : emptyB ws k = false) : wsOk (setSlot ws k [0, 0, 0]) place = true ∧ (entE ws k :: wsE (setSlot ws k [0, 0, 0])).Perm (wsE ws) := by
  obtain ⟨g1, g2⟩ := set_none (place := place) hl hk
  unfold wsOk at ho ⊢
  simp only [Bool.and_eq_true] at ho
  constructor
  · rw [wAt_set hl hk rfl, if_neg (by omega), ho.1, Bool.true_and, List.all_eq_true]
    intro j hj
    by_cases e : j = k
    · subst e; exact g1
    · rw [(set_other hl hk rfl e).1]; exact List.all_eq_true.1 ho.2 j hj
  · have hse : slotE ws k = [entE ws k] := by unfold slotE; rw [if_neg (by rw [he]; decide)]
    have p := flat_one (f := slotE (setSlot ws k [0, 0, 0])) (g := slotE ws) (a := k) (l := List.range 5) List.nodup_range (by simpa using hk) (fun j _ hne => (set_other (place := place) hl hk rfl hne).2)
    rw [hse, g2, List.append_nil] at p
    exact (List.perm_append_comm (l₁ := [entE ws k])).trans p

/-- words of noughts have no entries -/
theorem ws_zero (place : Nat) : wsOk (List.replicate 16 0) place = true ∧ wsE (List.replicate 16 0) = [] := by
  have h : ∀ k, k < 5 → emptyB (List.replicate 16 0) k = true := by decide
  constructor
  · unfold wsOk
    rw [show wAt (List.replicate 16 0) 15 = 0 from rfl, decide_eq_true rfl, Bool.true_and, List.all_eq_true]
    intro k hk
    unfold slotOk
    rw [h k (by simpa using hk)]; rfl
  · unfold wsE
    rw [List.flatMap_eq_nil_iff]
    intro k hk
    unfold slotE
    rw [if_pos (h k (by simpa using hk))]
end Go.Proofs.YtkdmlieckkdmgaaGreatDoor
/-
  Layer 11's plain law: a directory's names, and its map; a name more.
-/
set_option linter.all false
set_option maxRecDepth 100000
set_option maxHeartbeats 1000000
namespace Go.Proofs.YtkdmlieckkdmgaaGreatDoor
open Go Go.Eng

/-- a directory: its map, its blocks' entries, its names in order -/
structure DirI (now : Int → UInt64) (node : Int) (c : Crd) (m : List Int) (l : List Ent) : Prop where
  map : mapOf now c = some m
  wk : Wk now node c.more m
  kind : c.kind = 2 ∧ c.links = 1
  size : c.size = (l.length : Int)
  ok : ∀ i, i < 21 → plc m i ≠ -1 → wsOk (blkW now (plc m i)) i = true
  ents : (rawE now m).Perm l
  str : strict l
  mor : c.more = -1 ↔ (m.drop 5).any usedB = false

theorem Wk.rngP {now : Int → UInt64} {node more : Int} {m : List Int} (W : Wk now node more m) : mapRng m := ⟨W.len, fun x hx => W.rng x (List.mem_cons_of_mem _ hx)⟩

theorem strict_nodup {l : List Ent} (h : strict l) : (l.map (·.name)).Nodup := by
  rw [List.nodup_iff_pairwise_ne, List.pairwise_map]
  refine h.imp fun {x y} hxy e => ?_
  rw [e, blt_irr] at hxy; cases hxy
theorem strict_le {l : List Ent} (h : strict l) : l.Pairwise (fun x y => leE x y = true) := h.imp fun {x y} hxy => by unfold leE; rw [blt_asym hxy]; rfl

theorem placeOk_of {now : Int → UInt64} {m : List Int} (R : mapRng m) {i : Nat} (h : plc m i ≠ -1 → wsOk (blkW now (plc m i)) i = true) : placeOk now m i = true := by
  unfold placeOk
  by_cases e : plc m i = -1
  · rw [decide_eq_true e]; rfl
  · rw [decide_eq_false e, Bool.false_or]
    unfold blkOkB
    rw [decide_eq_true ((R.plc i).resolve_left e), Bool.true_and]
    exact h e

theorem DirI.all {now : Int → UInt64} {node : Int} {c : Crd} {m : List Int} {l : List Ent} (D : DirI now node c m l) : (List.range 21).all (placeOk now m) = true :=
  List.all_eq_true.2 fun i hi => placeOk_of D.wk.rngP (D.ok i (by simpa using hi))
theorem DirI.open_ {now : Int → UInt64} {node : Int} {c : Crd} {m : List Int} {l : List Ent} (D : DirI now node c m l) : openP now c = (0, m, l) := by
  unfold openP
  rw [if_neg (by rw [D.kind.1]; simp), D.map]
  simp only
  have hnd : ((rawE now m).map (·.name)).Nodup := (D.ents.map _).nodup_iff.2 (strict_nodup D.str)
  rw [if_pos ⟨D.all, hnd, by rw [D.ents.length_eq, D.size]⟩]
  congr 2
  exact sorted_unique ((sortE_perm _).trans D.ents) (((sortE_perm _).map _).nodup_iff.2 hnd) (sortE_sorted _) (strict_le D.str)
theorem DirI.few {now : Int → UInt64} {node : Int} {c : Crd} {m : List Int} {l : List Ent} (D : DirI now node c m l) : l.length ≤ 105 := by
  rw [← D.ents.length_eq]; exact rawE_len _ _
theorem DirI.good {now : Int → UInt64} {node : Int} {c : Crd} {m : List Int} {l : List Ent} (D : DirI now node c m l) : ∀ e ∈ l, entGood e := by
  have h : (openP now c).1 = 0 := by rw [D.open_]
  have := (openP_good h).2
  rwa [D.open_] at this
theorem DirI.okE {now : Int → UInt64} {node : Int} {c : Crd} {m : List Int} {l : List Ent} (D : DirI now node c m l) : ∀ e ∈ l, e.ok := fun e he => rawE_ok e (D.ents.mem_iff.2 he)
theorem DirI.right {now : Int → UInt64} {node : Int} {c : Crd} {m : List Int} {l : List Ent} (D : DirI now node c m l) : rightC c = true ∧ c.ok := by
  have hd := mapOf_direct D.map
  have hs := D.few
  have hz := D.size
  have hm := D.wk.rng c.more List.mem_cons_self
  have hk := D.kind
  have hr : ∀ x ∈ c.direct, -1 ≤ x ∧ x < 96 := by
    intro x hx
    have := D.wk.rng x (List.mem_cons_of_mem _ (hd x hx))
    unfold blkOk at this; omega
  unfold blkOk at hm
  constructor
  · unfold rightC
    rw [hk.1, hk.2]
    have h1 : c.direct.all blockC = true := by
      rw [List.all_eq_true]
      intro x hx
      have := hr x hx
      unfold blockC
      simp; omega
    rw [h1]
    unfold blockC
    simp; omega
  · refine ⟨by rw [hk.1]; exact ⟨by decide, by decide⟩, by rw [hk.2]; exact ⟨by decide, by decide⟩, ?_, fun x hx => ?_, ?_⟩
    · unfold inI64; omega
    · have := hr x hx; unfold inI64; omega
    · unfold inI64; omega

/-! ### Words that are kept -/

theorem fb_blk {f g : Int → UInt64} {m : List Int} (h : ∀ p, p < 2688 → fb g m p = fb f m p) {i : Nat} (hi : i < 21) (hu : plc m i ≠ -1) : blkW g (plc m i) = blkW f (plc m i) := by
  have hb : ∀ now : Int → UInt64, bytesB now (plc m i) = untextL (blkW now (plc m i)) 128 := by
    intro now
    unfold bytesB
    rw [if_neg hu]; rfl
  have hq : bytesB g (plc m i) = bytesB f (plc m i) := by
    apply List.ext_getElem?
    intro q
    rcases Nat.lt_or_ge q 128 with hq | hq
    · have := h (128 * i + q) (by omega)
      unfold fb at this
      have e1 : (128 * i + q) / 128 = i := by omega
      have e2 : (128 * i + q) % 128 = q := by omega
      rw [e1, e2] at this
      have l1 := bytesB_len g (plc m i)
      have l2 := bytesB_len f (plc m i)
      have hp : m[i]?.getD (-1) = plc m i := rfl
      rw [hp] at this
      rw [List.getElem?_eq_getElem (by omega), List.getElem?_eq_getElem (by omega)] at this ⊢
      simpa using this
    · rw [List.getElem?_eq_none (by rw [bytesB_len]; exact hq), List.getElem?_eq_none (by rw [bytesB_len]; exact hq)]
  rw [hb, hb] at hq
  refine untext_inj (by rw [blkW_len, blkW_len]) ?_
  rw [blkW_len]; exact hq

theorem Wk.putW {now : Int → UInt64} {node more : Int} {m : List Int} (W : Wk now node more m) {i : Nat} (hi : i < 21) (hu : plc m i ≠ -1) {ws : List UInt64} (hw : ws.length = 16) :
    Wk (putBlk now (plc m i) ws) node more m ∧ Fr node now (putBlk now (plc m i) ws) ∧ blkW (putBlk now (plc m i) ws) (plc m i) = ws ∧ (∀ j, j < 21 → j ≠ i → plc m j ≠ -1 → blkW (putBlk now (plc m i) ws) (plc m j) = blkW now (plc m j)) := by
  have hl := W.len
  have hm : plc m i ∈ m := by
    unfold plc
    rw [List.getElem?_eq_getElem (by omega)]
    exact List.getElem_mem _
  have hk : 0 ≤ plc m i ∧ plc m i < 96 := (W.rngP.plc i).resolve_left hu
  have ho : ∀ k, 0 ≤ k → k < 96 → putBlk now (plc m i) ws (200 + k) = now (200 + k) := fun k _ h => put_owner (by omega) hk.1 h
  have hown : now (200 + plc m i) = w64 (node + 1) := (W.own _ hk.1 hk.2).1 (usedL_mem.2 ⟨.inr hm, hu⟩)
  refine ⟨⟨W.len, W.rng, W.nod, fun k h0 h1 => by rw [ho k h0 h1]; exact W.own k h0 h1⟩, ⟨fun k h0 h1 hf => ⟨.inl (ho k h0 h1), fun _ => ?_⟩, fun k h0 h1 hf => .inl (by rw [ho k h0 h1]; exact hf), fun _ ha => put_low hk.1 ha⟩, ?_, fun j hj hne hju => ?_⟩
  · refine put_rd_ne (by omega) ?_
    rintro rfl
    exact hf hown
  · unfold blkW
    rw [put_rd (by omega)]
    unfold fullB
    rw [hw]; simp
  · unfold blkW
    refine put_rd_ne (by omega) fun e => hne ?_
    exact W.inj hj hi e.symm hju

/-! ### Raw entries -/

theorem rawE_one {f g : Int → UInt64} {m m' : List Int} {i : Nat} (hi : i < 21) (h : ∀ j, j < 21 → j ≠ i → placeE f m j = placeE g m' j) : (rawE f m ++ placeE g m' i).Perm (rawE g m' ++ placeE f m i) :=
  flat_one List.nodup_range (by simpa using hi) fun j hj hne => h j (by simpa using hj) hne
theorem placeE_ws {now : Int → UInt64} {m : List Int} {i : Nat} (h : plc m i ≠ -1) : placeE now m i = wsE (blkW now (plc m i)) := by
  unfold placeE
  rw [if_neg h]; rfl
theorem placeE_hole {now : Int → UInt64} {m : List Int} {i : Nat} (h : plc m i = -1) : placeE now m i = [] := by
  unfold placeE
  rw [if_pos h]
theorem rawE_same {f g : Int → UInt64} {m : List Int} (h : ∀ i, i < 21 → plc m i ≠ -1 → blkW f (plc m i) = blkW g (plc m i)) : rawE f m = rawE g m := by
  unfold rawE
  have : ∀ i ∈ List.range 21, placeE f m i = placeE g m i := by
    intro i hi
    by_cases e : plc m i = -1
    · rw [placeE_hole e, placeE_hole e]
    · rw [placeE_ws e, placeE_ws e, h i (by simpa using hi) e]
  revert this
  generalize List.range 21 = L
  intro this
  induction L with
  | nil => rfl
  | cons x L ih => rw [List.flatMap_cons, List.flatMap_cons, this x (by simp), ih (fun i hi => this i (by simp [hi]))]

/-! ### The document's list -/

def insL (l : List Ent) (e : Ent) : List Ent := l.take (plK l e.name) ++ e :: l.drop (plK l e.name)
theorem insL_perm (l : List Ent) (e : Ent) : (insL l e).Perm (e :: l) := by
  unfold insL
  refine List.perm_middle.trans ?_
  rw [List.take_append_drop]
theorem plT_false {l : List Ent} {name : List UInt8} (hs : strict l) : plT l name = false → ∀ e ∈ l.drop (plK l name), blt name e.name = true := by
  intro ht e he
  obtain ⟨j, hj, rfl⟩ := List.mem_iff_getElem.1 he
  rw [List.getElem_drop]
  have hl : plK l name + j < l.length := by simp at hj; omega
  have h0 : plK l name < l.length := by omega
  have hx : blt (l[plK l name]).name name = false := by
    rw [← Bool.not_eq_true]
    intro h
    have := plK_more (Nat.le_refl _) h0 h
    omega
  have hne : (l[plK l name]).name ≠ name := by
    unfold plT at ht
    rw [List.getElem?_eq_getElem h0] at ht
    simpa using ht
  have hgt : blt name (l[plK l name]).name = true := by
    rcases blt_tri (l[plK l name]).name name with g | g | g
    · rw [g] at hx; cases hx
    · exact absurd g hne
    · exact g
  rcases Nat.eq_zero_or_pos j with rfl | hj0
  · exact hgt
  · exact blt_trans hgt (List.pairwise_iff_getElem.1 hs (plK l name) (plK l name + j) h0 hl (by omega))
theorem insL_strict {l : List Ent} {e : Ent} (hs : strict l) (ht : plT l e.name = false) : strict (insL l e) := by
  unfold insL strict
  rw [List.pairwise_append]
  have hsplit : l.take (plK l e.name) ++ l.drop (plK l e.name) = l := List.take_append_drop _ _
  have hs2 : strict (l.take (plK l e.name) ++ l.drop (plK l e.name)) := by rw [hsplit]; exact hs
  unfold strict at hs2
  rw [List.pairwise_append] at hs2
  have hafter := plT_false hs ht
  have hbefore : ∀ x ∈ l.take (plK l e.name), blt x.name e.name = true := by
    intro x hx
    obtain ⟨j, hj, rfl⟩ := List.mem_iff_getElem.1 hx
    rw [List.getElem_take]
    exact (plK_lt (by simp at hj; omega)).2
  refine ⟨hs2.1, List.pairwise_cons.2 ⟨hafter, hs2.2.1⟩, fun x hx y hy => ?_⟩
  rcases List.mem_cons.1 hy with rfl | hy
  · exact hbefore x hx
  · exact hs2.2.2 x hx y hy
end Go.Proofs.YtkdmlieckkdmgaaGreatDoor
