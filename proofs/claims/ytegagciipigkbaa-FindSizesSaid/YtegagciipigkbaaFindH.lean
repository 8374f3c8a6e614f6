/-
  Find: files that have several paths; the tree that is tried.
-/
import Derived.Test.YtegagciipigkbaaFindG
set_option linter.all false
namespace Go.Proofs.Ytegagciipigkbaa
open Go Go.Eng

/-- paths by their numbers, in the order in which they came -/
def addG : List (Int × List ByteArray) → Int → ByteArray → List (Int × List ByteArray)
  | [], k, p => [(k, [p])]
  | (k', l) :: g, k, p => if k = k' then (k', l ++ [p]) :: g else (k', l) :: addG g k p

def groupP (s : List Spot) : List (Int × List ByteArray) := s.foldl (fun g x => addG g x.node.id x.path) []

def lookG' : List (Int × List ByteArray) → Int → List ByteArray
  | [], _ => []
  | (k', l) :: g, k => if k = k' then l else lookG' g k

/-- those that have several -/
def severalP (g : List (Int × List ByteArray)) (ids : List Int) : List (List ByteArray) := (ids.filter fun k => decide (1 < (lookG' g k).length)).map (lookG' g)
def twiceP (s : List Spot) : List (List ByteArray) := severalP (groupP s) ((groupP s).map (·.1))

/-- the groups, as they lie in a map; their blocks -/
def GM (h : Heap) : List (Int × Value) → List (Int × List ByteArray) → List Nat → Prop
  | [], [], B => B = []
  | (k, v) :: m, (k', l) :: g, B => k = k' ∧ ∃ a len cap cs B', v = .slice a len cap ∧ (Own h 9 1 a len cap cs ∧ Reps h cs l ∧ l ≠ []) ∧ B = blkA a ++ B' ∧ GM h m g B'
  | _, _, _ => False

theorem GM.keep {M : List Nat} {h h' : Heap} (k : Keeps M h h') : ∀ {m : List (Int × Value)} {g : List (Int × List ByteArray)} {B : List Nat}, GM h m g B → (∀ b ∈ B, b ∉ M) → GM h' m g B
  | [], [], B, h1, _ => h1
  | [], _ :: _, B, h1, _ => h1.elim
  | _ :: _, [], B, h1, _ => by simp [GM] at h1
  | (k1, v) :: m, (k2, l) :: g, B, h1, hB => by
    obtain ⟨rfl, a, len, cap, cs, B', rfl, ⟨o, r, n⟩, rfl, t⟩ := h1
    exact ⟨rfl, a, len, cap, cs, B', rfl, ⟨o.keep k (fun b hb => hB b (by simp [hb])), r.flat, n⟩, rfl, GM.keep k t (fun b hb => hB b (by simp [hb]))⟩

theorem GM.lt {h : Heap} : ∀ {m : List (Int × Value)} {g : List (Int × List ByteArray)} {B : List Nat}, GM h m g B → ∀ b ∈ B, b < h.size
  | [], [], B, h1, b, hb => by simp only [GM] at h1; subst h1; cases hb
  | [], _ :: _, B, h1, b, hb => h1.elim
  | _ :: _, [], B, h1, b, hb => by simp [GM] at h1
  | (k1, v) :: m, (k2, l) :: g, B, h1, b, hb => by
    obtain ⟨rfl, a, len, cap, cs, B', rfl, ⟨o, r, n⟩, rfl, t⟩ := h1
    rcases List.mem_append.1 hb with h | h
    · exact Own.lt o b h
    · exact GM.lt t b h

/-- what lies under a number -/
theorem GM.look {h : Heap} : ∀ {m : List (Int × Value)} {g : List (Int × List ByteArray)} {B : List Nat}, GM h m g B → ∀ k, ∃ a len cap cs, (lookI m k).getD (.slice none 0 0) = .slice a len cap ∧ Own h 9 1 a len cap cs ∧ Reps h cs (lookG' g k) ∧ (∀ b ∈ blkA a, b ∈ B)
  | [], [], B, h1, k => ⟨none, 0, 0, [], rfl, Own.nil _ _ _, rfl, by simp [blkA]⟩
  | [], _ :: _, B, h1, k => h1.elim
  | _ :: _, [], B, h1, k => by simp [GM] at h1
  | (k1, v) :: m, (k2, l) :: g, B, h1, k => by
    obtain ⟨rfl, a, len, cap, cs, B', rfl, ⟨o, r, n⟩, rfl, t⟩ := h1
    by_cases hk : k = k1
    · exact ⟨a, len, cap, cs, by simp [lookI, hk], o, by simp only [lookG', if_pos hk]; exact r, fun b hb => by simp [hb]⟩
    · obtain ⟨a', len', cap', cs', e1, e2, e3, e4⟩ := GM.look t k
      exact ⟨a', len', cap', cs', by simpa [lookI, hk] using e1, e2, by simp only [lookG', if_neg hk]; exact e3, fun b hb => by simp [e4 b hb]⟩

/-- a path is laid to its number's -/
theorem GM.add {h h' : Heap} {k : Int} {p : ByteArray} {a a' : Option Addr} {len cap len' cap' : Nat} {cs' : List Value} (kp : Keeps (blkA a) h h') (o' : Own h' 9 1 a' len' cap' cs') (hnew : ∀ b ∈ blkA a', b ∈ blkA a ∨ h.size ≤ b) :
    ∀ {m : List (Int × Value)} {g : List (Int × List ByteArray)} {B : List Nat}, GM h m g B → B.Nodup → (lookI m k).getD (.slice none 0 0) = .slice a len cap → Reps h' cs' (lookG' g k ++ [p]) →
      ∃ B', GM h' (putI m k (.slice a' len' cap')) (addG g k p) B' ∧ B'.Nodup ∧ ∀ b ∈ B', b ∈ B ∨ h.size ≤ b
  | [], [], B, h1, nd, hl, hr => by
    simp [lookI] at hl
    obtain ⟨rfl, rfl, rfl⟩ := hl
    refine ⟨blkA a', ⟨rfl, a', len', cap', cs', [], rfl, ⟨o', hr, by simp⟩, by simp, rfl⟩, ?_, ?_⟩
    · cases a' <;> simp [blkA]
    · intro b hb
      rcases hnew b hb with h | h
      · simp [blkA] at h
      · exact .inr h
  | [], _ :: _, B, h1, _, _, _ => h1.elim
  | _ :: _, [], B, h1, _, _, _ => by simp [GM] at h1
  | (k1, v) :: m, (k2, l) :: g, B, h1, nd, hl, hr => by
    obtain ⟨rfl, a0, len0, cap0, cs0, B', rfl, ⟨o, r, n⟩, rfl, t⟩ := h1
    have nd' := List.nodup_append.1 nd
    have ltB : ∀ b ∈ B', b < h.size := GM.lt t
    have ltA : ∀ b ∈ blkA a0, b < h.size := Own.lt o
    by_cases hk : k = k1
    · subst hk
      simp [lookI] at hl
      obtain ⟨rfl, rfl, rfl⟩ := hl
      simp only [lookG', if_true] at hr
      have dis : ∀ b ∈ blkA a0, ∀ c ∈ B', b ≠ c := nd'.2.2
      refine ⟨blkA a' ++ B', ?_, ?_, ?_⟩
      · simp only [putI, addG, if_true]
        exact ⟨rfl, a', len', cap', cs', B', rfl, ⟨o', hr, by simp⟩, rfl, GM.keep kp t (fun b hb hb' => dis b hb' b hb rfl)⟩
      · refine List.nodup_append.2 ⟨by cases a' <;> simp [blkA], nd'.2.1, fun b hb c hc => ?_⟩
        rcases hnew b hb with h | h
        · exact dis b h c hc
        · have := ltB c hc; omega
      · intro b hb
        rcases List.mem_append.1 hb with h | h
        · rcases hnew b h with h2 | h2
          · exact .inl (by simp [h2])
          · exact .inr h2
        · exact .inl (by simp [h])
    · have hl' : (lookI m k).getD (.slice none 0 0) = .slice a len cap := by simpa [lookI, hk] using hl
      simp only [lookG', if_neg hk] at hr
      obtain ⟨a2, _, _, _, e1, _, _, e4⟩ := GM.look t k
      have ea : a2 = a := by rw [e1] at hl'; simp at hl'; exact hl'.1
      subst ea
      obtain ⟨B2, g2, n2, i2⟩ := GM.add kp o' hnew t nd'.2.1 hl' hr
      refine ⟨blkA a0 ++ B2, ?_, ?_, ?_⟩
      · simp only [putI, addG, if_neg hk]
        refine ⟨rfl, a0, len0, cap0, cs0, B2, rfl, ⟨o.keep kp (fun b hb hb' => nd'.2.2 b hb b (e4 b hb') rfl), r.flat, n⟩, rfl, g2⟩
      · refine List.nodup_append.2 ⟨nd'.1, n2, fun b hb c hc => ?_⟩
        rcases i2 c hc with h | h
        · exact nd'.2.2 b hb c h
        · have := ltA b hb; omega
      · intro b hb
        rcases List.mem_append.1 hb with h | h
        · exact .inl (by simp [h])
        · rcases i2 b h with h2 | h2
          · exact .inl (by simp [h2])
          · exact .inr h2

theorem lookG'_addG : ∀ (g : List (Int × List ByteArray)) (k : Int) (p : ByteArray) (k' : Int), lookG' (addG g k p) k' = if k' = k then lookG' g k ++ [p] else lookG' g k'
  | [], k, p, k' => by simp [addG, lookG']
  | (k1, l) :: g, k, p, k' => by
    by_cases hk : k = k1
    · subst hk
      simp only [addG, if_true, lookG']
      split <;> simp
    · simp only [addG, if_neg hk, lookG', lookG'_addG g k p k']
      by_cases h2 : k' = k1
      · subst h2; simp [Ne.symm hk]
      · simp [h2]

theorem group_le (k : Int) : ∀ (l : List Spot) (g : List (Int × List ByteArray)), (lookG' (l.foldl (fun g x => addG g x.node.id x.path) g) k).length ≤ (lookG' g k).length + l.length
  | [], g => by simp
  | x :: l, g => by
    have h1 := group_le k l (addG g x.node.id x.path)
    have h2 : (lookG' (addG g x.node.id x.path) k).length ≤ (lookG' g k).length + 1 := by
      rw [lookG'_addG]
      split
      · rename_i h; subst h; simp
      · omega
    simp only [List.foldl_cons, List.length_cons]
    omega

theorem GM.nil_iff {h : Heap} : ∀ {m : List (Int × Value)} {g : List (Int × List ByteArray)} {B : List Nat}, GM h m g B → ∀ k, lookG' g k = [] ↔ k ∉ g.map (·.1)
  | [], [], B, h1, k => by simp [lookG']
  | [], _ :: _, B, h1, k => h1.elim
  | _ :: _, [], B, h1, k => by simp [GM] at h1
  | (k1, v) :: m, (k2, l) :: g, B, h1, k => by
    obtain ⟨rfl, a, len, cap, cs, B', rfl, ⟨o, r, n⟩, rfl, t⟩ := h1
    have := GM.nil_iff t k
    by_cases hk : k = k1
    · subst hk; simp [lookG', n]
    · simp only [lookG', if_neg hk, List.map_cons, List.mem_cons, this]
      simp [hk]

theorem GM.some_ {h : Heap} {A : Addr} {len cap : Nat} : ∀ {m : List (Int × Value)} {g : List (Int × List ByteArray)} {B : List Nat}, GM h m g B → ∀ k, (lookI m k).getD (.slice none 0 0) = .slice (some A) len cap → lookG' g k ≠ []
  | [], [], B, h1, k, hl => by simp [lookI] at hl
  | [], _ :: _, B, h1, k, _ => h1.elim
  | _ :: _, [], B, h1, k, _ => by simp [GM] at h1
  | (k1, v) :: m, (k2, l) :: g, B, h1, k, hl => by
    obtain ⟨rfl, a, len, cap, cs, B', rfl, ⟨o, r, n⟩, rfl, t⟩ := h1
    by_cases hk : k = k1
    · subst hk; simp [lookG', n]
    · simp only [lookG', if_neg hk]
      exact GM.some_ t k (by simpa [lookI, hk] using hl)

theorem addG_keys : ∀ (g : List (Int × List ByteArray)) (k : Int) (p : ByteArray), (addG g k p).map (·.1) = if lookG' g k = [] ∧ k ∉ g.map (·.1) then g.map (·.1) ++ [k] else if k ∈ g.map (·.1) then g.map (·.1) else g.map (·.1) ++ [k]
  | [], k, p => by simp [addG, lookG']
  | (k', l) :: g, k, p => by
    have := addG_keys g k p
    by_cases hk : k = k'
    · subst hk; simp [addG]
    · simp only [addG, if_neg hk, List.map_cons, this]
      by_cases h2 : k ∈ g.map (·.1)
      · simp [h2, hk]
      · simp [h2, hk]

theorem twice_spec (N : List Nd) (a : Option Addr) (n c : Nat) (h : Heap) (S : Sl h a n c N) (fit : Fit N) (ap : Apart N) :
    CallH Try.prog 11 [.slice a n c] h (fun v h' => Keeps [] h h' ∧ ∃ a' n' c', v = .slice a' n' c' ∧ Sl h' a' n' c' (twiceP (spotsP N))) := by
  refine call_of hmix Try.func11 rfl ok11 (by simp [Try.f11]) ?_
  conv => whnf
  refine AllocR.i fun r h1 e1 s1 o1 k1 => ?_
  have M1 := MapL.new o1
  conv => whnf
  refine CallR.i (spots_spec N a n c h1 (S.keep k1) fit ap) fun v h2 k2 hv => ?_
  obtain ⟨sa, sn, sc, rfl, SS, few⟩ := hv
  have M2 := M1.keep k2 (by simp)
  conv => whnf
  have hsn := SS.hlen
  generalize spotsP N = s at SS hsn ⊢
  let T := fun (i : Nat) => groupP (s.take i)
  refine LoopR.on [3, 4, 12, 13, 14] [] (fun q : Nat × Option Addr × Nat × Nat × List Value => [(3, .v (.map (some r))), (4, .v (.slice q.2.1 q.2.2.1 q.2.2.2.1)), (12, .v (.slice sa sn sc)), (13, .v (.int .i64 sn)), (14, .v (.int .i64 (q.1 : Int)))])
    (fun _ => []) (fun q h' => q.1 ≤ sn ∧ Keeps [r] h2 h' ∧ Own h' 3 1 q.2.1 q.2.2.1 q.2.2.2.1 q.2.2.2.2 ∧ Reps h' q.2.2.2.2 ((T q.1).map (·.1)) ∧ (∃ m B, MapL h' r m ∧ GM h' m (T q.1) B ∧ B.Nodup ∧ (∀ b ∈ B, h2.size ≤ b ∧ b ∉ blkA q.2.1)) ∧ (∀ b ∈ blkA q.2.1, h2.size ≤ b) ∧ (T q.1).length ≤ q.1) (fun q => sn - q.1) (0, none, 0, 0, []) ?_ ?_
  · conv => whnf
    exact ⟨(0, none, 0, 0, []), rfl, rfl, rfl, Nat.zero_le _, Keeps.refl _ _, Own.nil _ _ _, rfl, ⟨[], [], M2, rfl, by simp, by simp⟩, by simp [blkA], Nat.le_refl _⟩
  · rintro ⟨i, ao, no, co, lo⟩ h3 ⟨hi, k3, O3, R3, ⟨m, B, M3, G3, nd3, new3⟩, newo3, cnt3⟩
    simp only at hi O3 R3 new3 newo3 G3 cnt3
    have k03 : Keeps [] h h3 := (k1.trans k2).trans_new k3 (by intro x hx; simp at hx; right; omega)
    have rlt := M2.lt
    conv => whnf
    refine IfR.i (fun hc => ?_) (fun hc => ?_)
    · have hi1 : i < s.length := by simp at hc; omega
      have hst : T (i + 1) = addG (T i) s[i].node.id s[i].path := by
        simp only [T, groupP]
        rw [List.take_succ_eq_append_getElem hi1, List.foldl_append]; rfl
      obtain ⟨bn, on, han, cs, hr, hcn⟩ := SS.at_ i hi1
      obtain ⟨na, nn, nc, rfl, y1, y2⟩ := hr
      have hbr := hcn.neMap (by simp) M2
      have hcn3 := hcn.keepM k3 (by simpa using hbr)
      conv => whnf
      refine IdxS.i i rfl (by omega) han ?_
      conv => whnf
      refine LoadN.i (vs := [.string s[i].path, .string s[i].name, .int .i64 s[i].deep, .int .i64 s[i].node.id, .int .i64 s[i].node.kind, .int .i64 s[i].node.links, .string s[i].node.data, .slice na nn nc]) rfl (fun j hj => hcn3 j hj) ?_
      conv => whnf
      refine AllocR.i fun b4 h4 e4 s4 o4 k4 => ?_
      conv => whnf
      refine BoxR.i fun h5 s5 k5 => ?_
      have k35 : Keeps [] h3 h5 := k4.trans_new k5 (by intro x hx; simp at hx; right; omega)
      have M5 := M3.keep k35 (by simp)
      obtain ⟨ga, gl, gc, gcs, hl, go, gr, gB⟩ := G3.look s[i].node.id
      have k23 := k3.size
      have bsz : ∀ b ∈ B, b < h3.size := G3.lt
      have aosz : ∀ b ∈ blkA ao, b < h3.size := Own.lt O3
      have gsz := addG_keys (T i) s[i].node.id s[i].path
      have gnil : lookG' (T i) s[i].node.id = [] ↔ s[i].node.id ∉ (T i).map (·.1) := G3.nil_iff _
      have ganil : ga = none ↔ lookG' (T i) s[i].node.id = [] := by
        have hc := own_count go gr rfl (by decide)
        rcases go with ⟨rfl, q1, _, _⟩ | ⟨_, _, rfl, _⟩
        · simp only [true_iff]
          exact List.eq_nil_of_length_eq_zero (by omega)
        · exact ⟨fun h => (nomatch h), fun h => absurd (G3.some_ _ hl) (by rw [h]; simp)⟩
      conv => whnf
      refine MeetR.share (fun e bx h6 => bx = [(6, b4, [.string s[i].path, .string s[i].name, .int .i64 s[i].deep, .int .i64 s[i].node.id, .int .i64 s[i].node.kind, .int .i64 s[i].node.links, .string s[i].node.data, .slice na nn nc])] ∧
        ∃ ao' no' co' lo' x y, e = [(3, .v (.map (some r))), (4, .v (.slice ao' no' co')), (6, .lp 6 0), (12, .v (.slice sa sn sc)), (13, .v (.int .i64 sn)), (14, .v (.int .i64 (i : Int))), (15, x), (23, y)] ∧
          Keeps (blkA ao) h5 h6 ∧ Own h6 3 1 ao' no' co' lo' ∧ Reps h6 lo' ((T (i + 1)).map (·.1)) ∧ ∀ b ∈ blkA ao', b ∈ blkA ao ∨ h5.size ≤ b) (fun rest' H => ?_) ?_
      · conv => whnf
        refine LookR.z (.slice none 0 0) M5 rfl hl ?_
        cases ga with
        | none =>
          have hk := gnil.1 (ganil.1 rfl)
          conv => whnf
          refine IfR.t rfl ?_
          conv => whnf
          refine AllocR.i fun b6 h6 e6 s6 o6 k6 => ?_
          conv => whnf
          have o6' : h6[b6]? = some (.cells ⟨[.int .i64 s[i].node.id]⟩ 3 (0, 0)) := o6
          have hno := own_count O3 R3 rfl (by decide)
          simp at hno
          refine append_own (e := 3) (sz := 1) (by_ := 8) (new := [.int .i64 s[i].node.id]) rfl rfl rfl rfl rfl rfl rfl ((O3.keep k35 (by simp)).keep k6 (by simp)) rfl ?_ rfl (by omega) (by omega) ?_ ?_
          · intro j hj
            simp only [Heap.cell?, o6', Nat.zero_add]
            simp
          · intro b hb hb'
            have hb2 : b ∈ [b4] := hb'
            have := aosz b hb
            simp at hb2; omega
          intro a7 c7 h7 O7 k7 new7
          conv => whnf
          refine H _ _ _ ⟨rfl, a7, no + 1, c7, lo ++ [.int .i64 s[i].node.id], _, _, rfl, (k6.mono (by simp)).trans k7, O7, ?_, ?_⟩
          · rw [hst, gsz, if_pos ⟨ganil.1 rfl, hk⟩]
            exact Reps.snoc R3.flat ⟨rfl, y1.2.2.2.1⟩
          · intro b hb
            rcases new7 b hb with h | h
            · exact .inl h
            · exact .inr (by omega)
        | some A =>
          have hk : s[i].node.id ∈ (T i).map (·.1) := Classical.byContradiction fun hn => by
            have := ganil.2 (gnil.2 hn); cases this
          conv => whnf
          refine IfR.f rfl ?_
          conv => whnf
          refine H _ _ _ ⟨rfl, ao, no, co, lo, _, _, rfl, Keeps.refl _ _, O3.keep k35 (by simp), ?_, fun b hb => .inl hb⟩
          rw [hst, gsz, if_neg (fun h => h.2 hk), if_pos hk]
          exact R3.flat
      · rintro e bx h6 ⟨rfl, ao', no', co', lo', x, y, rfl, k6, O6, R6, newo6⟩
        have rB : r ∉ blkA ao := fun h => by have := newo3 r h; omega
        have gdis : ∀ b ∈ B, b ∉ blkA ao := fun b hb => (new3 b hb).2
        have M6 := M5.keep k6 rB
        have G6 := (G3.keep k35 (by simp)).keep k6 gdis
        have go6 := (go.keep k35 (by simp)).keep k6 (fun b hb => gdis b (gB b hb))
        have k56 := k6.size
        have k35s := k35.size
        conv => whnf
        refine LookR.z (.slice none 0 0) M6 rfl hl ?_
        conv => whnf
        refine AllocR.i fun b7 h7 e7 s7 o7 k7 => ?_
        conv => whnf
        have o7' : h7[b7]? = some (.cells ⟨[.string s[i].path]⟩ 9 (0, 0)) := o7
        have hgl := own_count go gr rfl (by decide)
        have hbnd : (lookG' (T i) s[i].node.id).length ≤ i := by
          have := group_le s[i].node.id (s.take i) []
          simp only [lookG', List.length_nil] at this
          have h2 : (s.take i).length ≤ i := by simp; omega
          exact Nat.le_trans this (by omega)
        have rB2 : r ∉ B := fun h => by have := (new3 r h).1; omega
        refine append_own (e := 9) (sz := 1) (by_ := 16) (new := [.string s[i].path]) rfl rfl rfl rfl rfl rfl rfl (go6.keep k7 (by simp)) rfl ?_ rfl (by omega) (by omega) ?_ ?_
        · intro j hj
          simp only [Heap.cell?, o7', Nat.zero_add]
          simp
        · intro b hb hb'
          have hb2 : b ∈ [b4] := hb'
          have := bsz b (gB b hb)
          simp at hb2; omega
        intro a8 c8 h8 O8 k8 new8
        conv => whnf
        obtain ⟨B', G8, nd8, inB8⟩ := GM.add k8 O8 new8 (G6.keep k7 (by simp)) nd3 hl (Reps.snoc gr.flat ⟨rfl, y1.1⟩)
        have M8 := (M6.keep k7 (by simp)).keep k8 (fun h => rB2 (gB r h))
        refine SemR.put rfl rfl M8 ?_ fun h9 s9 M9 k9 => ?_
        · intro hb
          have hb2 : r ∈ [b4] := hb
          simp at hb2; omega
        have rB' : r ∉ B' := fun h => by
          rcases inB8 r h with h | h
          · exact rB2 h
          · omega
        have k78 := k8.size
        have keepO : ∀ b ∈ blkA ao', b < h7.size ∧ b ∉ B ∧ h2.size ≤ b := by
          intro b hb
          rcases newo6 b hb with h | h
          · exact ⟨by have := aosz b h; omega, fun h2 => (new3 b h2).2 h, newo3 b h⟩
          · have hlt := Own.lt O6 b hb
            exact ⟨by omega, fun h2 => by have := bsz b h2; omega, by omega⟩
        conv => whnf
        refine ⟨sn - (i + 1), by simp only; omega, ?_⟩
        conv => whnf
        refine ⟨(i + 1, ao', no', co', lo'), rfl, by simp only; rw [wrapN (x := (i : Int) + 1) (n := i + 1) (by simp) (by omega)], rfl, by simp only; omega, ?_, ?_, R6.flat, ⟨_, B', M9, ?_, nd8, ?_⟩, fun b hb => (keepO b hb).2.2, ?_⟩
        · refine Keeps.trans (Keeps.trans_new (Keeps.trans_new (k3.trans_nil k35) k6 (fun x hx => .inr (newo3 x hx)) |>.trans_nil k7) k8 (fun x hx => .inr (new3 x (gB x hx)).1)) k9
        · simp only
          refine ((O6.keep k7 (by simp)).keep k8 (fun b hb hb' => (keepO b hb).2.1 (gB b hb'))).keep k9 ?_
          intro b hb hb'
          simp at hb'
          have := (keepO b hb).2.2
          omega
        · simp only
          rw [hst]
          exact G8.keep k9 (fun b hb hb' => by simp at hb'; subst hb'; exact rB' hb)
        · intro b hb
          refine ⟨?_, fun hb' => ?_⟩
          · rcases inB8 b hb with h | h
            · exact (new3 b h).1
            · omega
          · rcases inB8 b hb with h | h
            · exact (keepO b hb').2.1 h
            · have := (keepO b hb').1; omega
        · simp only
          rw [hst]
          have := congrArg List.length gsz
          simp only [List.length_map] at this
          rw [this]
          split <;> (try split) <;> simp <;> omega
    · conv => whnf
      have hi1 : i = s.length := by simp at hc; omega
      subst hi1
      have R3' : Reps h3 lo ((groupP s).map (·.1)) := by simpa [T] using R3
      have G3' : GM h3 m (groupP s) B := by simpa [T] using G3
      have hno := own_count O3 R3' rfl (by decide)
      have hcn : (groupP s).length ≤ s.length := by simpa [T] using cnt3
      simp only [List.length_map] at hno
      have SO : Sl h3 ao no co ((groupP s).map (·.1)) := O3.sl R3' rfl (by decide) (by simp; omega)
      have tw : twiceP s = severalP (groupP s) ((groupP s).map (·.1)) := rfl
      rw [tw]
      have hbnd : ∀ k, (lookG' (groupP s) k).length ≤ s.length := fun k => by
        have := group_le k s []
        simp only [lookG', List.length_nil, Nat.zero_add] at this
        exact this
      generalize groupP s = g at R3' G3' hno hcn SO hbnd ⊢
      generalize hids : g.map (·.1) = ids at SO ⊢
      have hil : ids.length = g.length := by rw [← hids]; simp
      refine LoopR.on [3, 7, 44, 45, 46] [] (fun q : Nat × Option Addr × Nat × Nat × List Value => [(3, .v (.map (some r))), (7, .v (.slice q.2.1 q.2.2.1 q.2.2.2.1)), (44, .v (.slice ao no co)), (45, .v (.int .i64 no)), (46, .v (.int .i64 (q.1 : Int)))])
        (fun _ => []) (fun q h' => q.1 ≤ no ∧ Keeps [] h3 h' ∧ Own h' 25 1 q.2.1 q.2.2.1 q.2.2.2.1 q.2.2.2.2 ∧ Reps h3 q.2.2.2.2 (severalP g (ids.take q.1)) ∧ ∀ b ∈ blkA q.2.1, h3.size ≤ b) (fun q => no - q.1) (0, none, 0, 0, []) ?_ ?_
      · conv => whnf
        exact ⟨(0, none, 0, 0, []), rfl, rfl, rfl, Nat.zero_le _, Keeps.refl _ _, Own.nil _ _ _, rfl, by simp [blkA]⟩
      · rintro ⟨j, ax, nx, cx, lx⟩ h4 ⟨hj, k4, O4, R4, new4⟩
        simp only at hj O4 R4 new4
        have hnx := own_count O4 R4 rfl (by decide)
        have hle : (severalP g (ids.take j)).length ≤ j := by
          unfold severalP; rw [List.length_map]; exact Nat.le_trans (List.length_filter_le _ _) (by simp; omega)
        conv => whnf
        refine IfR.i (fun hc => ?_) (fun hc => ?_)
        · have hj1 : j < ids.length := by simp at hc; omega
          have hst : severalP g (ids.take (j + 1)) = severalP g (ids.take j) ++ if 1 < (lookG' g ids[j]).length then [lookG' g ids[j]] else [] := by
            unfold severalP
            rw [List.take_succ_eq_append_getElem hj1, List.filter_append, List.map_append]
            by_cases hq : 1 < (lookG' g ids[j]).length <;> simp [List.filter_cons, hq]
          obtain ⟨bn, on, han, _, ⟨rfl, _⟩, hcn⟩ := (SO.keep k4).at_ j hj1
          obtain ⟨ga, gl, gc, gcs, hl, go, gr, gB⟩ := G3'.look ids[j]
          have hgl := own_count go gr rfl (by decide)
          have M4 := M3.keep k4 (by simp)
          conv => whnf
          refine MeetR.pass ?_
          conv => whnf
          refine IdxS.i j rfl (by omega) han ?_
          conv => whnf
          refine LoadR.i (hcn 0 (by simp)) ?_
          conv => whnf
          refine LookR.z (.slice none 0 0) M4 rfl hl ?_
          conv => whnf
          refine IfR.i (fun hd => ?_) (fun hd => ?_)
          · have hd' : 1 < (lookG' g ids[j]).length := by simp at hd; omega
            conv => whnf
            refine LookR.z (.slice none 0 0) M4 rfl hl ?_
            conv => whnf
            refine AllocR.i fun b5 h5 e5 s5 o5 k5 => ?_
            conv => whnf
            have o5' : h5[b5]? = some (.cells ⟨[.slice ga gl gc]⟩ 25 (0, 0)) := o5
            refine append_own (e := 25) (sz := 1) (by_ := 24) (new := [.slice ga gl gc]) rfl rfl rfl rfl rfl rfl rfl (O4.keep k5 (by simp)) rfl ?_ rfl (by omega) (by omega) ?_ ?_
            · intro q hq
              simp only [Heap.cell?, o5', Nat.zero_add]
              simp
            · intro b hb hb'
              have hb2 : b ∈ ([] : List Nat) := hb'
              cases hb2
            intro a7 c7 h7 O7 k7 new7
            conv => whnf
            refine ⟨no - (j + 1), by simp only; omega, ?_⟩
            conv => whnf
            have q1 := k4.size
            have q2 := k5.size
            refine ⟨(j + 1, a7, nx + 1, c7, lx ++ [.slice ga gl gc]), rfl, by simp only; rw [wrapN (x := (j : Int) + 1) (n := j + 1) (by simp) (by omega)], rfl, by simp only; omega, (k4.trans k5).trans_new k7 (fun x hx => .inr (new4 x hx)), O7, ?_, fun b hb => ?_⟩
            · simp only
              rw [hst, if_pos hd']
              refine Reps.snoc R4 (rep_slice.2 (go.sl gr rfl (by decide) ?_))
              have := hbnd ids[j]
              omega
            · rcases new7 b hb with h | h
              · exact new4 b h
              · omega
          · have hd' : ¬ 1 < (lookG' g ids[j]).length := by simp at hd; omega
            conv => whnf
            refine ⟨no - (j + 1), by simp only; omega, ?_⟩
            conv => whnf
            refine ⟨(j + 1, ax, nx, cx, lx), rfl, by simp only; rw [wrapN (x := (j : Int) + 1) (n := j + 1) (by simp) (by omega)], rfl, by simp only; omega, k4, O4, ?_, new4⟩
            simp only
            rw [hst, if_neg hd', List.append_nil]; exact R4
        · conv => whnf
          have hj1 : j = ids.length := by simp at hc; omega
          subst hj1
          rw [List.take_length] at R4 hle hnx
          exact ⟨k03.trans k4, ax, nx, cx, rfl, O4.sl (R4.keep k4) rfl (by decide) (by omega)⟩
end Go.Proofs.Ytegagciipigkbaa
