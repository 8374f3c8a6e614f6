/-
  Layer 10: a file's map; a block's bytes.
-/
import Derived.Test.YtlloemmpnhoanaaGreatBodyI
set_option linter.all false
set_option maxRecDepth 100000
namespace Go.Proofs.YtlloemmpnhoanaaGreat
open Go Go.Eng

/-- a card -/
structure Crd where
  kind : Int
  links : Int
  size : Int
  ver : UInt64
  d0 : Int
  d1 : Int
  d2 : Int
  d3 : Int
  d4 : Int
  more : Int
  deriving DecidableEq

def iv (x : Int) : Value := .int .i64 x
def Crd.cells (c : Crd) : List Value := [.int .i64 c.kind, .int .i64 c.links, .int .i64 c.size, wv c.ver, .int .i64 c.d0, .int .i64 c.d1, .int .i64 c.d2, .int .i64 c.d3, .int .i64 c.d4, .int .i64 c.more]
def Crd.direct (c : Crd) : List Int := [c.d0, c.d1, c.d2, c.d3, c.d4]
def Crd.zero : Crd := ⟨0, 0, 0, 0, 0, 0, 0, 0, 0, 0⟩
def Crd.ok (c : Crd) : Prop := inI64 c.kind ∧ inI64 c.links ∧ inI64 c.size ∧ (∀ x ∈ c.direct, inI64 x) ∧ inI64 c.more

/-- whole numbers in a block of one's own, and spare room behind -/
def IntsAt (h : Heap) (b : Nat) (m : List Int) (sp : List Value) : Prop := h[b]? = some (.cells ⟨m.map (fun x => Value.int .i64 x) ++ sp⟩ 3 (0, 0))

theorem IntsAt.sl {h : Heap} {b : Nat} {m : List Int} {sp : List Value} (o : IntsAt h b m sp) (hm : ∀ x ∈ m, inI64 x) {n cap : Nat} (hn : n = m.length) (hc : n ≤ cap) (hb : m.length ≤ 281474976710656) : Sl h (some ⟨b, 0, none⟩) n cap m := by
  subst hn
  exact Sl.of1 (α := Int) o (fun i hi => by rw [List.getElem?_append_left (by simpa using hi)]; simp [hi, One.val]) hm hc hb

theorem splice_set1 : ∀ (k : Nat) (L : List Value) (v : Value), k < L.length → spliceL k [v] L = L.set k v
  | 0, [], v, h => by simp at h
  | 0, a :: L, v, h => by cases L <;> rfl
  | k + 1, [], v, h => by simp at h
  | k + 1, a :: L, v, h => by simp only [spliceL, List.set_cons_succ]; rw [splice_set1 k L v (by simpa using h)]

theorem ints_set {m : List Int} {sp : List Value} {i : Nat} {x : Int} (hi : i < m.length) : spliceL (0 + i * 1) [Value.int .i64 x] (m.map (fun x => Value.int .i64 x) ++ sp) = (m.set i x).map (fun x => Value.int .i64 x) ++ sp := by
  rw [show 0 + i * 1 = i by omega, splice_set1 _ _ _ (by simp; omega), List.set_append, if_pos (by simpa using hi), List.map_set]

theorem IntsAt.nth {h : Heap} {b : Nat} {m : List Int} {sp : List Value} (o : IntsAt h b m sp) {i : Nat} (hi : i < m.length) : Heap.cell? h b (0 + i * 1) = some (.int .i64 m[i]) := by
  unfold IntsAt at o
  simp only [Heap.cell?, o]
  rw [show 0 + i * 1 = i by omega]
  simp [List.getElem?_append, hi]

def moreL (now : Int → UInt64) (k : Int) : List UInt64 := rdL now (1288 + k * 16) 16
def convW (w : UInt64) : Int := (w.toNat : Int) - 1
/-- a card's map over words -/
def mapOf (now : Int → UInt64) (c : Crd) : Option (List Int) :=
  if c.more = -1 then some (c.direct ++ List.replicate 16 (-1))
  else if 0 ≤ c.more ∧ c.more < 96 ∧ (moreL now c.more).all (fun w => decide (w.toNat ≤ 96)) = true ∧ ((moreL now c.more).map convW).any usedB = true then some (c.direct ++ (moreL now c.more).map convW)
  else none

theorem mapOf_length {now : Int → UInt64} {c : Crd} {m : List Int} (h : mapOf now c = some m) : m.length = 21 := by
  unfold mapOf at h
  split at h
  · simp at h; subst h; simp [Crd.direct]
  · split at h
    · simp at h; subst h; simp [Crd.direct, moreL, rdL]
    · cases h

theorem Rp.int_n : Rp.n Int = 1 := rfl

theorem map_full {h : Heap} {V : VL} {M : MemS} {X : VS} (A : At h V M X) (c : Crd) (hc : c.ok) : CallH Tryz.prog 26 [.pointer (some ⟨V.v, 0, none⟩), .agg ⟨c.cells⟩] h (fun v h' => Keeps [] h h' ∧
    match mapOf X.now c with
    | some m => ∃ b cap sp, v = .tuple #[.slice (some ⟨b, 0, none⟩) 21 cap, .int .i64 0] ∧ IntsAt h' b m sp ∧ h.size ≤ b ∧ 21 ≤ cap ∧ cap = 21 + sp.length
    | none => v = .tuple #[.slice none 0 0, .int .i64 15]) := by
  refine call_of hmix Tryz.func26 rfl ok26 (by simp [Tryz.f26]) ?_
  conv => whnf
  refine AllocR.i fun b1 h1 e1 s1 o1 k1 => ?_
  conv => whnf
  refine IfR.f rfl ?_
  conv => whnf
  refine PureR.i (v := .slice (some ⟨b1, 4, none⟩) 5 5) (fun w => rfl) ?_
  conv => whnf
  refine AllocR.i fun b2 h2 e2 s2 o2 k2 => ?_
  conv => whnf
  refine CallR.i (repeatI_spec o2) fun v h3 k3 hv => ?_
  obtain ⟨b3, rfl, o3, n3⟩ := hv
  conv => whnf
  refine AllocR.i fun b4 h4 e4 s4 o4 k4 => ?_
  have z3 := k3.size
  have b3lt : b3 < h3.size := obj_lt o3
  have S1 : Sl h4 (some ⟨b1, 4, none⟩) 5 5 c.direct := ⟨rfl, Nat.le_refl _, by simp [Crd.direct], fun i hi => ⟨b1, 4, rfl, [.int .i64 c.direct[i]], ⟨rfl, hc.2.2.2.1 _ (List.getElem_mem hi)⟩, fun j hj => by
    have hj0 : j = 0 := by simpa using hj
    subst hj0
    have o14 := (k2.trans (k3.trans k4)).obj o1 (by simp)
    simp only [Heap.cell?, o14]
    have hi' : i < 5 := hi
    have : i = 0 ∨ i = 1 ∨ i = 2 ∨ i = 3 ∨ i = 4 := by omega
    rcases this with rfl | rfl | rfl | rfl | rfl <;> rfl⟩⟩
  have S2 : Sl h4 (some ⟨b3, 0, none⟩) 16 16 (List.replicate 16 (-1 : Int)) := Sl.of1' (α := Int) (by rw [k4.obj o3 (by simp)]; rfl) (by intro x hx; rw [List.mem_replicate] at hx; rw [hx.2]; exact ⟨by decide, by decide⟩) rfl (by decide)
  have S : Sl h4 (some ⟨b4, 0, none⟩) 2 2 [c.direct, List.replicate 16 (-1 : Int)] := ⟨rfl, Nat.le_refl _, by simp, fun i hi => ⟨b4, 0, rfl, [if i = 0 then .slice (some ⟨b1, 4, none⟩) 5 5 else .slice (some ⟨b3, 0, none⟩) 16 16], by
    have hi' : i < 2 := hi
    have : i = 0 ∨ i = 1 := by omega
    rcases this with rfl | rfl
    · exact ⟨_, _, _, rfl, S1⟩
    · exact ⟨_, _, _, rfl, S2⟩, fun j hj => by
    have hj0 : j = 0 := by simpa using hj
    subst hj0
    have hi' : i < 2 := hi
    have : i = 0 ∨ i = 1 := by omega
    simp only [Heap.cell?, o4]
    rcases this with rfl | rfl <;> rfl⟩⟩
  conv => whnf
  refine CallR.i (concat_spec S ?_ (by simp [Crd.direct]) (by decide)) fun v h5 k5 hv => ?_
  · intro xs hxs x hx
    simp only [List.mem_cons, List.not_mem_nil, or_false] at hxs
    rcases hxs with rfl | rfl
    · exact hc.2.2.2.1 x hx
    · rw [List.mem_replicate] at hx; rw [hx.2]; exact ⟨by decide, by decide⟩
  obtain ⟨a5, c5, rfl, O5, n5⟩ := hv
  have hfl : [c.direct, List.replicate 16 (-1 : Int)].flatten = c.direct ++ List.replicate 16 (-1) := by simp
  have hlen : (c.direct ++ List.replicate 16 (-1 : Int)).length = 21 := by simp [Crd.direct]
  rw [hfl, hlen] at O5
  rw [hfl, hlen]
  have k05 : Keeps [] h h5 := k1.trans (k2.trans (k3.trans (k4.trans k5)))
  rcases O5 with ⟨_, h0, _⟩ | ⟨b5, L, rfl, o5, t5, l5, _, c5l⟩
  · omega
  have z15 := (k2.trans (k3.trans k4)).size
  have hb5 : h.size ≤ b5 := by have := n5 b5 (by simp [blkA]); omega
  obtain ⟨sp, hsp⟩ : ∃ sp, L = (c.direct ++ List.replicate 16 (-1 : Int)).map (fun x => Value.int .i64 x) ++ sp := ⟨L.drop 21, by
    have : ((c.direct ++ List.replicate 16 (-1 : Int)).map (fun x => Value.int .i64 x)).length = 21 := by simp [Crd.direct]
    rw [this] at t5
    rw [← t5, List.take_append_drop]⟩
  have I5 : IntsAt h5 b5 (c.direct ++ List.replicate 16 (-1)) sp := by rw [hsp] at o5; exact o5
  have hcap : c5 = 21 + sp.length := by
    have h1 : L.length = 21 + sp.length := by rw [hsp]; simp [Crd.direct]; omega
    omega
  clear t5 l5 S S1 S2
  have o15 := (k2.trans (k3.trans (k4.trans k5))).obj o1 (by simp)
  conv => whnf
  refine LoadR.o o15 rfl ?_
  conv => whnf
  refine IfR.i (fun hd => ?_) (fun hd => ?_)
  · have hm : c.more = -1 := by simpa using hd
    conv => whnf
    refine ⟨k05, ?_⟩
    unfold mapOf
    rw [if_pos hm]
    exact ⟨b5, c5, sp, rfl, I5, hb5, c5l, hcap⟩
  · have hm : ¬ c.more = -1 := by simpa using hd
    conv => whnf
    refine LoadR.o o15 rfl ?_
    conv => whnf
    refine CallR.i (block_spec (A.on k05) c.more) fun v h6 k6 hv => ?_
    rcases hv with ⟨q1, q2, b6, rfl, q3, q4, o6⟩ | ⟨q1, rfl⟩
    · conv => whnf
      refine IfR.f rfl ?_
      have hml : (moreL X.now c.more).length = 16 := by simp [moreL, rdL]
      have hne : b6 ≠ b5 := by have := obj_lt o5; omega
      conv => whnf
      refine LoopR.on [6, 32, 33, 34] [] (fun i : Nat => [(6, .v (.slice (some ⟨b5, 0, none⟩) 21 c5)), (32, .v (.slice (some ⟨b6, 0, none⟩) 16 16)), (33, .v (.int .i64 16)), (34, .v (.int .i64 (i : Int)))]) (fun _ => [])
        (fun i h' => i ≤ 16 ∧ Keeps [] h h' ∧ h6.size ≤ h'.size ∧ IntsAt h' b5 (c.direct ++ (((moreL X.now c.more).map convW).take i ++ List.replicate (16 - i) (-1))) sp ∧ h'[b6]? = some (.cells ⟨(moreL X.now c.more).map wv⟩ 36 (0, 0)) ∧ ∀ k (hk : k < (moreL X.now c.more).length), k < i → (moreL X.now c.more)[k].toNat ≤ 96) (fun i => 16 - i) 0 ?_ ?_
      · conv => whnf
        exact ⟨0, rfl, rfl, rfl, Nat.zero_le _, k05.trans k6, Nat.le_refl _, k6.obj I5 (by simp), o6, fun k _ hk => by omega⟩
      · rintro i h7 ⟨hi, k7, z7, I7, o7, all7⟩
        conv => whnf
        refine IfR.i (fun he => ?_) (fun he => ?_)
        · have hi1 : i < 16 := by simp at he; omega
          have hi2 : i < (moreL X.now c.more).length := by omega
          conv => whnf
          refine IdxS.i i rfl hi1 rfl ?_
          conv => whnf
          refine LoadR.o (v := wv (moreL X.now c.more)[i]) o7 ?_ ?_
          · rw [nth_eq]
            show ((moreL X.now c.more).map wv)[0 + i * 1]? = _
            rw [show 0 + i * 1 = i by omega]; simp [hi2]
          conv => whnf
          refine IfR.i (fun hf => ?_) (fun hf => ?_)
          · conv => whnf
            have hw : 96 < (moreL X.now c.more)[i].toNat := by simp at hf; omega
            refine ⟨k7, ?_⟩
            have : mapOf X.now c = none := by
              unfold mapOf
              rw [if_neg hm, if_neg]
              rintro ⟨_, _, hall, _⟩
              have := List.all_eq_true.1 hall _ (List.getElem_mem hi2)
              simp at this; omega
            rw [this]
          · have hw : (moreL X.now c.more)[i].toNat ≤ 96 := by simp at hf; omega
            have ew : IntKind.i64.wrap (IntKind.i64.wrap ((moreL X.now c.more)[i].toNat : Int) - 1) = convW (moreL X.now c.more)[i] := by
              rw [wrapI (x := ((moreL X.now c.more)[i].toNat : Int)) (by omega) (by omega), wrapI (by omega) (by omega)]; rfl
            conv => whnf
            refine IdxS.i (5 + i) ?_ (by omega) rfl ?_
            · rw [wrapN (n := 5 + i) (by simp) (by omega)]
            conv => whnf
            refine StoreR.i I7 ?_ (by simp [blocksOf]) fun h8 s8 o8 k8 => ?_
            · show 0 + (5 + i) * 1 + 1 ≤ _
              simp [Crd.direct, hml]; omega
            conv => whnf
            refine ⟨16 - (i + 1), by omega, ?_⟩
            conv => whnf
            refine ⟨i + 1, rfl, by rw [wrapN (n := i + 1) (by simp) (by omega)], rfl, by omega, k7.new1 k8 hb5, by omega, ?_, k8.obj o7 (by simpa using hne), fun k hk hki => ?_⟩
            · rw [ew] at o8
              have hlen2 : 5 + i < (c.direct ++ (((moreL X.now c.more).map convW).take i ++ List.replicate (16 - i) (-1))).length := by simp [Crd.direct, hml]; omega
              have e8 := ints_set (sp := sp) (x := convW (moreL X.now c.more)[i]) hlen2
              have e9 : (c.direct ++ (((moreL X.now c.more).map convW).take i ++ List.replicate (16 - i) (-1))).set (5 + i) (convW (moreL X.now c.more)[i]) = c.direct ++ (((moreL X.now c.more).map convW).take (i + 1) ++ List.replicate (16 - (i + 1)) (-1)) := by
                have hd5 : c.direct.length = 5 := rfl
                have ht : (((moreL X.now c.more).map convW).take i).length = i := by simp [hml]; omega
                rw [List.set_append, if_neg (by omega), hd5, show 5 + i - 5 = i by omega, List.set_append, if_neg (by omega), ht, Nat.sub_self, show 16 - i = (16 - (i + 1)) + 1 by omega, List.replicate_succ, List.set_cons_zero,
                  List.take_succ_eq_append_getElem (by simp [hml]; omega)]
                simp
              rw [e9] at e8
              unfold IntsAt
              rw [← e8]; exact o8
            · rcases Nat.lt_or_ge k i with h | h
              · exact all7 k hk h
              · have : k = i := by omega
                subst this; exact hw
        · have hi1 : i = 16 := by simp at he; omega
          subst hi1
          have hall : (moreL X.now c.more).all (fun w => decide (w.toNat ≤ 96)) = true := by
            rw [List.all_eq_true]
            intro w hw
            obtain ⟨k, hk, rfl⟩ := List.mem_iff_getElem.1 hw
            have := all7 k hk (by omega)
            simpa using this
          have et : ((moreL X.now c.more).map convW).take 16 ++ List.replicate (16 - 16) (-1) = (moreL X.now c.more).map convW := by
            rw [List.take_of_length_le (by simp [hml])]; simp
          rw [et] at I7
          have okm : ∀ x ∈ c.direct ++ (moreL X.now c.more).map convW, inI64 x := by
            intro x hx
            rcases List.mem_append.1 hx with hx | hx
            · exact hc.2.2.2.1 x hx
            · obtain ⟨w, hw, rfl⟩ := List.mem_map.1 hx
              have := List.all_eq_true.1 hall w hw
              simp at this
              unfold convW inI64; omega
          have SM := I7.sl okm (n := 21) (cap := c5) (by simp [Crd.direct, hml]) c5l (by simp [Crd.direct, hml])
          have SP := SM.part (l := 5) (r := 21) (by decide) (by decide)
          conv => whnf
          refine SliceR.i 5 21 rfl rfl (by decide) c5l ?_
          conv => whnf
          have hpart : (List.take 21 (c.direct ++ (moreL X.now c.more).map convW)).drop 5 = (moreL X.now c.more).map convW := by
            rw [List.take_of_length_le (by simp [Crd.direct, hml])]
            rw [List.drop_append]; simp [Crd.direct]
          rw [hpart] at SP
          refine CallR.i (containsFunc_spec 40 usedB (.inl ⟨rfl, rfl⟩) SP (by decide)) fun v h8 k8 hv => ?_
          subst hv
          conv => whnf
          refine IfR.i (fun hf => ?_) (fun hf => ?_)
          · conv => whnf
            refine ⟨k7.trans k8, ?_⟩
            have hn : ((moreL X.now c.more).map convW).any usedB = false := by simpa using hf
            have : mapOf X.now c = none := by
              unfold mapOf
              rw [if_neg hm, if_neg]
              rintro ⟨_, _, _, h⟩
              rw [hn] at h; cases h
            rw [this]
          · conv => whnf
            refine ⟨k7.trans k8, ?_⟩
            have hn : ((moreL X.now c.more).map convW).any usedB = true := by simpa using hf
            have : mapOf X.now c = some (c.direct ++ (moreL X.now c.more).map convW) := by
              unfold mapOf
              rw [if_neg hm, if_pos ⟨q1, q2, hall, hn⟩]
            rw [this]
            exact ⟨b5, c5, sp, rfl, k8.obj I7 (by simp), hb5, c5l, hcap⟩
    · conv => whnf
      refine IfR.t rfl ?_
      conv => whnf
      refine ⟨k05.trans k6, ?_⟩
      have : mapOf X.now c = none := by
        unfold mapOf
        rw [if_neg hm, if_neg]
        rintro ⟨h1, h2, _⟩
        exact q1 ⟨h1, h2⟩
      rw [this]

theorem map_spec {h : Heap} {V : VL} {M : MemS} {X : VS} (A : At h V M X) (c : Crd) (hc : c.ok) : CallH Tryz.prog 26 [.pointer (some ⟨V.v, 0, none⟩), .agg ⟨c.cells⟩] h (fun v h' => Keeps [] h h' ∧
    match mapOf X.now c with
    | some m => ∃ b cap sp, v = .tuple #[.slice (some ⟨b, 0, none⟩) 21 cap, .int .i64 0] ∧ IntsAt h' b m sp ∧ h.size ≤ b ∧ 21 ≤ cap
    | none => v = .tuple #[.slice none 0 0, .int .i64 15]) := CallH.mono (map_full A c hc) fun v h' ⟨k, H⟩ => ⟨k, by
  cases hm : mapOf X.now c with
  | none => rw [hm] at H; exact H
  | some m =>
    rw [hm] at H
    obtain ⟨b, cap, sp, h1, h2, h3, h4, _⟩ := H
    exact ⟨b, cap, sp, h1, h2, h3, h4⟩⟩

/-- a block's bytes; noughts of a hole -/
def bytesB (now : Int → UInt64) (n : Int) : List UInt8 := if n = -1 then zeros 128 else untextL (rdL now (1288 + n * 16) 16) 128
theorem bytesB_len (now : Int → UInt64) (n : Int) : (bytesB now n).length = 128 := by
  unfold bytesB; split
  · simp [zeros]
  · simp [untextL]

theorem textB_spec {h : Heap} {V : VL} {M : MemS} {X : VS} (A : At h V M X) (n : Int) : CallH Tryz.prog 30 [.pointer (some ⟨V.v, 0, none⟩), .int .i64 n] h (fun v h' => Keeps [] h h' ∧
    v = .tuple (if n = -1 ∨ (0 ≤ n ∧ n < 96) then #[.string ⟨(bytesB X.now n).toArray⟩, .int .i64 0] else #[.string ⟨#[]⟩, .int .i64 15])) := by
  refine call_of hmix Tryz.func30 rfl ok30 (by simp [Tryz.f30]) ?_
  conv => whnf
  refine CallR.i (used_spec n h) fun v h1 k1 hv => ?_
  subst hv
  conv => whnf
  refine IfR.i (fun hd => ?_) (fun hd => ?_)
  · have hn : n = -1 := by simpa [usedB] using hd
    conv => whnf
    refine CallR.i (repeat_spec h1) fun v h2 k2 hv => ?_
    subst hv
    conv => whnf
    refine ⟨k1.trans k2, ?_⟩
    rw [if_pos (.inl hn)]
    unfold bytesB
    rw [if_pos hn]
  · have hn : ¬ n = -1 := by simpa [usedB] using hd
    conv => whnf
    refine CallR.i (block_spec (A.on k1) n) fun v h2 k2 hv => ?_
    rcases hv with ⟨q1, q2, b6, rfl, q3, q4, o6⟩ | ⟨q1, rfl⟩
    · conv => whnf
      refine IfR.f rfl ?_
      have S := Sl.of1' (α := UInt64) (xs := rdL X.now (1288 + n * 16) 16) (n := 16) o6 (by simp [One.ok]) (by simp [rdL]) (by simp [rdL])
      conv => whnf
      refine CallR.i (untext_spec S 128 (by decide) (by decide)) fun v h3 k3 hv => ?_
      subst hv
      conv => whnf
      refine ⟨k1.trans (k2.trans k3), ?_⟩
      rw [if_pos (.inr ⟨q1, q2⟩)]
      unfold bytesB
      rw [if_neg hn]
    · conv => whnf
      refine IfR.t rfl ?_
      conv => whnf
      refine ⟨k1.trans k2, ?_⟩
      rw [if_neg (by rintro (h | h); exact hn h; exact q1 h)]

theorem putB_spec {h : Heap} {V : VL} {M : MemS} {X : VS} (A : At h V M X) (n : Int) (s : ByteArray) (hs : s.size ≤ 128) : CallH Tryz.prog 42 [.pointer (some ⟨V.v, 0, none⟩), .int .i64 n, .string s] h (fun v h' => Keeps [V.ob] h h' ∧
    v = .int .i64 (if 0 ≤ n ∧ n < 96 then 0 else 1) ∧ At h' V M (if 0 ≤ n ∧ n < 96 then { X with now := putBlk X.now n (textL s.data.toList 16) } else X)) := by
  refine call_of hmix Tryz.func42 rfl ok42 (by simp [Tryz.f42]) ?_
  conv => whnf
  refine CallR.i (text_spec s 16 h (by decide) (by omega)) fun v h1 k1 hv => ?_
  obtain ⟨b, rfl, q1, q2, o1⟩ := hv
  have A1 := A.on k1
  have hob := A.blt V.ob (by simp [VL.blocks])
  conv => whnf
  refine IfR.f rfl ?_
  have S := Sl.of1' (α := UInt64) (xs := textL s.data.toList 16) (n := 16) o1 (by simp [One.ok]) (by simp [textL]) (by simp [textL])
  conv => whnf
  refine CallR.m (setBlock_spec A1 n S (by simp [blkA]; omega)) (by simp [blocksOf]) fun v h2 k2 hv => ?_
  obtain ⟨rfl, A2⟩ := hv
  conv => whnf
  refine ⟨(k1.mono (by simp)).trans k2, ?_⟩
  by_cases hn : 0 ≤ n ∧ n < 96
  · have hn3 : 0 ≤ n ∧ n < 96 ∧ 16 ≤ 16 := ⟨hn.1, hn.2, Nat.le_refl _⟩
    rw [if_pos hn3] at A2
    rw [if_pos hn3, if_pos hn, if_pos hn]
    exact ⟨rfl, A2⟩
  · have hn3 : ¬ (0 ≤ n ∧ n < 96 ∧ 16 ≤ 16) := fun h => hn ⟨h.1, h.2.1⟩
    rw [if_neg hn3] at A2
    rw [if_neg hn3, if_neg hn, if_neg hn]
    exact ⟨rfl, A2⟩

theorem may_spec {v0 : Nat} (node : Int) (h : Heap) : CallH Tryz.prog 38 [.pointer (some ⟨v0, 0, none⟩), .int .i64 node] h (fun v h' => Keeps [] h h' ∧ v = .int .i64 (if 0 ≤ node ∧ node < 24 then 0 else 1)) := by
  refine call_of hmix Tryz.func38 rfl ok38 (by simp [Tryz.f38]) ?_
  conv => whnf
  refine CallR.i (cardAt_spec node h) fun v h1 k1 hv => ?_
  subst hv
  conv => whnf
  first | refine IfR.f rfl ?_ | (refine MeetR.pass ?_; (conv => whnf); refine IfR.f rfl ?_)
  conv => whnf
  exact ⟨k1, rfl⟩
theorem over_spec (n : Nat) (hn : n ≤ 1000000) (h : Heap) : CallH Tryz.prog 39 [.int .i64 (n : Int)] h (fun v h' => Keeps [] h h' ∧ v = .int .i64 (((n + 127) / 128 : Nat) : Int)) := by
  refine call_of hmix Tryz.func39 rfl ok39 (by simp [Tryz.f39]) ?_
  conv => whnf
  refine Need.i (by decide) ?_
  conv => whnf
  refine ⟨Keeps.refl _ _, ?_⟩
  rw [wrapN (x := (n : Int) + 128) (n := n + 128) (by simp) (by omega), wrapN (x := ((n + 128 : Nat) : Int) - 1) (n := n + 127) (by omega) (by omega)]
  have : ((n + 127 : Nat) : Int).tdiv 128 = (((n + 127) / 128 : Nat) : Int) := by rw [Int.tdiv_eq_ediv_of_nonneg (by omega)]; omega
  rw [this, wrapN (n := (n + 127) / 128) rfl (by omega)]
end Go.Proofs.YtlloemmpnhoanaaGreat
