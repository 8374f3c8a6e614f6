/-
  Reference 8's views; reference 10's maps; the law's own check that the program lives.
-/
import Derived.Test.YtlloemmpnhoanaaBodyP
set_option linter.all false
set_option maxRecDepth 100000
set_option maxHeartbeats 1000000
namespace Go.Proofs.Ytlloemmpnhoanaa
open Go Go.Eng

/-- where reference 8's view has its words -/
def RefV (h : Heap) (p : Nat) (ws : List UInt64) : Prop := ∃ a n c, Heap.cell? h p 1 = some (.slice a n c) ∧ Sl h a n c ws
theorem RefV.on {h h' : Heap} {p : Nat} {ws : List UInt64} (R : RefV h p ws) (k : Keeps [] h h') : RefV h' p ws := by
  obtain ⟨a, n, c, h1, h2⟩ := R
  exact ⟨a, n, c, k.cell h1 (by simp), h2.keep k⟩

theorem refNew_spec {h : Heap} {b off n c : Nat} {ws : List UInt64} (S : Sl h (some ⟨b, off, none⟩) n c ws) (hn : n ≤ 1000000) : CallH Try.prog 11 [.slice (some ⟨b, off, none⟩) n c] h (fun v h' => Keeps [] h h' ∧ ∃ p, v = .pointer (some ⟨p, 0, none⟩) ∧ RefV h' p ws) := by
  have hl := S.hlen
  refine call_of hmix Try.func11 rfl ok11 (by simp [Try.f11]) ?_
  conv => whnf
  refine append_own (e := 23) (sz := 1) (by_ := 8) (new := ws.map wv) rfl rfl rfl rfl rfl rfl rfl (Own.nil h _ 1) (by simp [hl]) (S.cells1) (allOne_wv _) (by omega) (by decide) (by simp [blkA]) ?_
  intro a1 c1 h1 O1 k1 n1
  conv => whnf
  have k1' : Keeps [] h h1 := k1
  refine append_own (e := 23) (sz := 1) (by_ := 8) (new := ws.map wv) rfl rfl rfl rfl rfl rfl rfl (Own.nil h1 _ 1) (by simp [hl]) ((S.keep k1').cells1) (allOne_wv _) (by omega) (by decide) (by simp [blkA]) ?_
  intro a2 c2 h2 O2 k2 n2
  have k2' : Keeps [] h1 h2 := k2
  conv => whnf
  refine AllocR.i fun b3 h3 e3 s3 o3 k3 => ?_
  conv => whnf
  refine ⟨k1'.trans (k2'.trans k3), b3, rfl, a2, n, c2, ?_, ?_⟩
  · simp only [Heap.cell?, o3]
    rw [Nat.zero_add]; rfl
  · rw [Nat.zero_add, List.nil_append] at O2
    exact (O2.sl (reps_w h2 _) rfl (by decide) (by omega)).keep k3

def rdR (ws : List UInt64) (i : Int) : UInt64 := if 0 ≤ i ∧ i < ws.length then ws[i.toNat]?.getD 0 else 0

theorem refRead_spec {h : Heap} {p : Nat} {ws : List UInt64} (R : RefV h p ws) (i : Int) : CallH Try.prog 37 [.pointer (some ⟨p, 0, none⟩), .int .i64 i] h (fun v h' => Keeps [] h h' ∧ v = wv (rdR ws i)) := by
  obtain ⟨a, n, c, hc, S⟩ := R
  have hl := S.hlen
  refine call_of hmix Try.func37 rfl ok37 (by simp [Try.f37]) ?_
  conv => whnf
  refine LoadR.u (.slice a n c) (fun _ => hc) ?_
  conv => whnf
  refine IfR.i (fun hd => ?_) (fun hd => ?_)
  · conv => whnf
    have : ¬ (0 ≤ i ∧ i < ws.length) := by simp [bif_or] at hd; omega
    exact ⟨Keeps.refl _ _, by unfold rdR; rw [if_neg this]; rfl⟩
  · have hb : 0 ≤ i ∧ i < ws.length := by simp [bif_or] at hd; omega
    conv => whnf
    refine LoadR.i hc ?_
    obtain ⟨b, off, hb2, _, hcell⟩ := S.at1 i.toNat (by omega)
    conv => whnf
    refine IdxS.i i.toNat (by omega) (by omega) hb2 ?_
    conv => whnf
    refine LoadR.i hcell ?_
    conv => whnf
    refine ⟨Keeps.refl _ _, ?_⟩
    unfold rdR
    rw [if_pos hb]
    have : i.toNat < ws.length := by omega
    simp [this]; rfl

/-- reference 10's map: nothing where a word is too great; else a map, and whether it may be -/
def refMap (ws : List UInt64) (c : Crd) : Option (List Int × Bool) :=
  if c.more < 0 then some (c.direct ++ List.replicate 16 (-1), true)
  else if (rdL (rdR ws) (1288 + 16 * c.more) 16).all (fun w => decide (w.toNat ≤ 96)) = true then some (c.direct ++ (rdL (rdR ws) (1288 + 16 * c.more) 16).map convW, (rdL (rdR ws) (1288 + 16 * c.more) 16).any fun w => decide (0 < w.toNat))
  else none

theorem one_append {h : Heap} {a : Option Addr} {len cap : Nat} {l : List Int} (O : Own h 3 1 a len cap (l.map fun x => .int .i64 x)) (hl : len = l.length) (hb : l.length ≤ 1000) {b : Nat} {x : Int} (o : h[b]? = some (.cells ⟨[.int .i64 x]⟩ 3 (0, 0))) {bs : List Nat} (hbs : ∀ b ∈ blkA a, b ∉ bs) {ty : TypeId} {K : Value → Heap → Prop}
    (H : ∀ a' cap' h', Own h' 3 1 a' (len + 1) cap' ((l ++ [x]).map fun x => .int .i64 x) → Keeps (blkA a) h h' → (∀ b ∈ blkA a', b ∈ blkA a ∨ h.size ≤ b) → K (.slice a' (len + 1) cap') h') :
    SemR Try.prog (Builtin.append_ #[27, 27] ty ⟨[.slice a len cap, .slice (some ⟨b, 0, none⟩) 1 1]⟩) bs h K := by
  refine append_own (e := 3) (sz := 1) (by_ := 8) (new := [.int .i64 x]) rfl rfl rfl rfl rfl rfl rfl O rfl (fun j hj => ?_) rfl (by omega) (by decide) hbs ?_
  · have hj0 : j = 0 := by simpa using hj
    subst hj0
    simp only [Heap.cell?, o]; rfl
  intro a' c' h' O' k' n'
  exact H a' c' h' (by rw [List.map_append]; exact O') k' n'

theorem refMap_spec {h : Heap} {p : Nat} {ws : List UInt64} (R : RefV h p ws) (c : Crd) (hc : c.ok) (hm : c.more ≤ 1000000) : CallH Try.prog 13 [.pointer (some ⟨p, 0, none⟩), .agg ⟨c.cells⟩] h (fun v h' => Keeps [] h h' ∧
    match refMap ws c with
    | some (m, ok) => ∃ a n cap, v = .tuple #[.slice a n cap, .bool ok] ∧ Sl h' a n cap m
    | none => v = .tuple #[.slice none 0 0, .bool false]) := by
  refine call_of hmix Try.func13 rfl ok13 (by simp [Try.f13]) ?_
  conv => whnf
  refine AllocR.i fun b1 h1 e1 s1 o1 k1 => ?_
  conv => whnf
  refine LoopR.on [0, 3, 6, 7] [3] (fun q : Nat × Option Addr × Nat => [(0, .v (.pointer (some ⟨p, 0, none⟩))), (3, .lp 3 0), (6, .v (.slice q.2.1 q.1 q.2.2)), (7, .v (.int .i64 (q.1 : Int)))]) (fun _ => [(3, b1, c.cells)])
    (fun q h' => q.1 ≤ 5 ∧ Keeps [] h h' ∧ h1.size ≤ h'.size ∧ Own h' 3 1 q.2.1 q.1 q.2.2 ((c.direct.take q.1).map fun x => .int .i64 x) ∧ ∀ b ∈ blkA q.2.1, h1.size ≤ b) (fun q => 5 - q.1) (0, none, 0) ?_ ?_
  · conv => whnf
    exact ⟨(0, none, 0), rfl, rfl, rfl, by decide, k1, Nat.le_refl _, .inl ⟨rfl, rfl, rfl, rfl⟩, by simp [blkA]⟩
  · rintro ⟨i, a, ca⟩ h2 ⟨hi, k2, z2, O2, n2⟩
    simp only at hi O2 n2
    conv => whnf
    refine IfR.i (fun hd => ?_) (fun hd => ?_)
    · have hi1 : i < c.direct.length := by show i < 5; simp at hd; omega
      have hi5 : i < 5 := hi1
      conv => whnf
      first | refine IdxR.i i rfl hi1 ?_ | (refine MeetR.pass ?_; (conv => whnf); refine IdxR.i i rfl hi1 ?_)
      conv => whnf
      refine NthR.i (v := .int .i64 c.direct[i]) ?_ ?_
      · have : i = 0 ∨ i = 1 ∨ i = 2 ∨ i = 3 ∨ i = 4 := by omega
        rcases this with rfl | rfl | rfl | rfl | rfl <;> rfl
      conv => whnf
      refine AllocR.i fun b3 h3 e3 s3 o3 k3 => ?_
      conv => whnf
      refine one_append (O2.keep k3 (by simp)) (by simp; show i = min i 5; omega) (by simp; show min i 5 ≤ 1000; omega) o3 (fun b hb hx => ?_) fun a4 c4 h4 O4 k4 n4 => ?_
      · have hb2 : b ∈ [b1] := hx
        have := n2 b hb
        simp at hb2; omega
      conv => whnf
      refine ⟨5 - (i + 1), by omega, ?_⟩
      conv => whnf
      have z4 := k4.size
      refine ⟨(i + 1, a4, c4), rfl, by simp only; rw [wrapN (x := (i : Int) + 1) (n := i + 1) (by simp) (by omega)], rfl, by simp only; omega, (k2.trans k3).nil_of k4 (fun x hx => by have := n2 x hx; omega), by omega, ?_, fun b hb => ?_⟩
      · simp only
        rw [List.take_succ_eq_append_getElem hi1]; exact O4
      · rcases n4 b hb with h | h
        · exact n2 b h
        · omega
    · have hi1 : i = 5 := by simp at hd; omega
      subst hi1
      have hd5 : c.direct.take 5 = c.direct := rfl
      rw [hd5] at O2
      -- the words behind
      let wf : Nat → UInt64 := fun j => if 0 ≤ c.more then rdR ws (1288 + 16 * c.more + (j : Int)) else 0
      let W : Nat → List UInt64 := fun j => (List.range j).map wf
      have Wl : ∀ j, (W j).length = j := fun j => by simp [W]
      have Ws : ∀ j, W (j + 1) = W j ++ [wf j] := fun j => by simp [W, List.range_succ]
      have hW : 0 ≤ c.more → W 16 = rdL (rdR ws) (1288 + 16 * c.more) 16 := by
        intro h0
        simp only [W, rdL, wf, if_pos h0]
      have hW2 : ¬ 0 ≤ c.more → W 16 = List.replicate 16 0 := by
        intro h0
        simp only [W, wf, if_neg h0]; rfl
      conv => whnf
      first | refine LoopR.on [0, 3, 6, 8, 9] [3] (fun q : Nat × Option Addr × Nat => [(0, .v (.pointer (some ⟨p, 0, none⟩))), (3, .lp 3 0), (6, .v (.slice q.2.1 (5 + q.1) q.2.2)), (8, .v (.bool (decide (c.more < 0) || (W q.1).any fun w => decide (0 < w.toNat)))), (9, .v (.int .i64 (q.1 : Int)))]) (fun _ => [(3, b1, c.cells)]) (fun q h' => q.1 ≤ 16 ∧ Keeps [] h h' ∧ h1.size ≤ h'.size ∧ Own h' 3 1 q.2.1 (5 + q.1) q.2.2 ((c.direct ++ (W q.1).map convW).map fun x => .int .i64 x) ∧ (∀ b ∈ blkA q.2.1, h1.size ≤ b) ∧ (W q.1).all (fun w => decide (w.toNat ≤ 96)) = true) (fun q => 16 - q.1) (0, a, ca) ?_ ?_ | (refine MeetR.pass ?_; (conv => whnf); refine LoopR.on [0, 3, 6, 8, 9] [3] (fun q : Nat × Option Addr × Nat => [(0, .v (.pointer (some ⟨p, 0, none⟩))), (3, .lp 3 0), (6, .v (.slice q.2.1 (5 + q.1) q.2.2)), (8, .v (.bool (decide (c.more < 0) || (W q.1).any fun w => decide (0 < w.toNat)))), (9, .v (.int .i64 (q.1 : Int)))]) (fun _ => [(3, b1, c.cells)]) (fun q h' => q.1 ≤ 16 ∧ Keeps [] h h' ∧ h1.size ≤ h'.size ∧ Own h' 3 1 q.2.1 (5 + q.1) q.2.2 ((c.direct ++ (W q.1).map convW).map fun x => .int .i64 x) ∧ (∀ b ∈ blkA q.2.1, h1.size ≤ b) ∧ (W q.1).all (fun w => decide (w.toNat ≤ 96)) = true) (fun q => 16 - q.1) (0, a, ca) ?_ ?_)
      · conv => whnf
        refine ⟨(0, a, ca), rfl, ?_, rfl, by simp only; omega, k2, z2, by simpa [W] using O2, n2, rfl⟩
        simp [W]
      · rintro ⟨j, a, ca⟩ h4 ⟨hj, k4, z4, O4, n4, all4⟩
        simp only at hj O4 n4 all4
        conv => whnf
        refine IfR.i (fun he => ?_) (fun he => ?_)
        · have hj1 : j < 16 := by simp at he; omega
          have lenm : (c.direct ++ (W j).map convW).length = 5 + j := by simp [Wl, Crd.direct]; omega
          have hmore : -9223372036854775808 ≤ c.more := hc.2.2.2.2.1
          have wrap1 : (wf j).toNat ≤ 96 → IntKind.i64.wrap (IntKind.i64.wrap ((wf j).toNat : Int) - 1) = convW (wf j) := by
            intro h
            rw [wrapI (x := ((wf j).toNat : Int)) (by omega) (by omega), wrapI (by omega) (by omega)]; rfl
          have fin : (wf j).toNat ≤ 96 → ∀ hx : Heap, Keeps [] h hx → h1.size ≤ hx.size → Own hx 3 1 a (5 + j) ca ((c.direct ++ (W j).map convW).map fun x => .int .i64 x) → ∀ b3 h3, b3 = hx.size → h3.size = hx.size + 1 → Keeps [] hx h3 → ∀ a6 c6 h6, Own h6 3 1 a6 (5 + j + 1) c6 (((c.direct ++ (W j).map convW) ++ [convW (wf j)]).map fun x => .int .i64 x) → Keeps (blkA a) h3 h6 → (∀ b ∈ blkA a6, b ∈ blkA a ∨ h3.size ≤ b) →
              (j + 1) ≤ 16 ∧ Keeps [] h h6 ∧ h1.size ≤ h6.size ∧ Own h6 3 1 a6 (5 + (j + 1)) c6 ((c.direct ++ (W (j + 1)).map convW).map fun x => .int .i64 x) ∧ (∀ b ∈ blkA a6, h1.size ≤ b) ∧ (W (j + 1)).all (fun w => decide (w.toNat ≤ 96)) = true := by
            intro hle hx kx zx Ox b3 h3 e3 s3 k3 a6 c6 h6 O6 k6 n6
            have z6 := k6.size
            refine ⟨by omega, (kx.trans k3).nil_of k6 (fun x hx => by have := n4 x hx; omega), by omega, ?_, fun b hb => ?_, ?_⟩
            · have e : c.direct ++ (W (j + 1)).map convW = (c.direct ++ (W j).map convW) ++ [convW (wf j)] := by rw [Ws, List.map_append, List.append_assoc]; rfl
              rw [e]; exact O6
            · rcases n6 b hb with h | h
              · exact n4 b h
              · omega
            · rw [Ws, List.all_append, all4]
              simpa using hle
          conv => whnf
          first | refine IfR.i (fun hf => ?_) (fun hf => ?_) | (refine MeetR.pass ?_; (conv => whnf); refine IfR.i (fun hf => ?_) (fun hf => ?_))
          · have h0 : 0 ≤ c.more := by simpa using hf
            have ea : IntKind.i64.wrap (IntKind.i64.wrap (1288 + IntKind.i64.wrap (16 * c.more)) + (j : Int)) = 1288 + 16 * c.more + (j : Int) := by
              rw [wrapI (x := 16 * c.more) (by omega) (by omega), wrapI (x := 1288 + 16 * c.more) (by omega) (by omega), wrapI (by omega) (by omega)]
            conv => whnf
            rw [ea]
            refine CallR.i (refRead_spec (R.on k4) (1288 + 16 * c.more + (j : Int))) fun v h5 k5 hv => ?_
            subst hv
            have hw : rdR ws (1288 + 16 * c.more + (j : Int)) = wf j := by simp only [wf, if_pos h0]
            rw [hw]
            have z5 := k5.size
            conv => whnf
            refine IfR.i (fun hg => ?_) (fun hg => ?_)
            · have hgt : 96 < (wf j).toNat := by simp at hg; omega
              conv => whnf
              refine ⟨k4.trans k5, ?_⟩
              have : refMap ws c = none := by
                unfold refMap
                rw [if_neg (by omega), if_neg]
                intro hx
                rw [← hW h0] at hx
                have := List.all_eq_true.1 hx (wf j) (List.mem_map.2 ⟨j, by simpa using hj1, rfl⟩)
                simp at this; omega
              rw [this]
            · have hle : (wf j).toNat ≤ 96 := by simp at hg; omega
              conv => whnf
              refine AllocR.i fun b3 h3 e3 s3 o3 k3 => ?_
              conv => whnf
              rw [wrap1 hle] at *
              refine one_append ((O4.keep k5 (by simp)).keep k3 (by simp)) lenm.symm (by omega) o3 (fun b hb hx => ?_) fun a6 c6 h6 O6 k6 n6 => ?_
              · have hb2 : b ∈ [b1] := hx
                have := n4 b hb
                simp at hb2; omega
              conv => whnf
              refine ⟨16 - (j + 1), by omega, ?_⟩
              conv => whnf
              refine ⟨(j + 1, a6, c6), rfl, ?_, rfl, fin hle h5 (k4.trans k5) (by omega) (O4.keep k5 (by simp)) b3 h3 e3 s3 k3 a6 c6 h6 O6 k6 n6⟩
              simp only
              rw [wrapN (x := (j : Int) + 1) (n := j + 1) (by simp) (by omega), Ws, List.any_append, bif_or]
              simp [Bool.or_assoc, Nat.add_assoc]
          · have h0 : ¬ 0 ≤ c.more := by simp at hf; omega
            have hw : wf j = 0 := by simp only [wf, if_neg h0]
            have hle : (wf j).toNat ≤ 96 := by rw [hw]; decide
            conv => whnf
            refine IfR.f rfl ?_
            conv => whnf
            refine AllocR.i fun b3 h3 e3 s3 o3 k3 => ?_
            conv => whnf
            have ec : IntKind.i64.wrap (IntKind.i64.wrap 0 - 1) = convW (wf j) := by rw [hw]; rfl
            refine one_append (O4.keep k3 (by simp)) lenm.symm (by omega) o3 (fun b hb hx => ?_) fun a6 c6 h6 O6 k6 n6 => ?_
            · have hb2 : b ∈ [b1] := hx
              have := n4 b hb
              simp at hb2; omega
            conv => whnf
            refine ⟨16 - (j + 1), by omega, ?_⟩
            conv => whnf
            refine ⟨(j + 1, a6, c6), rfl, ?_, rfl, fin hle h4 k4 z4 O4 b3 h3 e3 s3 k3 a6 c6 h6 (by rw [← ec]; exact O6) k6 n6⟩
            simp only
            rw [wrapN (x := (j : Int) + 1) (n := j + 1) (by simp) (by omega), Ws, List.any_append, bif_or]
            have hneg : c.more < 0 := by omega
            simp [hneg, Nat.add_assoc]
        · have hj1 : j = 16 := by simp at he; omega
          subst hj1
          conv => whnf
          refine ⟨k4, ?_⟩
          have okm : ∀ x ∈ c.direct ++ (W 16).map convW, inI64 x := by
            intro x hx
            rcases List.mem_append.1 hx with hx | hx
            · exact hc.2.2.2.1 x hx
            · obtain ⟨w, hw, rfl⟩ := List.mem_map.1 hx
              have := List.all_eq_true.1 all4 w hw
              simp at this
              unfold convW inI64; omega
          have lenm : (c.direct ++ (W 16).map convW).length = 21 := by simp [Wl, Crd.direct]
          have SM := O4.sl (reps_ints h4 _ okm) rfl (by decide) (by omega)
          by_cases h0 : 0 ≤ c.more
          · have : refMap ws c = some (c.direct ++ (W 16).map convW, (W 16).any fun w => decide (0 < w.toNat)) := by
              unfold refMap
              rw [if_neg (by omega), ← hW h0, if_pos all4]
            rw [this]
            refine ⟨a, 21, ca, ?_, SM⟩
            have : decide (c.more < 0) = false := by simp; omega
            rw [this]; rfl
          · have : refMap ws c = some (c.direct ++ (W 16).map convW, true) := by
              unfold refMap
              rw [if_pos (by omega), hW2 h0]; rfl
            rw [this]
            refine ⟨a, 21, ca, ?_, SM⟩
            have : decide (c.more < 0) = true := by simp; omega
            rw [this]; rfl
end Go.Proofs.Ytlloemmpnhoanaa
