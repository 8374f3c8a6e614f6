/-
  Find: the data, and the functions that only read.
-/
import Derived.Test.YtegagciipigkbaaEngL
import Derived.Test.YtegagciipigkbaaCfg
set_option linter.all false
namespace Go.Proofs.Ytegagciipigkbaa
open Go Go.Eng

structure Ent where
  name : ByteArray
  node : Int

structure Nd where
  id : Int
  kind : Int
  links : Int
  data : ByteArray
  names : List Ent

structure Spot where
  path : ByteArray
  name : ByteArray
  deep : Int
  node : Nd

instance : Rp Ent where
  n := 2
  rep _ vs x := vs = [.string x.name, .int .i64 x.node] ∧ okStr x.name ∧ inI64 x.node
  len h := by rw [h.1]; rfl
  keep _ h := h

instance : Rp Nd where
  n := 5
  rep h vs x := ∃ a n c, vs = [.int .i64 x.id, .int .i64 x.kind, .int .i64 x.links, .string x.data, .slice a n c] ∧ (inI64 x.id ∧ inI64 x.kind ∧ inI64 x.links ∧ okStr x.data) ∧ Sl h a n c x.names
  len h := by obtain ⟨a, n, c, h, _⟩ := h; rw [h]; rfl
  keep k h := by obtain ⟨a, n, c, h1, h2, h3⟩ := h; exact ⟨a, n, c, h1, h2, h3.keep k⟩

instance : Rp Spot where
  n := 8
  rep h vs x := ∃ a n c, vs = [.string x.path, .string x.name, .int .i64 x.deep, .int .i64 x.node.id, .int .i64 x.node.kind, .int .i64 x.node.links, .string x.node.data, .slice a n c] ∧
    (okStr x.path ∧ okStr x.name ∧ inI64 x.deep ∧ inI64 x.node.id ∧ inI64 x.node.kind ∧ inI64 x.node.links ∧ okStr x.node.data) ∧ Sl h a n c x.node.names
  len h := by obtain ⟨a, n, c, h, _⟩ := h; rw [h]; rfl
  keep k h := by obtain ⟨a, n, c, h1, h2, h3⟩ := h; exact ⟨a, n, c, h1, h2, h3.keep k⟩

structure Wnt where
  kind : Int
  least : Int
  most : Int
  links : Int
  name : ByteArray

instance : Rp Wnt where
  n := 5
  rep _ vs x := vs = [.int .i64 x.kind, .int .i64 x.least, .int .i64 x.most, .int .i64 x.links, .string x.name] ∧ inI64 x.kind ∧ inI64 x.least ∧ inI64 x.most ∧ inI64 x.links ∧ okStr x.name
  len h := by rw [h.1]; rfl
  keep _ h := h

def sizeP (n : Nd) : Int := if n.kind = 2 then (n.names.length : Int) else n.data.size

def wantsP (w : Wnt) (s : Spot) : Bool :=
  (decide (w.kind = 0) || decide (w.kind = s.node.kind)) && (decide (sizeP s.node ≥ w.least) && (decide (w.most < 0) || decide (sizeP s.node ≤ w.most))) && decide (s.node.links ≥ w.links) &&
    (decide (w.name = ⟨#[]⟩) || decide (w.name = s.name))

def headP (s p : ByteArray) : Bool := decide (p.size ≤ s.size) && decide (s.extract 0 p.size = p)

theorem size_spec (id kind links : Int) (data : ByteArray) (b : Option Addr) (n c : Nat) (h : Heap) :
    CallH Try.prog 25 [.agg ⟨[.int .i64 id, .int .i64 kind, .int .i64 links, .string data, .slice b n c]⟩] h
      (fun v h' => Keeps [] h h' ∧ v = .int .i64 (if kind = 2 then (n : Int) else data.size)) := by
  refine call_of hmix Try.func25 rfl ok25 (by simp [Try.f25]) ?_
  conv => whnf
  refine AllocR.i fun b1 h1 e1 s1 o1 k1 => ?_
  conv => whnf
  refine IfR.i (fun hc => ?_) (fun hc => ?_)
  · conv => whnf
    exact ⟨k1, by simp at hc; simp [hc]⟩
  · conv => whnf
    exact ⟨k1, by simp at hc; simp [hc]⟩

def belowP (l : List Nd) : Bool := l.any fun x => decide (x.links < 0)

theorem anyBelow_spec (l : List Nd) (a : Option Addr) (n c : Nat) (h : Heap) (S : Sl h a n c l) :
    CallH Try.prog 10 [.slice a n c] h (fun v h' => Keeps [] h h' ∧ v = .bool (belowP l)) := by
  refine call_of hmix Try.func10 rfl ok10 (by simp [Try.f10]) ?_
  conv => whnf
  refine LoopR.on [0, 3] [] (fun i : Nat => [(0, .v (.slice a n c)), (3, .v (.int .i64 (i : Int)))]) (fun _ => []) (fun i h' => h' = h ∧ i ≤ n ∧ (l.take i).any (fun x => decide (x.links < 0)) = false) (fun i => n - i) 0 ?_ ?_
  · conv => whnf
    exact ⟨0, rfl, rfl, rfl, rfl, by omega, by simp⟩
  · rintro i h ⟨rfl, hi, hb⟩
    conv => whnf
    refine IfR.i (fun hc => ?_) (fun hc => ?_)
    · have hi' : i < l.length := by simp at hc; have := S.hlen; omega
      obtain ⟨b, off, ha, cs, hr, hcs⟩ := S.at_ i hi'
      obtain ⟨a', n', c', rfl, ⟨_, _, hlk, _⟩, _⟩ := hr
      conv => whnf
      refine IdxS.i i rfl (by simpa using hc) ha ?_
      conv => whnf
      refine LoadR.i (hcs 2 (by simp)) ?_
      conv => whnf
      have hany : (l.take (i + 1)).any (fun x => decide (x.links < 0)) = decide (l[i].links < 0) := by
        rw [List.take_succ_eq_append_getElem hi', List.any_append, hb]; simp
      refine IfR.i (fun hc2 => ?_) (fun hc2 => ?_)
      · conv => whnf
        refine ⟨Keeps.refl _ _, ?_⟩
        have : belowP l = true := by
          unfold belowP
          exact List.any_eq_true.2 ⟨l[i], by simp, hc2⟩
        rw [this]
      · conv => whnf
        refine ⟨n - (i + 1), by have := S.hlen; omega, ?_⟩
        conv => whnf
        exact ⟨i + 1, rfl, by rw [wrapN (n := i + 1) (by simp) (by have := S.hbig; omega)], rfl, rfl, by have := S.hlen; omega, by rw [hany]; exact hc2⟩
    · conv => whnf
      refine ⟨Keeps.refl _ _, ?_⟩
      have : i = l.length := by simp at hc; have := S.hlen; omega
      subst this
      simp at hb
      simp [belowP]
      exact hb

theorem true_spec (x : List Value) (h : Heap) : CallH Try.prog 18 [.agg ⟨x⟩] h (fun v h' => Keeps [] h h' ∧ v = .bool true) := by
  refine call_of hmix Try.func18 rfl ok18 (by simp [Try.f18]) ?_
  conv => whnf
  refine AllocR.i fun b1 h1 e1 s1 o1 k1 => ?_
  conv => whnf
  exact ⟨k1, rfl⟩

theorem lite_spec (s p : ByteArray) (h : Heap) : CallH Try.prog 24 [.string s, .string p] h (fun v h' => Keeps [] h h' ∧ v = .bool (headP s p)) := by
  refine call_of hmix Try.func24 rfl ok24 (by simp [Try.f24]) ?_
  conv => whnf
  refine SliceR.u 0 p.size (fun hc => ⟨rfl, rfl, Nat.zero_le _, by simpa using hc⟩) ?_
  conv => whnf
  exact ⟨Keeps.refl _ _, by simp only [headP, toList_beq, bif_and]; simp⟩

theorem head_spec (s p : ByteArray) (h : Heap) : CallH Try.prog 20 [.string s, .string p] h (fun v h' => Keeps [] h h' ∧ v = .bool (headP s p)) := by
  refine call_of hmix Try.func20 rfl ok20 (by simp [Try.f20]) ?_
  conv => whnf
  refine CallR.i (lite_spec s p _) fun v h1 k1 hv => ?_
  subst hv
  conv => whnf
  exact ⟨k1, rfl⟩

theorem wants_spec (w : Wnt) (wc : List Value) (x : Spot) (xc : List Value) (h : Heap) (hw : rep h wc w) (hx : rep h xc x) : CallH Try.prog 21 [.agg ⟨wc⟩, .agg ⟨xc⟩] h (fun v h' => Keeps [] h h' ∧ v = .bool (wantsP w x)) := by
  obtain ⟨rfl, w1, w2, w3, w4, w5⟩ := hw
  obtain ⟨a, n, c, rfl, ⟨x1, x2, x3, x4, x5, x6, x7⟩, hS⟩ := hx
  refine call_of hmix Try.func21 rfl ok21 (by simp [Try.f21]) ?_
  conv => whnf
  refine AllocR.i fun b1 h1 e1 s1 o1 k1 => ?_
  conv => whnf
  refine AllocR.i fun b2 h2 e2 s2 o2 k2 => ?_
  conv => whnf
  refine CallR.i (size_spec _ _ _ _ _ _ _ _) fun v h3 k3 hv => ?_
  subst hv
  conv => whnf
  refine ⟨k1.trans (k2.trans k3), ?_⟩
  have hn := hS.hlen
  subst hn
  simp only [wantsP, sizeP, toList_beq, intBeq, bif_and, bif_or]
  rfl

theorem same_spec (xs ys : List ByteArray) (a : Option Addr) (n c : Nat) (a' : Option Addr) (n' c' : Nat) (h : Heap) (S : Sl h a n c xs) (S' : Sl h a' n' c' ys) :
    CallH Try.prog 13 [.slice a n c, .slice a' n' c'] h (fun v h' => Keeps [] h h' ∧ v = .bool (decide (xs = ys))) := by
  refine call_of hmix Try.func13 rfl ok13 (by simp [Try.f13]) ?_
  conv => whnf
  refine IfR.i (fun hc => ?_) (fun hc => ?_)
  · conv => whnf
    refine ⟨Keeps.refl _ _, ?_⟩
    have hne : xs ≠ ys := by
      rintro rfl
      have h1 := S.hlen
      have h2 := S'.hlen
      simp at hc; omega
    simp [hne]
  · conv => whnf
    have hl : ys.length = xs.length := by
      have h1 := S.hlen
      have h2 := S'.hlen
      simp at hc; omega
    refine LoopR.on [0, 1, 5] [] (fun i : Nat => [(0, .v (.slice a n c)), (1, .v (.slice a' n' c')), (5, .v (.int .i64 (i : Int)))]) (fun _ => []) (fun i h' => h' = h ∧ i ≤ n ∧ ∀ j (hj : j < xs.length) (hj' : j < ys.length), j < i → xs[j] = ys[j]) (fun i => n - i) 0 ?_ ?_
    · conv => whnf
      exact ⟨0, rfl, rfl, rfl, rfl, by omega, by omega⟩
    · rintro i h ⟨rfl, hi, hb⟩
      have h1 := S.hlen
      have h2 := S'.hlen
      have h3 := S.hbig
      conv => whnf
      refine IfR.i (fun hc => ?_) (fun hc => ?_)
      · have hi1 : i < xs.length := by simp at hc; omega
        have hi2 : i < ys.length := by omega
        obtain ⟨b, off, ha, cs, ⟨rfl, _⟩, hcs⟩ := S.at_ i hi1
        obtain ⟨b', off', ha', cs', ⟨rfl, _⟩, hcs'⟩ := S'.at_ i hi2
        conv => whnf
        refine IdxS.i i rfl (by omega) ha ?_
        conv => whnf
        refine LoadR.i (hcs 0 (by simp)) ?_
        conv => whnf
        refine IdxS.i i rfl (by omega) ha' ?_
        conv => whnf
        refine LoadR.i (hcs' 0 (by simp)) ?_
        conv => whnf
        refine IfR.i (fun hd => ?_) (fun hd => ?_)
        · conv => whnf
          refine ⟨Keeps.refl _ _, ?_⟩
          have hne : xs ≠ ys := by
            rintro rfl
            simp at hd
          simp [hne]
        · conv => whnf
          refine ⟨n - (i + 1), by omega, ?_⟩
          conv => whnf
          refine ⟨i + 1, rfl, by rw [wrapN (n := i + 1) (by simp) (by omega)], rfl, rfl, by omega, ?_⟩
          intro j hj hj' hji
          rcases Nat.lt_succ_iff_lt_or_eq.1 hji with h | rfl
          · exact hb j hj hj' h
          · simpa [toList_beq] using hd
      · conv => whnf
        refine ⟨Keeps.refl _ _, ?_⟩
        have hi' : i = xs.length := by simp at hc; omega
        have : xs = ys := List.ext_getElem (by omega) fun j hj hj' => hb j hj hj' (by omega)
        simp [this]

/-- a byte of a text -/
def bAt (s : ByteArray) (i : Nat) : Int := byteN s i

def okC (c : Int) : Bool := (decide (c ≥ 97) && decide (c ≤ 122)) || (decide (c ≥ 48) && decide (c ≤ 57)) || decide (c = 46) || decide (c = 45) || decide (c = 95)
def rightP (s : ByteArray) : Bool := (List.range s.size).all (fun i => okC (bAt s i)) && (decide (1 ≤ s.size) && decide (s.size ≤ 14) && decide (s ≠ ⟨#[46]⟩) && decide (s ≠ ⟨#[46, 46]⟩))

theorem right_spec (s : ByteArray) (h : Heap) (hs : okStr s) : CallH Try.prog 15 [.string s] h (fun v h' => Keeps [] h h' ∧ v = .bool (rightP s)) := by
  refine call_of hmix Try.func15 rfl ok15 (by simp [Try.f15]) ?_
  conv => whnf
  refine LoopR.on [0, 3] [] (fun i : Nat => [(0, .v (.string s)), (3, .v (.int .i64 (i : Int)))]) (fun _ => []) (fun i h' => h' = h ∧ i ≤ s.size ∧ (List.range i).all (fun i => okC (bAt s i)) = true) (fun i => s.size - i) 0 ?_ ?_
  · conv => whnf
    exact ⟨0, rfl, rfl, rfl, rfl, by omega, rfl⟩
  · rintro i h ⟨rfl, hi, hb⟩
    have hs' : s.size ≤ 140737488351232 := hs
    conv => whnf
    refine IfR.i (fun hc => ?_) (fun hc => ?_)
    · have hi1 : i < s.size := by simpa using hc
      conv => whnf
      refine IdxR.i i rfl hi1 ?_
      conv => whnf
      have hk : (bif bif bif bif !bif decide (byteN s i ≥ 97) then decide (byteN s i ≤ 122) else false then !bif decide (byteN s i ≥ 48) then decide (byteN s i ≤ 57) else false else false then byteN s i != 46 else false then byteN s i != 45 else false then byteN s i != 95 else false) = !okC (bAt s i) := by
        simp only [okC, bAt, bif_and, bne, intBeq, Bool.not_or]
        rfl
      refine IfR.i (fun hd => ?_) (fun hd => ?_)
      · conv => whnf
        refine ⟨Keeps.refl _ _, ?_⟩
        have hk' := hk.symm.trans hd
        have : rightP s = false := by
          unfold rightP
          rw [Bool.and_eq_false_iff]
          left
          rw [List.all_eq_false]
          exact ⟨i, by simpa using hi1, by simpa using hk'⟩
        rw [this]
      · conv => whnf
        refine ⟨s.size - (i + 1), by omega, ?_⟩
        conv => whnf
        refine ⟨i + 1, rfl, by rw [wrapN (n := i + 1) (by simp) (by omega)], rfl, rfl, by omega, ?_⟩
        have hk' := hk.symm.trans hd
        rw [List.range_succ, List.all_append, hb]
        simpa using hk'
    · conv => whnf
      have hi1 : i = s.size := by simp at hc; omega
      subst hi1
      refine ⟨Keeps.refl _ _, ?_⟩
      unfold rightP
      rw [hb, Bool.true_and]
      simp only [toList_beq, bif_and, decide_not, Int.ofNat_le, ge_iff_le]
      rw [show (14 : Int) = ((14 : Nat) : Int) from rfl, show (1 : Int) = ((1 : Nat) : Int) from rfl]
      simp only [Int.ofNat_le]

theorem ahead_spec (s t : ByteArray) (h : Heap) (hs : okStr s) (ht : okStr t) : CallH Try.prog 16 [.string s, .string t] h (fun v h' => Keeps [] h h' ∧ ∃ b, v = .bool b) := by
  refine call_of hmix Try.func16 rfl ok16 (by simp [Try.f16]) ?_
  conv => whnf
  refine LoopR.on [0, 1, 5] [] (fun i : Nat => [(0, .v (.string s)), (1, .v (.string t)), (5, .v (.int .i64 (i : Int)))]) (fun _ => []) (fun i h' => h' = h ∧ i ≤ s.size) (fun i => s.size - i) 0 ?_ ?_
  · conv => whnf
    exact ⟨0, rfl, rfl, rfl, rfl, by omega⟩
  · rintro i h ⟨rfl, hi⟩
    have hs' : s.size ≤ 140737488351232 := hs
    conv => whnf
    refine IfR.i (fun hc => ?_) (fun hc => ?_)
    · simp [bif_and] at hc
      conv => whnf
      refine IdxR.i i rfl hc.1 ?_
      conv => whnf
      refine IdxR.i i rfl hc.2 ?_
      conv => whnf
      refine IfR.i (fun hd => ?_) (fun hd => ?_)
      · conv => whnf
        refine IdxR.i i rfl hc.1 ?_
        conv => whnf
        refine IdxR.i i rfl hc.2 ?_
        conv => whnf
        exact ⟨Keeps.refl _ _, _, rfl⟩
      · conv => whnf
        refine ⟨s.size - (i + 1), by omega, ?_⟩
        conv => whnf
        exact ⟨i + 1, rfl, by rw [wrapN (n := i + 1) (by simp) (by omega)], rfl, rfl, by omega⟩
    · conv => whnf
      exact ⟨Keeps.refl _ _, _, rfl⟩
end Go.Proofs.Ytegagciipigkbaa
