/-
  Find: the paths of a tree.
-/
import Derived.Test.YtegagciipigkbaaFindB
import Derived.Test.YtegagciipigkbaaEngN
set_option linter.all false
namespace Go.Proofs.Ytegagciipigkbaa
open Go Go.Eng

def noNd : Nd := ⟨0, 0, 0, ⟨#[]⟩, []⟩

/-- a node by its number -/
def lookN : List Nd → Int → Option Nd
  | [], _ => none
  | n :: l, k => if k = n.id then some n else lookN l k
def getN (l : List Nd) (k : Int) : Nd := (lookN l k).getD noNd

/-- a map's entries are these nodes -/
def NMs (h : Heap) : List (Int × Value) → List Nd → Prop
  | [], [] => True
  | (k, v) :: m, n :: N => k = n.id ∧ (∃ cs, v = .agg ⟨cs⟩ ∧ rep h cs n) ∧ NMs h m N
  | _, _ => False

theorem noNd_rep (h : Heap) : rep h [.int .i64 0, .int .i64 0, .int .i64 0, .string ⟨#[]⟩, .slice none 0 0] noNd :=
  ⟨none, 0, 0, rfl, ⟨by unfold inI64; simp [noNd], by unfold inI64; simp [noNd], by unfold inI64; simp [noNd], by unfold okStr; exact Nat.zero_le _⟩, Sl.nil⟩

theorem NMs.look {h : Heap} : ∀ {m : List (Int × Value)} {N : List Nd}, NMs h m N → ∀ k, (lookN N k = none ∧ lookI m k = none) ∨ ∃ n cs, lookN N k = some n ∧ lookI m k = some (.agg ⟨cs⟩) ∧ rep h cs n
  | [], [], _, k => .inl ⟨rfl, rfl⟩
  | (k', v) :: m, n :: N, h1, k => by
    obtain ⟨rfl, ⟨cs, rfl, h2⟩, h3⟩ := h1
    simp only [lookN, lookI]
    by_cases hk : k = n.id
    · right; exact ⟨n, cs, by simp [hk], by simp [hk], h2⟩
    · simpa [hk] using h3.look k

theorem NMs.put {h : Heap} : ∀ {m : List (Int × Value)} {N : List Nd}, NMs h m N → ∀ n cs, lookN N n.id = none → rep h cs n → NMs h (putI m n.id (.agg ⟨cs⟩)) (N ++ [n])
  | [], [], _, n, cs, _, hr => ⟨rfl, ⟨cs, rfl, hr⟩, trivial⟩
  | (k', v) :: m, n' :: N, h1, n, cs, hn, hr => by
    obtain ⟨rfl, h2, h3⟩ := h1
    simp only [lookN] at hn
    split at hn
    · cases hn
    · rename_i hne
      simp only [putI, if_neg hne, List.cons_append]
      exact ⟨rfl, h2, h3.put n cs hn hr⟩

/-- a path below another -/
def childP (N : List Nd) (s : Spot) (x : Ent) : Spot := ⟨(if s.path = ⟨#[47]⟩ then ⟨#[]⟩ else s.path) ++ ⟨#[47]⟩ ++ x.name, x.name, s.deep + 1, getN N x.node⟩

def visitP (N : List Nd) : Nat → Spot → List Spot → List Spot
  | 0, _, acc => acc
  | F + 1, s, acc => if 500 ≤ acc.length then acc else if s.node.kind = 2 then s.node.names.foldl (fun acc x => visitP N F (childP N s x) acc) (acc ++ [s]) else acc ++ [s]

/-- what a finder has -/
structure Finder (h0 h : Heap) (fb r : Nat) (N : List Nd) (a : Option Addr) (len cap : Nat) (l : List Value) (acc : List Spot) : Prop where
  keep : Keeps [] h0 h
  fnew : h0.size ≤ fb
  rnew : h0.size ≤ r
  anew : ∀ b ∈ blkA a, h0.size ≤ b
  rf : r ≠ fb
  af : ∀ b ∈ blkA a, b ≠ fb ∧ b ≠ r
  obj : h[fb]? = some (.cells ⟨[.map (some r), .slice a len cap]⟩ 59 (0, 0))
  map : ∃ m, MapL h r m ∧ NMs h0 m N
  own : Own h 49 8 a len cap l
  reps : Reps h0 l acc
  few : acc.length ≤ 500

theorem Finder.on {h0 h h' : Heap} {fb r : Nat} {N : List Nd} {a : Option Addr} {len cap : Nat} {l : List Value} {acc : List Spot} (F : Finder h0 h fb r N a len cap l acc) (k : Keeps [] h h') : Finder h0 h' fb r N a len cap l acc :=
  ⟨F.keep.trans k, F.fnew, F.rnew, F.anew, F.rf, F.af, k.obj F.obj (by simp), let ⟨m, M, q⟩ := F.map; ⟨m, M.keep k (by simp), q⟩, F.own.keep k (by simp), F.reps, F.few⟩

theorem visitP_len (N : List Nd) : ∀ (F : Nat) (s : Spot) (acc : List Spot), acc.length ≤ (visitP N F s acc).length
  | 0, s, acc => Nat.le_refl _
  | F + 1, s, acc => by
    have fold : ∀ (l : List Ent) (acc : List Spot), acc.length ≤ (l.foldl (fun acc x => visitP N F (childP N s x) acc) acc).length := by
      intro l
      induction l with
      | nil => intro acc; exact Nat.le_refl _
      | cons x l ih => intro acc; exact Nat.le_trans (visitP_len N F _ _) (ih _)
    rw [visitP]
    split
    · exact Nat.le_refl _
    · split
      · exact Nat.le_trans (by simp) (fold _ _)
      · simp

theorem getN_fit {N : List Nd} (hN : ∀ n ∈ N, FitN n) (k : Int) : FitN (getN N k) := by
  have : ∀ N : List Nd, (∀ n ∈ N, FitN n) → ∀ n, lookN N k = some n → FitN n := by
    intro N
    induction N with
    | nil => intro _ n h; cases h
    | cons x l ih =>
      intro hN n h
      simp only [lookN] at h
      split at h
      · cases h; exact hN _ (by simp)
      · exact ih (fun n hn => hN n (by simp [hn])) n h
  unfold getN
  cases h : lookN N k with
  | none => exact ⟨Nat.zero_le _, fun x hx => nomatch hx⟩
  | some n => exact this N hN n h

structure SpotOk (s : Spot) (n : Nat) : Prop where
  path : s.path.size ≤ 1 + 15 * n
  deep : 0 ≤ s.deep ∧ s.deep ≤ n
  node : FitN s.node

theorem visit_spec (h0 : Heap) (r : Nat) (N : List Nd) (fb : Nat) (hN : ∀ n ∈ N, FitN n) : ∀ (F : Nat) (s : Spot) (sc : List Value) (acc : List Spot) (h : Heap) (a : Option Addr) (len cap : Nat) (l : List Value), 501 ≤ F + acc.length →
    Finder h0 h fb r N a len cap l acc → rep h0 sc s → SpotOk s acc.length →
    CallH Try.prog 23 [.pointer (some ⟨fb, 0, none⟩), .agg ⟨sc⟩] h (fun _ h' => Keeps (fb :: blkA a) h h' ∧ ∃ a' len' cap' l', Finder h0 h' fb r N a' len' cap' l' (visitP N F s acc) ∧ ∀ b ∈ blkA a', b ∈ blkA a ∨ h.size ≤ b)
  | 0, s, sc, acc, h, a, len, cap, l, hF, FD, hs, ok => by have := FD.few; omega
  | F + 1, s, sc, acc, h, a, len, cap, l, hF, FD, hs, ok => by
    refine call_of hmix Try.func23 rfl ok23 (by simp [Try.f23]) ?_
    obtain ⟨sa, sn, sk, rfl, ⟨x1, x2, x3, x4, x5, x6, x7⟩, hS⟩ := hs
    have hlen := own_count FD.own FD.reps rfl (by decide)
    conv => whnf
    refine AllocR.i fun b1 h1 e1 s1 o1 k1 => ?_
    conv => whnf
    have fo1 := k1.obj FD.obj (by simp)
    refine LoadR.i (v := .slice a len cap) (by unfold Heap.cell?; rw [fo1]; rfl) ?_
    conv => whnf
    refine IfR.i (fun hc => ?_) (fun hc => ?_)
    · conv => whnf
      refine ⟨k1.mono (by simp), a, len, cap, l, ?_, fun b hb => .inl hb⟩
      have h5 : 500 ≤ acc.length := by simp at hc; omega
      rw [visitP, if_pos h5]
      exact ⟨FD.keep.trans k1, FD.fnew, FD.rnew, FD.anew, FD.rf, FD.af, fo1, let ⟨m, M, q⟩ := FD.map; ⟨m, M.keep k1 (by simp), q⟩, FD.own.keep k1 (by simp), FD.reps, FD.few⟩
    · have h5 : acc.length < 500 := by simp at hc; omega
      conv => whnf
      refine LoadR.i (v := .slice a len cap) (by unfold Heap.cell?; rw [fo1]; rfl) ?_
      conv => whnf
      refine AllocR.i fun b2 h2 e2 s2 o2 k2 => ?_
      conv => whnf
      have o2' : h2[b2]? = some (.cells ⟨[.string s.path, .string s.name, .int .i64 s.deep, .int .i64 s.node.id, .int .i64 s.node.kind, .int .i64 s.node.links, .string s.node.data, .slice sa sn sk]⟩ 49 (0, 0)) := o2
      have ow2 := (FD.own.keep k1 (by simp)).keep k2 (by simp)
      have hb1 : ∀ b ∈ blkA a, b ≠ b1 := fun b hb => by have := Own.lt FD.own b hb; omega
      refine append_own (e := 49) (sz := 8) (by_ := 104) (new := [.string s.path, .string s.name, .int .i64 s.deep, .int .i64 s.node.id, .int .i64 s.node.kind, .int .i64 s.node.links, .string s.node.data, .slice sa sn sk]) rfl rfl rfl rfl rfl rfl rfl ow2 rfl ?_ rfl (by omega) (by omega) ?_ ?_
      · intro j hj
        simp only [Heap.cell?, o2', Nat.zero_add]
        simp
      · intro b hb hb'
        have hb2 : b ∈ [b1] := hb'
        exact hb1 b hb (by simpa using hb2)
      intro a3 cap3 h3 ow3 k3 new3
      conv => whnf
      have fbN : fb ∉ blkA a := fun hb => (FD.af fb hb).1 rfl
      have hfb : fb < h.size := obj_lt FD.obj
      have fo3 := k3.obj (k2.obj fo1 (by simp)) fbN
      refine StoreR.i fo3 (Nat.le_refl 2) ?_ fun h4 s4 o4 k4 => ?_
      · intro hb
        have hb2 : fb ∈ [b1] := hb
        simp only [List.mem_singleton] at hb2
        omega
      conv => whnf
      -- what the finder has now
      have o4' : h4[fb]? = some (.cells ⟨[.map (some r), .slice a3 (len + 1) cap3]⟩ 59 (0, 0)) := o4
      have sz : h.size ≤ h2.size := by omega
      have a3N : ∀ b ∈ blkA a3, b ≠ fb ∧ b ≠ r ∧ b ≠ b1 ∧ h0.size ≤ b := by
        intro b hb
        have hr : r < h.size := by obtain ⟨m, M, _⟩ := FD.map; exact M.lt
        have h0s := FD.keep.size
        rcases new3 b hb with h | h
        · exact ⟨(FD.af b h).1, (FD.af b h).2, hb1 b h, FD.anew b h⟩
        · exact ⟨by omega, by omega, by omega, by omega⟩
      have kk : Keeps (fb :: blkA a) h h4 := ((k1.trans k2).mono (by simp)).trans ((k3.mono (fun x hx => List.mem_cons_of_mem _ hx)).trans (k4.mono (fun x hx => by simp at hx; simp [hx])))
      have F4 : Finder h0 h4 fb r N a3 (len + 1) cap3 (l ++ [.string s.path, .string s.name, .int .i64 s.deep, .int .i64 s.node.id, .int .i64 s.node.kind, .int .i64 s.node.links, .string s.node.data, .slice sa sn sk]) (acc ++ [s]) := by
        refine ⟨FD.keep.trans_new kk ?_, FD.fnew, FD.rnew, fun b hb => (a3N b hb).2.2.2, FD.rf, fun b hb => ⟨(a3N b hb).1, (a3N b hb).2.1⟩, o4', ?_, ow3.keep k4 ?_, FD.reps.snoc ⟨sa, sn, sk, rfl, ⟨x1, x2, x3, x4, x5, x6, x7⟩, hS⟩, by simp; omega⟩
        · intro x hx
          simp only [List.mem_cons] at hx
          rcases hx with rfl | hx
          · exact .inr FD.fnew
          · exact .inr (FD.anew x hx)
        · obtain ⟨m, M, q⟩ := FD.map
          refine ⟨m, M.keep kk ?_, q⟩
          simp only [List.mem_cons, not_or]
          exact ⟨FD.rf, fun hb => (FD.af r hb).2 rfl⟩
        · intro b hb hb'
          simp at hb'; exact (a3N b hb).1 hb'
      have new4 : ∀ b ∈ blkA a3, b ∈ blkA a ∨ h.size ≤ b := fun b hb => (new3 b hb).imp id (by omega)
      clear ow3 new3
      generalize l ++ [.string s.path, .string s.name, .int .i64 s.deep, .int .i64 s.node.id, .int .i64 s.node.kind, .int .i64 s.node.links, .string s.node.data, .slice sa sn sk] = l4 at F4
      refine IfR.i (fun hd => ?_) (fun hd => ?_)
      · conv => whnf
        have hk : ¬ s.node.kind = 2 := by simpa using hd
        exact ⟨kk, a3, _, cap3, _, by rw [visitP, if_neg (by omega), if_neg hk]; exact F4, new4⟩
      · have hk : s.node.kind = 2 := by simpa using hd
        conv => whnf
        refine MeetR.share (fun e bx h' => h' = h4 ∧ bx = [(3, b1, [.string s.path, .string s.name, .int .i64 s.deep, .int .i64 s.node.id, .int .i64 s.node.kind, .int .i64 s.node.links, .string s.node.data, .slice sa sn sk])] ∧
          ∃ x y z t, e = [(0, .v (.pointer (some ⟨fb, 0, none⟩))), (1, x), (3, .lp 3 0), (4, .v (.string (if s.path = ⟨#[47]⟩ then ⟨#[]⟩ else s.path))), (12, y), (26, z), (30, t)]) (fun rest' H => ?_) ?_
        · conv => whnf
          refine IfR.i (fun hp => ?_) (fun hp => ?_)
          · conv => whnf
            have hp' : s.path = ⟨#[47]⟩ := by rw [toList_beq] at hp; simpa using hp
            exact H _ _ _ ⟨rfl, rfl, _, _, _, _, by rw [if_pos hp']⟩
          · conv => whnf
            have hp' : ¬ s.path = ⟨#[47]⟩ := by rw [toList_beq] at hp; simpa using hp
            exact H _ _ _ ⟨rfl, rfl, _, _, _, _, by rw [if_neg hp']⟩
        · rintro e bx h' ⟨rfl, rfl, x, y, z, t, rfl⟩
          generalize hhd : (if s.path = (⟨#[47]⟩ : ByteArray) then (⟨#[]⟩ : ByteArray) else s.path) = hd
          have hhs : hd.size ≤ 1 + 15 * acc.length := by
            have := ok.path
            subst hhd; split
            · exact Nat.le_trans (Nat.zero_le _) this
            · exact this
          conv => whnf
          let foldP := fun (i : Nat) => (s.node.names.take i).foldl (fun acc x => visitP N F (childP N s x) acc) (acc ++ [s])
          refine LoopR.on [0, 3, 4, 33, 34, 35] [3] (fun q : Nat × Option Addr × Nat × Nat × List Value => [(0, .v (.pointer (some ⟨fb, 0, none⟩))), (3, .lp 3 0), (4, .v (.string hd)), (33, .v (.slice sa sn sk)), (34, .v (.int .i64 sn)), (35, .v (.int .i64 (q.1 : Int)))])
            (fun _ => [(3, b1, [.string s.path, .string s.name, .int .i64 s.deep, .int .i64 s.node.id, .int .i64 s.node.kind, .int .i64 s.node.links, .string s.node.data, .slice sa sn sk])])
            (fun q h' => q.1 ≤ sn ∧ Keeps (fb :: blkA a) h h' ∧ Finder h0 h' fb r N q.2.1 q.2.2.1 q.2.2.2.1 q.2.2.2.2 (foldP q.1) ∧ (∀ b ∈ blkA q.2.1, b ∈ blkA a ∨ h.size ≤ b) ∧ (∀ b ∈ blkA q.2.1, b ≠ b1) ∧ acc.length + 1 ≤ (foldP q.1).length)
            (fun q => sn - q.1) (0, a3, len + 1, cap3, l4) ?_ ?_
          · conv => whnf
            exact ⟨(0, a3, len + 1, cap3, l4), rfl, rfl, rfl, Nat.zero_le _, kk, F4, new4, fun b hb => (a3N b hb).2.2.1, by simp [foldP]⟩
          · rintro ⟨i, ai, leni, capi, li⟩ h5 ⟨hi, k5, F5, new5, b5, g5⟩
            simp only at hi F5 new5 b5 g5
            have hsn := hS.hlen
            conv => whnf
            refine IfR.i (fun hc => ?_) (fun hc => ?_)
            · have hi1 : i < s.node.names.length := by simp at hc; omega
              obtain ⟨bn, on, han, _, ⟨rfl, z1, z2⟩, hcn⟩ := hS.at_ i hi1
              have hcn5 := hcn.keep F5.keep
              conv => whnf
              refine IdxS.i i rfl (by omega) han ?_
              conv => whnf
              refine LoadN.i (vs := [.string s.node.names[i].name, .int .i64 s.node.names[i].node]) rfl (fun j hj => hcn5 j hj) ?_
              conv => whnf
              refine AllocR.i fun b6 h6 e6 s6 o6 k6 => ?_
              conv => whnf
              refine BoxR.i fun h7 s7 k7 => ?_
              have k57 : Keeps [] h5 h7 := k6.trans_new k7 (by intro x hx; simp at hx; right; omega)
              have fo7 := k57.obj F5.obj (by simp)
              obtain ⟨m, M, q⟩ := F5.map
              have M7 := M.keep k57 (by simp)
              conv => whnf
              have z1' : s.node.names[i].name.size ≤ 14 := ok.node.2 _ (List.getElem_mem hi1)
              have hf5 := F5.few
              have h1s : (⟨#[47]⟩ : ByteArray).size = 1 := rfl
              refine Need.i (by rw [h1s]; omega) ?_
              conv => whnf
              have hps : (hd ++ ⟨#[47]⟩ ++ s.node.names[i].name).size ≤ 1 + 15 * (acc.length + 1) := by
                rw [ByteArray.size_append, ByteArray.size_append, h1s]; omega
              refine Need.i (by rw [ByteArray.size_append, h1s]; omega) ?_
              conv => whnf
              refine LoadR.i (v := .map (some r)) (by unfold Heap.cell?; rw [fo7]; rfl) ?_
              conv => whnf
              have hdeep : IntKind.i64.wrap (s.deep + 1) = s.deep + 1 := wrapI (by have := ok.deep; omega) (by have := ok.deep; omega)
              -- what is under the number
              obtain ⟨cs, hcs, hrep⟩ : ∃ cs, (lookI m s.node.names[i].node).getD (.agg ⟨[.int .i64 0, .int .i64 0, .int .i64 0, .string ⟨#[]⟩, .slice none 0 0]⟩) = Value.agg ⟨cs⟩ ∧ rep h0 cs (getN N s.node.names[i].node) := by
                rcases q.look s.node.names[i].node with ⟨q1, q2⟩ | ⟨n', cs, q1, q2, q3⟩
                · rw [q2]; exact ⟨_, rfl, by unfold getN; rw [q1]; exact noNd_rep h0⟩
                · rw [q2]; exact ⟨cs, rfl, by unfold getN; rw [q1]; exact q3⟩
              obtain ⟨ca, cn, ck, rfl, y1, y2⟩ := hrep
              refine LookR.z (.agg ⟨[.int .i64 0, .int .i64 0, .int .i64 0, .string ⟨#[]⟩, .slice none 0 0]⟩) M7 rfl hcs ?_
              conv => whnf
              have hsc : rep h0 [.string (hd ++ ⟨#[47]⟩ ++ s.node.names[i].name), .string s.node.names[i].name, .int .i64 (s.deep + 1), .int .i64 (getN N s.node.names[i].node).id, .int .i64 (getN N s.node.names[i].node).kind, .int .i64 (getN N s.node.names[i].node).links, .string (getN N s.node.names[i].node).data, .slice ca cn ck] (childP N s s.node.names[i]) := by
                subst hhd
                refine ⟨ca, cn, ck, rfl, ⟨?_, z1, ?_, y1.1, y1.2.1, y1.2.2.1, y1.2.2.2⟩, y2⟩
                · unfold okStr childP; simp only; omega
                · have := ok.deep; unfold inI64 childP; simp only; omega
              have hso : SpotOk (childP N s s.node.names[i]) (foldP i).length := by
                subst hhd
                refine ⟨?_, ?_, getN_fit hN _⟩
                · have := Nat.mul_le_mul_left 15 g5
                  unfold childP; simp only; omega
                · have := ok.deep; unfold childP; simp only; omega
              rw [hdeep]
              refine CallR.m (visit_spec h0 r N fb hN F _ _ (foldP i) h7 ai leni capi li (by omega) (F5.on k57) hsc hso) ?_ ?_
              · intro b hb hb'
                have hb2 : b ∈ [b1, b6] := hb
                simp only [List.mem_cons, List.not_mem_nil, or_false] at hb2 hb'
                have q1 := k5.size
                have q2 : ∀ b ∈ blkA ai, b < h5.size := Own.lt F5.own
                rcases hb' with rfl | hb'
                · omega
                · have := q2 b hb'
                  have := b5 b hb'
                  omega
              · rintro v h8 k8 ⟨a8, len8, cap8, l8, F8, new8⟩
                conv => whnf
                have hst : foldP (i + 1) = visitP N F (childP N s s.node.names[i]) (foldP i) := by
                  simp only [foldP]
                  rw [List.take_succ_eq_append_getElem hi1, List.foldl_append]; rfl
                have q1 := k5.size
                have q3 := k57.size
                refine ⟨sn - (i + 1), by simp only; omega, ?_⟩
                conv => whnf
                refine ⟨(i + 1, a8, len8, cap8, l8), rfl, by simp only; rw [wrapN (n := i + 1) (by simp) (by have := ok.node.1; omega)], rfl, by simp only; omega, (k5.trans_nil k57).trans_new k8 ?_, by simp only; rw [hst]; exact F8, fun b hb => ?_, fun b hb => ?_, ?_⟩
                · intro x hx
                  simp only [List.mem_cons] at hx ⊢
                  rcases hx with rfl | hx
                  · exact .inl (.inl rfl)
                  · exact (new5 x hx).imp .inr id
                · rcases new8 b hb with h | h
                  · exact new5 b h
                  · right; omega
                · rcases new8 b hb with h | h
                  · exact b5 b h
                  · omega
                · simp only; rw [hst]; exact Nat.le_trans g5 (visitP_len N F _ _)
            · conv => whnf
              have hi1 : i = s.node.names.length := by simp at hc; omega
              refine ⟨k5, ai, leni, capi, li, ?_, new5⟩
              have hv : visitP N (F + 1) s acc = foldP i := by
                rw [visitP, if_neg (by omega), if_pos hk]
                simp only [foldP]
                rw [hi1, List.take_length]
              rw [hv]; exact F5
end Go.Proofs.Ytegagciipigkbaa
