/-
  Layers 2, 5, 8: the memory's words, which words may be changed, a view.
-/
import Derived.Test.YtlloemmpnhoanaaGreatBodyA
set_option linter.all false
set_option maxRecDepth 100000
namespace Go.Proofs.YtlloemmpnhoanaaGreat
open Go Go.Eng

/-! ### Lists of words by number -/

def lk : List (Int × UInt64) → Int → Option UInt64
  | [], _ => none
  | (k, v) :: r, n => if n = k then some v else lk r n
def putW : List (Int × UInt64) → Int → UInt64 → List (Int × UInt64)
  | [], n, v => [(n, v)]
  | (k, u) :: r, n, v => if n = k then (k, v) :: r else (k, u) :: putW r n v
def mapW (m : List (Int × UInt64)) : List (Int × Value) := m.map fun p => (p.1, wv p.2)

theorem lookI_mapW : ∀ (m : List (Int × UInt64)) (n : Int), lookI (mapW m) n = (lk m n).map wv
  | [], n => rfl
  | (k, v) :: r, n => by
    have := lookI_mapW r n
    simp only [mapW, List.map_cons, lookI, lk] at this ⊢
    split
    · rfl
    · exact this
theorem putI_mapW : ∀ (m : List (Int × UInt64)) (n : Int) (w : UInt64), putI (mapW m) n (wv w) = mapW (putW m n w)
  | [], n, w => rfl
  | (k, v) :: r, n, w => by
    have := putI_mapW r n w
    simp only [mapW, List.map_cons, putI, putW] at this ⊢
    split
    · rfl
    · rw [this]; rfl
theorem lk_put : ∀ (m : List (Int × UInt64)) (n : Int) (w : UInt64) (k : Int), lk (putW m n w) k = if k = n then some w else lk m k
  | [], n, w, k => by simp [putW, lk]
  | (k', u) :: r, n, w, k => by
    by_cases h : n = k'
    · subst h; simp only [putW, if_true, lk]; split <;> simp_all
    · simp only [putW, if_neg h, lk]
      rw [lk_put r n w k]
      by_cases h2 : k = k'
      · subst h2; rw [if_pos rfl, if_pos rfl, if_neg (fun e => h e.symm)]
      · rw [if_neg h2, if_neg h2]

/-- a set of numbers, as a map has it -/
def setV (s : List Int) : List (Int × Value) := s.map fun k => (k, .bool true)
theorem setV_look : ∀ (s : List Int) (k : Int), lookI (setV s) k = if k ∈ s then some (.bool true) else none
  | [], k => rfl
  | x :: s, k => by
    have := setV_look s k
    simp only [setV, List.map_cons, lookI, List.mem_cons] at this ⊢
    by_cases h : k = x
    · simp [h]
    · simp [h, this]
theorem setV_get (s : List Int) (k : Int) : (lookI (setV s) k).getD (.bool false) = .bool (decide (k ∈ s)) := by
  rw [setV_look]; split <;> simp_all
/-- a number is added to a set -/
def addS (s : List Int) (k : Int) : List Int := if k ∈ s then s else s ++ [k]
theorem addS_mem {s : List Int} {k x : Int} : x ∈ addS s k ↔ x ∈ s ∨ x = k := by
  unfold addS; split
  · constructor
    · exact .inl
    · rintro (h | rfl) <;> assumption
  · simp
theorem putI_set : ∀ (s : List Int) (k : Int), putI (setV s) k (.bool true) = setV (addS s k)
  | [], k => rfl
  | x :: s, k => by
    have ih := putI_set s k
    simp only [setV, List.map_cons, putI] at ih ⊢
    by_cases h : k = x
    · subst h; simp [addS]
    · rw [if_neg h, ih]
      unfold addS
      by_cases h2 : k ∈ s
      · simp [h2]
      · simp [h, h2]

/-! ### A memory -/

structure MemS where
  sure : List UInt64
  loose : List (Int × UInt64)
  way : List (Int × UInt64)
  calls : Int
  until_ : Int

/-- where a memory lies -/
structure ML where
  m : Nat
  sa : Option Addr
  len : Nat
  cap : Nat
  lb : Nat
  wb : Nat

def ML.blocks (L : ML) : List Nat := L.m :: L.lb :: L.wb :: blkA L.sa

structure MemAt (h : Heap) (L : ML) (M : MemS) : Prop where
  obj : h[L.m]? = some (.cells ⟨[.slice L.sa L.len L.cap, .map (some L.lb), .map (some L.wb), .int .i64 M.calls, .int .i64 M.until_]⟩ 85 (0, 0))
  sure : Sl h L.sa L.len L.cap M.sure
  loose : MapL h L.lb (mapW M.loose)
  way : MapL h L.wb (mapW M.way)
  ap1 : L.lb ≠ L.wb
  ap2 : ∀ b ∈ blkA L.sa, b ≠ L.m ∧ b ≠ L.lb ∧ b ≠ L.wb
  lt : ∀ b ∈ blkA L.sa, b < h.size

theorem obj_map_ne {h : Heap} {b r : Nat} {c : Array Value} {T : TypeId} {fz : Nat × Nat} {m : List (Int × Value)} (o : h[b]? = some (.cells c T fz)) (M : MapL h r m) : b ≠ r := by
  rintro rfl
  obtain ⟨es, cl, h1, _⟩ := M
  rw [o] at h1; cases h1

theorem MemAt.ap3 {h : Heap} {L : ML} {M : MemS} (A : MemAt h L M) : L.m ≠ L.lb ∧ L.m ≠ L.wb := ⟨obj_map_ne A.obj A.loose, obj_map_ne A.obj A.way⟩

theorem MemAt.keep {F : List Nat} {h h' : Heap} {L : ML} {M : MemS} (A : MemAt h L M) (k : Keeps F h h') (hF : ∀ b ∈ L.blocks, b ∉ F) : MemAt h' L M :=
  ⟨k.obj A.obj (hF _ (by simp [ML.blocks])), A.sure.keepM k (fun b hb => hF b (by simp [ML.blocks, hb])), A.loose.keep k (hF _ (by simp [ML.blocks])), A.way.keep k (hF _ (by simp [ML.blocks])), A.ap1, A.ap2, fun b hb => Nat.lt_of_lt_of_le (A.lt b hb) k.size⟩
theorem MemAt.blt {h : Heap} {L : ML} {M : MemS} (A : MemAt h L M) : ∀ b ∈ L.blocks, b < h.size := by
  intro b hb
  simp only [ML.blocks, List.mem_cons] at hb
  rcases hb with rfl | rfl | rfl | hb
  · exact obj_lt A.obj
  · exact A.loose.lt
  · exact A.way.lt
  · exact A.lt b hb
theorem MemAt.on {h h' : Heap} {L : ML} {M : MemS} (A : MemAt h L M) (k : Keeps [] h h') : MemAt h' L M := A.keep k (by simp)

def MemS.there (M : MemS) (i : Int) : Bool := decide (0 ≤ i) && decide (i < M.sure.length)
def MemS.read (M : MemS) (i : Int) : UInt64 := if M.there i then (lk M.loose i).getD (M.sure[i.toNat]?.getD 0) else 0

theorem there_spec {h : Heap} {L : ML} {M : MemS} (A : MemAt h L M) (i : Int) : CallH Tryz.prog 72 [.pointer (some ⟨L.m, 0, none⟩), .int .i64 i] h (fun v h' => Keeps [] h h' ∧ v = .bool (M.there i)) := by
  refine call_of hmix Tryz.func72 rfl ok72 (by simp [Tryz.f72]) ?_
  conv => whnf
  refine LoadR.u (.slice L.sa L.len L.cap) (fun _ => by unfold Heap.cell?; rw [A.obj]; rfl) ?_
  conv => whnf
  refine ⟨Keeps.refl _ _, ?_⟩
  have := A.sure.hlen
  simp [bif_and, MemS.there, this]

theorem mread_spec {h : Heap} {L : ML} {M : MemS} (A : MemAt h L M) (i : Int) : CallH Tryz.prog 57 [.pointer (some ⟨L.m, 0, none⟩), .int .i64 i] h (fun v h' => Keeps [] h h' ∧ v = wv (M.read i)) := by
  refine call_of hmix Tryz.func57 rfl ok57 (by simp [Tryz.f57]) ?_
  conv => whnf
  refine CallR.i (there_spec A i) fun v h1 k1 hv => ?_
  subst hv
  have A1 := A.on k1
  conv => whnf
  refine IfR.i (fun hc => ?_) (fun hc => ?_)
  · conv => whnf
    refine ⟨k1, ?_⟩
    have : M.there i = false := by simpa using hc
    unfold MemS.read; rw [this]
    first | done | rfl
  · have ht : M.there i = true := by simpa using hc
    conv => whnf
    refine LoadR.o A1.obj rfl ?_
    conv => whnf
    cases hl : lk M.loose i with
    | some w =>
      refine LookR.is A1.loose (by rw [lookI_mapW, hl]) ?_
      conv => whnf
      refine IfR.t rfl ?_
      conv => whnf
      refine ⟨k1, ?_⟩
      unfold MemS.read; rw [ht, hl]
      first | done | rfl
    | none =>
      refine LookR.is A1.loose (by rw [lookI_mapW, hl]) ?_
      conv => whnf
      refine IfR.f rfl ?_
      conv => whnf
      refine LoadR.o A1.obj rfl ?_
      conv => whnf
      have hn := A1.sure.hlen
      have hb : 0 ≤ i ∧ i < M.sure.length := by simpa [MemS.there] using ht
      obtain ⟨b, off, ha, _, hcell⟩ := A1.sure.at1 i.toNat (by omega)
      refine IdxS.i i.toNat (by omega) (by omega) ha ?_
      conv => whnf
      refine LoadR.i hcell ?_
      conv => whnf
      refine ⟨k1, ?_⟩
      unfold MemS.read; rw [ht, hl]
      have : i.toNat < M.sure.length := by omega
      simp [this]; rfl

/-- a call is counted -/
def MemS.call (M : MemS) (there : Bool) : Int × MemS :=
  let c := IntKind.i64.wrap (M.calls + 1)
  if M.until_ = 0 then (14, { M with calls := c })
  else
    let M2 := if 0 < M.until_ then { M with calls := c, until_ := IntKind.i64.wrap (M.until_ - 1) } else { M with calls := c }
    if there then (0, M2) else (1, M2)

theorem call_spec {h : Heap} {L : ML} {M : MemS} (A : MemAt h L M) (t : Bool) : CallH Tryz.prog 71 [.pointer (some ⟨L.m, 0, none⟩), .bool t] h (fun v h' => Keeps [L.m] h h' ∧ v = .int .i64 (M.call t).1 ∧ MemAt h' L (M.call t).2) := by
  refine call_of hmix Tryz.func71 rfl ok71 (by simp [Tryz.f71]) ?_
  conv => whnf
  refine IfR.f rfl ?_
  conv => whnf
  refine LoadR.o A.obj rfl ?_
  conv => whnf
  refine StoreR.i A.obj (Nat.le_of_ble_eq_true rfl) (by simp [blocksOf]) fun h1 s1 o1 k1 => ?_
  have nb : ∀ b ∈ L.lb :: L.wb :: blkA L.sa, b ∉ [L.m] := by
    intro b hb
    simp only [List.mem_cons] at hb
    simp only [List.mem_singleton]
    rcases hb with rfl | rfl | hb
    · exact fun e => A.ap3.1 e.symm
    · exact fun e => A.ap3.2 e.symm
    · exact (A.ap2 b hb).1
  have mk : ∀ {h' : Heap} (c u : Int), h'[L.m]? = some (.cells ⟨[.slice L.sa L.len L.cap, .map (some L.lb), .map (some L.wb), .int .i64 c, .int .i64 u]⟩ 85 (0, 0)) → Keeps [L.m] h h' → MemAt h' L { M with calls := c, until_ := u } :=
    fun c u o k => ⟨o, A.sure.keepM k (fun b hb => nb b (by simp [hb])), A.loose.keep k (nb _ (by simp)), A.way.keep k (nb _ (by simp)), A.ap1, A.ap2, fun b hb => Nat.lt_of_lt_of_le (A.lt b hb) k.size⟩
  have o1' : h1[L.m]? = some (.cells ⟨[.slice L.sa L.len L.cap, .map (some L.lb), .map (some L.wb), .int .i64 (IntKind.i64.wrap (M.calls + 1)), .int .i64 M.until_]⟩ 85 (0, 0)) := o1
  conv => whnf
  refine MeetR.pass ?_
  conv => whnf
  refine LoadR.o o1' rfl ?_
  conv => whnf
  refine IfR.i (fun hc => ?_) (fun hc => ?_)
  · conv => whnf
    have h0 : M.until_ = 0 := by simpa using hc
    refine ⟨k1, ?_⟩
    unfold MemS.call
    rw [if_pos h0]
    exact ⟨rfl, mk _ _ o1' k1⟩
  · have h0 : ¬ M.until_ = 0 := by simpa using hc
    conv => whnf
    refine LoadR.o o1' rfl ?_
    conv => whnf
    refine IfR.i (fun hd => ?_) (fun hd => ?_)
    · have h1 : 0 < M.until_ := by simpa using hd
      conv => whnf
      refine LoadR.o o1' rfl ?_
      conv => whnf
      refine StoreR.i o1' (Nat.le_of_ble_eq_true rfl) (by simp [blocksOf]) fun h2 s2 o2 k2 => ?_
      have o2' : h2[L.m]? = some (.cells ⟨[.slice L.sa L.len L.cap, .map (some L.lb), .map (some L.wb), .int .i64 (IntKind.i64.wrap (M.calls + 1)), .int .i64 (IntKind.i64.wrap (M.until_ - 1))]⟩ 85 (0, 0)) := o2
      conv => whnf
      refine IfR.i (fun he => ?_) (fun he => ?_)
      all_goals
        conv => whnf
        refine ⟨k1.trans k2, ?_⟩
        unfold MemS.call
        rw [if_neg h0, if_pos h1]
        cases t <;> first | (exact absurd he (by decide)) | exact ⟨rfl, mk _ _ o2' (k1.trans k2)⟩
    · have h1 : ¬ 0 < M.until_ := by simpa using hd
      conv => whnf
      refine IfR.i (fun he => ?_) (fun he => ?_)
      all_goals
        conv => whnf
        refine ⟨k1, ?_⟩
        unfold MemS.call
        rw [if_neg h0, if_neg h1]
        cases t <;> first | (exact absurd he (by decide)) | exact ⟨rfl, mk _ _ o1' k1⟩

def MemS.store (M : MemS) (i : Int) (w : UInt64) : Int × MemS :=
  if (M.call (M.there i)).1 = 0 then (0, { (M.call (M.there i)).2 with loose := putW (M.call (M.there i)).2.loose i w }) else M.call (M.there i)

theorem store_spec {h : Heap} {L : ML} {M : MemS} (A : MemAt h L M) (i : Int) (w : UInt64) : CallH Tryz.prog 46 [.pointer (some ⟨L.m, 0, none⟩), .int .i64 i, wv w] h (fun v h' => Keeps [L.m, L.lb] h h' ∧ v = .int .i64 (M.store i w).1 ∧ MemAt h' L (M.store i w).2) := by
  refine call_of hmix Tryz.func46 rfl ok46 (by simp [Tryz.f46]) ?_
  conv => whnf
  refine CallR.i (there_spec A i) fun v h1 k1 hv => ?_
  subst hv
  have A1 := A.on k1
  conv => whnf
  refine CallR.m (call_spec A1 (M.there i)) (by simp [blocksOf]) fun v h2 k2 hv => ?_
  obtain ⟨rfl, A2⟩ := hv
  conv => whnf
  refine MeetR.pass ?_
  conv => whnf
  refine IfR.i (fun hc => ?_) (fun hc => ?_)
  · have h0 : (M.call (M.there i)).1 = 0 := by simpa using hc
    conv => whnf
    refine LoadR.o A2.obj rfl ?_
    conv => whnf
    refine SemR.put rfl rfl A2.loose (by simp [blocksOf]) fun h3 s3 M3 k3 => ?_
    conv => whnf
    have k03 : Keeps [L.m, L.lb] h h3 := (k1.mono (by simp)).trans ((k2.mono (by simp)).trans (k3.mono (by simp)))
    refine ⟨k03, ?_⟩
    unfold MemS.store
    rw [if_pos h0]
    refine ⟨by simp [h0], ?_⟩
    have w3 : MapL h3 L.lb (mapW (putW (M.call (M.there i)).2.loose i w)) := by rw [← putI_mapW]; exact M3
    exact ⟨k3.obj A2.obj (by simpa using A2.ap3.1), A2.sure.keepM k3 (fun b hb => by simpa using (A2.ap2 b hb).2.1), w3, A2.way.keep k3 (by simpa using A2.ap1.symm), A2.ap1, A2.ap2, fun b hb => Nat.lt_of_lt_of_le (A2.lt b hb) k3.size⟩
  · have h0 : ¬ (M.call (M.there i)).1 = 0 := by simpa using hc
    conv => whnf
    refine ⟨(k1.mono (by simp)).trans (k2.mono (by simp)), ?_⟩
    unfold MemS.store
    rw [if_neg h0]
    exact ⟨rfl, A2⟩

theorem msize_spec {h : Heap} {L : ML} {M : MemS} (A : MemAt h L M) : CallH Tryz.prog 33 [.pointer (some ⟨L.m, 0, none⟩)] h (fun v h' => Keeps [] h h' ∧ v = .int .i64 M.sure.length) := by
  refine call_of hmix Tryz.func33 rfl ok33 (by simp [Tryz.f33]) ?_
  conv => whnf
  refine IfR.f rfl ?_
  conv => whnf
  refine LoadR.o A.obj rfl ?_
  conv => whnf
  exact ⟨Keeps.refl _ _, by rw [A.sure.hlen]⟩

theorem clone_spec {h : Heap} {b off n c : Nat} {ws : List UInt64} (S : Sl h (some ⟨b, off, none⟩) n c ws) (hn : n ≤ 1099511627776) : CallH Tryz.prog 35 [.slice (some ⟨b, off, none⟩) n c] h (fun v h' => Keeps [] h h' ∧ ∃ a' c', v = .slice a' n c' ∧ Sl h' a' n c' ws ∧ ∀ x ∈ blkA a', h.size ≤ x ∧ x < h'.size) := by
  refine call_of hmix Tryz.func35 rfl ok35 (by simp [Tryz.f35]) ?_
  conv => whnf
  refine IfR.f rfl ?_
  conv => whnf
  refine AllocR.i fun b1 h1 e1 s1 o1 k1 => ?_
  conv => whnf
  have hl := S.hlen
  have O : Own h1 36 1 (some ⟨b1, 0, none⟩) 0 0 [] := .inr ⟨b1, [], rfl, o1, rfl, rfl, rfl, Nat.le_refl _⟩
  refine append_own (e := 36) (sz := 1) (by_ := 8) (new := ws.map wv) rfl rfl rfl rfl rfl rfl rfl O (by simp [hl]) ((S.keep k1).cells1) ?_ (by omega) (by decide) (by simp [blocksOf]) ?_
  · have : ∀ l : List UInt64, allOne (l.map wv) = true := by
      intro l; induction l with
      | nil => rfl
      | cons x l ih => simpa [allOne, oneV, wv] using ih
    exact this ws
  intro a2 c2 h2 O2 k2 n2
  conv => whnf
  rw [Nat.zero_add] at O2
  have nb : ∀ x ∈ blkA a2, h.size ≤ x ∧ x < h2.size := fun x hx => by
    refine ⟨?_, O2.lt x hx⟩
    rcases n2 x hx with h | h
    · simp [blkA] at h; omega
    · omega
  refine ⟨k1.nil_of k2 (by intro x hx; simp [blkA] at hx; omega), a2, c2, by rw [Nat.zero_add], ?_, nb⟩
  have R : Reps h2 ([] ++ ws.map wv) ws := by
    rw [List.nil_append]
    have : ∀ l : List UInt64, Reps h2 (l.map wv) l := by
      intro l; induction l with
      | nil => rfl
      | cons x l ih => exact ⟨[wv x], l.map wv, rfl, rfl, ih⟩
    exact this ws
  exact O2.sl R rfl (by decide) (by omega)

theorem load_spec {h : Heap} {b off n c : Nat} {ws : List UInt64} (S : Sl h (some ⟨b, off, none⟩) n c ws) (hn : n ≤ 4096) : CallH Tryz.prog 15 [.slice (some ⟨b, off, none⟩) n c] h (fun v h' => Keeps [] h h' ∧ ∃ L : ML, v = .pointer (some ⟨L.m, 0, none⟩) ∧ MemAt h' L ⟨ws, [], [], 0, -1⟩ ∧ ∀ x ∈ L.blocks, h.size ≤ x) := by
  refine call_of hmix Tryz.func15 rfl ok15 (by simp [Tryz.f15]) ?_
  conv => whnf
  have hm : (if (4096 : Int) < (n : Int) then (4096 : Int) else (n : Int)) = (n : Int) := if_neg (by omega)
  have hl := S.hlen
  refine SliceR.i 0 n rfl hm (Nat.zero_le _) S.hcap ?_
  conv => whnf
  have S1 := S.part (l := 0) (r := n) (Nat.zero_le _) (Nat.le_refl _)
  have e1 : ∀ s, slA (some ⟨b, off, none⟩) c 0 s = some ⟨b, off, none⟩ := fun s => by
    unfold slA; split
    · rfl
    · simp [Addr.add]
  rw [e1, Nat.sub_zero, Nat.sub_zero, List.drop_zero, hl, List.take_length, ← hl] at S1
  rw [e1, Nat.sub_zero, Nat.sub_zero]
  refine CallR.i (clone_spec S1 (by omega)) fun v h1 k1 hv => ?_
  obtain ⟨a', c', rfl, S2, nb⟩ := hv
  conv => whnf
  refine AllocR.i fun b2 h2 e2 s2 o2 k2 => ?_
  conv => whnf
  refine AllocR.i fun b3 h3 e3 s3 o3 k3 => ?_
  conv => whnf
  refine AllocR.i fun b4 h4 e4 s4 o4 k4 => ?_
  conv => whnf
  have z1 := k1.size
  refine ⟨k1.trans (k2.trans (k3.trans k4)), ⟨b4, a', n, c', b2, b3⟩, rfl, ⟨o4, S2.keep (k2.trans (k3.trans k4)), (MapL.new o2).keep (k3.trans k4) (by simp), (MapL.new o3).keep k4 (by simp), by show b2 ≠ b3; omega, fun x hx => ?_, fun x hx => by have := nb x hx; omega⟩, ?_⟩
  · have := nb x hx
    show x ≠ b4 ∧ x ≠ b2 ∧ x ≠ b3
    omega
  · intro x hx
    simp only [ML.blocks, List.mem_cons] at hx
    rcases hx with hx | hx | hx | hx
    · have hx : x = b4 := hx; omega
    · have hx : x = b2 := hx; omega
    · have hx : x = b3 := hx; omega
    · exact (nb x hx).1
end Go.Proofs.YtlloemmpnhoanaaGreat
