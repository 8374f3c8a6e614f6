/-
  Joined texts: SrtL, SrtK, SrtM, SeeA, CalA, WalH, WalI, FndA, CalB, CalC, CalD, CalE, CalF, CalG, EntB.
-/
import Derived.Shelf.SlLaysZI
import Derived.Shelf.SlLaysM
import Derived.Test.YtkjkdnphikendaaGreatDoorProg
import Derived.Shelf.SlIterI.Nil
import Derived.Test.YtkjkdnphikendaaGreatDoorJLawCLinksd
import Derived.Shelf.SortM.Plain
import Derived.Shelf.SortM.SortNone
import Derived.Test.YtkjkdnphikendaaGreatDoorJLawCLinkse
import Derived.Test.YtkjkdnphikendaaGreatDoorJLawCLinksk
import Derived.Test.YtkjkdnphikendaaGreatDoorJLawCLinksi
import Derived.Test.YtkjkdnphikendaaGreatDoorJLawCLinksj
/-
  The library's maps.Keys, slices.Sorted and slices.Sort at whole numbers, laid at this program (made by wip/tools/laysrt.py).
-/
set_option linter.all false
namespace Go.Proofs.YtkjkdnphikendaaGreatDoor
open Go Go.Shelf
def keysA_ren : Go.Shelf.Ren := ⟨fun | 7 => 174 | 10 => 217 | n => n, fun | 23 => 110 | 26 => 3 | 3 => 4 | 28 => 238 | 0 => 0 | 27 => 237 | 33 => 126 | 4 => 4 | n => n, fun n => n⟩
theorem keysA : SlLaysZI.n7 Tryz.prog keysA_ren := {
  mixed := by kernel_rfl,
  f7 := ⟨Tryz.f174.name, by decide, Tryz.func174.trans (congrArg some (by kernel_rfl))⟩,
  f10 := ⟨Tryz.f217.name, by decide, Tryz.func217.trans (congrArg some (by kernel_rfl))⟩,
  t0 := Tryz.underlying0,
  a0 := Tryz.isAgg0,
  z0 := Tryz.sizeOf0,
  v0 := Tryz.zeroValue0,
  t4 := Tryz.underlying4,
  a4 := Tryz.isAgg4,
  z4 := Tryz.sizeOf4,
  v4 := Tryz.zeroValue4,
  t23 := Tryz.underlying110,
  a23 := Tryz.isAgg110,
  z23 := Tryz.sizeOf110,
  v23 := Tryz.zeroValue110,
  t26 := Tryz.underlying3,
  a26 := Tryz.isAgg3,
  z26 := Tryz.sizeOf3,
  v26 := Tryz.zeroValue3,
  t27 := Tryz.underlying237,
  a27 := Tryz.isAgg237,
  z27 := Tryz.sizeOf237,
  v27 := Tryz.zeroValue237,
  t28 := Tryz.underlying238,
  a28 := Tryz.isAgg238,
  z28 := Tryz.sizeOf238,
  v28 := Tryz.zeroValue238,
  t33 := Tryz.underlying126,
  a33 := Tryz.isAgg126,
  z33 := Tryz.sizeOf126,
  v33 := Tryz.zeroValue126 }
def sortedA_ren : Go.Shelf.Ren := ⟨fun | 6 => 173 | 8 => 215 | 9 => 216 | 11 => 241 | 13 => 206 | 12 => 242 | 23 => 236 | 24 => 212 | 14 => 270 | 15 => 271 | 16 => 272 | 17 => 273 | 18 => 274 | 19 => 275 | 20 => 276 | 21 => 277 | 22 => 278 | 25 => 288 | 26 => 262 | 27 => 263 | 28 => 289 | 29 => 290 | 30 => 291 | 31 => 295 | n => n, fun | 26 => 3 | 28 => 238 | 24 => 118 | 0 => 0 | 3 => 3 | 37 => 258 | 48 => 281 | 50 => 56 | 4 => 4 | 40 => 291 | 39 => 290 | 45 => 192 | 5 => 5 | 9 => 9 | 51 => 315 | 55 => 319 | 57 => 330 | 58 => 331 | 33 => 126 | n => n, fun n => n⟩
theorem sortedA : SlLaysZI.n6 Tryz.prog sortedA_ren := {
  mixed := by kernel_rfl,
  f6 := ⟨Tryz.f173.name, by decide, Tryz.func173.trans (congrArg some (by kernel_rfl))⟩,
  f8 := ⟨Tryz.f215.name, by decide, Tryz.func215.trans (congrArg some (by kernel_rfl))⟩,
  f11 := ⟨Tryz.f241.name, by decide, Tryz.func241.trans (congrArg some (by kernel_rfl))⟩,
  t0 := Tryz.underlying0,
  a0 := Tryz.isAgg0,
  z0 := Tryz.sizeOf0,
  v0 := Tryz.zeroValue0,
  t24 := Tryz.underlying118,
  a24 := Tryz.isAgg118,
  z24 := Tryz.sizeOf118,
  v24 := Tryz.zeroValue118,
  t26 := Tryz.underlying3,
  a26 := Tryz.isAgg3,
  z26 := Tryz.sizeOf3,
  v26 := Tryz.zeroValue3,
  t28 := Tryz.underlying238,
  a28 := Tryz.isAgg238,
  z28 := Tryz.sizeOf238,
  v28 := Tryz.zeroValue238,
  i26 := by kernel_rfl }
def srti_ren : Go.Shelf.Ren := ⟨fun | 5 => 216 | 8 => 206 | 7 => 242 | 19 => 236 | 20 => 212 | 10 => 270 | 11 => 271 | 12 => 272 | 13 => 273 | 14 => 274 | 15 => 275 | 16 => 276 | 17 => 277 | 18 => 278 | 30 => 288 | 31 => 262 | 32 => 263 | 33 => 289 | 34 => 290 | 35 => 291 | 40 => 295 | n => n, fun | 23 => 118 | 25 => 3 | 3 => 3 | 32 => 258 | 22 => 118 | 0 => 0 | 44 => 281 | 46 => 56 | 4 => 4 | 36 => 291 | 35 => 290 | 41 => 192 | 5 => 5 | 9 => 9 | 53 => 315 | 57 => 319 | 63 => 330 | 64 => 331 | n => n, fun n => n⟩
theorem srti : SlLaysM.n5 Tryz.prog srti_ren := {
  mixed := by kernel_rfl,
  f5 := ⟨Tryz.f216.name, by decide, Tryz.func216.trans (congrArg some (by kernel_rfl))⟩,
  f7 := ⟨Tryz.f242.name, by decide, Tryz.func242.trans (congrArg some (by kernel_rfl))⟩,
  f8 := Tryz.func206.trans (congrArg some (by kernel_rfl)),
  f10 := ⟨Tryz.f270.name, by decide, Tryz.func270.trans (congrArg some (by kernel_rfl))⟩,
  f11 := ⟨Tryz.f271.name, by decide, Tryz.func271.trans (congrArg some (by kernel_rfl))⟩,
  f12 := ⟨Tryz.f272.name, by decide, Tryz.func272.trans (congrArg some (by kernel_rfl))⟩,
  f13 := ⟨Tryz.f273.name, by decide, Tryz.func273.trans (congrArg some (by kernel_rfl))⟩,
  f14 := ⟨Tryz.f274.name, by decide, Tryz.func274.trans (congrArg some (by kernel_rfl))⟩,
  f15 := ⟨Tryz.f275.name, by decide, Tryz.func275.trans (congrArg some (by kernel_rfl))⟩,
  f16 := ⟨Tryz.f276.name, by decide, Tryz.func276.trans (congrArg some (by kernel_rfl))⟩,
  f17 := ⟨Tryz.f277.name, by decide, Tryz.func277.trans (congrArg some (by kernel_rfl))⟩,
  f18 := ⟨Tryz.f278.name, by decide, Tryz.func278.trans (congrArg some (by kernel_rfl))⟩,
  f19 := Tryz.func236.trans (congrArg some (by kernel_rfl)),
  f20 := Tryz.func212.trans (congrArg some (by kernel_rfl)),
  f30 := ⟨Tryz.f288.name, by decide, Tryz.func288.trans (congrArg some (by kernel_rfl))⟩,
  f31 := Tryz.func262.trans (congrArg some (by kernel_rfl)),
  f32 := Tryz.func263.trans (congrArg some (by kernel_rfl)),
  f33 := ⟨Tryz.f289.name, by decide, Tryz.func289.trans (congrArg some (by kernel_rfl))⟩,
  f34 := ⟨Tryz.f290.name, by decide, Tryz.func290.trans (congrArg some (by kernel_rfl))⟩,
  f35 := ⟨Tryz.f291.name, by decide, Tryz.func291.trans (congrArg some (by kernel_rfl))⟩,
  f40 := ⟨Tryz.f295.name, by decide, Tryz.func295.trans (congrArg some (by kernel_rfl))⟩,
  t0 := Tryz.underlying0,
  a0 := Tryz.isAgg0,
  z0 := Tryz.sizeOf0,
  v0 := Tryz.zeroValue0,
  t3 := Tryz.underlying3,
  a3 := Tryz.isAgg3,
  z3 := Tryz.sizeOf3,
  v3 := Tryz.zeroValue3,
  t4 := Tryz.underlying4,
  a4 := Tryz.isAgg4,
  z4 := Tryz.sizeOf4,
  v4 := Tryz.zeroValue4,
  t5 := Tryz.underlying5,
  a5 := Tryz.isAgg5,
  z5 := Tryz.sizeOf5,
  v5 := Tryz.zeroValue5,
  t9 := Tryz.underlying9,
  a9 := Tryz.isAgg9,
  z9 := Tryz.sizeOf9,
  v9 := Tryz.zeroValue9,
  t22 := Tryz.underlying118,
  a22 := Tryz.isAgg118,
  z22 := Tryz.sizeOf118,
  v22 := Tryz.zeroValue118,
  t23 := Tryz.underlying118,
  a23 := Tryz.isAgg118,
  z23 := Tryz.sizeOf118,
  v23 := Tryz.zeroValue118,
  t25 := Tryz.underlying3,
  a25 := Tryz.isAgg3,
  z25 := Tryz.sizeOf3,
  v25 := Tryz.zeroValue3,
  t32 := Tryz.underlying258,
  a32 := Tryz.isAgg258,
  z32 := Tryz.sizeOf258,
  v32 := Tryz.zeroValue258,
  t35 := Tryz.underlying290,
  a35 := Tryz.isAgg290,
  z35 := Tryz.sizeOf290,
  v35 := Tryz.zeroValue290,
  t36 := Tryz.underlying291,
  a36 := Tryz.isAgg291,
  z36 := Tryz.sizeOf291,
  v36 := Tryz.zeroValue291,
  t41 := Tryz.underlying192,
  a41 := Tryz.isAgg192,
  z41 := Tryz.sizeOf192,
  v41 := Tryz.zeroValue192,
  t44 := Tryz.underlying281,
  a44 := Tryz.isAgg281,
  z44 := Tryz.sizeOf281,
  v44 := Tryz.zeroValue281,
  t46 := Tryz.underlying56,
  a46 := Tryz.isAgg56,
  z46 := Tryz.sizeOf56,
  v46 := Tryz.zeroValue56,
  t53 := Tryz.underlying315,
  a53 := Tryz.isAgg315,
  z53 := Tryz.sizeOf315,
  v53 := Tryz.zeroValue315,
  t57 := Tryz.underlying319,
  a57 := Tryz.isAgg319,
  z57 := Tryz.sizeOf319,
  v57 := Tryz.zeroValue319,
  t63 := Tryz.underlying330,
  a63 := Tryz.isAgg330,
  z63 := Tryz.sizeOf330,
  v63 := Tryz.zeroValue330,
  t64 := Tryz.underlying331,
  a64 := Tryz.isAgg331,
  z64 := Tryz.sizeOf331,
  v64 := Tryz.zeroValue331 }
end Go.Proofs.YtkjkdnphikendaaGreatDoor
/-
  A map's keys, sorted: what the library's slices.Sorted and maps.Keys tell of a map that is known.
-/
set_option linter.all false
set_option maxRecDepth 100000
set_option maxHeartbeats 2000000
namespace Go.Proofs.YtkjkdnphikendaaGreatDoor
open Go Go.Eng Go.RowKit Go.Maps Go.Sort Go.Shelf Go.WideElems

def anyE (_ : Value) : Option (DataW Unit × List MemPlace) := some (.nil, [])

theorem owns_mapL {P : Program} {k : TypeId} (hk : P.underlying k = some (.int .i64)) {w : World} {r : Nat} {xs : List (Int × Value)} (M : MapL w.heap r xs) (hr : ∀ p ∈ xs, (Lit.int .i64 p.1).wf = true) (hlen : xs.length ≤ 1000000) :
    ∃ D : DataW Unit, w.ownsMap P k anyE r xs.length D ∧ (intKeys D).Perm (xs.map (·.1)) ∧ Maps.size D = xs.length := by
  obtain ⟨es, cl, h1, h2, h3, h4, h5⟩ := M
  have hl : es.size = xs.length := by
    have := congrArg List.length h2
    simpa using this
  have hkeys : es.toList.map (·.key) = xs.map fun p => Value.int .i64 p.1 := by
    have := congrArg (List.map (·.1)) h2
    simpa [List.map_map, Function.comp_def] using this
  have hrg : ∀ e : MapEntry, rg P k anyE e = ((keyOf P k e.key).map fun key => (key, DataW.nil (H := Unit))).getD (.bool false, .nil) := by
    intro e
    unfold rg WideElems.rd anyE
    cases keyOf P k e.key <;> rfl
  have hmap : es.toList.map (rg P k anyE) = xs.map fun (p : Int × Value) => (Lit.int .i64 p.1, DataW.nil (H := Unit)) := by
    have e1 : es.toList.map (rg P k anyE) = (es.toList.map (·.key)).map fun v => ((keyOf P k v).map fun key => (key, DataW.nil (H := Unit))).getD (.bool false, .nil) := by
      rw [List.map_map]
      exact List.map_congr_left fun e _ => hrg e
    rw [e1, hkeys, List.map_map]
    refine List.map_congr_left fun p hp => ?_
    simp only [Function.comp_def]
    rw [keyOf_int_mk hk (hr p hp)]
    rfl
  refine ⟨.map ((es.toList.map (rg P k anyE)).foldr DataW.insert []), ⟨es, cl, h1, ⟨?_, ⟨h5, h4, ?_⟩, fun e he => ?_⟩, by omega, rfl⟩, ?_, ?_⟩
  · have : (1000000 : Nat) ≤ maxLen := by decide
    omega
  · rw [hkeys]
    have h6 : xs.map (fun p => Value.int .i64 p.1) = (xs.map (·.1)).map fun a => Value.int .i64 a := by rw [List.map_map]; rfl
    rw [h6]
    unfold List.Nodup
    rw [List.pairwise_map]
    exact h3.imp fun hne e => hne (by injection e)
  · have hm : e.key ∈ es.toList.map (·.key) := List.mem_map.2 ⟨e, he, rfl⟩
    rw [hkeys] at hm
    obtain ⟨p, hp, hpe⟩ := List.mem_map.1 hm
    refine ⟨(.int .i64 p.1, .nil), ?_⟩
    unfold WideElems.rd anyE
    rw [← hpe, keyOf_int_mk hk (hr p hp)]
    rfl
  · show (List.map (fun p : Lit × DataW Unit => Go.intOf p.1) _).Perm _
    have hp := (WideShapes.sorted_perm (es.toList.map (rg P k anyE))).map fun p : Lit × DataW Unit => Go.intOf p.1
    refine hp.trans ?_
    rw [hmap, List.map_map]
    have : (List.map ((fun p : Lit × DataW Unit => Go.intOf p.1) ∘ fun p : Int × Value => (Lit.int .i64 p.1, DataW.nil)) xs) = xs.map (·.1) := List.map_congr_left fun p _ => rfl
    rw [this]
  · rw [Maps.size_eq, length_sorted, hmap, List.length_map]

theorem row_own {w : World} {base : Nat} {e : TypeId} {v : Value} {n : Nat} {xs : List Value} (h : w.ownsRow base e 1 v n xs) : ∃ a c, v = .slice a n c ∧ Own w.heap e 1 a n c xs ∧ ∀ b ∈ blkA a, base ≤ b := by
  obtain ⟨hx, ⟨rfl, rfl⟩ | ⟨g, cap, cur, rfl, hg, ho, hn, _, hs, ht⟩⟩ := h
  · exact ⟨none, 0, rfl, .inl ⟨rfl, rfl, rfl, List.eq_nil_of_length_eq_zero (by omega)⟩, by simp [blkA]⟩
  · refine ⟨some ⟨g, 0, none⟩, cap, rfl, .inr ⟨g, cur.toList, rfl, ho, by rw [hx]; exact ht, by simpa using hs, hx, hn⟩, ?_⟩
    intro b hb
    have : b = g := by simpa [blkA] using hb
    omega
end Go.Proofs.YtkjkdnphikendaaGreatDoor
/-
  What slices.Sorted tells of what maps.Keys hands back: the keys of a map, sorted, in a slice of its own.
-/
set_option linter.all false
set_option maxRecDepth 100000
set_option maxHeartbeats 2000000
namespace Go.Proofs.YtkjkdnphikendaaGreatDoor
open Go Go.Eng Go.RowKit Go.Maps Go.Sort Go.Shelf Go.WideElems

theorem sorts_int (ρ : Ren) (hρ : ρ.f 9 = 216) (m : Nat) : AnyZI.SortsIn Tryz.prog ρ Fence.wide m :=
  ⟨fun blk off cap ss W hH hblk hsz => callsIn_wide.2 (by rw [hρ]; exact AnyM.slices_Sort_int srti blk off cap ss W hH hblk hsz),
   fun p cap W => callsIn_wide.2 (by rw [hρ]; exact AnyM.slices_Sort_int_none srti p cap W)⟩

theorem keysA_spec (r : Nat) (h : Heap) : CallH Tryz.prog 174 [.map (some r)] h (fun v h' => v = .func (.func 217) #[] #[.pointer (some ⟨h.size, 0, none⟩)] ∧ h' = h.push (.cells #[.map (some r)] 110 (0, 0))) := by
  intro w hw
  subst hw
  refine (callsIn_wide.1 (AnyZI.keys_in keysA Fence.wide 5 trivial rfl (some r) w)).mono fun e w' ⟨he, hw⟩ => ?_
  subst he hw
  exact ⟨_, rfl, ⟨rfl, rfl, rfl⟩, rfl, rfl⟩
theorem wf_int {x : Int} (h : inI64 x) : (Lit.int .i64 x).wf = true := by
  have h1 : IntKind.i64.min ≤ x := h.1
  have h2 : x ≤ IntKind.i64.max := h.2
  show (decide (IntKind.i64.min ≤ x) && decide (x ≤ IntKind.i64.max)) = true
  rw [decide_eq_true h1, decide_eq_true h2]; rfl

theorem sorted_of {h : Heap} {xs : List (Int × Value)} {f : Nat} {lb : List Value} {w : World} (hw : w.heap = h) {e : TypeId}
    (hr : ∀ p ∈ xs, inI64 p.1) {D : DataW Unit} (hD : (intKeys D).Perm (xs.map (·.1))) (hlen : xs.length ≤ 1000000)
    (c : Calls Tryz.prog f ⟨lb⟩ w fun e' w' => ∃ (v : Value) (ss : List Int), e' = .returned v ∧ ss.Perm (intKeys D) ∧ w'.ownsRow w.heap.size e 1 v ss.length ((ss.mergeSort (fun x y => decide (x ≤ y))).map encZ) ∧ (v = .slice none 0 0 ↔ ss = []) ∧ Below w.heap.size w w') :
    Calls Tryz.prog f ⟨lb⟩ w fun e w' => ∃ v, e = .returned v ∧ SameOut w w' ∧ Keeps [] h w'.heap ∧ ∃ a c l, v = .slice a l.length c ∧ Sl w'.heap a l.length c l ∧ l.Perm (xs.map (·.1)) := by
  subst hw
  refine c.mono ?_
  rintro e' w' ⟨v, ss, rfl, hS, hrow, _, hb⟩
  obtain ⟨a, c, rfl, O, _⟩ := row_own hrow
  have hp := (List.mergeSort_perm ss (fun x y => decide (x ≤ y)))
  have hpx : (ss.mergeSort (fun x y => decide (x ≤ y))).Perm (xs.map (·.1)) := hp.trans (hS.trans hD)
  have hll : ss.length = (ss.mergeSort (fun x y => decide (x ≤ y))).length := hp.length_eq.symm
  have hlx := hpx.length_eq
  rw [List.length_map] at hlx
  rw [hll] at O
  refine ⟨_, rfl, ⟨hb.os, hb.output, hb.tape⟩, ⟨hb.size, fun x hx _ => hb.block x hx⟩, a, c, ss.mergeSort (fun x y => decide (x ≤ y)), by rw [hll], ?_, hpx⟩
  refine O.sl (reps_ints _ _ fun x hx => ?_) rfl (by decide) (by omega)
  obtain ⟨p, hp, rfl⟩ := List.mem_map.1 (hpx.mem_iff.1 hx)
  exact hr p hp

theorem sortedA_spec {h : Heap} {b r : Nat} {T : TypeId} {xs : List (Int × Value)} (o : h[b]? = some (.cells #[.map (some r)] T (0, 0))) (M : MapL h r xs) (hr : ∀ p ∈ xs, inI64 p.1) (hlen : xs.length ≤ 1000000) :
    CallH Tryz.prog 173 [.func (.func 217) #[] #[.pointer (some ⟨b, 0, none⟩)]] h (fun v h' => Keeps [] h h' ∧ ∃ a c l, v = .slice a l.length c ∧ Sl h' a l.length c l ∧ l.Perm (xs.map (·.1))) := by
  intro w hw
  subst hw
  obtain ⟨D, hown, hp, hs⟩ := owns_mapL Tryz.underlying3 M (fun p hp => wf_int (hr p hp)) hlen
  have hbl := obj_lt o
  have hcell : w.cell? ⟨b, 0, none⟩ = some (.map (some r)) := by simp [World.cell?, o]
  have hseq : SeqGives Fence.wide 2 Tryz.prog 217 #[.pointer (some ⟨b, 0, none⟩)] encZ (fun ss => ss.Perm (intKeys D)) (Maps.size D) w :=
    AnyZI.keys_gives (ρ := keysA_ren) { keysA with } Fence.wide _ trivial rfl (by omega) b r xs.length D w hbl hcell hown
  have cS := AnyZI.sorted_in sortedA Fence.wide 5 trivial trivial trivial trivial rfl (by omega) (sorts_int _ rfl _) (enters_of Tryz.func216 (by kernel_rfl) rfl) 217 #[.pointer (some ⟨b, 0, none⟩)] trivial (enters_of Tryz.func217 (by kernel_rfl) rfl) _ _ (by rw [hs]; exact Nat.le_trans hlen (by decide)) (by rw [hs]; omega) w hseq
  exact sorted_of rfl hr hp hlen (callsIn_wide.1 cS)
end Go.Proofs.YtkjkdnphikendaaGreatDoor
/-
  Layers 2, 8: the numbers that were noted; which words aren't sure.
-/
set_option linter.all false
set_option maxRecDepth 100000
set_option maxHeartbeats 4000000
namespace Go.Proofs.YtkjkdnphikendaaGreatDoor
open Go Go.Eng

theorem setV_keys (s : List Int) : (setV s).map (·.1) = s := by
  unfold setV
  rw [List.map_map]
  conv => rhs; rw [← List.map_id s]
  rfl

theorem nlist_spec {h : Heap} {r : Nat} {s : List Int} (M : MapL h r (setV s)) (hs : ∀ x ∈ s, 0 ≤ x ∧ x < 24) : CallH Tryz.prog 124 [.map (some r)] h (fun v h' => Keeps [] h h' ∧ ∃ a c l, v = .slice a l.length c ∧ Sl h' a l.length c l ∧ l.Perm s) := by
  have hn : s.Nodup := by
    obtain ⟨es, cl, _, _, g, _⟩ := M
    rw [setV_keys] at g; exact g
  have hlen : s.length ≤ 24 := by
    have h1 : s ⊆ (List.range 24).map fun (i : Nat) => (i : Int) := fun x hx => by
      have := hs x hx
      exact List.mem_map.2 ⟨x.toNat, by simp; omega, by omega⟩
    have := hn.length_le_of_subset h1
    simpa using this
  have hr : ∀ p ∈ setV s, inI64 p.1 := fun p hp => by
    have : p.1 ∈ s := by rw [← setV_keys s]; exact List.mem_map.2 ⟨p, hp, rfl⟩
    have := hs _ this
    unfold inI64; omega
  refine call_of hmix Tryz.func124 rfl ok124 (by simp [Tryz.f124]) ?_
  conv => whnf
  refine CallR.i ((keysA_spec r h).mono (R' := fun v h' => Keeps [] h h' ∧ v = .func (.func 217) #[] #[.pointer (some ⟨h.size, 0, none⟩)] ∧ h' = h.push (.cells #[.map (some r)] 110 (0, 0))) fun v h' ⟨hv, hh⟩ => ⟨by rw [hh]; exact keeps_push _ _, hv, hh⟩) fun v h1 k1 hv => ?_
  obtain ⟨rfl, hh⟩ := hv
  have o1 : h1[h.size]? = some (.cells #[.map (some r)] 110 (0, 0)) := by rw [hh]; simp
  conv => whnf
  refine CallR.i (sortedA_spec o1 (M.keep k1 (by simp)) hr (by unfold setV; rw [List.length_map]; omega)) fun v h2 k2 hv => ?_
  obtain ⟨a, c, l, rfl, S2, p2⟩ := hv
  conv => whnf
  rw [setV_keys] at p2
  exact ⟨k1.trans k2, a, c, l, rfl, S2, p2⟩

theorem mine_spec {h : Heap} {V : VL} {M : MemS} {X : VS} (A : At h V M X) : CallH Tryz.prog 70 [.pointer (some ⟨V.v, 0, none⟩)] h (fun v h' => Keeps [] h h' ∧ ∃ a c l, v = .slice a l.length c ∧ Sl h' a l.length c l ∧ l.Perm X.mine) := by
  refine call_of hmix Tryz.func70 rfl ok70 (by simp [Tryz.f70]) ?_
  conv => whnf
  refine IfR.f rfl ?_
  conv => whnf
  refine LoadR.o A.obj rfl ?_
  conv => whnf
  refine CallR.i (nlist_spec A.mine fun x hx => A.rng x (List.mem_append_right _ hx)) fun v h1 k1 hv => ?_
  conv => whnf
  exact ⟨k1, hv⟩

end Go.Proofs.YtkjkdnphikendaaGreatDoor
/-
  Layer 13: a card is set, a version further.
-/
set_option linter.all false
set_option maxRecDepth 100000
set_option maxHeartbeats 4000000
namespace Go.Proofs.YtkjkdnphikendaaGreatDoor
open Go Go.Eng

theorem cindex_spec {h : Heap} {a : Option Addr} {n c : Nat} {l : List Int} (S : Sl h a n c l) (x : Int) : CallH Tryz.prog 123 [.slice a n c, .int .i64 x] h (fun v h' => Keeps [] h h' ∧ ∃ k : Int, v = .int .i64 k ∧ (0 ≤ k ↔ x ∈ l)) := by
  have hl := S.hlen
  have hb := S.hbig
  refine call_of hmix Tryz.func123 rfl ok123 (by simp [Tryz.f123]) ?_
  conv => whnf
  refine LoopR.on [0, 1, 7, 8] [] (fun i : Nat => [(0, .v (.slice a n c)), (1, .v (.int .i64 x)), (7, .v (.int .i64 (n : Int))), (8, .v (.int .i64 (i : Int)))]) (fun _ => []) (fun i h' => i ≤ n ∧ Keeps [] h h' ∧ x ∉ l.take i) (fun i => n - i) 0 ?_ ?_
  · conv => whnf
    exact ⟨0, rfl, rfl, rfl, Nat.zero_le _, Keeps.refl _ _, by simp⟩
  · rintro i h1 ⟨hi, k1, hx⟩
    conv => whnf
    refine IfR.i (fun hc => ?_) (fun hc => ?_)
    · have hi1 : i < l.length := by simp at hc; omega
      obtain ⟨b2, o2, hb2, _, ⟨rfl, _⟩, hc2⟩ := (S.keep k1).at_ i hi1
      conv => whnf
      refine IdxS.i i rfl (by omega) hb2 ?_
      conv => whnf
      refine LoadR.i (hc2 0 (by simp)) ?_
      conv => whnf
      refine IfR.i (fun hd => ?_) (fun hd => ?_)
      · conv => whnf
        have e : x = l[i] := by simpa using hd
        have : x ∈ l := e ▸ List.getElem_mem hi1
        exact ⟨k1, _, rfl, fun _ => this, fun _ => by omega⟩
      · conv => whnf
        refine ⟨n - (i + 1), by omega, ?_⟩
        conv => whnf
        refine ⟨i + 1, rfl, by rw [wrapN (x := (i : Int) + 1) (n := i + 1) (by simp) (by omega)], rfl, by omega, k1, ?_⟩
        rw [List.take_succ_eq_append_getElem hi1, List.mem_append]
        rintro (h | h)
        · exact hx h
        · have e : ¬ x = l[i] := by simpa using hd
          exact e (by simpa using h)
    · conv => whnf
      have hi1 : l.take i = l := List.take_of_length_le (by simp at hc; omega)
      rw [hi1] at hx
      exact ⟨k1, _, rfl, fun h => absurd h (by decide), fun h => absurd h hx⟩
theorem chas_spec {h : Heap} {a : Option Addr} {n c : Nat} {l : List Int} (S : Sl h a n c l) (x : Int) : CallH Tryz.prog 69 [.slice a n c, .int .i64 x] h (fun v h' => Keeps [] h h' ∧ v = .bool (decide (x ∈ l))) := by
  refine call_of hmix Tryz.func69 rfl ok69 (by simp [Tryz.f69]) ?_
  conv => whnf
  refine CallR.i (cindex_spec S x) fun v h1 k1 hv => ?_
  obtain ⟨k, rfl, hk⟩ := hv
  conv => whnf
  refine ⟨k1, ?_⟩
  by_cases hx : x ∈ l
  · rw [decide_eq_true hx, decide_eq_true (hk.2 hx)]
  · rw [decide_eq_false hx, decide_eq_false (fun e => hx (hk.1 e))]

/-- a card, a version further -/
def verC (c : Crd) (v : UInt64) : Crd := { c with ver := v }
def bumpC (X : VS) (n : Int) (c : Crd) : Crd := if n ∈ X.mine then c else verC c (c.ver + 1)
theorem bumpC_is (X : VS) (n : Int) (c : Crd) : ∃ v, bumpC X n c = verC c v := by
  unfold bumpC
  split
  · exact ⟨c.ver, rfl⟩
  · exact ⟨_, rfl⟩
theorem verC_ok {c : Crd} (h : c.ok) (v : UInt64) : (verC c v).ok := h
theorem verC_right {c : Crd} (h : rightC c = true) (v : UInt64) : rightC (verC c v) = true := by
  unfold rightC at h ⊢
  show (if c.kind = 0 then decide (verC c v = noneC v) else _) = true
  by_cases h0 : c.kind = 0
  · rw [if_pos h0] at h ⊢
    have e : c = noneC c.ver := of_decide_eq_true h
    apply decide_eq_true
    unfold verC
    rw [e]
    rfl
  · rw [if_neg h0] at h ⊢
    exact h
theorem NodeI.ver {now : Int → UInt64} {n : Int} {c : Crd} {l : List Ent} {s : List UInt8} (N : NodeI now n c l s) (v : UInt64) : NodeI now n (verC c v) l s := by
  refine ⟨N.kind, fun h => ⟨?_, (N.free h).2⟩, fun h => ?_, fun h => ?_⟩
  · have e := (N.free h).1
    unfold verC
    rw [e]; rfl
  · obtain ⟨m, D⟩ := N.dir h
    exact ⟨m, D.map, D.wk, D.kind, D.size, D.ok, D.ents, D.str, D.mor⟩
  · obtain ⟨m, F⟩ := N.file h
    exact ⟨m, F.map, F.wk, F.kind, F.size, F.fits, F.by_, F.hol, F.mor⟩

theorem cset_spec {h : Heap} {V : VL} {M : MemS} {X : VS} (A : At h V M X) (n : Int) (hn : 0 ≤ n ∧ n < 24) (c : Crd) (hc : c.ok) (hr : rightC c = true) : CallH Tryz.prog 29 [.pointer (some ⟨V.v, 0, none⟩), .int .i64 n, .agg ⟨c.cells⟩, .int .i64 0] h (fun v h' => Keeps [V.ob, V.sb, V.mb] h h' ∧ v = .int .i64 0 ∧ At h' V M (setS X n (bumpC X n c))) := by
  have bl := A.blt
  refine call_of hmix Tryz.func29 rfl ok29 (by simp [Tryz.f29]) ?_
  conv => whnf
  refine AllocR.i fun b1 h1 e1 s1 o1 k1 => ?_
  conv => whnf
  refine IfR.f rfl ?_
  conv => whnf
  first | refine CallR.i (mine_spec (A.on k1)) fun v h2 k2 hv => ?_ | (refine MeetR.pass ?_; (conv => whnf); refine CallR.i (mine_spec (A.on k1)) fun v h2 k2 hv => ?_)
  obtain ⟨a2, c2, l2, rfl, S2, p2⟩ := hv
  conv => whnf
  refine CallR.i (chas_spec S2 n) fun v h3 k3 hv => ?_
  subst hv
  have hmem : (n ∈ l2) ↔ (n ∈ X.mine) := p2.mem_iff
  have z1 := k1.size
  have z2 := k2.size
  have z3 := k3.size
  have A3 := (A.on k1).on (k2.trans k3)
  have q1 := bl V.ob (by simp [VL.blocks])
  have q2 := bl V.sb (by simp [VL.blocks])
  have q3 := bl V.mb (by simp [VL.blocks])
  have k03 := k1.trans (k2.trans k3)
  by_cases hm : n ∈ X.mine
  · have eb : bumpC X n c = c := if_pos hm
    rw [decide_eq_true (hmem.2 hm), eb]
    conv => whnf
    refine IfR.f rfl ?_
    conv => whnf
    refine CallR.m (vset_spec A3 n hn c hc hr) (fun y hy hx => by
        have hy2 : y = b1 := by simpa [blocksOf, setB] using hy
        simp at hx; omega) fun v h4 k4 hv => ?_
    obtain ⟨rfl, A4⟩ := hv
    conv => whnf
    exact ⟨(k03.mono (by simp)).trans k4, rfl, A4⟩
  · have eb : bumpC X n c = verC c (c.ver + 1) := if_neg hm
    rw [decide_eq_false (fun e => hm (hmem.1 e)), eb]
    conv => whnf
    refine IfR.t rfl ?_
    conv => whnf
    refine BoxR.i fun h4 s4 k4 => ?_
    have A4 := A3.keep k4 (fun b hb => by have := bl b hb; simp; omega)
    have VS := vset_spec A4 n hn (verC c (c.ver + 1)) (verC_ok hc _) (verC_right hr _)
    have hcells : (verC c (c.ver + 1)).cells = [.int .i64 c.kind, .int .i64 c.links, .int .i64 c.size, .int .u64 (IntKind.u64.wrap ((c.ver.toNat : Int) + 1)), .int .i64 c.d0, .int .i64 c.d1, .int .i64 c.d2, .int .i64 c.d3, .int .i64 c.d4, .int .i64 c.more] := by
      rw [wv_succ]; rfl
    rw [hcells] at VS
    conv => whnf
    refine CallR.m VS (fun y hy hx => by
        have hy2 : y = b1 := by simpa [blocksOf, setB] using hy
        simp at hx; omega) fun v h5 k5 hv => ?_
    obtain ⟨rfl, A5⟩ := hv
    conv => whnf
    exact ⟨((k03.new1 k4 (by omega)).mono (by simp)).trans k5, rfl, A5⟩
theorem csetE_spec {h : Heap} (p : Value) (n : Int) (c : Crd) (e : Int) (he : e ≠ 0) : CallH Tryz.prog 29 [p, .int .i64 n, .agg ⟨c.cells⟩, .int .i64 e] h (fun v h' => Keeps [] h h' ∧ v = .int .i64 e) := by
  refine call_of hmix Tryz.func29 rfl ok29 (by simp [Tryz.f29]) ?_
  conv => whnf
  refine AllocR.i fun b1 h1 e1 s1 o1 k1 => ?_
  conv => whnf
  refine IfR.t (by simp [he]) ?_
  conv => whnf
  exact ⟨k1, rfl⟩
end Go.Proofs.YtkjkdnphikendaaGreatDoor
/-
  Layer 12's plain law: a file is put into a view and into the document's tree.
-/
set_option linter.all false
set_option maxRecDepth 100000
set_option maxHeartbeats 2000000
namespace Go.Proofs.YtkjkdnphikendaaGreatDoor
open Go Go.Eng

theorem freeN_setS {B : Int → UInt64} {X : VS} {n : Int} {c : Crd} (hn : n < 24) : freeN B (setS X n c) 96 = freeN B X 96 := by
  unfold freeN
  congr 1
  refine List.filter_congr fun j hj => ?_
  unfold freshB
  have : (setS X n c).now (200 + (j : Int)) = X.now (200 + (j : Int)) := setW_high hn (by omega)
  have h2 : (setS X n c).away = X.away := rfl
  rw [this, h2]
theorem freeN_seeS {B : Int → UInt64} {X : VS} {n : Int} : freeN B (seeS X n) 96 = freeN B X 96 := rfl

/-- a world: files over words, and the document's tree -/
structure WI (B : Int → UInt64) (X : VS) (S : FS) (T : List Nod) (num : List Int) : Prop where
  fs : FsI X.now S
  w : WorldI S T num
  all : ∀ n, 0 ≤ n → n < 24 → (S.C n).kind ≠ 0 → ∃ i, inT T i ∧ nu num i = n
  free : 96 ≤ freeN B X 96 + 5 * (T.length - 2)
  aw : X.awayN = []

theorem WI.fc {B : Int → UInt64} {X : VS} {S : FS} {T : List Nod} {num : List Int} (W : WI B X S T num) : FsC S := by
  have htwo := W.w.two
  have h1 : inT T 1 := ⟨by omega, by omega⟩
  refine ⟨?_, fun n n0 n1 hk e he => ?_⟩
  · have := W.w.kind 1 h1
    rw [W.w.root.1] at this
    rw [this.1]; exact W.w.root.2
  · obtain ⟨i, hi, rfl⟩ := W.all n n0 n1 (by rw [hk]; decide)
    have hki : (tn T i).kind = 2 := by rw [← (W.w.kind i hi).1]; exact hk
    obtain ⟨q1, q2, q3⟩ := W.w.dir i hi hki
    rw [q1] at he
    obtain ⟨e0, he0, rfl⟩ := List.mem_map.1 he
    have hin := q2 e0 he0
    have hr := W.w.rng e0.node hin
    have hk2 := W.w.kind e0.node hin
    have hn : (rn num e0).node = nu num e0.node := rfl
    rw [hn]
    exact ⟨by omega, hr.2, by rw [hk2.1]; omega⟩

theorem freeC_iff {X : VS} {S : FS} (I : FsI X.now S) (ha : X.awayN = []) {n : Int} (h0 : 0 ≤ n ∧ n < 24) : freeC X n = true ↔ (S.C n).kind = 0 := by
  have hc := I.card n h0.1 h0.2
  have hw : X.now (8 + n * 8) = fldK (S.C n) := by
    have h1 := congrArg (fun l => l[0]?.getD 0) hc
    have h2 : (rdL X.now (8 + n * 8) 8)[0]?.getD 0 = X.now (8 + n * 8) := by simp [rdL]
    rw [h2] at h1
    exact h1
  have B := rightC_b (I.node n h0.1 h0.2).right
  have hg : (cardG (cardW (S.C n))).kind = (S.C n).kind := by rw [cardG_W B]
  have hg2 : (cardG (cardW (S.C n))).kind = ((getF (fldK (S.C n)) 0 8).toNat : Int) := rfl
  rw [hg2] at hg
  unfold freeC
  rw [ha, hw]
  simp
  constructor
  · intro h; rw [← hg, h]; rfl
  · intro h
    rw [h] at hg
    exact UInt64.toNat_inj.1 (by simpa using hg)

theorem firstC_least {X : VS} : ∀ {f i k : Nat}, firstC X f i = some k → ∀ j, i ≤ j → j < k → freeC X (j : Int) = false
  | 0, _, _, h => by cases h
  | f + 1, i, k, h => by
    unfold firstC at h
    split at h
    · cases h; intro j h1 h2; omega
    · rename_i hh
      intro j h1 h2
      by_cases e : j = i
      · subst e; simpa using hh
      · exact firstC_least h j (by omega) h2
theorem firstC_none {X : VS} : ∀ {f i : Nat}, firstC X f i = none → ∀ j, i ≤ j → j < i + f → freeC X (j : Int) = false
  | 0, _, _ => fun j h1 h2 => by omega
  | f + 1, i, h => by
    unfold firstC at h
    split at h
    · cases h
    · rename_i hh
      intro j h1 h2
      by_cases e : j = i
      · subst e; simpa using hh
      · exact firstC_none h j (by omega) (by omega)

theorem WorldI.congr {S S' : FS} {T : List Nod} {num : List Int} (W : WorldI S T num) (h : ∀ i, inT T i → (S'.C (nu num i)).kind = (S.C (nu num i)).kind ∧ S'.nm (nu num i) = S.nm (nu num i) ∧ S'.by_ (nu num i) = S.by_ (nu num i)) : WorldI S' T num :=
  ⟨W.len, W.two, W.root, W.rng, W.inj, fun i hi => by rw [(h i hi).1]; exact W.kind i hi, fun i hi hk => by rw [(h i hi).2.1]; exact W.dir i hi hk, fun i hi hk => by rw [(h i hi).2.2]; exact W.data i hi hk, W.oth⟩

/-- a number is taken, and given back -/
theorem WI.back {B : Int → UInt64} {X Y : VS} {S : FS} {T : List Nod} {num : List Int} (W : WI B X S T num) {n : Int} (hn : 2 ≤ n ∧ n < 24) (hk : (S.C n).kind = 0) {c : Crd} (hc : c.kind = 0 → c = noneC c.ver) (hk0 : c.kind = 0)
    (hY : ∀ a, 200 ≤ a → Y.now a = X.now a) (hcard : rdL Y.now (8 + n * 8) 8 = cardW c) (hoth : ∀ k, 0 ≤ k → k < 24 → k ≠ n → rdL Y.now (8 + k * 8) 8 = rdL X.now (8 + k * 8) 8) (haw : Y.awayN = X.awayN) (hay : Y.away = X.away) : ∃ S', WI B Y S' T num := by
  have hno : ∀ x, 0 ≤ x → x < 96 → Y.now (200 + x) ≠ w64 (n + 1) := fun x x0 x1 => by rw [hY _ (by omega)]; exact ((W.fs.node n (by omega) hn.2).free hk).2 x x0 x1
  have N : NodeI Y.now n c [] [] := by
    have := none_node (now := Y.now) (n := n) c.ver hno
    rw [← hc hk0] at this
    exact this
  refine ⟨S.put n c [] [], ?_, ?_, ?_, ?_, haw.trans W.aw⟩
  · exact W.fs.put ⟨by omega, hn.2⟩ (Fr0.of n hY) hoth hcard N (by omega)
  · refine W.w.congr fun i hi => ?_
    have hne : nu num i ≠ n := by
      intro e
      have h1 := (W.w.kind i hi).1
      have h2 := (W.w.kind i hi).2.1
      rw [e, hk] at h1
      omega
    show (if nu num i = n then c else S.C (nu num i)).kind = _ ∧ (if nu num i = n then [] else S.nm (nu num i)) = _ ∧ (if nu num i = n then [] else S.by_ (nu num i)) = _
    rw [if_neg hne, if_neg hne, if_neg hne]
    exact ⟨rfl, rfl, rfl⟩
  · intro k k0 k1 hkk
    have hkk : (if k = n then c else S.C k).kind ≠ 0 := hkk
    by_cases e : k = n
    · rw [if_pos e] at hkk; exact absurd hk0 hkk
    · rw [if_neg e] at hkk; exact W.all k k0 k1 hkk
  · have : freeN B Y 96 = freeN B X 96 := by
      unfold freeN
      congr 1
      refine List.filter_congr fun j hj => ?_
      unfold freshB
      rw [hY _ (by omega), hay]
    rw [this]; exact W.free
end Go.Proofs.YtkjkdnphikendaaGreatDoor
/-
  Layer 12's plain law: a file is put into a view and into the document's tree: it is added, or all stays.
-/
set_option linter.all false
set_option maxRecDepth 100000
set_option maxHeartbeats 4000000
namespace Go.Proofs.YtkjkdnphikendaaGreatDoor
open Go Go.Eng

theorem refWrite_zero (data : List UInt8) (h : data.length ≤ 130) : refWriteL [] ((0 : Nat) : Int) data = (data, 0) := by
  unfold refWriteL
  rw [if_neg (by omega)]
  by_cases h0 : data = []
  · rw [if_pos h0, h0]
  · rw [if_neg h0, if_neg (by omega)]
    congr 1
    simp [zeros]

/-- a name more, and a file -/
structure Added (B : Int → UInt64) (X : VS) (S : FS) (T : List Nod) (num : List Int) (d n kind : Int) (name data : List UInt8) (v : UInt64) : Prop where
  cAt : cardR (rdL (setS X n (freshC kind v)).now (8 + nu num d * 8) 8) = some (S.C (nu num d))
  okAt : (S.C (nu num d)).ok
  fail : (addP B (seeS (setS X n (freshC kind v)) (nu num d)) (nu num d) (S.C (nu num d)) name n).2.1 ≠ 0 →
    (addP B (seeS (setS X n (freshC kind v)) (nu num d)) (nu num d) (S.C (nu num d)) name n).2.2 = seeS (setS X n (freshC kind v)) (nu num d) ∧ 10 ≤ (tn T d).names.length
  good : (addP B (seeS (setS X n (freshC kind v)) (nu num d)) (nu num d) (S.C (nu num d)) name n).2.1 = 0 →
    (addP B (seeS (setS X n (freshC kind v)) (nu num d)) (nu num d) (S.C (nu num d)) name n).1.ok ∧ rightC (addP B (seeS (setS X n (freshC kind v)) (nu num d)) (nu num d) (S.C (nu num d)) name n).1 = true ∧
    ∀ X4, X4 = setS (addP B (seeS (setS X n (freshC kind v)) (nu num d)) (nu num d) (S.C (nu num d)) name n).2.2 (nu num d) (addP B (seeS (setS X n (freshC kind v)) (nu num d)) (nu num d) (S.C (nu num d)) name n).1 →
      cardR (rdL X4.now (8 + n * 8) 8) = some (freshC kind v) ∧ okMap X4.now (freshC kind v) ∧
      (writeP B (seeS X4 n) n (freshC kind v) 0 data).2.1 = 0 ∧ (writeP B (seeS X4 n) n (freshC kind v) 0 data).1.ok ∧ rightC (writeP B (seeS X4 n) n (freshC kind v) 0 data).1 = true ∧
      ∃ S', WI B (setS (writeP B (seeS X4 n) n (freshC kind v) 0 data).2.2 n (writeP B (seeS X4 n) n (freshC kind v) 0 data).1) S' (nset T d (insL (tn T d).names ⟨name, (T.length : Int)⟩) ++ [⟨n, kind, 1, data, []⟩]) (num ++ [n])

end Go.Proofs.YtkjkdnphikendaaGreatDoor
/-
  Plain law: where a name stands in a directory's names.
-/
set_option linter.all false
set_option maxRecDepth 100000
set_option maxHeartbeats 1000000
namespace Go.Proofs.YtkjkdnphikendaaGreatDoor
open Go Go.Eng

theorem find_plE {name : List UInt8} : ∀ {l : List Ent}, strict l → findE l name = (if plT l name = true then l[plK l name]? else none)
  | [], _ => rfl
  | x :: l, hs => by
    obtain ⟨h1, h2⟩ := List.pairwise_cons.1 hs
    have ih := find_plE (name := name) h2
    by_cases hx : blt x.name name = true
    · have e1 : plK (x :: l) name = plK l name + 1 := by unfold plK; rw [List.takeWhile_cons, if_pos hx]; rfl
      have e2 : plT (x :: l) name = plT l name := by unfold plT; rw [e1]; rfl
      have hne : ¬ x.name = name := by rintro rfl; rw [blt_irr] at hx; cases hx
      rw [e2, e1]
      have e3 : (x :: l)[plK l name + 1]? = l[plK l name]? := rfl
      rw [e3, ← ih]
      unfold findE
      rw [List.find?_cons, decide_eq_false hne]
    · have e1 : plK (x :: l) name = 0 := by unfold plK; rw [List.takeWhile_cons, if_neg hx]; rfl
      have e2 : plT (x :: l) name = decide (x.name = name) := by unfold plT; rw [e1]; rfl
      rw [e2, e1]
      by_cases hne : x.name = name
      · unfold findE
        rw [List.find?_cons, decide_eq_true hne]
        rfl
      · have hf := find_place (name := name) hs
        rw [e2, decide_eq_false hne] at hf
        rw [decide_eq_false hne]
        cases hfe : findE (x :: l) name with
        | none => rfl
        | some e =>
          unfold findR at hf
          rw [hfe] at hf
          cases hf

/-- a name that is none's -/
theorem find_new {name : List UInt8} {l : List Ent} (hs : strict l) (h : findE l name = none) : plT l name = false := by
  rw [find_plE hs] at h
  by_cases ht : plT l name = true
  · obtain ⟨hk, _⟩ := plT_at ht
    rw [if_pos ht, List.getElem?_eq_getElem hk] at h
    cases h
  · simpa using ht
theorem find_old {name : List UInt8} {l : List Ent} (hs : strict l) {e : Ent} (h : findE l name = some e) : plT l name = true ∧ ∃ hk : plK l name < l.length, l[plK l name] = e ∧ e.name = name := by
  rw [find_plE hs] at h
  by_cases ht : plT l name = true
  · obtain ⟨hk, hn⟩ := plT_at ht
    rw [if_pos ht, List.getElem?_eq_getElem hk] at h
    have he := Option.some.inj h
    exact ⟨ht, hk, he, he ▸ hn⟩
  · rw [if_neg ht] at h
    cases h
end Go.Proofs.YtkjkdnphikendaaGreatDoor
/-
  Layer 13: a place whose name is none's; a name more for a file.
-/
set_option linter.all false
set_option maxRecDepth 100000
set_option maxHeartbeats 4000000
namespace Go.Proofs.YtkjkdnphikendaaGreatDoor
open Go Go.Eng

theorem FS.put_put (S : FS) (n : Int) (c c' : Crd) (l l' : List Ent) (s s' : List UInt8) : (S.put n c l s).put n c' l' s' = S.put n c' l' s' := by
  unfold FS.put
  congr 1
  · funext x; show (if x = n then c' else if x = n then c else S.C x) = _
    split
    · rfl
    · rfl
  · funext x; show (if x = n then l' else if x = n then l else S.nm x) = _
    split
    · rfl
    · rfl
  · funext x; show (if x = n then s' else if x = n then s else S.by_ x) = _
    split
    · rfl
    · rfl

def spL (d : Int) (c : Crd) (nm : List UInt8) (nd : Int) : List Value := [.int .i64 d] ++ c.cells ++ [.string (ba nm), .int .i64 nd]
theorem spL_is (S : FS) (r : Int × List UInt8 × Int × Int) : ∃ d c nm nd, spotC S r = spL d c nm nd ∧ (r.2.2.2 = 0 → d = r.1 ∧ c = S.C r.1 ∧ nm = r.2.1 ∧ nd = r.2.2.1) := by
  unfold spotC
  by_cases h : r.2.2.2 = 0
  · rw [if_pos h]
    exact ⟨_, _, _, _, rfl, fun _ => ⟨rfl, rfl, rfl, rfl⟩⟩
  · rw [if_neg h]
    exact ⟨0, Crd.zero, [], 0, rfl, fun e => absurd e h⟩

/-- a place, where there is one -/
structure PlaceAt (S : FS) (path : List UInt8) (d : Int) (nm : List UInt8) (nd : Int) : Prop where
  is : placeA (viewFs S) path = (d, nm, nd, 0)
  rng : 0 < d ∧ d < 24
  kind : (S.C d).kind = 2
  name : nameB nm = true
  len : nm.length ≤ 200
  node : nd = ((findE (S.nm d) nm).map (·.node)).getD 0

theorem place_at {X : VS} {S : FS} (I : FsI X.now S) (C : FsC S) {path : List UInt8} (h0 : (placeA (viewFs S) path).2.2.2 = 0) : ∃ d nm nd, PlaceAt S path d nm nd := by
  have hpl : placeA (viewFs S) path = placeA (viewFs S) path := rfl
  conv at hpl => rhs; unfold placeA
  cases hpp : pathP path with
  | none => rw [hpp] at hpl; rw [hpl] at h0; cases h0
  | some l =>
    rw [hpp] at hpl
    simp only at hpl
    by_cases hl : l = []
    · rw [if_pos hl] at hpl; rw [hpl] at h0; cases h0
    · rw [if_neg hl] at hpl
      by_cases he : (walkA (viewFs S) 1 true 600 1 0 l.dropLast).2 = 0
      · rw [if_neg (by simpa using he)] at hpl
        by_cases hk : (viewFs S).kind (walkA (viewFs S) 1 true 600 1 0 l.dropLast).1 = 2
        · rw [if_neg (by simpa using hk)] at hpl
          have hin := walkV_in (X := X) C (follow := true) 600 1 0 l.dropLast ⟨by decide, by decide, by rw [C.root]; decide⟩ he
          obtain ⟨x0, x1, _⟩ := hin
          obtain ⟨_, p2, _, _⟩ := pathP_len hpp
          have hm : l.getLast?.getD [] ∈ l := by
            rw [List.getLast?_eq_some_getLast hl]
            exact List.getLast_mem hl
          refine ⟨_, _, _, hpl, ⟨?_, x1⟩, hk, List.all_eq_true.1 p2 _ hm, pathP_names hpp _ hm, rfl⟩
          have hne : (walkA (viewFs S) 1 true 600 1 0 l.dropLast).1 ≠ 0 := by
            intro e
            rw [e] at hk
            have hk : (S.C 0).kind = 2 := hk
            rw [I.zero] at hk
            cases hk
          omega
        · rw [if_pos (by simpa using hk)] at hpl; rw [hpl] at h0; cases h0
      · rw [if_pos (by simpa using he)] at hpl
        rw [hpl] at h0
        exact absurd h0 he

theorem cempty_spec {h : Heap} {V : VL} {M : MemS} {X : VS} (A : At h V M X) {S : FS} (I : FsI X.now S) (C : FsC S) (path : List UInt8) (hp : path.length ≤ 140737488351232) :
    CallH Tryz.prog 28 [.pointer (some ⟨V.v, 0, none⟩), .string (ba path)] h (fun v h' => Keeps [V.sb] h h' ∧ (∃ s, At h' V M { X with seen := s }) ∧ ∃ d c nm nd, v = .tuple #[.agg ⟨spL d c nm nd⟩, .int .i64 (if (placeA (viewFs S) path).2.2.2 ≠ 0 then (placeA (viewFs S) path).2.2.2 else if (placeA (viewFs S) path).2.2.1 ≠ 0 then 5 else 0)] ∧
      ((placeA (viewFs S) path).2.2.2 = 0 → d = (placeA (viewFs S) path).1 ∧ c = S.C (placeA (viewFs S) path).1 ∧ nm = (placeA (viewFs S) path).2.1 ∧ nd = (placeA (viewFs S) path).2.2.1)) := by
  have bl := A.blt
  have msb : V.sb ∈ V.blocks := by simp [VL.blocks]
  refine call_of hmix Tryz.func28 rfl ok28 (by simp [Tryz.f28]) ?_
  conv => whnf
  refine AllocR.i fun b1 h1 e1 s1 o1 k1 => ?_
  have nb1 : ∀ b ∈ V.blocks, b ≠ b1 := fun b hb => by have := bl b hb; omega
  conv => whnf
  refine CallR.m (vplace_spec (A.on k1) I C path hp) (by simp [blocksOf, setB]; exact fun e => nb1 V.sb msb e.symm) fun v h2 k2 hv => ?_
  obtain ⟨rfl, s, A2⟩ := hv
  obtain ⟨d, c, nm, nd, hsp, hq⟩ := spL_is S (placeA (viewFs S) path)
  rw [hsp]
  generalize placeA (viewFs S) path = r at hq
  have z1 := k1.size
  have z2 := k2.size
  conv => whnf
  refine AllocR.i fun b3 h3 e3 s3 o3 k3 => ?_
  conv => whnf
  refine BoxR.i fun h4 s4 k4 => ?_
  have k14 : Keeps [] h2 h4 := k3.new1 k4 (by omega)
  by_cases he : r.2.2.2 = 0
  · obtain ⟨q1, q2, q3, q4⟩ := hq he
    subst q4
    rw [he]
    conv => whnf
    first | refine IfR.i (fun hd => ?_) (fun hd => ?_) | (refine MeetR.pass ?_; (conv => whnf); refine IfR.i (fun hd => ?_) (fun hd => ?_))
    · have hd1 : r.2.2.1 ≠ 0 := by simpa using hd
      conv => whnf
      first | refine BoxR.i fun h5 s5 k5 => ?_ | (refine MeetR.pass ?_; (conv => whnf); refine BoxR.i fun h5 s5 k5 => ?_)
      conv => whnf
      refine ⟨((k1.mono (by simp)).trans (k2.trans_nil k14)).m1 k5 (by omega), ⟨s, (A2.on k14).keep k5 (fun b hb => by simp; exact nb1 b hb)⟩, d, c, nm, r.2.2.1, ?_, fun _ => hq he⟩
      rw [if_neg (by simp), if_pos hd1]; rfl
    · have hd1 : r.2.2.1 = 0 := by simpa using hd
      conv => whnf
      first | refine BoxR.i fun h5 s5 k5 => ?_ | (refine MeetR.pass ?_; (conv => whnf); refine BoxR.i fun h5 s5 k5 => ?_)
      conv => whnf
      refine ⟨((k1.mono (by simp)).trans (k2.trans_nil k14)).m1 k5 (by omega), ⟨s, (A2.on k14).keep k5 (fun b hb => by simp; exact nb1 b hb)⟩, d, c, nm, r.2.2.1, ?_, fun _ => hq he⟩
      rw [if_neg (by simp), if_neg (by simpa using hd1)]; rfl
  · conv => whnf
    first | refine IfR.f (by simp [he]) ?_ | (refine MeetR.pass ?_; (conv => whnf); refine IfR.f (by simp [he]) ?_)
    conv => whnf
    first | refine BoxR.i fun h5 s5 k5 => ?_ | (refine MeetR.pass ?_; (conv => whnf); refine BoxR.i fun h5 s5 k5 => ?_)
    conv => whnf
    refine ⟨((k1.mono (by simp)).trans (k2.trans_nil k14)).m1 k5 (by omega), ⟨s, (A2.on k14).keep k5 (fun b hb => by simp; exact nb1 b hb)⟩, d, c, nm, nd, ?_, hq⟩
    rw [if_pos he]; rfl

/-- a name more: what stands then -/
theorem cadd_spec {h : Heap} {V : VL} {M : MemS} {X : VS} (A : At h V M X) {S : FS} (I : FsI X.now S) {d : Int} (hd : 0 < d ∧ d < 24) (hk : (S.C d).kind = 2) {nm : List UInt8} (hnm : nameB nm = true) (hnl : nm.length ≤ 200) (hf : findE (S.nm d) nm = none) (c : Crd) (nd : Int) (n : Int) (hn : 1 ≤ n ∧ n < 24) :
    CallH Tryz.prog 30 [.pointer (some ⟨V.v, 0, none⟩), .agg ⟨spL d c nm nd⟩, .int .i64 n] h (fun v h' => Keeps [V.ob, V.sb, V.mb] h h' ∧ ∃ X', At h' V M X' ∧ X'.away = X.away ∧ X'.awayN = X.awayN ∧
      ((v = .int .i64 9 ∧ (freeN M.read X 96 < 2 ∨ roomN (bucketL nm) ≤ hadL (S.nm d) nm)) ∨
       (v = .int .i64 0 ∧ freeN M.read X 96 ≤ freeN M.read X' 96 + 2 ∧ (∀ x ∈ X.mine, x ∈ X'.mine) ∧ ∃ c', FsI X'.now (S.put d c' (insL (S.nm d) ⟨nm, n⟩) (S.by_ d)) ∧ c'.kind = 2 ∧ c'.links = 1))) := by
  have bl := A.blt
  have hd0 : 0 ≤ d ∧ d < 24 := ⟨by omega, hd.2⟩
  have N := I.node d hd0.1 hd0.2
  obtain ⟨m, D⟩ := N.dir hk
  have hcr : cardR (rdL X.now (8 + d * 8) 8) = some (S.C d) := by rw [I.card d hd0.1 hd0.2]; exact cardR_W N.right
  have hpt : plT (S.nm d) nm = false := find_new D.str hf
  have href : refAdd (S.nm d) nm n = (insL (S.nm d) ⟨nm, n⟩, 0) := by
    unfold refAdd
    rw [if_neg (by omega), if_neg (by rw [hnm]; simp), if_neg (by rw [hpt]; simp)]
  have D' : DirI (seeS X d).now d (S.C d) m (S.nm d) := D
  have AP := addP_plain (B := M.read) (X := seeS X d) hd0 D' nm n
  have AC := addP_cnt (B := M.read) (X := seeS X d) hd0 D' nm n
  rw [href] at AP
  refine call_of hmix Tryz.func30 rfl ok30 (by simp [Tryz.f30]) ?_
  conv => whnf
  refine AllocR.i fun b1 h1 e1 s1 o1 k1 => ?_
  have nb1 : ∀ b ∈ V.blocks, b ≠ b1 := fun b hb => by have := bl b hb; omega
  conv => whnf
  refine CallR.m (vcard_spec (A.on k1) d) (by simp [blocksOf, setB]; exact fun e => nb1 V.sb (by simp [VL.blocks]) e.symm) fun v h2 k2 hv => ?_
  rw [if_pos hd0, hcr] at hv
  obtain ⟨rfl, A2⟩ := hv
  unfold cardT
  have z1 := k1.size
  have z2 := k2.size
  conv => whnf
  refine AllocR.i fun b3 h3 e3 s3 o3 k3 => ?_
  conv => whnf
  refine BoxR.i fun h4 s4 k4 => ?_
  have k24 : Keeps [] h2 h4 := k3.new1 k4 (by omega)
  have A4 := A2.on k24
  have q1 := bl V.ob (by simp [VL.blocks])
  have q2 := bl V.sb (by simp [VL.blocks])
  have q3 := bl V.mb (by simp [VL.blocks])
  conv => whnf
  refine IfR.f rfl ?_
  conv => whnf
  refine CallR.m (add_spec A4 d (S.C d) N.ok nm (by omega) n) (fun y hy hx => by
      simp [blocksOf, setB] at hy hx; omega) fun v h5 k5 hv => ?_
  obtain ⟨rfl, A5⟩ := hv
  have z4 := k4.size
  have z5 := k5.size
  generalize addP M.read (seeS X d) d (S.C d) nm n = r at AP AC A5
  obtain ⟨ac1, ac2⟩ := AC
  conv => whnf
  refine AllocR.i fun b6 h6 e6 s6 o6 k6 => ?_
  conv => whnf
  refine BoxR.i fun h7 s7 k7 => ?_
  have k57 : Keeps [] h5 h7 := k6.new1 k7 (by omega)
  have A7 := A5.on k57
  have kk : Keeps [V.ob, V.sb, V.mb] h h7 := (((k1.mono (by simp)).trans (k2.mono (by simp))).trans_nil k24).trans ((k5.mono (by simp)).trans_nil k57)
  rcases AP with ⟨_, a2, _⟩ | ⟨_, a2, a3⟩ | ⟨_, a2, a3, m', D2, F2⟩
  · exact absurd rfl a2
  · rw [a2]
    conv => whnf
    refine CallR.i (csetE_spec _ d r.1 9 (by decide)) fun v h8 k8 hv => ?_
    subst hv
    conv => whnf
    refine ⟨kk.trans_nil k8, r.2.2, A7.on k8, by rw [ac2]; rfl, by rw [ac2]; rfl, .inl ⟨rfl, ?_⟩⟩
    rcases a3 with a3 | a3
    · exact .inr a3
    · exact .inl a3
  · rw [a2]
    conv => whnf
    refine CallR.m (cset_spec A7 d hd0 r.1 D2.right.2 D2.right.1) (fun y hy hx => by
        simp [blocksOf, setB] at hy hx; omega) fun v h8 k8 hv => ?_
    obtain ⟨rfl, A8⟩ := hv
    conv => whnf
    obtain ⟨vv, ev⟩ := bumpC_is r.2.2 d r.1
    have N2 : NodeI r.2.2.now d r.1 (insL (S.nm d) ⟨nm, n⟩) (S.by_ d) := ⟨by rw [D2.kind.1]; decide, fun h => (by rw [D2.kind.1] at h; cases h), fun _ => ⟨m', D2⟩, fun h => (by rw [D2.kind.1] at h; omega)⟩
    have N3 := N2.ver vv
    rw [← ev] at N3
    have I2 := I.set hd F2 N3
    refine ⟨kk.trans k8, _, A8, by show r.2.2.away = _; rw [ac2]; rfl, by show r.2.2.awayN = _; rw [ac2]; rfl, .inr ⟨rfl, ?_, fun x hx => addS_mem.2 (.inl ?_), _, I2, ?_, ?_⟩⟩
    · rw [freeN_setS hd.2]; exact ac1
    · rw [ac2]; exact hx
    · rw [ev]; exact D2.kind.1
    · rw [ev]; exact D2.kind.2
end Go.Proofs.YtkjkdnphikendaaGreatDoor
/-
  Layer 13: a name less for a file; a file that is no more.
-/
set_option linter.all false
set_option maxRecDepth 100000
set_option maxHeartbeats 4000000
namespace Go.Proofs.YtkjkdnphikendaaGreatDoor
open Go Go.Eng

theorem addS_sub {s : List Int} {k x : Int} (h : x ∈ s) : x ∈ addS s k := addS_mem.2 (.inl h)

/-- a file's name is gone from its directory -/
theorem cdrop_spec {h : Heap} {V : VL} {M : MemS} {X : VS} (A : At h V M X) {S : FS} (I : FsI X.now S) {d : Int} (hd : 0 < d ∧ d < 24) (hk : (S.C d).kind = 2) {nm : List UInt8} (hnl : nm.length ≤ 200) {en : Ent} (hf : findE (S.nm d) nm = some en) (nd : Int) :
    CallH Tryz.prog 83 [.pointer (some ⟨V.v, 0, none⟩), .agg ⟨spL d (S.C d) nm nd⟩] h (fun v h' => Keeps [V.ob, V.sb, V.mb] h h' ∧ v = .int .i64 0 ∧ ∃ X', At h' V M X' ∧ X'.away = X.away ∧ X'.awayN = X.awayN ∧ (∀ x ∈ X.mine, x ∈ X'.mine) ∧
      ∃ c', FsI X'.now (S.put d c' ((S.nm d).eraseIdx (plK (S.nm d) nm)) (S.by_ d)) ∧ c'.kind = 2 ∧ c'.links = 1) := by
  have bl := A.blt
  have hd0 : 0 ≤ d ∧ d < 24 := ⟨by omega, hd.2⟩
  have N := I.node d hd0.1 hd0.2
  obtain ⟨m, D⟩ := N.dir hk
  obtain ⟨ht, _⟩ := find_old D.str hf
  have er : refDrop (S.nm d) nm = ((S.nm d).eraseIdx (plK (S.nm d) nm), ((S.nm d)[plK (S.nm d) nm]?.getD ⟨[], 0⟩).node, 0) := by unfold refDrop; rw [if_pos ht]
  refine call_of hmix Tryz.func83 rfl ok83 (by simp [Tryz.f83]) ?_
  conv => whnf
  refine AllocR.i fun b1 h1 e1 s1 o1 k1 => ?_
  have nb1 : ∀ b ∈ V.blocks, b ≠ b1 := fun b hb => by have := bl b hb; omega
  have mob : V.ob ∈ V.blocks := by simp [VL.blocks]
  have msb : V.sb ∈ V.blocks := by simp [VL.blocks]
  have mmb : V.mb ∈ V.blocks := by simp [VL.blocks]
  conv => whnf
  refine CallR.m (drop_specS (A.on k1) hd0 D nm (by omega)) (by simp [blocksOf, setB]; exact fun e => nb1 V.ob mob e.symm) fun v h2 k2 hv => ?_
  obtain ⟨c', X2, rfl, A2, a1, a2, a3, a4, a5⟩ := hv
  rw [er] at a3 a5 ⊢
  obtain ⟨D2, F2⟩ := a3 rfl
  have z1 := k1.size
  have z2 := k2.size
  conv => whnf
  refine AllocR.i fun b3 h3 e3 s3 o3 k3 => ?_
  conv => whnf
  refine BoxR.i fun h4 s4 k4 => ?_
  have k24 : Keeps [] h2 h4 := k3.new1 k4 (by omega)
  have A4 := A2.on k24
  have z3 := k3.size
  have z4 := k4.size
  have q1 := bl V.ob mob
  have q2 := bl V.sb msb
  have q3 := bl V.mb mmb
  conv => whnf
  refine CallR.m (cset_spec A4 d hd0 c' D2.right.2 D2.right.1) (fun y hy hx => by
      simp [blocksOf, setB] at hy hx; omega) fun v h5 k5 hv => ?_
  obtain ⟨rfl, A5⟩ := hv
  conv => whnf
  obtain ⟨vv, ev⟩ := bumpC_is X2 d c'
  have N2 : NodeI X2.now d c' ((S.nm d).eraseIdx (plK (S.nm d) nm)) (S.by_ d) := ⟨by rw [D2.kind.1]; decide, fun h => (by rw [D2.kind.1] at h; cases h), fun _ => ⟨m, D2⟩, fun h => (by rw [D2.kind.1] at h; omega)⟩
  have N3 := N2.ver vv
  rw [← ev] at N3
  have I2 := I.set hd F2 N3
  refine ⟨((k1.mono (by simp)).trans ((k2.mono (by simp)).trans_nil k24)).trans k5, rfl, _, A5, a1, a2, fun x hx => addS_sub (by rw [a4]; exact hx), _, I2, ?_, ?_⟩
  · rw [ev]; exact D2.kind.1
  · rw [ev]; exact D2.kind.2

theorem FileI.bare {now : Int → UInt64} {n : Int} {c : Crd} {m : List Int} (F : FileI now n c m []) : ∀ x, 0 ≤ x → x < 96 → now (200 + x) ≠ w64 (n + 1) := by
  have hm : m = m0 := by
    apply List.ext_getElem (by rw [F.wk.len]; rfl)
    intro j h1 h2
    have hj : j < 21 := by rw [← F.wk.len]; exact h1
    have := F.hol j hj (by simp)
    rw [List.getElem?_eq_getElem h1] at this
    have h3 : m[j] = -1 := this
    rw [h3]
    exact (List.eq_of_mem_replicate (List.getElem_mem (l := m0) h2)).symm
  subst hm
  have hmore : c.more = -1 := F.mor.2 (by decide)
  intro x x0 x1 e
  have := (F.wk.own x x0 x1).2 e
  rw [hmore] at this
  have hu : usedL (-1) m0 = [] := by decide
  rw [hu] at this
  cases this
/-- a file that is no more -/
theorem cgone_spec {h : Heap} {V : VL} {M : MemS} {X : VS} (A : At h V M X) {S : FS} (I : FsI X.now S) {n : Int} (hn : 0 < n ∧ n < 24) (hk : (S.C n).kind = 1 ∨ (S.C n).kind = 3) :
    CallH Tryz.prog 84 [.pointer (some ⟨V.v, 0, none⟩), .int .i64 n, .agg ⟨(S.C n).cells⟩] h (fun v h' => Keeps [V.ob, V.sb, V.mb] h h' ∧ v = .int .i64 0 ∧ ∃ X', At h' V M X' ∧ X'.away = X.away ∧ X'.awayN = X.awayN ∧ (∀ x ∈ X.mine, x ∈ X'.mine) ∧
      ∃ vv, FsI X'.now (S.put n (noneC vv) [] [])) := by
  have bl := A.blt
  have hn0 : 0 ≤ n ∧ n < 24 := ⟨by omega, hn.2⟩
  have N := I.node n hn0.1 hn0.2
  obtain ⟨m, F⟩ := N.file hk
  have mob : V.ob ∈ V.blocks := by simp [VL.blocks]
  have msb : V.sb ∈ V.blocks := by simp [VL.blocks]
  have mmb : V.mb ∈ V.blocks := by simp [VL.blocks]
  have q1 := bl V.ob mob
  have q2 := bl V.sb msb
  have q3 := bl V.mb mmb
  have hcut : refCutL (S.by_ n) 0 = ([], 0) := by
    unfold refCutL
    rw [if_neg (by decide), if_neg (by decide), if_pos (by omega)]
    rfl
  obtain ⟨p1, p2⟩ := cutP_plain (B := M.read) hn0 F 0
  rw [hcut] at p1 p2
  obtain ⟨m', F2, R2, x2, _⟩ := p2 rfl
  refine call_of hmix Tryz.func84 rfl ok84 (by simp [Tryz.f84]) ?_
  conv => whnf
  refine AllocR.i fun b1 h1 e1 s1 o1 k1 => ?_
  have z1 := k1.size
  have hk2 : ¬ (S.C n).kind = 2 := by omega
  conv => whnf
  first | refine IfR.f (by simp [hk2]) ?_ | (refine MeetR.pass ?_; (conv => whnf); refine IfR.f (by simp [hk2]) ?_)
  conv => whnf
  refine CallR.m (cut_spec (A.on k1) n (S.C n) N.ok F.okMap 0) (fun y hy hx => by
      simp [blocksOf, setB] at hy hx; omega) fun v h2 k2 hv => ?_
  obtain ⟨rfl, A2⟩ := hv
  generalize cutP M.read X n (S.C n) 0 = r at p1 F2 R2 x2 A2
  have p1 : r.2.1 = 0 := p1
  have F2 : FileI r.2.2.now n r.1 m' [] := F2
  rw [p1]
  have z2 := k2.size
  conv => whnf
  refine AllocR.i fun b3 h3 e3 s3 o3 k3 => ?_
  conv => whnf
  refine BoxR.i fun h4 s4 k4 => ?_
  have k24 : Keeps [] h2 h4 := k3.new1 k4 (by omega)
  have A4 := A2.on k24
  have z3 := k3.size
  have z4 := k4.size
  conv => whnf
  refine CallR.m (cset_spec A4 n hn0 r.1 F2.ok F2.right) (fun y hy hx => by
      simp [blocksOf, setB] at hy hx; omega) fun v h5 k5 hv => ?_
  obtain ⟨rfl, A5⟩ := hv
  conv => whnf
  refine IfR.f rfl ?_
  have z5 := k5.size
  conv => whnf
  refine CallR.m (release_spec A5 n) (fun y hy hx => by
      simp [blocksOf, setB] at hy hx; omega) fun v h6 k6 hv => ?_
  obtain ⟨rfl, A6⟩ := hv
  conv => whnf
  obtain ⟨vv, ev⟩ := bumpC_is r.2.2 n r.1
  have hk3 : r.1.kind = 1 ∨ r.1.kind = 3 := F2.kind.1
  have N2 : NodeI r.2.2.now n r.1 [] [] := ⟨by omega, fun h => (by omega), fun h => (by omega), fun _ => ⟨m', F2⟩⟩
  have N3 := N2.ver vv
  rw [← ev] at N3
  have I2 := I.set hn R2 N3
  have hcr : cardR (rdL (setS r.2.2 n (bumpC r.2.2 n r.1)).now (8 + n * 8) 8) = some (bumpC r.2.2 n r.1) := by
    show cardR (rdL (setW r.2.2.now n _) (8 + n * 8) 8) = _
    rw [setW_rd]
    exact cardR_W N3.right
  have hrel : releaseP (setS r.2.2 n (bumpC r.2.2 n r.1)) n = (0, setS (seeS (setS r.2.2 n (bumpC r.2.2 n r.1)) n) n (noneC ((bumpC r.2.2 n r.1).ver + 1))) := by
    unfold releaseP
    rw [if_pos hn0, hcr]
    simp only
    rw [if_neg (by rw [ev]; show ¬ r.1.kind = 0; omega)]
  rw [hrel] at A6 ⊢
  have I3 := I2.set hn (Fr.refl n _) (none_node ((bumpC r.2.2 n r.1).ver + 1) (fun x x0 x1 => by
    rw [setW_high hn.2 (by omega)]
    exact F2.bare x x0 x1))
  rw [FS.put_put] at I3
  refine ⟨((k1.mono (by simp)).trans ((k2.mono (by simp)).trans_nil k24)).trans (k5.trans k6), rfl, _, A6, ?_, ?_, fun x hx => ?_, _, I3⟩
  · show r.2.2.away = _
    rw [x2]
  · show r.2.2.awayN = _
    rw [x2]
  · refine addS_sub (addS_sub ?_)
    rw [x2]; exact hx
end Go.Proofs.YtkjkdnphikendaaGreatDoor
/-
  Layer 13: a file's name is removed.
-/
set_option linter.all false
set_option maxRecDepth 100000
set_option maxHeartbeats 4000000
namespace Go.Proofs.YtkjkdnphikendaaGreatDoor
open Go Go.Eng

/-- a name's node, where there is one -/
theorem PlaceAt.there {X : VS} {S : FS} (I : FsI X.now S) (C : FsC S) {path : List UInt8} {d : Int} {nm : List UInt8} {nd : Int} (P : PlaceAt S path d nm nd) (h0 : nd ≠ 0) :
    ∃ en, findE (S.nm d) nm = some en ∧ en.node = nd ∧ en ∈ S.nm d ∧ 0 < nd ∧ nd < 24 ∧ (S.C nd).kind ≠ 0 := by
  have hn := P.node
  cases hf : findE (S.nm d) nm with
  | none => rw [hf] at hn; exact absurd hn h0
  | some en =>
    rw [hf] at hn
    have he : nd = en.node := hn
    have hm : en ∈ S.nm d := List.mem_of_find?_eq_some hf
    obtain ⟨c1, c2, c3⟩ := C.names d (by have := P.rng; omega) P.rng.2 P.kind en hm
    rw [← he] at c1 c2 c3
    exact ⟨en, rfl, he.symm, hm, by omega, c2, c3⟩

/-- names tell no directory in itself -/
def NoSelf (S : FS) : Prop := ∀ d, 0 < d → d < 24 → (S.C d).kind = 2 → ∀ e ∈ S.nm d, e.node ≠ d

def lessC (c : Crd) : Crd := { c with links := c.links - 1 }

/-- what a file is, one name less -/
def Lost (now : Int → UInt64) (S : FS) (d nd : Int) (nm : List UInt8) : Prop := ∃ c1, c1.kind = 2 ∧ c1.links = 1 ∧
  ((1 < (S.C nd).links ∧ ∃ vv, FsI now ((S.put d c1 ((S.nm d).eraseIdx (plK (S.nm d) nm)) (S.by_ d)).put nd (verC (lessC (S.C nd)) vv) (S.nm nd) (S.by_ nd))) ∨
   ((S.C nd).links ≤ 1 ∧ ∃ vv, FsI now ((S.put d c1 ((S.nm d).eraseIdx (plK (S.nm d) nm)) (S.by_ d)).put nd (noneC vv) [] [])))

theorem cremove_spec {h : Heap} {V : VL} {M : MemS} {X : VS} (A : At h V M X) {S : FS} (I : FsI X.now S) (C : FsC S) (Q : NoSelf S) (path : List UInt8) (hp : path.length ≤ 140737488351232) {f : Nat} (hb : hasBody Tryz.prog f = true) {may : Crd → Int}
    (hf : ∀ (c : Crd) (h : Heap), CallH Tryz.prog f [.agg ⟨c.cells⟩] h (fun v h' => Keeps [] h h' ∧ v = .int .i64 (may c))) (hmay : ∀ c, may c = 0 → c.kind ≠ 2) :
    CallH Tryz.prog 34 [.pointer (some ⟨V.v, 0, none⟩), .string (ba path), .func (.func f) #[] #[]] h (fun v h' => Keeps [V.ob, V.sb, V.mb] h h' ∧ ∃ X', At h' V M X' ∧ X'.away = X.away ∧ X'.awayN = X.awayN ∧
      (((placeA (viewFs S) path).2.2.2 ≠ 0 ∧ v = .int .i64 (placeA (viewFs S) path).2.2.2 ∧ X'.now = X.now ∧ X'.mine = X.mine) ∨
       ∃ d nm nd, PlaceAt S path d nm nd ∧ ((nd = 0 ∧ v = .int .i64 4 ∧ X'.now = X.now ∧ X'.mine = X.mine) ∨ (nd ≠ 0 ∧ may (S.C nd) ≠ 0 ∧ v = .int .i64 (may (S.C nd)) ∧ X'.now = X.now ∧ X'.mine = X.mine) ∨
        (nd ≠ 0 ∧ may (S.C nd) = 0 ∧ v = .int .i64 0 ∧ (∀ x ∈ X.mine, x ∈ X'.mine) ∧ Lost X'.now S d nd nm)))) := by
  have bl := A.blt
  have mob : V.ob ∈ V.blocks := by simp [VL.blocks]
  have msb : V.sb ∈ V.blocks := by simp [VL.blocks]
  have mmb : V.mb ∈ V.blocks := by simp [VL.blocks]
  have q1 := bl V.ob mob
  have q2 := bl V.sb msb
  have q3 := bl V.mb mmb
  refine call_of hmix Tryz.func34 rfl ok34 (by simp [Tryz.f34]) ?_
  conv => whnf
  refine CallR.m (vplace_spec A I C path hp) (by simp [blocksOf]) fun v h1 k1 hv => ?_
  obtain ⟨rfl, s, A1⟩ := hv
  have z1 := k1.size
  by_cases he : (placeA (viewFs S) path).2.2.2 = 0
  · obtain ⟨d, nm, nd, P⟩ := place_at I C he
    rw [P.is]
    have hsp : spotC S (d, nm, nd, 0) = spL d (S.C d) nm nd := by unfold spotC; rw [if_pos rfl]; rfl
    rw [hsp]
    generalize hX1 : ({ X with seen := s } : VS) = X1 at A1
    have w1 : X1.now = X.now := by rw [← hX1]
    have w2 : X1.away = X.away := by rw [← hX1]
    have w3 : X1.awayN = X.awayN := by rw [← hX1]
    have w4 : X1.mine = X.mine := by rw [← hX1]
    have I1 : FsI X1.now S := by rw [w1]; exact I
    conv => whnf
    refine AllocR.i fun b2 h2 e2 s2 o2 k2 => ?_
    conv => whnf
    refine BoxR.i fun h3 s3 k3 => ?_
    have k13 : Keeps [] h1 h3 := k2.new1 k3 (by omega)
    have z2 := k2.size
    have z3 := k3.size
    have A3 := A1.on k13
    conv => whnf
    refine IfR.f rfl ?_
    by_cases hnd : nd = 0
    · subst hnd
      conv => whnf
      refine IfR.t rfl ?_
      conv => whnf
      exact ⟨(k1.mono (by simp)).trans_nil k13, X1, A3, w2, w3, .inr ⟨d, nm, 0, P, .inl ⟨rfl, rfl, w1, w4⟩⟩⟩
    · obtain ⟨en, hfe, hen, hmem, n0, n24, hkn⟩ := P.there I C hnd
      have hne : nd ≠ d := by rw [← hen]; exact Q d P.rng.1 P.rng.2 P.kind en hmem
      have N := I1.node nd (by omega) n24
      have hcr : cardR (rdL X1.now (8 + nd * 8) 8) = some (S.C nd) := by rw [I1.card nd (by omega) n24]; exact cardR_W N.right
      conv => whnf
      refine IfR.f (by simp [hnd]) ?_
      conv => whnf
      refine CallR.m (vcard_spec A3 nd) (fun y hy hx => by
          simp [blocksOf, setB] at hy hx; omega) fun v h4 k4 hv => ?_
      rw [if_pos ⟨by omega, n24⟩, hcr] at hv
      obtain ⟨rfl, A4⟩ := hv
      have z4 := k4.size
      unfold cardT
      conv => whnf
      refine AllocR.i fun b5 h5 e5 s5 o5 k5 => ?_
      conv => whnf
      refine BoxR.i fun h6 s6 k6 => ?_
      have k46 : Keeps [] h4 h6 := k5.new1 k6 (by omega)
      have z5 := k5.size
      have z6 := k6.size
      conv => whnf
      refine IfR.f (by simp [hkn]) ?_
      conv => whnf
      rw [hb]
      conv => whnf
      refine CallR.i (hf (S.C nd) h6) fun v h7 k7 hv => ?_
      subst hv
      have z7 := k7.size
      have A7 := A4.on (k46.trans k7)
      have I7 : FsI (seeS X1 nd).now S := I1
      have kk7 : Keeps [V.ob, V.sb, V.mb] h h7 := ((k1.mono (by simp)).trans_nil k13).trans ((k4.mono (by simp)).trans_nil (k46.trans k7))
      by_cases hm : may (S.C nd) = 0
      · rw [hm]
        have hkf : (S.C nd).kind = 1 ∨ (S.C nd).kind = 3 := by have := hmay _ hm; have := N.kind; omega
        conv => whnf
        refine IfR.f rfl ?_
        conv => whnf
        refine CallR.m (cdrop_spec A7 I7 P.rng P.kind P.len hfe nd) (fun y hy hx => by
            simp [blocksOf, setB] at hy hx; omega) fun v h8 k8 hv => ?_
        obtain ⟨rfl, X2, A8, a1, a2, a3, c1, I8, hc1, hc2⟩ := hv
        have z8 := k8.size
        have eC : (S.put d c1 ((S.nm d).eraseIdx (plK (S.nm d) nm)) (S.by_ d)).C nd = S.C nd := if_neg hne
        have eN : (S.put d c1 ((S.nm d).eraseIdx (plK (S.nm d) nm)) (S.by_ d)).nm nd = S.nm nd := if_neg hne
        have eB : (S.put d c1 ((S.nm d).eraseIdx (plK (S.nm d) nm)) (S.by_ d)).by_ nd = S.by_ nd := if_neg hne
        have N8 := I8.node nd (by omega) n24
        rw [eC, eN, eB] at N8
        obtain ⟨mf, F8⟩ := N8.file hkf
        have hlk := F8.kind.2
        conv => whnf
        refine IfR.f rfl ?_
        by_cases hl : 1 < (S.C nd).links
        · conv => whnf
          refine IfR.t (by simp [hl]) ?_
          conv => whnf
          refine BoxR.i fun h9 s9 k9 => ?_
          have A9 := A8.keep k9 (fun b hb => by have := bl b hb; simp; omega)
          have F9 : FileI X2.now nd (lessC (S.C nd)) mf (S.by_ nd) := ⟨F8.map, F8.wk, ⟨F8.kind.1, by show 0 ≤ (S.C nd).links - 1; omega, by show (S.C nd).links - 1 ≤ 255; omega⟩, F8.size, F8.fits, F8.by_, F8.hol, F8.mor⟩
          have CS := cset_spec A9 nd ⟨by omega, n24⟩ (lessC (S.C nd)) F9.ok F9.right
          have hcells : (lessC (S.C nd)).cells = [.int .i64 (S.C nd).kind, .int .i64 (IntKind.i64.wrap ((S.C nd).links - 1)), .int .i64 (S.C nd).size, wv (S.C nd).ver, .int .i64 (S.C nd).d0, .int .i64 (S.C nd).d1, .int .i64 (S.C nd).d2, .int .i64 (S.C nd).d3, .int .i64 (S.C nd).d4, .int .i64 (S.C nd).more] := by
            rw [wrapI (by omega) (by omega)]; rfl
          rw [hcells] at CS
          conv => whnf
          refine CallR.m CS (fun y hy hx => by
              simp [blocksOf, setB] at hy hx; omega) fun v h10 k10 hv => ?_
          obtain ⟨rfl, A10⟩ := hv
          conv => whnf
          obtain ⟨vv, ev⟩ := bumpC_is X2 nd (lessC (S.C nd))
          have N9 : NodeI X2.now nd (lessC (S.C nd)) (S.nm nd) (S.by_ nd) := ⟨N8.kind, fun h => absurd h hkn, fun h => (by have h : (S.C nd).kind = 2 := h; omega), fun _ => ⟨mf, F9⟩⟩
          have N10 := N9.ver vv
          have I10 := I8.set (n := nd) ⟨by omega, n24⟩ (Fr.refl _ _) N10
          rw [← ev] at I10
          refine ⟨((kk7.trans k8).m1 k9 (by omega)).trans k10, _, A10, ?_, ?_, .inr ⟨d, nm, nd, P, .inr (.inr ⟨hnd, hm, rfl, fun x hx => addS_sub (a3 x ?_), c1, hc1, hc2, .inl ⟨hl, vv, ?_⟩⟩)⟩⟩
          · show X2.away = _; rw [a1]; exact w2
          · show X2.awayN = _; rw [a2]; exact w3
          · show x ∈ X1.mine; rw [w4]; exact hx
          · rw [← ev]; exact I10
        · conv => whnf
          refine IfR.f (by simp; omega) ?_
          have CG := cgone_spec A8 I8 (n := nd) ⟨n0, n24⟩ (by rw [eC]; exact hkf)
          rw [eC] at CG
          conv => whnf
          refine CallR.m CG (fun y hy hx => by
              simp [blocksOf, setB] at hy hx; omega) fun v h9 k9 hv => ?_
          obtain ⟨rfl, X3, A9, b1, b2, b3, vv, I9⟩ := hv
          conv => whnf
          refine ⟨(kk7.trans k8).trans k9, X3, A9, ?_, ?_, .inr ⟨d, nm, nd, P, .inr (.inr ⟨hnd, hm, rfl, fun x hx => b3 x (a3 x ?_), c1, hc1, hc2, .inr ⟨by omega, vv, I9⟩⟩)⟩⟩
          · rw [b1, a1]; exact w2
          · rw [b2, a2]; exact w3
          · show x ∈ X1.mine; rw [w4]; exact hx
      · conv => whnf
        refine IfR.t (by simp [hm]) ?_
        conv => whnf
        exact ⟨kk7, _, A7, w2, w3, .inr ⟨d, nm, nd, P, .inr (.inl ⟨hnd, hm, rfl, w1, w4⟩)⟩⟩
  · generalize placeA (viewFs S) path = r at he
    obtain ⟨d', c', nm', nd', hsp, _⟩ := spL_is S r
    rw [hsp]
    conv => whnf
    refine AllocR.i fun b2 h2 e2 s2 o2 k2 => ?_
    conv => whnf
    refine BoxR.i fun h3 s3 k3 => ?_
    have k13 : Keeps [] h1 h3 := k2.new1 k3 (by omega)
    conv => whnf
    refine IfR.t (by simp [he]) ?_
    conv => whnf
    exact ⟨(k1.mono (by simp)).trans_nil k13, _, A1.on k13, rfl, rfl, .inl ⟨he, rfl, rfl, rfl⟩⟩

theorem mayR_spec (c : Crd) (h : Heap) : CallH Tryz.prog 35 [.agg ⟨c.cells⟩] h (fun v h' => Keeps [] h h' ∧ v = .int .i64 (if c.kind = 2 then 7 else 0)) := by
  refine call_of hmix Tryz.func35 rfl ok35 (by simp [Tryz.f35]) ?_
  conv => whnf
  refine AllocR.i fun b1 h1 e1 s1 o1 k1 => ?_
  conv => whnf
  refine IfR.i (fun hc => ?_) (fun hc => ?_)
  · conv => whnf
    have : c.kind = 2 := by simpa using hc
    exact ⟨k1, by rw [if_pos this]⟩
  · conv => whnf
    have : ¬ c.kind = 2 := by simpa using hc
    exact ⟨k1, by rw [if_neg this]⟩
end Go.Proofs.YtkjkdnphikendaaGreatDoor
/-
  Layer 13: a new file at a path.
-/
set_option linter.all false
set_option maxRecDepth 100000
set_option maxHeartbeats 4000000
namespace Go.Proofs.YtkjkdnphikendaaGreatDoor
open Go Go.Eng

theorem wStep_aw (B : Int → UInt64) (node : Int) (a : Nat) (data : List UInt8) (i : Nat) (X : VS) (m : List Int) : SameAw X (wStep B node a data i X m).2.1 := by
  have ht := takeP_aw B X node
  unfold wStep
  by_cases hm : m[i]?.getD 0 = -1
  · simp only [if_pos hm]
    split <;> exact ht
  · simp only [if_neg hm, if_true]
    exact ⟨rfl, rfl⟩
theorem writeL_aw (B : Int → UInt64) (node : Int) (a : Nat) (data : List UInt8) : ∀ (f i : Nat) (X : VS) (m : List Int), SameAw X (writeL B node a data f i X m).2.1
  | 0, i, X, m => ⟨rfl, rfl⟩
  | f + 1, i, X, m => by
    have h1 := wStep_aw B node a data i X m
    unfold writeL
    split
    · have h2 := writeL_aw B node a data f (i + 1) (wStep B node a data i X m).2.1 (wStep B node a data i X m).2.2
      exact ⟨h2.1.trans h1.1, h2.2.trans h1.2⟩
    · exact h1
theorem writeP_aw (B : Int → UInt64) (X : VS) (node : Int) (c : Crd) (at_ : Int) (data : List UInt8) : SameAw X (writeP B X node c at_ data).2.2 := by
  unfold writeP
  split
  · exact ⟨rfl, rfl⟩
  · split
    · split <;> exact ⟨rfl, rfl⟩
    · split
      · exact ⟨rfl, rfl⟩
      · split
        · exact ⟨rfl, rfl⟩
        · rename_i m _
          have h1 := writeL_aw B node at_.toNat data ((at_.toNat + data.length + 127) / 128 - at_.toNat / 128) (at_.toNat / 128) X m
          simp only
          split
          · have h2 := keepP_aw B (writeL B node at_.toNat data ((at_.toNat + data.length + 127) / 128 - at_.toNat / 128) (at_.toNat / 128) X m).2.1 node { c with size := max c.size (at_ + data.length) } (writeL B node at_.toNat data ((at_.toNat + data.length + 127) / 128 - at_.toNat / 128) (at_.toNat / 128) X m).2.2
            exact ⟨h2.1.trans h1.1, h2.2.trans h1.2⟩
          · exact h1
theorem node_fs {X : VS} {S : FS} (I : FsI X.now S) (aw : X.awayN = []) {kind : Int} (hk : 1 ≤ kind ∧ kind ≤ 3) :
    (nodeP X kind = (0, 9, X) ∧ ∀ k, 2 ≤ k → k < 24 → (S.C k).kind ≠ 0) ∨ ∃ n v, nodeP X kind = (n, 0, setS X n (freshC kind v)) ∧ 2 ≤ n ∧ n < 24 ∧ (S.C n).kind = 0 ∧ ∀ k, 2 ≤ k → k < n → (S.C k).kind ≠ 0 := by
  unfold nodeP
  rw [if_pos hk]
  cases hf : firstC X 22 2 with
  | some n =>
    right
    obtain ⟨f1, f2, f3⟩ := firstC_is hf
    refine ⟨(n : Int), _, rfl, by omega, by omega, (freeC_iff I aw (by omega)).1 f1, fun k k2 kn hk0 => ?_⟩
    have := firstC_least hf k.toNat (by omega) (by omega)
    rw [Int.toNat_of_nonneg (by omega)] at this
    rw [(freeC_iff I aw (by omega)).2 hk0] at this
    cases this
  | none =>
    left
    refine ⟨rfl, fun k k2 k24 hk0 => ?_⟩
    have h1 := firstC_none hf k.toNat (by omega) (by omega)
    rw [Int.toNat_of_nonneg (by omega)] at h1
    rw [(freeC_iff I aw (by omega)).2 hk0] at h1
    cases h1

theorem PlaceAt.new {X : VS} {S : FS} (I : FsI X.now S) (C : FsC S) {path : List UInt8} {d : Int} {nm : List UInt8} (P : PlaceAt S path d nm 0) : findE (S.nm d) nm = none := by
  have hn := P.node
  cases hf : findE (S.nm d) nm with
  | none => rfl
  | some en =>
    rw [hf] at hn
    have he : (0 : Int) = en.node := hn
    obtain ⟨c1, c2, c3⟩ := C.names d (by have := P.rng; omega) P.rng.2 P.kind en (List.mem_of_find?_eq_some hf)
    rw [← he] at c3
    exact absurd I.zero c3

structure Made (now : Int → UInt64) (S : FS) (d : Int) (nm : List UInt8) (n kind : Int) (data : List UInt8) : Prop where
  rng : 2 ≤ n ∧ n < 24
  was : (S.C n).kind = 0
  least : ∀ k, 2 ≤ k → k < n → (S.C k).kind ≠ 0
  fs : ∃ c2 c1, c2.kind = kind ∧ c2.links = 1 ∧ c1.kind = 2 ∧ c1.links = 1 ∧ FsI now ((S.put n c2 [] data).put d c1 (insL (S.nm d) ⟨nm, n⟩) (S.by_ d))

/-- what making a file tells -/
def FreshR (B : Int → UInt64) (X : VS) (S : FS) (path : List UInt8) (kind : Int) (data : List UInt8) (v : Value) (X' : VS) : Prop := X'.away = X.away ∧ X'.awayN = X.awayN ∧
  (((placeA (viewFs S) path).2.2.2 ≠ 0 ∧ v = .int .i64 (placeA (viewFs S) path).2.2.2 ∧ X'.now = X.now ∧ X'.mine = X.mine) ∨
   ∃ d nm nd, PlaceAt S path d nm nd ∧ ((nd ≠ 0 ∧ v = .int .i64 5 ∧ X'.now = X.now ∧ X'.mine = X.mine) ∨
    (nd = 0 ∧ v = .int .i64 9 ∧ (freeN B X 96 < 8 ∨ 10 ≤ (S.nm d).length ∨ ∀ k, 2 ≤ k → k < 24 → (S.C k).kind ≠ 0)) ∨
    (nd = 0 ∧ v = .int .i64 0 ∧ (∀ x ∈ X.mine, x ∈ X'.mine) ∧ freeN B X 96 ≤ freeN B X' 96 + 8 ∧ ∃ n, Made X'.now S d nm n kind data)))

theorem fresh_end {B : Int → UInt64} {X Xb X' : VS} {S : FS} {path nm data : List UInt8} {d n kind : Int} {v : Value} {c2 : Crd} (P : PlaceAt S path d nm 0) (hn : 2 ≤ n ∧ n < 24) (hw : (S.C n).kind = 0) (hl : ∀ k, 2 ≤ k → k < n → (S.C k).kind ≠ 0)
    (hk2 : c2.kind = kind ∧ c2.links = 1) (hf : freeN B X 96 ≤ freeN B Xb 96 + 3) (hm : ∀ x ∈ X.mine, x ∈ Xb.mine) (e1 : X'.away = X.away) (e2 : X'.awayN = X.awayN)
    (H : ((v = .int .i64 9 ∧ (freeN B Xb 96 < 2 ∨ roomN (bucketL nm) ≤ hadL ((S.put n c2 [] data).nm d) nm)) ∨
       (v = .int .i64 0 ∧ freeN B Xb 96 ≤ freeN B X' 96 + 2 ∧ (∀ x ∈ Xb.mine, x ∈ X'.mine) ∧ ∃ c', FsI X'.now ((S.put n c2 [] data).put d c' (insL ((S.put n c2 [] data).nm d) ⟨nm, n⟩) ((S.put n c2 [] data).by_ d)) ∧ c'.kind = 2 ∧ c'.links = 1))) :
    FreshR B X S path kind data v X' := by
  have hne : d ≠ n := by
    intro e
    have := P.kind
    rw [e, hw] at this
    cases this
  have eN : (S.put n c2 [] data).nm d = S.nm d := if_neg hne
  have eB : (S.put n c2 [] data).by_ d = S.by_ d := if_neg hne
  rw [eN, eB] at H
  refine ⟨e1, e2, .inr ⟨d, nm, 0, P, .inr ?_⟩⟩
  rcases H with ⟨rfl, H⟩ | ⟨rfl, h1, h2, c', h3, h4, h5⟩
  · refine .inl ⟨rfl, rfl, ?_⟩
    rcases H with H | H
    · left; omega
    · right; left
      have h6 : hadL (S.nm d) nm ≤ (S.nm d).length := List.length_filter_le _ _
      have h7 : 10 ≤ roomN (bucketL nm) := by unfold roomN; split <;> omega
      omega
  · exact .inr ⟨rfl, rfl, fun x hx => h2 x (hm x hx), by omega, n, hn, hw, hl, c2, c', hk2.1, hk2.2, h4, h5, h3⟩

theorem cfresh_spec {h : Heap} {V : VL} {M : MemS} {X : VS} (A : At h V M X) {S : FS} (I : FsI X.now S) (C : FsC S) (aw : X.awayN = []) (path : List UInt8) (hp : path.length ≤ 140737488351232) {kind : Int} (hk : 1 ≤ kind ∧ kind ≤ 3) {data : List UInt8} (hd : data.length ≤ 120) (hd2 : kind = 2 → data = []) :
    CallH Tryz.prog 26 [.pointer (some ⟨V.v, 0, none⟩), .string (ba path), .int .i64 kind, .string (ba data)] h (fun v h' => Keeps [V.ob, V.sb, V.mb] h h' ∧ ∃ X', At h' V M X' ∧ FreshR M.read X S path kind data v X') := by
  have bl := A.blt
  have mob : V.ob ∈ V.blocks := by simp [VL.blocks]
  have msb : V.sb ∈ V.blocks := by simp [VL.blocks]
  have mmb : V.mb ∈ V.blocks := by simp [VL.blocks]
  have q1 := bl V.ob mob
  have q2 := bl V.sb msb
  have q3 := bl V.mb mmb
  refine call_of hmix Tryz.func26 rfl ok26 (by simp [Tryz.f26]) ?_
  conv => whnf
  refine CallR.m (cempty_spec A I C path hp) (by simp [blocksOf]) fun v h1 k1 hv => ?_
  obtain ⟨⟨s, A1⟩, d', c', nm', nd', rfl, hq⟩ := hv
  have z1 := k1.size
  conv => whnf
  refine AllocR.i fun b2 h2 e2 s2 o2 k2 => ?_
  conv => whnf
  refine BoxR.i fun h3 s3 k3 => ?_
  have k13 : Keeps [] h1 h3 := k2.new1 k3 (by omega)
  have z2 := k2.size
  have z3 := k3.size
  have A3 := A1.on k13
  have kk3 : Keeps [V.ob, V.sb, V.mb] h h3 := (k1.mono (by simp)).trans_nil k13
  by_cases he : (placeA (viewFs S) path).2.2.2 = 0
  · obtain ⟨d, nm, nd, P⟩ := place_at I C he
    rw [P.is] at hq ⊢
    obtain ⟨t1, t2, t3, t4⟩ := hq rfl
    have t1 : d = d' := t1.symm
    have t3 : nm = nm' := t3.symm
    have t4 : nd = nd' := t4.symm
    subst t1 t3 t4
    have t2 : c' = S.C d := t2
    subst t2
    simp only
    generalize hX1 : ({ X with seen := s } : VS) = X1 at A3
    have w1 : X1.now = X.now := by rw [← hX1]
    have w2 : X1.away = X.away := by rw [← hX1]
    have w3 : X1.awayN = X.awayN := by rw [← hX1]
    have w4 : X1.mine = X.mine := by rw [← hX1]
    have w5 : freeN M.read X1 96 = freeN M.read X 96 := by rw [← hX1]; rfl
    have I1 : FsI X1.now S := by rw [w1]; exact I
    by_cases hnd : nd = 0
    · subst hnd
      have hfe := P.new I C
      conv => whnf
      refine IfR.f rfl ?_
      conv => whnf
      refine CallR.m (node_spec A3 kind) (fun y hy hx => by
          simp [blocksOf, setB] at hy hx; omega) fun v h4 k4 hv => ?_
      obtain ⟨rfl, A4⟩ := hv
      have z4 := k4.size
      rcases node_fs I1 (w3.trans aw) hk with ⟨hno, hfull⟩ | ⟨n, vn, hno, hn2, hn24, hn0, hleast⟩
      · rw [hno] at A4 ⊢
        conv => whnf
        refine IfR.t rfl ?_
        conv => whnf
        exact ⟨kk3.trans k4, X1, A4, w2, w3, .inr ⟨d, nm, 0, P, .inr (.inl ⟨rfl, rfl, .inr (.inr hfull)⟩)⟩⟩
      · rw [hno] at A4 ⊢
        have hno2 : ∀ x, 0 ≤ x → x < 96 → X1.now (200 + x) ≠ w64 (n + 1) := ((I1.node n (by omega) hn24).free hn0).2
        have N4 : NodeI X1.now n (freshC kind vn) [] [] := fresh_node hk vn hno2
        have I4 : FsI (setS X1 n (freshC kind vn)).now (S.put n (freshC kind vn) [] []) := I1.set (by omega) (Fr.refl n X1.now) N4
        have hf4 : freeN M.read (setS X1 n (freshC kind vn)) 96 = freeN M.read X 96 := by rw [freeN_setS hn24, w5]
        have hdn : d ≠ n := by
          intro e
          have := P.kind
          rw [e, hn0] at this
          cases this
        conv => whnf
        refine IfR.f rfl ?_
        by_cases hdata : data = []
        · subst hdata
          have hs0 : (!(ba []).toList == (ByteArray.mk #[]).toList) = false := by
            have h1 : ((ba []).toList == (ba []).toList) = true := beq_self_eq_true _
            have h2 : ((ba []).toList == (ByteArray.mk #[]).toList) = true := h1
            rw [h2]; rfl
          conv => whnf
          first | refine IfR.f hs0 ?_ | (refine MeetR.pass ?_; (conv => whnf); refine IfR.f hs0 ?_)
          conv => whnf
          refine CallR.m (cadd_spec A4 I4 P.rng (by show (if d = n then _ else S.C d).kind = 2; rw [if_neg hdn]; exact P.kind) P.name P.len (by show findE (if d = n then _ else S.nm d) nm = none; rw [if_neg hdn]; exact hfe) (S.C d) 0 n ⟨by omega, hn24⟩) (fun y hy hx => by
              simp [blocksOf, setB] at hy hx; omega) fun v h5 k5 hv => ?_
          obtain ⟨X5, A5, x1, x2, H⟩ := hv
          conv => whnf
          refine ⟨(kk3.trans k4).trans k5, X5, A5, fresh_end (Xb := setS X1 n (freshC kind vn)) P ⟨hn2, hn24⟩ hn0 hleast ⟨rfl, rfl⟩ (by rw [hf4]; omega) (fun x hx => addS_mem.2 (.inl (by rw [w4]; exact hx))) (x1.trans w2) (x2.trans w3) H⟩
        · have hkf : kind = 1 ∨ kind = 3 := by
            by_cases e : kind = 2
            · exact absurd (hd2 e) hdata
            · omega
          have hcr : cardR (rdL (setS X1 n (freshC kind vn)).now (8 + n * 8) 8) = some (freshC kind vn) := by
            show cardR (rdL (setW X1.now n _) (8 + n * 8) 8) = _
            rw [setW_rd]; exact cardR_W (freshC_ok hk vn).2
          have hX5 : ∀ a, 200 ≤ a → (seeS (setS X1 n (freshC kind vn)) n).now a = X1.now a := fun a ha => setW_high hn24 ha
          have FF : FileI (seeS (setS X1 n (freshC kind vn)) n).now n (freshC kind vn) m0 [] := fresh_fileK hkf vn (fun x x0 x1 => by rw [hX5 _ (by omega)]; exact hno2 x x0 x1)
          have hf5 : freeN M.read (seeS (setS X1 n (freshC kind vn)) n) 96 = freeN M.read X 96 := by rw [freeN_seeS]; exact hf4
          have hrw : refWriteL [] 0 data = (data, 0) := refWrite_zero data (by omega)
          have WP := writeP_plain (B := M.read) (X := seeS (setS X1 n (freshC kind vn)) n) ⟨by omega, hn24⟩ FF 0 data
          have WR := fun hr => writeP_room (B := M.read) (X := seeS (setS X1 n (freshC kind vn)) n) ⟨by omega, hn24⟩ FF 0 data hr
          rw [show ((0 : Nat) : Int) = 0 from rfl] at WR
          rw [hrw] at WP WR
          have WS := writeP_same (B := M.read) (X := seeS (setS X1 n (freshC kind vn)) n) (node := n) (c := freshC kind vn) (at_ := 0) (data := data)
          rw [hf5] at WR
          have WA : SameAw (seeS (setS X1 n (freshC kind vn)) n) (writeP M.read (seeS (setS X1 n (freshC kind vn)) n) n (freshC kind vn) 0 data).2.2 := writeP_aw M.read _ n (freshC kind vn) 0 data
          have hs0 : (!(ba data).toList == (ByteArray.mk #[]).toList) = true := by
            have h2 : ((ba data).toList == (ByteArray.mk #[]).toList) = false := by
              have := bs_eq data []
              rw [decide_eq_false hdata] at this
              exact this
            rw [h2]; rfl
          have hroom : (0 + data.length + 127) / 128 - 0 / 128 + 1 ≤ 2 := by omega
          conv => whnf
          first | refine IfR.t hs0 ?_ | (refine MeetR.pass ?_; (conv => whnf); refine IfR.t hs0 ?_)
          conv => whnf
          refine CallR.m (vcard_spec A4 n) (fun y hy hx => by
              simp [blocksOf, setB] at hy hx; omega) fun v h5 k5 hv => ?_
          rw [if_pos ⟨by omega, hn24⟩, hcr] at hv
          obtain ⟨rfl, A5⟩ := hv
          have z5 := k5.size
          unfold cardT
          conv => whnf
          refine AllocR.i fun b6 h6 e6 s6 o6 k6 => ?_
          conv => whnf
          refine BoxR.i fun h7 s7 k7 => ?_
          have k57 : Keeps [] h5 h7 := k6.new1 k7 (by omega)
          have z6 := k6.size
          have z7 := k7.size
          conv => whnf
          refine IfR.f rfl ?_
          conv => whnf
          refine CallR.m (write_spec (A5.on k57) n (freshC kind vn) (freshC_ok hk vn).1 FF.okMap 0 data) (fun y hy hx => by
              simp [blocksOf, setB] at hy hx; omega) fun v h8 k8 hv => ?_
          obtain ⟨rfl, A8⟩ := hv
          generalize writeP M.read (seeS (setS X1 n (freshC kind vn)) n) n (freshC kind vn) 0 data = q at WP WR WS WA A8
          have z8 := k8.size
          conv => whnf
          refine BoxR.i fun h9 s9 k9 => ?_
          have A9 := A8.keep k9 (fun b hb => by have := bl b hb; simp; omega)
          have z9 := k9.size
          have kk9 : Keeps [V.ob, V.sb, V.mb] h h9 := (((kk3.trans k4).trans ((k5.mono (by simp)).trans_nil k57)).trans (k8.mono (by simp))).m1 k9 (by omega)
          by_cases hq0 : q.2.1 = 0
          · obtain ⟨g1, g2, g3⟩ := WS hq0
            obtain ⟨m', W⟩ : ∃ m', Wrote n (seeS (setS X1 n (freshC kind vn)) n) m0 0 data data q m' := by
              rcases WP with ⟨h9, _⟩ | ⟨_, hw⟩
              · rw [hq0] at h9; cases h9
              · exact hw rfl
            have N8 : NodeI q.2.2.now n q.1 [] data := ⟨by rw [g1]; show 0 ≤ kind ∧ kind ≤ 3; omega, fun h => (by rw [g1] at h; have h : kind = 0 := h; omega), fun h => (by rw [g1] at h; have h : kind = 2 := h; omega), fun _ => ⟨m', W.file⟩⟩
            rw [hq0]
            conv => whnf
            refine CallR.m (cset_spec A9 n ⟨by omega, hn24⟩ q.1 N8.ok N8.right) (fun y hy hx => by
                simp [blocksOf, setB] at hy hx; omega) fun v h10 k10 hv => ?_
            obtain ⟨rfl, A10⟩ := hv
            have z10 := k10.size
            obtain ⟨vv, ev⟩ := bumpC_is q.2.2 n q.1
            have N9 := N8.ver vv
            rw [← ev] at N9
            have I9 := I4.set (n := n) (by omega) W.fr N9
            rw [FS.put_put] at I9
            conv => whnf
            refine IfR.f rfl ?_
            have hf9 : freeN M.read X 96 ≤ freeN M.read (setS q.2.2 n (bumpC q.2.2 n q.1)) 96 + 3 := by
              rw [freeN_setS hn24]
              by_cases h2 : 2 ≤ freeN M.read X 96
              · have := ((WR (by omega)).2 rfl).1
                omega
              · omega
            conv => whnf
            refine CallR.m (cadd_spec A10 I9 P.rng (by show (if d = n then _ else S.C d).kind = 2; rw [if_neg hdn]; exact P.kind) P.name P.len (by show findE (if d = n then _ else S.nm d) nm = none; rw [if_neg hdn]; exact hfe) (S.C d) 0 n ⟨by omega, hn24⟩) (fun y hy hx => by
                simp [blocksOf, setB] at hy hx; omega) fun v h11 k11 hv => ?_
            obtain ⟨X11, A11, x1, x2, H⟩ := hv
            conv => whnf
            have wx := W.x
            refine ⟨(kk9.trans k10).trans k11, X11, A11, fresh_end (Xb := setS q.2.2 n (bumpC q.2.2 n q.1)) P ⟨hn2, hn24⟩ hn0 hleast ?_ hf9 (fun x hx => addS_mem.2 (.inl ?_)) ?_ ?_ H⟩
            · rw [ev]; exact ⟨g1, g2⟩
            · rw [wx]; exact addS_mem.2 (.inl (by rw [w4]; exact hx))
            · rw [x1]; show q.2.2.away = _; rw [wx]; exact w2
            · rw [x2]; show q.2.2.awayN = _; rw [wx]; exact w3
          · have hq9 : q.2.1 = 9 := by
              rcases WP with ⟨h9, _⟩ | ⟨h9, _⟩
              · exact h9
              · exact absurd h9 hq0
            rw [hq9]
            conv => whnf
            refine CallR.i (csetE_spec _ n q.1 9 (by decide)) fun v h10 k10 hv => ?_
            subst hv
            conv => whnf
            refine IfR.t rfl ?_
            conv => whnf
            have hX8 : q.2.2.away = X.away ∧ q.2.2.awayN = X.awayN := ⟨WA.1.trans w2, WA.2.trans w3⟩
            refine ⟨kk9.trans_nil k10, q.2.2, A9.on k10, hX8.1, hX8.2, .inr ⟨d, nm, 0, P, .inr (.inl ⟨rfl, rfl, .inl ?_⟩)⟩⟩
            by_cases h2 : 2 ≤ freeN M.read X 96
            · exact absurd (WR (by omega)).1 hq0
            · omega
    · conv => whnf
      refine IfR.t (by simp [hnd]) ?_
      conv => whnf
      refine ⟨kk3, X1, A3, w2, w3, .inr ⟨d, nm, nd, P, .inl ⟨hnd, ?_, w1, w4⟩⟩⟩
      rw [if_neg (by simp), if_pos hnd]
  · conv => whnf
    refine IfR.t (by simp [he]) ?_
    conv => whnf
    refine ⟨kk3, _, A3, rfl, rfl, .inl ⟨he, ?_, rfl, rfl⟩⟩
    rw [if_pos he]
end Go.Proofs.YtkjkdnphikendaaGreatDoor
/-
  Layer 13: a path's file, read, written, told of; what makes files.
-/
set_option linter.all false
set_option maxRecDepth 100000
set_option maxHeartbeats 4000000
namespace Go.Proofs.YtkjkdnphikendaaGreatDoor
open Go Go.Eng

/-- a path's file, in a view -/
def pthV (S : FS) (path : List UInt8) : Int × Int := pathA (viewFs S) path true
def pthE (S : FS) (path : List UInt8) : Int := if (pthV S path).2 = 0 ∧ (S.C (pthV S path).1).kind = 2 then 7 else (pthV S path).2
def pthC (S : FS) (path : List UInt8) : Crd := if (pthV S path).2 = 0 then S.C (pthV S path).1 else Crd.zero

theorem path_in {X : VS} {S : FS} (I : FsI X.now S) (C : FsC S) {path : List UInt8} {follow : Bool} (h0 : (pathA (viewFs S) path follow).2 = 0) :
    0 < (pathA (viewFs S) path follow).1 ∧ (pathA (viewFs S) path follow).1 < 24 ∧ (S.C (pathA (viewFs S) path follow).1).kind ≠ 0 := by
  have key : 0 ≤ (pathA (viewFs S) path follow).1 ∧ (pathA (viewFs S) path follow).1 < 24 ∧ (S.C (pathA (viewFs S) path follow).1).kind ≠ 0 := by
    unfold pathA at h0 ⊢
    cases hp : pathP path with
    | none => rw [hp] at h0; cases h0
    | some l =>
      rw [hp] at h0
      exact walkV_in (X := X) C 600 1 0 l ⟨by decide, by decide, by rw [C.root]; decide⟩ h0
  obtain ⟨a, b, c⟩ := key
  refine ⟨?_, b, c⟩
  have : (pathA (viewFs S) path follow).1 ≠ 0 := fun e => by rw [e] at c; exact c I.zero
  omega

theorem cfile_spec {h : Heap} {V : VL} {M : MemS} {X : VS} (A : At h V M X) {S : FS} (I : FsI X.now S) (C : FsC S) (path : List UInt8) (hp : path.length ≤ 140737488351232) :
    CallH Tryz.prog 31 [.pointer (some ⟨V.v, 0, none⟩), .string (ba path)] h (fun v h' => Keeps [V.sb] h h' ∧ (∃ s, At h' V M { X with seen := s }) ∧ v = .tuple #[.int .i64 (pthV S path).1, .agg ⟨(pthC S path).cells⟩, .int .i64 (pthE S path)]) := by
  have bl := A.blt
  have msb : V.sb ∈ V.blocks := by simp [VL.blocks]
  have q2 := bl V.sb msb
  refine call_of hmix Tryz.func31 rfl ok31 (by simp [Tryz.f31]) ?_
  conv => whnf
  refine AllocR.i fun b1 h1 e1 s1 o1 k1 => ?_
  have z1 := k1.size
  conv => whnf
  refine CallR.m (vpath_spec (A.on k1) I C path hp true) (fun y hy hx => by
      simp [blocksOf, setB] at hy hx; omega) fun v h2 k2 hv => ?_
  obtain ⟨rfl, s, A2⟩ := hv
  have z2 := k2.size
  have hw : walkV S (pathA (viewFs S) path true) = .tuple #[.int .i64 (pthV S path).1, .agg ⟨(pthC S path).cells⟩, .int .i64 (pthV S path).2] := rfl
  rw [hw]
  have hfe : pthE S path = if (pthV S path).2 = 0 ∧ (pthC S path).kind = 2 then 7 else (pthV S path).2 := by
    unfold pthE pthC
    by_cases h0 : (pthV S path).2 = 0
    · rw [if_pos h0]
    · rw [if_neg (fun e => h0 e.1), if_neg (fun e => h0 e.1)]
  rw [hfe]
  generalize pthC S path = c
  generalize pthV S path = r
  clear hw hfe
  conv => whnf
  refine AllocR.i fun b3 h3 e3 s3 o3 k3 => ?_
  conv => whnf
  refine BoxR.i fun h4 s4 k4 => ?_
  have k24 : Keeps [] h2 h4 := k3.new1 k4 (by omega)
  have z3 := k3.size
  have z4 := k4.size
  have A4 := A2.on k24
  have kk4 : Keeps [V.sb] h h4 := (k1.mono (by simp)).trans (k2.trans_nil k24)
  conv => whnf
  first | refine IfR.i (fun hd => ?_) (fun hd => ?_) | (refine MeetR.pass ?_; (conv => whnf); refine IfR.i (fun hd => ?_) (fun hd => ?_))
  · have hd1 : r.2 = 0 ∧ c.kind = 2 := by
      rw [bif_and] at hd
      simpa using hd
    rw [if_pos hd1]
    conv => whnf
    refine BoxR.i fun h5 s5 k5 => ?_
    conv => whnf
    exact ⟨kk4.m1 k5 (by omega), ⟨s, A4.keep k5 (fun b hb => by have := bl b hb; simp; omega)⟩, rfl⟩
  · have hd1 : ¬ (r.2 = 0 ∧ c.kind = 2) := by
      rw [bif_and] at hd
      simpa using hd
    rw [if_neg hd1]
    conv => whnf
    refine BoxR.i fun h5 s5 k5 => ?_
    conv => whnf
    exact ⟨kk4.m1 k5 (by omega), ⟨s, A4.keep k5 (fun b hb => by have := bl b hb; simp; omega)⟩, rfl⟩

/-- a path leads to a file -/
theorem pth_ok {X : VS} {S : FS} (I : FsI X.now S) (C : FsC S) {path : List UInt8} (h0 : pthE S path = 0) : (pthV S path).2 = 0 ∧ 0 < (pthV S path).1 ∧ (pthV S path).1 < 24 ∧ ((S.C (pthV S path).1).kind = 1 ∨ (S.C (pthV S path).1).kind = 3) ∧ pthC S path = S.C (pthV S path).1 := by
  unfold pthE at h0
  by_cases h : (pthV S path).2 = 0 ∧ (S.C (pthV S path).1).kind = 2
  · rw [if_pos h] at h0; cases h0
  · rw [if_neg h] at h0
    obtain ⟨a, b, c⟩ := path_in I C (path := path) (follow := true) h0
    have a : 0 < (pthV S path).1 := a
    have b : (pthV S path).1 < 24 := b
    have c : (S.C (pthV S path).1).kind ≠ 0 := c
    have N := (I.node (pthV S path).1 (by omega) b).kind
    have hk : (S.C (pthV S path).1).kind ≠ 2 := fun e => h ⟨h0, e⟩
    exact ⟨h0, a, b, by omega, if_pos h0⟩

theorem cread_spec {h : Heap} {V : VL} {M : MemS} {X : VS} (A : At h V M X) {S : FS} (I : FsI X.now S) (C : FsC S) (path : List UInt8) (hp : path.length ≤ 140737488351232) (at_ n : Int) :
    CallH Tryz.prog 11 [.pointer (some ⟨V.v, 0, none⟩), .string (ba path), .int .i64 at_, .int .i64 n] h (fun v h' => Keeps [V.sb] h h' ∧ (∃ s, At h' V M { X with seen := s }) ∧
      v = (if pthE S path = 0 then .tuple #[.string (ba (refReadL (S.by_ (pthV S path).1) at_ n).1), .int .i64 (refReadL (S.by_ (pthV S path).1) at_ n).2] else .tuple #[.string (ba []), .int .i64 (pthE S path)])) := by
  have bl := A.blt
  have msb : V.sb ∈ V.blocks := by simp [VL.blocks]
  have q2 := bl V.sb msb
  refine call_of hmix Tryz.func11 rfl ok11 (by simp [Tryz.f11]) ?_
  conv => whnf
  refine CallR.m (cfile_spec A I C path hp) (by simp [blocksOf]) fun v h2 k2 hv => ?_
  obtain ⟨⟨s, A2⟩, rfl⟩ := hv
  have z2 := k2.size
  conv => whnf
  refine AllocR.i fun b3 h3 e3 s3 o3 k3 => ?_
  conv => whnf
  refine BoxR.i fun h4 s4 k4 => ?_
  have k24 : Keeps [] h2 h4 := k3.new1 k4 (by omega)
  have A4 := A2.on k24
  have kk4 : Keeps [V.sb] h h4 := k2.trans_nil k24
  by_cases h0 : pthE S path = 0
  · obtain ⟨p0, p1, p2, p3, p4⟩ := pth_ok I C h0
    obtain ⟨m, F⟩ := (I.node (pthV S path).1 (by omega) p2).file p3
    have F' : FileI ({ X with seen := s } : VS).now (pthV S path).1 (S.C (pthV S path).1) m (S.by_ (pthV S path).1) := F
    rw [h0, p4, if_pos rfl]
    conv => whnf
    refine IfR.f rfl ?_
    conv => whnf
    refine CallR.i (bread_spec A4 (S.C (pthV S path).1) F.ok F.szr F'.okMap at_ n) fun v h5 k5 hv => ?_
    subst hv
    rw [readP_plain F']
    conv => whnf
    exact ⟨kk4.trans_nil k5, ⟨s, A4.on k5⟩, rfl⟩
  · rw [if_neg h0]
    conv => whnf
    refine IfR.t (by simp [h0]) ?_
    conv => whnf
    exact ⟨kk4, ⟨s, A4⟩, rfl⟩

theorem cstat_spec {h : Heap} {V : VL} {M : MemS} {X : VS} (A : At h V M X) {S : FS} (I : FsI X.now S) (C : FsC S) (path : List UInt8) (hp : path.length ≤ 140737488351232) :
    CallH Tryz.prog 12 [.pointer (some ⟨V.v, 0, none⟩), .string (ba path)] h (fun v h' => Keeps [V.sb] h h' ∧ (∃ s, At h' V M { X with seen := s }) ∧
      v = (if (pathA (viewFs S) path false).2 = 0 then .tuple #[.agg #[.int .i64 0, .int .i64 (S.C (pathA (viewFs S) path false).1).kind, .int .i64 (S.C (pathA (viewFs S) path false).1).links, .int .i64 (S.C (pathA (viewFs S) path false).1).size], .int .i64 0] else .tuple #[.agg #[.int .i64 0, .int .i64 0, .int .i64 0, .int .i64 0], .int .i64 (pathA (viewFs S) path false).2])) := by
  have bl := A.blt
  have msb : V.sb ∈ V.blocks := by simp [VL.blocks]
  have q2 := bl V.sb msb
  refine call_of hmix Tryz.func12 rfl ok12 (by simp [Tryz.f12]) ?_
  conv => whnf
  refine AllocR.i fun b1 h1 e1 s1 o1 k1 => ?_
  have z1 := k1.size
  conv => whnf
  refine CallR.m (vpath_spec (A.on k1) I C path hp false) (fun y hy hx => by
      simp [blocksOf, setB] at hy hx; omega) fun v h2 k2 hv => ?_
  obtain ⟨rfl, s, A2⟩ := hv
  have z2 := k2.size
  generalize pathA (viewFs S) path false = r
  unfold walkV
  conv => whnf
  refine AllocR.i fun b3 h3 e3 s3 o3 k3 => ?_
  conv => whnf
  refine BoxR.i fun h4 s4 k4 => ?_
  have k24 : Keeps [] h2 h4 := k3.new1 k4 (by omega)
  have z3 := k3.size
  have z4 := k4.size
  have A4 := A2.on k24
  have kk4 : Keeps [V.sb] h h4 := (k1.mono (by simp)).trans (k2.trans_nil k24)
  by_cases h0 : r.2 = 0
  · rw [h0, if_pos rfl, if_pos rfl]
    conv => whnf
    refine IfR.f rfl ?_
    conv => whnf
    refine BoxR.i fun h5 s5 k5 => ?_
    conv => whnf
    exact ⟨kk4.m1 k5 (by omega), ⟨s, A4.keep k5 (fun b hb => by have := bl b hb; simp; omega)⟩, rfl⟩
  · rw [if_neg h0, if_neg h0]
    conv => whnf
    refine IfR.t (by simp [h0]) ?_
    conv => whnf
    refine BoxR.i fun h5 s5 k5 => ?_
    conv => whnf
    exact ⟨kk4.m1 k5 (by omega), ⟨s, A4.keep k5 (fun b hb => by have := bl b hb; simp; omega)⟩, rfl⟩
end Go.Proofs.YtkjkdnphikendaaGreatDoor
/-
  Layer 13: calls that change files.
-/
set_option linter.all false
set_option maxRecDepth 100000
set_option maxHeartbeats 4000000
namespace Go.Proofs.YtkjkdnphikendaaGreatDoor
open Go Go.Eng

theorem writeP_refused {B : Int → UInt64} {X : VS} {n : Int} (hn : 0 ≤ n ∧ n < 24) {c : Crd} {m : List Int} {s : List UInt8} (F : FileI X.now n c m s) {at_ : Int} {data : List UInt8} (h : (refWriteL s at_ data).2 ≠ 0) :
    (writeP B X n c at_ data).2.2 = X := by
  unfold refWriteL at h
  unfold writeP
  by_cases h1 : at_ < 0 ∨ 400 < data.length
  · rw [if_pos (.inr h1)]
  · rw [if_neg h1] at h
    rw [if_neg (by rintro (x | x); exact x hn; exact h1 x)]
    by_cases h2 : data = []
    · rw [if_pos h2] at h; exact absurd rfl h
    · rw [if_neg h2] at h ⊢
      by_cases h3 : 2688 - (data.length : Int) < at_
      · rw [if_pos h3]
      · rw [if_neg h3] at h; exact absurd rfl h

/-- what writing tells -/
def WriteR (B : Int → UInt64) (X : VS) (S : FS) (path : List UInt8) (at_ : Int) (data : List UInt8) (v : Value) (X' : VS) : Prop := X'.away = X.away ∧ X'.awayN = X.awayN ∧
  ((pthE S path ≠ 0 ∧ v = .int .i64 (pthE S path) ∧ X'.now = X.now ∧ X'.mine = X.mine) ∨
   (pthE S path = 0 ∧ (refWriteL (S.by_ (pthV S path).1) at_ data).2 ≠ 0 ∧ v = .int .i64 (refWriteL (S.by_ (pthV S path).1) at_ data).2 ∧ X'.now = X.now ∧ X'.mine = X.mine) ∨
   (pthE S path = 0 ∧ (refWriteL (S.by_ (pthV S path).1) at_ data).2 = 0 ∧ v = .int .i64 9 ∧ freeN B X 96 < (at_.toNat + data.length + 127) / 128 - at_.toNat / 128 + 1) ∨
   (pthE S path = 0 ∧ (refWriteL (S.by_ (pthV S path).1) at_ data).2 = 0 ∧ v = .int .i64 0 ∧ (∀ x ∈ X.mine, x ∈ X'.mine) ∧
     ∃ c', c'.kind = (S.C (pthV S path).1).kind ∧ c'.links = (S.C (pthV S path).1).links ∧ FsI X'.now (S.put (pthV S path).1 c' (S.nm (pthV S path).1) (refWriteL (S.by_ (pthV S path).1) at_ data).1)))

theorem cwrite_spec {h : Heap} {V : VL} {M : MemS} {X : VS} (A : At h V M X) {S : FS} (I : FsI X.now S) (C : FsC S) (path : List UInt8) (hp : path.length ≤ 140737488351232) (at_ : Int) (data : List UInt8) :
    CallH Tryz.prog 10 [.pointer (some ⟨V.v, 0, none⟩), .string (ba path), .int .i64 at_, .string (ba data)] h (fun v h' => Keeps [V.ob, V.sb, V.mb] h h' ∧ ∃ X', At h' V M X' ∧ WriteR M.read X S path at_ data v X') := by
  have bl := A.blt
  have q1 := bl V.ob (by simp [VL.blocks])
  have q2 := bl V.sb (by simp [VL.blocks])
  have q3 := bl V.mb (by simp [VL.blocks])
  refine call_of hmix Tryz.func10 rfl ok10 (by simp [Tryz.f10]) ?_
  conv => whnf
  refine CallR.m (cfile_spec A I C path hp) (by simp [blocksOf]) fun v h2 k2 hv => ?_
  obtain ⟨⟨s, A2⟩, rfl⟩ := hv
  have z2 := k2.size
  conv => whnf
  refine AllocR.i fun b3 h3 e3 s3 o3 k3 => ?_
  conv => whnf
  refine BoxR.i fun h4 s4 k4 => ?_
  have k24 : Keeps [] h2 h4 := k3.new1 k4 (by omega)
  have z3 := k3.size
  have z4 := k4.size
  have A4 := A2.on k24
  have kk4 : Keeps [V.ob, V.sb, V.mb] h h4 := (k2.mono (by simp)).trans_nil k24
  by_cases h0 : pthE S path = 0
  · obtain ⟨p0, p1, p2, p3, p4⟩ := pth_ok I C h0
    unfold WriteR
    rw [h0, p4]
    generalize (pthV S path).1 = n at p1 p2 p3
    generalize hX1 : ({ X with seen := s } : VS) = X1 at A4
    have w1 : X1.now = X.now := by rw [← hX1]
    have w2 : X1.away = X.away := by rw [← hX1]
    have w3 : X1.awayN = X.awayN := by rw [← hX1]
    have w4 : X1.mine = X.mine := by rw [← hX1]
    have w5 : freeN M.read X1 96 = freeN M.read X 96 := by rw [← hX1]; rfl
    have I1 : FsI X1.now S := by rw [w1]; exact I
    have hn0 : 0 ≤ n ∧ n < 24 := ⟨by omega, p2⟩
    have N := I1.node n hn0.1 p2
    obtain ⟨m, F⟩ := N.file p3
    have WP := writeP_plain (B := M.read) hn0 F at_ data
    have WR := fun hr => writeP_room (B := M.read) hn0 F at_.toNat data hr
    have WS := writeP_same (B := M.read) (X := X1) (node := n) (c := S.C n) (at_ := at_) (data := data)
    have WA : SameAw X1 (writeP M.read X1 n (S.C n) at_ data).2.2 := writeP_aw M.read _ n (S.C n) at_ data
    have WN := writeP_refused (B := M.read) (X := X1) hn0 F (at_ := at_) (data := data)
    have hat : (refWriteL (S.by_ n) at_ data).2 = 0 → at_ < 0 → False := fun e hlt => by
      unfold refWriteL at e
      rw [if_pos (.inl hlt)] at e
      cases e
    conv => whnf
    refine IfR.f rfl ?_
    conv => whnf
    refine CallR.m (write_spec A4 n (S.C n) F.ok F.okMap at_ data) (fun y hy hx => by
        simp [blocksOf, setB] at hy hx; omega) fun v h5 k5 hv => ?_
    obtain ⟨rfl, A5⟩ := hv
    generalize hq : writeP M.read X1 n (S.C n) at_ data = q at WP WS WA WN A5
    have z5 := k5.size
    conv => whnf
    refine BoxR.i fun h6 s6 k6 => ?_
    have A6 := A5.keep k6 (fun b hb => by have := bl b hb; simp; omega)
    have kk6 : Keeps [V.ob, V.sb, V.mb] h h6 := (kk4.trans (k5.mono (by simp))).m1 k6 (by omega)
    by_cases hq0 : q.2.1 = 0
    · have hr0 : (refWriteL (S.by_ n) at_ data).2 = 0 := by
        rcases WP with ⟨_, e, _⟩ | ⟨e, _⟩
        · exact e
        · rw [← e]; exact hq0
      obtain ⟨m', W⟩ : ∃ m', Wrote n X1 m at_ data (refWriteL (S.by_ n) at_ data).1 q m' := by
        rcases WP with ⟨e, _⟩ | ⟨_, hw⟩
        · rw [hq0] at e; cases e
        · exact hw hr0
      obtain ⟨g1, g2, g3⟩ := WS hq0
      have N5 : NodeI q.2.2.now n q.1 (S.nm n) (refWriteL (S.by_ n) at_ data).1 := ⟨by rw [g1]; exact N.kind, fun h => (by rw [g1] at h; omega), fun h => (by rw [g1] at h; omega), fun _ => ⟨m', W.file⟩⟩
      rw [hq0]
      conv => whnf
      refine CallR.m (cset_spec A6 n hn0 q.1 N5.ok N5.right) (fun y hy hx => by
          simp [blocksOf, setB] at hy hx; omega) fun v h7 k7 hv => ?_
      obtain ⟨rfl, A7⟩ := hv
      conv => whnf
      obtain ⟨vv, ev⟩ := bumpC_is q.2.2 n q.1
      have N6 := N5.ver vv
      rw [← ev] at N6
      have I6 := I1.set (n := n) ⟨p1, p2⟩ W.fr N6
      refine ⟨kk6.trans k7, _, A7, WA.1.trans w2, WA.2.trans w3, .inr (.inr (.inr ⟨rfl, hr0, rfl, fun x hx => addS_sub ?_, _, ?_, ?_, I6⟩))⟩
      · rw [W.x]; show x ∈ X1.mine; rw [w4]; exact hx
      · rw [ev]; exact g1
      · rw [ev]; exact g2
    · conv => whnf
      refine CallR.i (csetE_spec _ n q.1 q.2.1 hq0) fun v h7 k7 hv => ?_
      subst hv
      conv => whnf
      have A7 := A6.on k7
      by_cases hr0 : (refWriteL (S.by_ n) at_ data).2 = 0
      · have hq9 : q.2.1 = 9 := by
          rcases WP with ⟨e, _⟩ | ⟨e, _⟩
          · exact e
          · rw [hr0] at e; exact absurd e hq0
        refine ⟨kk6.trans_nil k7, _, A7, WA.1.trans w2, WA.2.trans w3, .inr (.inr (.inl ⟨rfl, hr0, by rw [hq9], ?_⟩))⟩
        have h1 : 0 ≤ at_ := Int.not_lt.1 (hat hr0)
        by_cases h2 : (at_.toNat + data.length + 127) / 128 - at_.toNat / 128 + 1 ≤ freeN M.read X 96
        · have h3 := (WR (by rw [w5]; exact h2)).1
          rw [Int.toNat_of_nonneg h1, hq] at h3
          rw [h3, hr0] at hq0
          exact absurd rfl hq0
        · omega
      · have hqe : q.2.1 = (refWriteL (S.by_ n) at_ data).2 := by
          rcases WP with ⟨_, e, _⟩ | ⟨e, _⟩
          · exact absurd e hr0
          · exact e
        have hx := WN hr0
        refine ⟨kk6.trans_nil k7, _, A7, WA.1.trans w2, WA.2.trans w3, .inr (.inl ⟨rfl, hr0, by rw [hqe], ?_, ?_⟩)⟩
        · rw [hx]; exact w1
        · rw [hx]; exact w4
  · conv => whnf
    refine IfR.t (by simp [h0]) ?_
    conv => whnf
    exact ⟨kk4, _, A4, rfl, rfl, .inl ⟨h0, rfl, rfl, rfl⟩⟩

theorem cmake_spec {h : Heap} {V : VL} {M : MemS} {X : VS} (A : At h V M X) {S : FS} (I : FsI X.now S) (C : FsC S) (aw : X.awayN = []) (path : List UInt8) (hp : path.length ≤ 140737488351232) {kind : Int} (hk : kind = 1 ∨ kind = 2) :
    CallH Tryz.prog 8 [.pointer (some ⟨V.v, 0, none⟩), .string (ba path), .int .i64 kind] h (fun v h' => Keeps [V.ob, V.sb, V.mb] h h' ∧ ∃ X', At h' V M X' ∧ FreshR M.read X S path kind [] v X') := by
  have CF := cfresh_spec A I C aw path hp (kind := kind) (by omega) (data := []) (by simp) (fun _ => rfl)
  rcases hk with rfl | rfl
  · refine call_of hmix Tryz.func8 rfl ok8 (by simp [Tryz.f8]) ?_
    conv => whnf
    refine IfR.f rfl ?_
    conv => whnf
    refine CallR.m CF (by simp [blocksOf]) fun v h1 k1 hv => ?_
    conv => whnf
    exact ⟨k1, hv⟩
  · refine call_of hmix Tryz.func8 rfl ok8 (by simp [Tryz.f8]) ?_
    conv => whnf
    refine IfR.f rfl ?_
    conv => whnf
    refine CallR.m CF (by simp [blocksOf]) fun v h1 k1 hv => ?_
    conv => whnf
    exact ⟨k1, hv⟩

theorem csym_spec {h : Heap} {V : VL} {M : MemS} {X : VS} (A : At h V M X) {S : FS} (I : FsI X.now S) (C : FsC S) (aw : X.awayN = []) (path target : List UInt8) (hp : path.length ≤ 140737488351232) (ht : target.length ≤ 140737488351232) :
    CallH Tryz.prog 21 [.pointer (some ⟨V.v, 0, none⟩), .string (ba path), .string (ba target)] h (fun v h' => Keeps [V.ob, V.sb, V.mb] h h' ∧ ∃ X', At h' V M X' ∧
      ((pathP target = none ∧ v = .int .i64 3 ∧ X' = X) ∨ (pathP target ≠ none ∧ FreshR M.read X S path 3 target v X'))) := by
  refine call_of hmix Tryz.func21 rfl ok21 (by simp [Tryz.f21]) ?_
  conv => whnf
  refine IfR.f rfl ?_
  conv => whnf
  refine CallR.i (nsplit_spec target ht h) fun v h1 k1 hv => ?_
  have A1 := A.on k1
  cases hpp : pathP target with
  | none =>
    rw [hpp] at hv
    have hv : v = .tuple #[.slice none 0 0, .int .i64 3] := hv
    subst hv
    conv => whnf
    refine IfR.t rfl ?_
    conv => whnf
    exact ⟨k1.mono (by simp), X, A1, .inl ⟨rfl, rfl, rfl⟩⟩
  | some l =>
    rw [hpp] at hv
    obtain ⟨a, c, rfl, _, _⟩ := hv
    obtain ⟨_, _, p3, _⟩ := pathP_len hpp
    conv => whnf
    refine IfR.f rfl ?_
    conv => whnf
    refine CallR.m (cfresh_spec A1 I C aw path hp (kind := 3) (by decide) (data := target) p3 (fun e => by cases e)) (by simp [blocksOf]) fun v h2 k2 hv => ?_
    conv => whnf
    obtain ⟨X', A2, H⟩ := hv
    exact ⟨(k1.mono (by simp)).trans k2, X', A2, .inr ⟨by simp, H⟩⟩

def mayRm (c : Crd) : Int := if c.kind = 2 then 7 else 0
/-- what removing tells -/
def RemoveR (X : VS) (S : FS) (path : List UInt8) (may : Crd → Int) (v : Value) (X' : VS) : Prop := X'.away = X.away ∧ X'.awayN = X.awayN ∧
  (((placeA (viewFs S) path).2.2.2 ≠ 0 ∧ v = .int .i64 (placeA (viewFs S) path).2.2.2 ∧ X'.now = X.now ∧ X'.mine = X.mine) ∨
   ∃ d nm nd, PlaceAt S path d nm nd ∧ ((nd = 0 ∧ v = .int .i64 4 ∧ X'.now = X.now ∧ X'.mine = X.mine) ∨ (nd ≠ 0 ∧ may (S.C nd) ≠ 0 ∧ v = .int .i64 (may (S.C nd)) ∧ X'.now = X.now ∧ X'.mine = X.mine) ∨
    (nd ≠ 0 ∧ may (S.C nd) = 0 ∧ v = .int .i64 0 ∧ (∀ x ∈ X.mine, x ∈ X'.mine) ∧ Lost X'.now S d nd nm)))
theorem cremoveF_spec {h : Heap} {V : VL} {M : MemS} {X : VS} (A : At h V M X) {S : FS} (I : FsI X.now S) (C : FsC S) (Q : NoSelf S) (path : List UInt8) (hp : path.length ≤ 140737488351232) :
    CallH Tryz.prog 13 [.pointer (some ⟨V.v, 0, none⟩), .string (ba path)] h (fun v h' => Keeps [V.ob, V.sb, V.mb] h h' ∧ ∃ X', At h' V M X' ∧ RemoveR X S path mayRm v X') := by
  refine call_of hmix Tryz.func13 rfl ok13 (by simp [Tryz.f13]) ?_
  conv => whnf
  refine CallR.m (cremove_spec A I C Q path hp (f := 35) (by kernel_rfl) (may := mayRm) (fun c h => mayR_spec c h) (fun c hc e => by unfold mayRm at hc; rw [if_pos e] at hc; cases hc)) (by simp [blocksOf]) fun v h1 k1 hv => ?_
  conv => whnf
  exact ⟨k1, hv⟩
end Go.Proofs.YtkjkdnphikendaaGreatDoor
/-
  The engine: an entry of a map is deleted; a map is cleared.
-/
set_option linter.all false
set_option maxRecDepth 100000
set_option maxHeartbeats 1000000
namespace Go.Eng

theorem eraseIdx_mp {α β : Type} (f : α → β) : ∀ (l : List α) (j : Nat), (l.map f).eraseIdx j = (l.eraseIdx j).map f
  | [], _ => rfl
  | _ :: _, 0 => rfl
  | x :: l, j + 1 => by simp [eraseIdx_mp f l j]

theorem SemR.del {P : Program} {T kT eT kT' ty : TypeId} (hu : P.underlying T = some (.map kT eT)) (hk : P.underlying kT = some (.int .i64)) {h : Heap} {r : Nat} {m : List (Int × Value)} (o : MapL h r m) {n : Int} (hn : lookI m n ≠ none) {bs : List Nat} (hb : r ∉ bs)
    {K : Value → Heap → Prop} (H : ∀ h' j, j < m.length → (m[j]?).map (·.1) = some n → h'.size = h.size → MapL h' r (m.eraseIdx j) → Keeps [r] h h' → K (.tuple #[]) h') : SemR P (Builtin.delete_ #[T, kT'] ty ⟨[.map (some r), .int .i64 n]⟩) bs h K := by
  unfold SemR
  intro hlt w hw
  subst hw
  have hr := o.lt
  obtain ⟨es, cl, h1, h2, h3, h4, h5⟩ := o
  obtain ⟨q, h6, h7, h8⟩ := findNow_look es.toList m n 0 h2
  obtain ⟨p, rfl⟩ : ∃ p, q = some p := by
    cases q with
    | none => exact absurd (by simpa using h7.symm) hn
    | some p => exact ⟨p, rfl⟩
  obtain ⟨j, hj1, hj2, hj3⟩ := h8 p rfl
  have hj : p.1 = j := by omega
  have hjl : j < es.size := by simpa using hj2
  have hml : m.length = es.size := by
    have := congrArg List.length h2
    simpa using this.symm
  have hel : (es.eraseIdxIfInBounds j).toList = es.toList.eraseIdx j := by
    rw [Array.eraseIdxIfInBounds, dif_pos hjl, Array.toList_eraseIdx]
  refine ⟨.tuple #[], { w with heap := w.heap.setIfInBounds r (.map (es.eraseIdxIfInBounds j) cl) }, ?_, ⟨rfl, rfl, rfl⟩, fun b hb' => ?_, H _ j (by omega) hj3 (by simp) ⟨es.eraseIdxIfInBounds j, cl, by rw [set_get _ _ _ _ hr, if_pos rfl], ?_, ?_, ?_, ?_⟩ (keeps_set _ _ _ hr)⟩
  · simp only [Builtin.delete_, Sem.run_bind, underlying_run P T w hu, Result.andThen_ok, getObj_run h1, List.getElem?_toArray, List.getElem?_cons_zero, List.getElem?_cons_succ]
    rw [checkKey_plain hk (.inl ⟨_, rfl⟩)]
    simp only [Result.andThen_ok, findKey_now hk h6 w, hj, Sem.run_bind, setObj_run h1, Sem.run_pure]
  · show (w.heap.setIfInBounds r _)[b]? = _
    rw [set_get _ _ _ _ hr, if_neg (by intro e; subst e; exact hb hb')]
  · rw [hel, ← eraseIdx_mp, h2, eraseIdx_mp]
  · rw [← eraseIdx_mp]; exact h3.sublist (List.eraseIdx_sublist _ _)
  · rw [hel, ← eraseIdx_mp]; exact h4.sublist (List.eraseIdx_sublist _ _)
  · intro e he
    rw [hel] at he
    exact h5 e (List.mem_of_mem_eraseIdx he)

theorem SemR.clearM {P : Program} {T kT eT ty : TypeId} (hu : P.underlying T = some (.map kT eT)) {h : Heap} {r : Nat} {m : List (Int × Value)} (o : MapL h r m) {bs : List Nat} (hb : r ∉ bs)
    {K : Value → Heap → Prop} (H : ∀ h', h'.size = h.size → MapL h' r [] → Keeps [r] h h' → K (.tuple #[]) h') : SemR P (Builtin.clear_ #[T] ty ⟨[.map (some r)]⟩) bs h K := by
  unfold SemR
  intro hlt w hw
  subst hw
  have hr := o.lt
  obtain ⟨es, cl, h1, h2, h3, h4, h5⟩ := o
  refine ⟨.tuple #[], { w with heap := w.heap.setIfInBounds r (.map #[] cl) }, ?_, ⟨rfl, rfl, rfl⟩, fun b hb' => ?_, H _ (by simp) ⟨#[], cl, by rw [set_get _ _ _ _ hr, if_pos rfl], rfl, List.nodup_nil, List.nodup_nil, by simp⟩ (keeps_set _ _ _ hr)⟩
  · simp [Builtin.clear_, Sem.run_bind, underlying_run P T w hu, getObj_run h1, setObj_run h1]
  · show (w.heap.setIfInBounds r _)[b]? = _
    rw [set_get _ _ _ _ hr, if_neg (by intro e; subst e; exact hb hb')]
end Go.Eng
