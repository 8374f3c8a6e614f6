/-
  What the library's sort does to a view's changes.
-/
import Derived.Shelf.SlSortCmp.NoneTotal
import Derived.Test.YtlloemmpnhoanaaGreatBodyY
import Derived.Test.YtlloemmpnhoanaaGreatChgB
set_option linter.all false
set_option maxRecDepth 100000
set_option maxHeartbeats 2000000
namespace Go.Proofs.YtlloemmpnhoanaaGreat
open Go Go.Eng Go.Shelf Go.RowKit Go.Sort

/-- a change, its place known to be small -/
def encS (x : Fin 4096 × UInt64) : List Value := [.int .i64 (x.1.val : Int), wv x.2]
def cfS (x y : Fin 4096 × UInt64) : Int := (x.1.val : Int) - y.1.val

theorem closureS (x y : Fin 4096 × UInt64) (W : World) : Calls Tryz.prog 70 #[.agg #[.int .i64 (x.1.val : Int), wv x.2], .agg #[.int .i64 (y.1.val : Int), wv y.2]] W fun e w' => e = .returned (.int .i64 (cfS x y)) ∧ ∃ q os', w' = grow (W.drewN q) os' := by
  obtain ⟨x, v⟩ := x
  obtain ⟨y, u⟩ := y
  have hw : IntKind.i64.wrap ((x.val : Int) - y.val) = (x.val : Int) - y.val := by
    have := x.isLt
    have := y.isLt
    exact wrapI (by omega) (by omega)
  unfold cfS wv
  simp only
  generalize (v.toNat : Int) = v at *
  generalize (u.toNat : Int) = u at *
  generalize (x.val : Int) = x at *
  generalize (y.val : Int) = y at *
  go_enter Tryz.func70, Tryz.ntmps70
  go_wp2
  go_ret
  exact ⟨rfl, 0, _, by rw [alloc_eq_grow, alloc_eq_grow, grow_grow]; rfl⟩

theorem swoS : SWO (ltOf cfS) where
  irrefl x := decide_eq_false (by unfold cfS; omega)
  trans x y z h1 h2 := by
    have a := of_decide_eq_true h1
    have b := of_decide_eq_true h2
    unfold cfS at a b
    exact decide_eq_true (by unfold cfS; omega)
  ntrans x y z h1 h2 := by
    have a := of_decide_eq_false h1
    have b := of_decide_eq_false h2
    unfold cfS at a b
    exact decide_eq_false (by unfold cfS; omega)

def unS (x : Fin 4096 × UInt64) : Int × UInt64 := ((x.1.val : Int), x.2)
def toS (p : Int × UInt64) : Fin 4096 × UInt64 := (⟨p.1.toNat % 4096, Nat.mod_lt _ (by decide)⟩, p.2)
theorem un_to {p : Int × UInt64} (h : 0 ≤ p.1 ∧ p.1 < 4096) : unS (toS p) = p := by
  unfold unS toS
  have : (((p.1.toNat % 4096 : Nat)) : Int) = p.1 := by omega
  exact Prod.ext this rfl

theorem chgC_get : ∀ (l : List (Fin 4096 × UInt64)) (j : Nat) (h : j < l.length * 2), (chgC (l.map unS))[j]? = (encS (l[j / 2]'(by omega)))[j % 2]?
  | [], j, h => by simp at h
  | x :: l, 0, h => rfl
  | x :: l, 1, h => rfl
  | x :: l, j + 2, h => by
    have h' : j < l.length * 2 := by simp at h; omega
    have ih := chgC_get l j h'
    have e1 : (j + 2) / 2 = j / 2 + 1 := by omega
    have e2 : (j + 2) % 2 = j % 2 := by omega
    simp only [e1, e2, List.getElem_cons_succ]
    rw [← ih]
    rfl

theorem flat_chg (d : Array (Fin 4096 × UInt64)) : flatK encS 2 d = ⟨chgC (d.toList.map unS)⟩ := by
  have hl := chgC_len (d.toList.map unS)
  simp at hl
  apply Array.ext
  · rw [size_flatK]
    show d.size * 2 = (chgC (d.toList.map unS)).length
    omega
  · intro j h1 h2
    have hj : j < d.size * 2 := by rw [size_flatK] at h1; exact h1
    have g := chgC_get d.toList j (by simpa using hj)
    have hd : j / 2 < d.size := by omega
    have hm : j % 2 < (encS d[j / 2]).length := by unfold encS; simp; omega
    have e1 := get_flatK encS 2 d j hj
    rw [getElem!_pos (flatK encS 2 d) j h1, getElem!_pos d (j / 2) hd, getElem!_pos (encS d[j / 2]) (j % 2) hm] at e1
    rw [e1]
    show _ = (chgC (d.toList.map unS))[j]
    have h3 : j < (chgC (d.toList.map unS)).length := by omega
    rw [List.getElem?_eq_getElem h3] at g
    have g2 : (encS (d.toList[j / 2]'(by simpa using hd)))[j % 2]? = some (encS d[j / 2])[j % 2] := by
      rw [Array.getElem_toList]
      exact List.getElem?_eq_getElem hm
    rw [g2] at g
    exact (Option.some.inj g).symm

theorem sort_spec : SortS := by
  intro h a n c l O hlen hr w hw
  subst hw
  have eg : ∀ args w, (callFunc 70 args).run Tryz.prog w = .ok (.enter 70 args) w := enters_of Tryz.func70 (by kernel_rfl) rfl
  have hcl := chgC_len l
  rcases O with ⟨rfl, rfl, rfl, hl⟩ | ⟨b, cs, rfl, ho, ht, h1, h2, h3⟩
  · have : l = [] := List.eq_nil_of_length_eq_zero (by rw [hl] at hcl; simp at hcl; omega)
    subst this
    refine (AnyF.slices_SortFunc_none srt none 0 (.func (.func 70) #[] #[]) w).mono fun e w' ⟨he, hw⟩ => ?_
    subst hw
    exact ⟨_, he, SameOut.refl _, Keeps.refl _ _, rfl, [], List.Perm.refl _, List.Pairwise.nil, .inl ⟨rfl, rfl, rfl, rfl⟩⟩
  · let d : Array (Fin 4096 × UInt64) := (l.map toS).toArray
    have hds : d.size = l.length := by simp [d]
    have hmap : d.toList.map unS = l := by
      simp only [d, List.map_map]
      conv => rhs; rw [← List.map_id l]
      exact List.map_congr_left fun p hp => un_to (hr p hp)
    have hn : n = d.size := by omega
    subst hn
    have hfl : flatK encS 2 d = ⟨chgC l⟩ := by rw [flat_chg, hmap]
    have hH : HoldsK encS 2 w b 0 d := by
      intro j hj
      rw [size_flatK] at hj
      have hjl : j < (chgC l).length := by omega
      have hjc : j < cs.length := by
        have : d.size * 2 ≤ c * 2 := by omega
        omega
      constructor
      · have e : (flatK encS 2 d)[j]! = (chgC l)[j] := by
          rw [hfl, getElem!_pos _ j (by simpa using hjl)]; rfl
        show w.cell? ⟨b, 0 + j, none⟩ = some (flatK encS 2 d)[j]!
        rw [e]
        have e2 : (chgC l)[j] = cs[j] := by
          have : (cs.take (chgC l).length)[j]? = (chgC l)[j]? := by rw [ht]
          rw [List.getElem?_take, if_pos hjl, List.getElem?_eq_getElem hjc, List.getElem?_eq_getElem hjl] at this
          exact (Option.some.inj this).symm
        rw [e2]
        simp only [World.cell?, ho, Nat.zero_add]
        simp [hjc]
      · simp [World.frozen?, ho]
    have hblk : b < w.heap.size := obj_lt ho
    have hcmp : CmpLays Tryz.prog 70 #[] encS 2 cfS b 0 d.size w := fun _ _ _ _ x y => closureS x y _
    refine (AnyQ.slices_SortFunc srt 2 Tryz.isAgg89 Tryz.sizeOf89 encS (fun _ => rfl) (fun x v hv => by simp [encS] at hv; rcases hv with rfl | rfl <;> rfl) cfS swoS 70 #[] b 0 c d w eg hcmp hH hblk (by omega)).mono fun e w' ⟨he, d', m, os, hp, hs, hw⟩ => ?_
    subst hw
    have hds' : d'.size = d.size := hp.1
    have hperm : d'.toList.Perm d.toList := by
      have := hp.2.2
      rw [Array.extract_eq_self_of_le (Nat.le_refl _)] at this
      rwa [← hds', Array.extract_eq_self_of_le (Nat.le_refl _)] at this
    have hheap : (sortWorldK encS 2 w b 0 m d' os).heap = w.heap.modify b (onCells (putCells id 0 (flatK encS 2 d'))) ++ os := rfl
    refine ⟨_, he, ⟨rfl, rfl, rfl⟩, ⟨?_, ?_⟩, rfl, d'.toList.map unS, ?_, ?_, ?_⟩
    · rw [hheap]; simp
    · intro x hx hxb
      rw [hheap, Array.getElem?_append_left (by simpa using hx), Array.getElem?_modify]
      simp [blkA] at hxb
      rw [if_neg (fun e => hxb e.symm)]
    · rw [← hmap]; exact hperm.map unS
    · rw [List.pairwise_map, List.pairwise_iff_getElem]
      intro i j hi hj hij
      have hj2 : j < d'.size := by simpa using hj
      have hi2 : i < d'.size := by omega
      have := hs i j (Nat.zero_le _) hij (by omega)
      rw [getElem!_pos d' i hi2, getElem!_pos d' j hj2] at this
      have h := of_decide_eq_false this
      unfold cfS at h
      simp only [Array.getElem_toList, unS]
      omega
    · refine .inr ⟨b, (putCells id 0 (flatK encS 2 d') ⟨cs⟩).toList, rfl, ?_, ?_, ?_, ?_, h3⟩
      · rw [hheap, Array.getElem?_append_left (by simpa using hblk), Array.getElem?_modify, if_pos rfl, ho]
        rfl
      · have hl2 := chgC_len (d'.toList.map unS)
        simp at hl2
        rw [flat_chg]
        apply List.ext_getElem
        · simp [putCells]; omega
        · intro j hj1 hj2
          have hjc : j < cs.length := by simp [putCells] at hj1; omega
          simp only [List.getElem_take, putCells, Array.toList_mapIdx, List.getElem_mapIdx]
          rw [if_pos ⟨Nat.zero_le _, by simpa using hj2⟩]
          simp only [id, Nat.sub_zero]
          rw [getElem!_pos _ j (by simpa using hj2)]
          rfl
      · simp [putCells]; exact h1
      · rw [chgC_len]; simp [hds']
end Go.Proofs.YtlloemmpnhoanaaGreat
