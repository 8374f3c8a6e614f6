/-
  Layer 10's law: a file is whole.
-/
import Derived.Test.YtlloemmpnhoanaaGreatFileH
set_option linter.all false
set_option maxRecDepth 100000
set_option maxHeartbeats 1000000
namespace Go.Proofs.YtlloemmpnhoanaaGreat
open Go Go.Eng

/-- the document's answer: bytes are read -/
def refReadL (s : List UInt8) (at_ n : Int) : List UInt8 × Int :=
  if at_ < 0 ∨ n < 0 ∨ 4096 < n then ([], 1)
  else if (s.length : Int) ≤ at_ then ([], 0) else ((s.take (min (s.length : Int) (at_ + n)).toNat).drop at_.toNat, 0)

theorem FileI.bytes {now : Int → UInt64} {node : Int} {c : Crd} {m : List Int} {s : List UInt8} (F : FileI now node c m s) : (fileB now m).take s.length = s := by
  have hl := flat_len (now := now) m
  have hm := F.wk.len
  have hf := F.fits
  apply List.ext_getElem?
  intro p
  rw [List.getElem?_take]
  by_cases h : p < s.length
  · rw [if_pos h, fileB_get m p (by omega), F.by_ p (by omega)]
    simp [h]
  · rw [if_neg h, List.getElem?_eq_none (by omega)]

theorem readP_plain {now : Int → UInt64} {node : Int} {c : Crd} {m : List Int} {s : List UInt8} (F : FileI now node c m s) (at_ n : Int) : readP now c at_ n = refReadL s at_ n := by
  unfold readP refReadL
  split
  · rfl
  · rename_i h
    rw [F.map, F.size]
    simp only
    split
    · rfl
    · rename_i h2
      have hb := F.bytes
      congr 2
      have e : (fileB now m).take (min (s.length : Int) (at_ + n)).toNat = s.take (min (s.length : Int) (at_ + n)).toNat := by
        generalize hX : (min (s.length : Int) (at_ + n)).toNat = x
        have e2 : s.take x = ((fileB now m).take s.length).take x := by rw [hb]
        rw [e2, List.take_take]
        congr 1; omega
      exact e

theorem FileI.szr {now : Int → UInt64} {node : Int} {c : Crd} {m : List Int} {s : List UInt8} (F : FileI now node c m s) : 0 ≤ c.size ∧ c.size ≤ 2688 := by
  have := F.size
  have := F.fits
  omega

theorem fread_spec {h : Heap} {V : VL} {M : MemS} (I : Idle h V M) {node : Int} {c : Crd} {m : List Int} {s : List UInt8} (F : FileI M.read node c m s) (at_ n : Int) :
    CallH Tryz.prog 13 [.pointer (some ⟨V.v, 0, none⟩), .agg ⟨c.cells⟩, .int .i64 at_, .int .i64 n] h (fun v h' => Keeps [] h h' ∧ v = .tuple #[.string ⟨(refReadL s at_ n).1.toArray⟩, .int .i64 (refReadL s at_ n).2]) := by
  have := bread_spec I.at_ c F.ok F.szr F.okMap at_ n
  rw [readP_plain F] at this
  exact this

theorem ref_whole {s : List UInt8} (h : s.length ≤ 2688) : refReadL s 0 4096 = (s, 0) := by
  unfold refReadL
  rw [if_neg (by omega)]
  split
  · have : s = [] := List.eq_nil_of_length_eq_zero (by omega)
    rw [this]
  · congr 1
    rw [List.take_of_length_le (by omega)]; rfl

theorem whole_spec {h : Heap} {V : VL} {M : MemS} (I : Idle h V M) {f : Nat} {node : Int} {c : Crd} {m : List Int} {s : List UInt8} (hf : FileO h f V node c s) (F : FileI M.read node c m s) :
    CallH Tryz.prog 10 [.pointer (some ⟨f, 0, none⟩)] h (fun v h' => Keeps [] h h' ∧ v = .bool true) := by
  have hsz := F.size
  refine call_of hmix Tryz.func10 rfl ok10 (by simp [Tryz.f10]) ?_
  conv => whnf
  unfold FileO at hf
  rw [own_cells] at hf
  refine LoadR.o hf rfl ?_
  conv => whnf
  refine LoadN.o hf rfl ?_
  conv => whnf
  refine CallR.i (fread_spec I F 0 4096) fun v h1 k1 hv => ?_
  rw [ref_whole F.fits] at hv
  subst hv
  have hf1 := k1.obj hf (by simp)
  conv => whnf
  refine LoadR.o hf1 rfl ?_
  conv => whnf
  refine LoadR.o hf1 rfl ?_
  conv => whnf
  refine LoadR.o hf1 rfl ?_
  conv => whnf
  refine LoadN.o hf1 rfl ?_
  have hba := ba_size s
  conv => whnf
  refine IfR.t (by simp [toList_beq, hsz, bif_and]; exact congrArg (fun x : Nat => (x : Int)) hba.symm) ?_
  conv => whnf
  refine CallR.i (right_spec c h1) fun v h2 k2 hv => ?_
  subst hv
  conv => whnf
  refine ⟨k1.trans k2, ?_⟩
  rw [F.right]
  simp [toList_beq, hsz, bif_and]; exact congrArg (fun x : Nat => (x : Int)) hba.symm
end Go.Proofs.YtlloemmpnhoanaaGreat
