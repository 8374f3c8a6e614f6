/-
  Joined texts: CalJ, CalK.
-/
import Derived.Test.YtkdmlieckkdmgaaGreatDoorJLawWSeenl
import Derived.Test.YtkdmlieckkdmgaaGreatDoorJLawWSeenn
import Derived.Test.YtkdmlieckkdmgaaGreatDoorJLawWSeeng
/-
  Layer 13: calls without a view (printed by wip/tools/mkcalj.py).
-/
set_option linter.all false
set_option maxRecDepth 100000
set_option maxHeartbeats 4000000
namespace Go.Proofs.YtkdmlieckkdmgaaGreatDoor
open Go Go.Eng

def spotN : List Value := [.int .i64 0] ++ Crd.zero.cells ++ [.string ⟨#[]⟩, .int .i64 0]
theorem zpath_spec (path : List UInt8) (follow : Bool) (h : Heap) : CallH Tryz.prog 9 [.pointer none, .string (ba path), .bool follow] h (fun v h' => Keeps [] h h' ∧ v = .tuple #[.int .i64 0, .agg ⟨Crd.zero.cells⟩, .int .i64 1]) := by
  refine call_of hmix Tryz.func9 rfl ok9 (by simp [Tryz.f9]) ?_
  conv => whnf
  refine AllocR.i fun b1 h1 e1 s1 o1 k1 => ?_
  conv => whnf
  refine IfR.t rfl ?_
  conv => whnf
  refine BoxR.i fun h2 s2 k2 => ?_
  conv => whnf
  exact ⟨k1.new1 k2 (by omega), rfl⟩
theorem zplace_spec (path : List UInt8) (h : Heap) : CallH Tryz.prog 110 [.pointer none, .string (ba path)] h (fun v h' => Keeps [] h h' ∧ v = .tuple #[.agg ⟨spotN⟩, .int .i64 1]) := by
  refine call_of hmix Tryz.func110 rfl ok110 (by simp [Tryz.f110]) ?_
  conv => whnf
  refine AllocR.i fun b1 h1 e1 s1 o1 k1 => ?_
  conv => whnf
  refine IfR.t rfl ?_
  conv => whnf
  refine BoxR.i fun h2 s2 k2 => ?_
  conv => whnf
  exact ⟨k1.new1 k2 (by omega), rfl⟩
theorem zmake_spec (path : List UInt8) (kind : Int) (h : Heap) : CallH Tryz.prog 45 [.pointer none, .string (ba path), .int .i64 kind] h (fun v h' => Keeps [] h h' ∧ v = .int .i64 1) := by
  refine call_of hmix Tryz.func45 rfl ok45 (by simp [Tryz.f45]) ?_
  conv => whnf
  refine IfR.t rfl ?_
  conv => whnf
  exact ⟨Keeps.refl _ _, rfl⟩
theorem zsym_spec (path target : List UInt8) (h : Heap) : CallH Tryz.prog 46 [.pointer none, .string (ba path), .string (ba target)] h (fun v h' => Keeps [] h h' ∧ v = .int .i64 1) := by
  refine call_of hmix Tryz.func46 rfl ok46 (by simp [Tryz.f46]) ?_
  conv => whnf
  refine IfR.t rfl ?_
  conv => whnf
  exact ⟨Keeps.refl _ _, rfl⟩
theorem zrename_spec (path target : List UInt8) (h : Heap) : CallH Tryz.prog 53 [.pointer none, .string (ba path), .string (ba target)] h (fun v h' => Keeps [] h h' ∧ v = .int .i64 1) := by
  refine call_of hmix Tryz.func53 rfl ok53 (by simp [Tryz.f53]) ?_
  conv => whnf
  refine IfR.t rfl ?_
  conv => whnf
  exact ⟨Keeps.refl _ _, rfl⟩
theorem zlink_spec (path target : List UInt8) (h : Heap) : CallH Tryz.prog 51 [.pointer none, .string (ba path), .string (ba target)] h (fun v h' => Keeps [] h h' ∧ v = .int .i64 1) := by
  refine call_of hmix Tryz.func51 rfl ok51 (by simp [Tryz.f51]) ?_
  conv => whnf
  refine CallR.i (zpath_spec path false h) fun v h1 k1 hv => ?_
  subst hv
  conv => whnf
  refine AllocR.i fun b2 h2 e2 s2 o2 k2 => ?_
  conv => whnf
  refine BoxR.i fun h3 s3 k3 => ?_
  conv => whnf
  refine IfR.t rfl ?_
  conv => whnf
  exact ⟨k1.trans (k2.new1 k3 (by omega)), rfl⟩
theorem zfile_spec (path : List UInt8) (h : Heap) : CallH Tryz.prog 102 [.pointer none, .string (ba path)] h (fun v h' => Keeps [] h h' ∧ v = .tuple #[.int .i64 0, .agg ⟨Crd.zero.cells⟩, .int .i64 1]) := by
  refine call_of hmix Tryz.func102 rfl ok102 (by simp [Tryz.f102]) ?_
  conv => whnf
  refine AllocR.i fun b1 h1 e1 s1 o1 k1 => ?_
  conv => whnf
  refine CallR.i (zpath_spec path true h1) fun v h2 k2 hv => ?_
  subst hv
  conv => whnf
  refine AllocR.i fun b3 h3 e3 s3 o3 k3 => ?_
  conv => whnf
  refine BoxR.i fun h4 s4 k4 => ?_
  have z1 := k1.size
  have z2 := k2.size
  have z3 := k3.size
  conv => whnf
  first | refine IfR.f rfl ?_ | (refine MeetR.pass ?_; (conv => whnf); refine IfR.f rfl ?_)
  conv => whnf
  refine BoxR.i fun h5 s5 k5 => ?_
  conv => whnf
  exact ⟨(k1.trans (k2.trans (k3.new1 k4 (by omega)))).new1 k5 (by omega), rfl⟩
theorem zremove_spec (path : List UInt8) (h : Heap) : CallH Tryz.prog 48 [.pointer none, .string (ba path)] h (fun v h' => Keeps [] h h' ∧ v = .int .i64 1) := by
  refine call_of hmix Tryz.func48 rfl ok48 (by simp [Tryz.f48]) ?_
  conv => whnf
  refine CallR.i (?_ : CallH Tryz.prog 104 [.pointer none, .string (ba path), .func (.func 105) #[] #[]] h (fun v h' => Keeps [] h h' ∧ v = .int .i64 1)) fun v h1 k1 hv => ?_
  · refine call_of hmix Tryz.func104 rfl ok104 (by simp [Tryz.f104]) ?_
    conv => whnf
    refine CallR.i (zplace_spec path h) fun v h1 k1 hv => ?_
    subst hv
    conv => whnf
    refine AllocR.i fun b2 h2 e2 s2 o2 k2 => ?_
    conv => whnf
    refine BoxR.i fun h3 s3 k3 => ?_
    conv => whnf
    refine IfR.t rfl ?_
    conv => whnf
    exact ⟨k1.trans (k2.new1 k3 (by omega)), rfl⟩
  · subst hv
    conv => whnf
    exact ⟨k1, rfl⟩
theorem zrmdir_spec (path : List UInt8) (h : Heap) : CallH Tryz.prog 52 [.pointer none, .string (ba path)] h (fun v h' => Keeps [] h h' ∧ v = .int .i64 1) := by
  refine call_of hmix Tryz.func52 rfl ok52 (by simp [Tryz.f52]) ?_
  conv => whnf
  refine CallR.i (?_ : CallH Tryz.prog 104 [.pointer none, .string (ba path), .func (.func 109) #[] #[]] h (fun v h' => Keeps [] h h' ∧ v = .int .i64 1)) fun v h1 k1 hv => ?_
  · refine call_of hmix Tryz.func104 rfl ok104 (by simp [Tryz.f104]) ?_
    conv => whnf
    refine CallR.i (zplace_spec path h) fun v h1 k1 hv => ?_
    subst hv
    conv => whnf
    refine AllocR.i fun b2 h2 e2 s2 o2 k2 => ?_
    conv => whnf
    refine BoxR.i fun h3 s3 k3 => ?_
    conv => whnf
    refine IfR.t rfl ?_
    conv => whnf
    exact ⟨k1.trans (k2.new1 k3 (by omega)), rfl⟩
  · subst hv
    conv => whnf
    exact ⟨k1, rfl⟩
theorem zwrite_spec (path : List UInt8) (at_ : Int) (data : List UInt8) (h : Heap) : CallH Tryz.prog 47 [.pointer none, .string (ba path), .int .i64 at_, .string (ba data)] h (fun v h' => Keeps [] h h' ∧ v = .int .i64 1) := by
  refine call_of hmix Tryz.func47 rfl ok47 (by simp [Tryz.f47]) ?_
  conv => whnf
  refine CallR.i (zfile_spec path h) fun v h1 k1 hv => ?_
  subst hv
  conv => whnf
  refine AllocR.i fun b2 h2 e2 s2 o2 k2 => ?_
  conv => whnf
  refine BoxR.i fun h3 s3 k3 => ?_
  conv => whnf
  refine IfR.t rfl ?_
  conv => whnf
  exact ⟨k1.trans (k2.new1 k3 (by omega)), rfl⟩
theorem zcut_spec (path : List UInt8) (size : Int) (h : Heap) : CallH Tryz.prog 54 [.pointer none, .string (ba path), .int .i64 size] h (fun v h' => Keeps [] h h' ∧ v = .int .i64 1) := by
  refine call_of hmix Tryz.func54 rfl ok54 (by simp [Tryz.f54]) ?_
  conv => whnf
  refine CallR.i (zfile_spec path h) fun v h1 k1 hv => ?_
  subst hv
  conv => whnf
  refine AllocR.i fun b2 h2 e2 s2 o2 k2 => ?_
  conv => whnf
  refine BoxR.i fun h3 s3 k3 => ?_
  conv => whnf
  refine IfR.t rfl ?_
  conv => whnf
  exact ⟨k1.trans (k2.new1 k3 (by omega)), rfl⟩
theorem zread_spec (path : List UInt8) (at_ n : Int) (h : Heap) : CallH Tryz.prog 49 [.pointer none, .string (ba path), .int .i64 at_, .int .i64 n] h (fun v h' => Keeps [] h h' ∧ v = .tuple #[.string ⟨#[]⟩, .int .i64 1]) := by
  refine call_of hmix Tryz.func49 rfl ok49 (by simp [Tryz.f49]) ?_
  conv => whnf
  refine CallR.i (zfile_spec path h) fun v h1 k1 hv => ?_
  subst hv
  conv => whnf
  refine AllocR.i fun b2 h2 e2 s2 o2 k2 => ?_
  conv => whnf
  refine BoxR.i fun h3 s3 k3 => ?_
  conv => whnf
  refine IfR.t rfl ?_
  conv => whnf
  exact ⟨k1.trans (k2.new1 k3 (by omega)), rfl⟩
theorem zfollow_spec (path : List UInt8) (h : Heap) : CallH Tryz.prog 55 [.pointer none, .string (ba path)] h (fun v h' => Keeps [] h h' ∧ v = .tuple #[.string ⟨#[]⟩, .int .i64 1]) := by
  refine call_of hmix Tryz.func55 rfl ok55 (by simp [Tryz.f55]) ?_
  conv => whnf
  refine CallR.i (zpath_spec path false h) fun v h1 k1 hv => ?_
  subst hv
  conv => whnf
  refine AllocR.i fun b2 h2 e2 s2 o2 k2 => ?_
  conv => whnf
  refine BoxR.i fun h3 s3 k3 => ?_
  conv => whnf
  refine IfR.t rfl ?_
  conv => whnf
  exact ⟨k1.trans (k2.new1 k3 (by omega)), rfl⟩
theorem zlist_spec (path : List UInt8) (h : Heap) : CallH Tryz.prog 56 [.pointer none, .string (ba path)] h (fun v h' => Keeps [] h h' ∧ v = .tuple #[.slice none 0 0, .int .i64 1]) := by
  refine call_of hmix Tryz.func56 rfl ok56 (by simp [Tryz.f56]) ?_
  conv => whnf
  refine CallR.i (zpath_spec path true h) fun v h1 k1 hv => ?_
  subst hv
  conv => whnf
  refine AllocR.i fun b2 h2 e2 s2 o2 k2 => ?_
  conv => whnf
  refine BoxR.i fun h3 s3 k3 => ?_
  conv => whnf
  refine IfR.t rfl ?_
  conv => whnf
  exact ⟨k1.trans (k2.new1 k3 (by omega)), rfl⟩
theorem zstat_spec (path : List UInt8) (h : Heap) : CallH Tryz.prog 50 [.pointer none, .string (ba path)] h (fun v h' => Keeps [] h h' ∧ v = .tuple #[.agg #[.int .i64 0, .int .i64 0, .int .i64 0, .int .i64 0], .int .i64 1]) := by
  refine call_of hmix Tryz.func50 rfl ok50 (by simp [Tryz.f50]) ?_
  conv => whnf
  refine AllocR.i fun b1 h1 e1 s1 o1 k1 => ?_
  conv => whnf
  refine CallR.i (zpath_spec path false h1) fun v h2 k2 hv => ?_
  subst hv
  conv => whnf
  refine AllocR.i fun b3 h3 e3 s3 o3 k3 => ?_
  conv => whnf
  refine BoxR.i fun h4 s4 k4 => ?_
  have z1 := k1.size
  have z2 := k2.size
  conv => whnf
  refine IfR.t rfl ?_
  conv => whnf
  refine BoxR.i fun h5 s5 k5 => ?_
  conv => whnf
  exact ⟨(k1.trans (k2.trans (k3.new1 k4 (by omega)))).new1 k5 (by omega), rfl⟩

/-- a call, as a script has it -/
structure Cal where
  kind : Int
  path : List UInt8
  path2 : List UInt8
  data : List UInt8
  at_ : Int
  n : Int
def Cal.cells (c : Cal) : List Value := [.int .i64 c.kind, .string (ba c.path), .string (ba c.path2), .string (ba c.data), .int .i64 c.at_, .int .i64 c.n]
def Cal.ok (c : Cal) : Prop := inI64 c.kind ∧ c.path.length ≤ 140737488351232 ∧ c.path2.length ≤ 140737488351232 ∧ c.data.length ≤ 140737488351232 ∧ inI64 c.at_ ∧ inI64 c.n
/-- what is told where there is an error -/
def toldN : Value := .agg #[.int .i64 1, .int .i64 0, .string ⟨#[]⟩, .int .i64 0, .int .i64 0, .int .i64 0, .int .i64 0, .slice none 0 0]

theorem ztold_spec (c : Cal) (h : Heap) : CallH Tryz.prog 22 [.pointer none, .agg ⟨c.cells⟩] h (fun v h' => Keeps [] h h' ∧ v = toldN) := by
  refine call_of hmix Tryz.func22 rfl ok22 (by simp [Tryz.f22]) ?_
  conv => whnf
  refine AllocR.i fun b1 h1 e1 s1 o1 k1 => ?_
  conv => whnf
  refine AllocR.i fun b2 h2 e2 s2 o2 k2 => ?_
  have z1 := k1.size
  have z2 := k2.size
  have k12 := k1.trans k2
  conv => whnf
  first | refine IfR.i (fun hd => ?_) (fun hd => ?_) | (refine MeetR.pass ?_; (conv => whnf); refine IfR.i (fun hd => ?_) (fun hd => ?_))
  · conv => whnf
    refine CallR.i (zmake_spec c.path 1 h2) fun v h3 k3 hv => ?_
    subst hv
    have z3 := k3.size
    conv => whnf
    refine BoxR.i fun h4 s4 k4 => ?_
    conv => whnf
    exact ⟨(k12.trans k3).new1 k4 (by omega), rfl⟩
  · skip
    conv => whnf
    first | refine IfR.i (fun hd => ?_) (fun hd => ?_) | (refine MeetR.pass ?_; (conv => whnf); refine IfR.i (fun hd => ?_) (fun hd => ?_))
    · conv => whnf
      refine CallR.i (zmake_spec c.path 2 h2) fun v h3 k3 hv => ?_
      subst hv
      have z3 := k3.size
      conv => whnf
      refine BoxR.i fun h4 s4 k4 => ?_
      conv => whnf
      exact ⟨(k12.trans k3).new1 k4 (by omega), rfl⟩
    · skip
      conv => whnf
      first | refine IfR.i (fun hd => ?_) (fun hd => ?_) | (refine MeetR.pass ?_; (conv => whnf); refine IfR.i (fun hd => ?_) (fun hd => ?_))
      · conv => whnf
        refine CallR.i (zlink_spec c.path c.path2 h2) fun v h3 k3 hv => ?_
        subst hv
        have z3 := k3.size
        conv => whnf
        refine BoxR.i fun h4 s4 k4 => ?_
        conv => whnf
        exact ⟨(k12.trans k3).new1 k4 (by omega), rfl⟩
      · skip
        conv => whnf
        first | refine IfR.i (fun hd => ?_) (fun hd => ?_) | (refine MeetR.pass ?_; (conv => whnf); refine IfR.i (fun hd => ?_) (fun hd => ?_))
        · conv => whnf
          refine CallR.i (zsym_spec c.path c.path2 h2) fun v h3 k3 hv => ?_
          subst hv
          have z3 := k3.size
          conv => whnf
          refine BoxR.i fun h4 s4 k4 => ?_
          conv => whnf
          exact ⟨(k12.trans k3).new1 k4 (by omega), rfl⟩
        · skip
          conv => whnf
          first | refine IfR.i (fun hd => ?_) (fun hd => ?_) | (refine MeetR.pass ?_; (conv => whnf); refine IfR.i (fun hd => ?_) (fun hd => ?_))
          · conv => whnf
            refine CallR.i (zremove_spec c.path h2) fun v h3 k3 hv => ?_
            subst hv
            have z3 := k3.size
            conv => whnf
            refine BoxR.i fun h4 s4 k4 => ?_
            conv => whnf
            exact ⟨(k12.trans k3).new1 k4 (by omega), rfl⟩
          · skip
            conv => whnf
            first | refine IfR.i (fun hd => ?_) (fun hd => ?_) | (refine MeetR.pass ?_; (conv => whnf); refine IfR.i (fun hd => ?_) (fun hd => ?_))
            · conv => whnf
              refine CallR.i (zrmdir_spec c.path h2) fun v h3 k3 hv => ?_
              subst hv
              have z3 := k3.size
              conv => whnf
              refine BoxR.i fun h4 s4 k4 => ?_
              conv => whnf
              exact ⟨(k12.trans k3).new1 k4 (by omega), rfl⟩
            · skip
              conv => whnf
              first | refine IfR.i (fun hd => ?_) (fun hd => ?_) | (refine MeetR.pass ?_; (conv => whnf); refine IfR.i (fun hd => ?_) (fun hd => ?_))
              · conv => whnf
                refine CallR.i (zrename_spec c.path c.path2 h2) fun v h3 k3 hv => ?_
                subst hv
                have z3 := k3.size
                conv => whnf
                refine BoxR.i fun h4 s4 k4 => ?_
                conv => whnf
                exact ⟨(k12.trans k3).new1 k4 (by omega), rfl⟩
              · skip
                conv => whnf
                first | refine IfR.i (fun hd => ?_) (fun hd => ?_) | (refine MeetR.pass ?_; (conv => whnf); refine IfR.i (fun hd => ?_) (fun hd => ?_))
                · conv => whnf
                  refine CallR.i (zwrite_spec c.path c.at_ c.data h2) fun v h3 k3 hv => ?_
                  subst hv
                  have z3 := k3.size
                  conv => whnf
                  refine BoxR.i fun h4 s4 k4 => ?_
                  conv => whnf
                  exact ⟨(k12.trans k3).new1 k4 (by omega), rfl⟩
                · skip
                  conv => whnf
                  first | refine IfR.i (fun hd => ?_) (fun hd => ?_) | (refine MeetR.pass ?_; (conv => whnf); refine IfR.i (fun hd => ?_) (fun hd => ?_))
                  · conv => whnf
                    refine CallR.i (zcut_spec c.path c.at_ h2) fun v h3 k3 hv => ?_
                    subst hv
                    have z3 := k3.size
                    conv => whnf
                    refine BoxR.i fun h4 s4 k4 => ?_
                    conv => whnf
                    exact ⟨(k12.trans k3).new1 k4 (by omega), rfl⟩
                  · skip
                    conv => whnf
                    first | refine IfR.i (fun hd => ?_) (fun hd => ?_) | (refine MeetR.pass ?_; (conv => whnf); refine IfR.i (fun hd => ?_) (fun hd => ?_))
                    · conv => whnf
                      refine CallR.i (zread_spec c.path c.at_ c.n h2) fun v h3 k3 hv => ?_
                      subst hv
                      have z3 := k3.size
                      conv => whnf
                      refine BoxR.i fun h4 s4 k4 => ?_
                      conv => whnf
                      exact ⟨(k12.trans k3).new1 k4 (by omega), rfl⟩
                    · skip
                      conv => whnf
                      first | refine IfR.i (fun hd => ?_) (fun hd => ?_) | (refine MeetR.pass ?_; (conv => whnf); refine IfR.i (fun hd => ?_) (fun hd => ?_))
                      · conv => whnf
                        refine CallR.i (zstat_spec c.path h2) fun v h3 k3 hv => ?_
                        subst hv
                        have z3 := k3.size
                        conv => whnf
                        refine AllocR.i fun b5 h5 e5 s5 o5 k5 => ?_
                        conv => whnf
                        refine BoxR.i fun h6 s6 k6 => ?_
                        conv => whnf
                        refine BoxR.i fun h7 s7 k7 => ?_
                        conv => whnf
                        exact ⟨((k12.trans k3).trans (k5.new1 k6 (by omega))).new1 k7 (by omega), rfl⟩
                      · skip
                        conv => whnf
                        first | refine IfR.i (fun hd => ?_) (fun hd => ?_) | (refine MeetR.pass ?_; (conv => whnf); refine IfR.i (fun hd => ?_) (fun hd => ?_))
                        · conv => whnf
                          refine CallR.i (zfollow_spec c.path h2) fun v h3 k3 hv => ?_
                          subst hv
                          have z3 := k3.size
                          conv => whnf
                          refine BoxR.i fun h4 s4 k4 => ?_
                          conv => whnf
                          exact ⟨(k12.trans k3).new1 k4 (by omega), rfl⟩
                        · skip
                          conv => whnf
                          first | refine IfR.i (fun hd => ?_) (fun hd => ?_) | (refine MeetR.pass ?_; (conv => whnf); refine IfR.i (fun hd => ?_) (fun hd => ?_))
                          · conv => whnf
                            refine CallR.i (zlist_spec c.path h2) fun v h3 k3 hv => ?_
                            subst hv
                            have z3 := k3.size
                            conv => whnf
                            refine AllocR.i fun b5 h5 e5 s5 o5 k5 => ?_
                            conv => whnf
                            refine BoxR.i fun h6 s6 k6 => ?_
                            conv => whnf
                            refine LoopR.on [4, 11, 13, 14] [4, 13] (fun _ : Unit => [(4, .lp 4 0), (11, .v (.slice none 0 0)), (13, .lp 13 0), (14, .v (.int .i64 0))]) (fun _ => [(4, b2, [.int .i64 0, .int .i64 0, .string ⟨#[]⟩, .int .i64 0, .int .i64 0, .int .i64 0, .int .i64 0, .slice none 0 0]), (13, b5, [.int .i64 1, .int .i64 0, .string ⟨#[]⟩, .int .i64 0, .int .i64 0, .int .i64 0, .int .i64 0, .slice none 0 0])]) (fun _ h5 => Keeps [] h h5) (fun _ => 0) () ?_ ?_
                            · conv => whnf
                              exact ⟨(), rfl, rfl, rfl, (k12.trans k3).trans (k5.new1 k6 (by omega))⟩
                            · rintro _ h7 k7
                              conv => whnf
                              refine IfR.f rfl ?_
                              conv => whnf
                              refine BoxR.i fun h8 s8 k8 => ?_
                              conv => whnf
                              exact ⟨k7.new1 k8 (by omega), rfl⟩
                          · skip
                            conv => whnf
                            first | refine BoxR.i fun h4 s4 k4 => ?_ | (refine MeetR.pass ?_; (conv => whnf); refine BoxR.i fun h4 s4 k4 => ?_)
                            conv => whnf
                            exact ⟨k12.new1 k4 (by omega), rfl⟩
end Go.Proofs.YtkdmlieckkdmgaaGreatDoor
/-
  Layer 13's law: without a view nothing can be asked.
-/
set_option linter.all false
set_option maxRecDepth 100000
set_option maxHeartbeats 4000000
namespace Go.Proofs.YtkdmlieckkdmgaaGreatDoor
open Go Go.Eng

instance : Rp Cal where
  n := 6
  rep _ vs x := vs = x.cells ∧ x.ok
  len h := by rw [h.1]; rfl
  keep _ h := h
instance : Flat Cal := ⟨fun h => h⟩

section
variable {H : Type} {enc : TypeId × Value → H} {W : World} {sp : Nat → Bool} {held : Bool}
theorem opens_call : Opens enc Tryz.prog W sp held 60 Cal := by
  intro fuel cs x h hw
  obtain ⟨hl, f', hp⟩ := trod_parts Tryz.underlying60 h hw
  obtain ⟨a, b, c, d, e, f, rfl⟩ : ∃ a b c d e f, cs = [a, b, c, d, e, f] := by
    match cs, hl with
    | [a, b, c, d, e, f], _ => exact ⟨a, b, c, d, e, f, rfl⟩
  obtain ⟨y0, h0, w0⟩ := hp _ (List.mem_cons_self)
  obtain ⟨y1, h1, w1⟩ := hp _ (List.mem_cons_of_mem _ List.mem_cons_self)
  obtain ⟨y2, h2, w2⟩ := hp _ (List.mem_cons_of_mem _ (List.mem_cons_of_mem _ List.mem_cons_self))
  obtain ⟨y3, h3, w3⟩ := hp _ (List.mem_cons_of_mem _ (List.mem_cons_of_mem _ (List.mem_cons_of_mem _ List.mem_cons_self)))
  obtain ⟨y4, h4, w4⟩ := hp _ (List.mem_cons_of_mem _ (List.mem_cons_of_mem _ (List.mem_cons_of_mem _ (List.mem_cons_of_mem _ List.mem_cons_self))))
  obtain ⟨y5, h5, w5⟩ := hp _ (List.mem_cons_of_mem _ (List.mem_cons_of_mem _ (List.mem_cons_of_mem _ (List.mem_cons_of_mem _ (List.mem_cons_of_mem _ List.mem_cons_self)))))
  obtain ⟨n, e0, g0⟩ := opens_int (W := W) Tryz.underlying3 f' _ _ h0 w0
  obtain ⟨s, e1, g1⟩ := opens_string (W := W) Tryz.underlying9 f' _ _ h1 w1
  obtain ⟨t, e2, g2⟩ := opens_string (W := W) Tryz.underlying9 f' _ _ h2 w2
  obtain ⟨u, e3, g3⟩ := opens_string (W := W) Tryz.underlying9 f' _ _ h3 w3
  obtain ⟨m, e4, g4⟩ := opens_int (W := W) Tryz.underlying3 f' _ _ h4 w4
  obtain ⟨k, e5, g5⟩ := opens_int (W := W) Tryz.underlying3 f' _ _ h5 w5
  cases e0; cases e1; cases e2; cases e3; cases e4; cases e5
  obtain ⟨l1, rfl⟩ : ∃ l : List UInt8, s = ⟨l.toArray⟩ := ⟨s.data.toList, rfl⟩
  obtain ⟨l2, rfl⟩ : ∃ l : List UInt8, t = ⟨l.toArray⟩ := ⟨t.data.toList, rfl⟩
  obtain ⟨l3, rfl⟩ : ∃ l : List UInt8, u = ⟨l.toArray⟩ := ⟨u.data.toList, rfl⟩
  exact ⟨⟨n, l1, l2, l3, m, k⟩, rfl, g0, by have := g1; unfold okStr at this; rwa [bs_size] at this, by have := g2; unfold okStr at this; rwa [bs_size] at this, by have := g3; unfold okStr at this; rwa [bs_size] at this, g4, g5⟩
end

theorem nil13_law (c : Cal) (h : Heap) : CallH Tryz.prog 5 [.agg ⟨c.cells⟩] h (fun v h' => Keeps [] h h' ∧ v = .bool true) := by
  refine call_of hmix Tryz.func5 rfl ok5 (by simp [Tryz.f5]) ?_
  conv => whnf
  refine AllocR.i fun b1 h1 e1 s1 o1 k1 => ?_
  conv => whnf
  refine CallR.i (lives13_spec h1) fun v h2 k2 hv => ?_
  subst hv
  conv => whnf
  refine IfR.f rfl ?_
  conv => whnf
  refine CallR.i (ztold_spec c h2) fun v h3 k3 hv => ?_
  subst hv
  conv => whnf
  exact ⟨k1.trans (k2.trans k3), rfl⟩
end Go.Proofs.YtkdmlieckkdmgaaGreatDoor
