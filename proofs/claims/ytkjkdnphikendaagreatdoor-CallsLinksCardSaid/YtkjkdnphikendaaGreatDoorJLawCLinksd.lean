/-
  Joined texts: Cfg, BodyA, BodyB, BodyC, BodyD.
-/
import Derived.Test.YtkjkdnphikendaaGreatDoorJLawCLinksc
import Derived.Test.YtkjkdnphikendaaGreatDoorProg
/-
  The functions' settings for the engine, and what the kernel says of them.
-/
set_option linter.all false
namespace Go.Proofs.YtkjkdnphikendaaGreatDoor
open Go Go.Eng
theorem hmix : Tryz.prog.follows .mixedOrders = true := by kernel_rfl
def C3 : Cfg := ⟨[0, 1, 4, 5, 6, 7, 8, 9, 10, 11, 12, 13, 14, 15, 16, 18, 20, 31, 40, 53, 62, 70, 95, 98, 113, 168, 177], [13, 17], [13, 17, 151, 158], [], [(25, .cons 0 (.cons 1 (.cons 2 (.cons 3 (.cons 4 (.cons 5 (.cons 6 (.cons 7 (.both (.cons 8 (.cons 9 (.cons 10 (.cons 11 (.cons 12 (.cons 13 (.cons 14 (.nil)))))))) (.cons 12 (.cons 8 (.cons 9 (.cons 10 (.cons 11 (.cons 13 (.cons 14 (.nil)))))))))))))))))]⟩   -- escritoire/escritoirelaw13.CallsLinks
theorem ok3 : codeOK Tryz.prog C3 Tryz.f3.ntmps ((Tryz.f3.body).getD .skip) = true := by kernel_rfl
def C4 : Cfg := ⟨[0, 2, 3, 4, 5, 6, 7, 8, 9, 10, 12, 15, 26, 56, 60, 63, 76, 87], [7, 8], [7, 8, 49, 53, 61], [], [(12, .cons 0 (.cons 1 (.cons 2 (.cons 3 (.cons 4 (.cons 5 (.cons 6 (.cons 7 (.cons 9 (.cons 10 (.cons 11 (.cons 12 (.both (.cons 8 (.cons 13 (.both (.cons 14 (.both (.cons 15 (.cons 16 (.cons 17 (.cons 18 (.nil))))) (.cons 16 (.cons 15 (.cons 17 (.cons 18 (.nil))))))) (.both (.cons 15 (.both (.cons 14 (.cons 16 (.cons 17 (.cons 18 (.nil))))) (.cons 16 (.cons 14 (.cons 17 (.cons 18 (.nil))))))) (.cons 16 (.both (.cons 14 (.cons 15 (.cons 17 (.cons 18 (.nil))))) (.cons 15 (.cons 14 (.cons 17 (.cons 18 (.nil))))))))))) (.both (.cons 13 (.both (.cons 8 (.both (.cons 14 (.both (.cons 15 (.cons 16 (.cons 17 (.cons 18 (.nil))))) (.cons 16 (.cons 15 (.cons 17 (.cons 18 (.nil))))))) (.both (.cons 15 (.both (.cons 14 (.cons 16 (.cons 17 (.cons 18 (.nil))))) (.cons 16 (.cons 14 (.cons 17 (.cons 18 (.nil))))))) (.cons 16 (.both (.cons 14 (.cons 15 (.cons 17 (.cons 18 (.nil))))) (.cons 15 (.cons 14 (.cons 17 (.cons 18 (.nil)))))))))) (.both (.cons 15 (.both (.cons 8 (.both (.cons 14 (.cons 16 (.cons 17 (.cons 18 (.nil))))) (.cons 16 (.cons 14 (.cons 17 (.cons 18 (.nil))))))) (.cons 16 (.cons 8 (.cons 14 (.cons 17 (.cons 18 (.nil)))))))) (.cons 16 (.both (.cons 8 (.both (.cons 14 (.cons 15 (.cons 17 (.cons 18 (.nil))))) (.cons 15 (.cons 14 (.cons 17 (.cons 18 (.nil))))))) (.cons 15 (.cons 8 (.cons 14 (.cons 17 (.cons 18 (.nil))))))))))) (.both (.cons 15 (.both (.cons 8 (.cons 13 (.both (.cons 14 (.cons 16 (.cons 17 (.cons 18 (.nil))))) (.cons 16 (.cons 14 (.cons 17 (.cons 18 (.nil)))))))) (.both (.cons 13 (.both (.cons 8 (.both (.cons 14 (.cons 16 (.cons 17 (.cons 18 (.nil))))) (.cons 16 (.cons 14 (.cons 17 (.cons 18 (.nil))))))) (.cons 16 (.cons 8 (.cons 14 (.cons 17 (.cons 18 (.nil)))))))) (.cons 16 (.both (.cons 8 (.cons 13 (.cons 14 (.cons 17 (.cons 18 (.nil)))))) (.cons 13 (.cons 8 (.cons 14 (.cons 17 (.cons 18 (.nil))))))))))) (.cons 16 (.both (.cons 8 (.cons 13 (.both (.cons 14 (.cons 15 (.cons 17 (.cons 18 (.nil))))) (.cons 15 (.cons 14 (.cons 17 (.cons 18 (.nil)))))))) (.both (.cons 13 (.both (.cons 8 (.both (.cons 14 (.cons 15 (.cons 17 (.cons 18 (.nil))))) (.cons 15 (.cons 14 (.cons 17 (.cons 18 (.nil))))))) (.cons 15 (.cons 8 (.cons 14 (.cons 17 (.cons 18 (.nil)))))))) (.cons 15 (.both (.cons 8 (.cons 13 (.cons 14 (.cons 17 (.cons 18 (.nil)))))) (.cons 13 (.cons 8 (.cons 14 (.cons 17 (.cons 18 (.nil))))))))))))))))))))))))))]⟩   -- escritoire/escritoirelaw13.CallsOwn
def C5 : Cfg := ⟨[0, 2, 3, 4, 6, 9, 15, 24], [], [], [], []⟩   -- escritoire/escritoirelaw13.CallsPlay
def C6 : Cfg := ⟨[0, 1, 2, 3, 4, 5, 40], [4], [4, 68, 73], [], []⟩   -- escritoire/escritoirelaw13.lives
theorem ok6 : codeOK Tryz.prog C6 Tryz.f6.ntmps ((Tryz.f6.body).getD .skip) = true := by kernel_rfl
def C7 : Cfg := ⟨[0, 1, 2, 6, 17], [], [], [], []⟩   -- escritoire/escritoirelaw13.begin
theorem ok7 : codeOK Tryz.prog C7 Tryz.f7.ntmps ((Tryz.f7.body).getD .skip) = true := by kernel_rfl
def C8 : Cfg := ⟨[0, 1, 2, 6, 16], [], [], [], []⟩   -- escritoire/calls.Make
theorem ok8 : codeOK Tryz.prog C8 Tryz.f8.ntmps ((Tryz.f8.body).getD .skip) = true := by kernel_rfl
def C9 : Cfg := ⟨[0, 1, 2, 6, 7, 8, 9, 10, 11, 19, 23, 33, 37, 50], [8, 10], [8, 10, 24, 38, 41, 44], [], []⟩   -- escritoire/calls.Link
theorem ok9 : codeOK Tryz.prog C9 Tryz.f9.ntmps ((Tryz.f9.body).getD .skip) = true := by kernel_rfl
def C10 : Cfg := ⟨[0, 1, 2, 3, 8, 9, 10, 11, 20], [10], [10], [], []⟩   -- escritoire/calls.Write
theorem ok10 : codeOK Tryz.prog C10 Tryz.f10.ntmps ((Tryz.f10.body).getD .skip) = true := by kernel_rfl
def C11 : Cfg := ⟨[0, 1, 2, 3, 8, 9, 11, 12, 21], [11], [11], [], []⟩   -- escritoire/calls.Read
theorem ok11 : codeOK Tryz.prog C11 Tryz.f11.ntmps ((Tryz.f11.body).getD .skip) = true := by kernel_rfl
def C12 : Cfg := ⟨[0, 1, 4, 5, 7, 8, 17], [4, 7], [4, 7, 20, 22, 24], [], []⟩   -- escritoire/calls.Stat
theorem ok12 : codeOK Tryz.prog C12 Tryz.f12.ntmps ((Tryz.f12.body).getD .skip) = true := by kernel_rfl
def C13 : Cfg := ⟨[0, 1, 4], [], [], [], []⟩   -- escritoire/calls.Remove
theorem ok13 : codeOK Tryz.prog C13 Tryz.f13.ntmps ((Tryz.f13.body).getD .skip) = true := by kernel_rfl
def C14 : Cfg := ⟨[0, 2, 3, 4, 5, 7, 17, 19], [], [], [], []⟩   -- (*escritoire/memory.Memory).Image
def C15 : Cfg := ⟨[0, 2], [], [], [], []⟩   -- escritoire/escritoirelaw13.early
def C16 : Cfg := ⟨[0, 2, 3, 4, 18], [], [], [], [(5, .cons 0 (.cons 1 (.cons 2 (.cons 4 (.cons 5 (.cons 6 (.cons 7 (.cons 8 (.cons 9 (.cons 10 (.cons 11 (.cons 12 (.both (.cons 3 (.cons 13 (.cons 14 (.cons 15 (.cons 16 (.nil)))))) (.cons 13 (.cons 3 (.cons 14 (.cons 15 (.cons 16 (.nil)))))))))))))))))))]⟩   -- (*escritoire/escritoireref12.Tree).Copy
def C17 : Cfg := ⟨[0, 1, 3, 4, 5, 6, 7, 8, 9, 10, 11, 12, 13, 14, 16, 17, 24, 31, 40, 49, 56, 63, 72, 83, 92, 108, 120, 132, 146], [3, 4, 7, 13], [3, 4, 7, 13, 15, 20, 27, 34, 36, 43, 45, 52, 59, 66, 68, 75, 77, 79, 86, 88, 96, 98, 100, 112, 124, 136, 149, 158], [], []⟩   -- escritoire/escritoirelaw13.told
def C18 : Cfg := ⟨[0, 1, 3, 4, 5, 6, 7, 8, 9, 10, 11, 12, 13, 14, 16, 17, 24, 31, 40, 49, 56, 63, 72, 83, 92, 108, 120, 132, 146], [3, 4, 7, 13], [3, 4, 7, 13, 15, 20, 27, 34, 36, 43, 45, 52, 59, 66, 68, 75, 77, 79, 86, 88, 96, 98, 100, 112, 124, 136, 149, 158], [], []⟩   -- escritoire/escritoireref13.Call
def C19 : Cfg := ⟨[0, 1, 2, 3, 4], [2, 3], [2, 3, 5, 7, 11, 13, 18, 20, 25, 27, 32, 34], [], []⟩   -- escritoire/escritoireref13.Same
def C20 : Cfg := ⟨[0, 1, 3, 4, 5, 6, 7, 29, 41, 44], [3, 6, 7], [3, 6, 7, 22, 26, 42], [], [(2, .cons 0 (.cons 1 (.cons 2 (.cons 3 (.cons 4 (.cons 6 (.cons 7 (.both (.cons 5 (.both (.cons 8 (.both (.cons 9 (.cons 10 (.cons 11 (.cons 12 (.nil))))) (.cons 10 (.cons 9 (.cons 11 (.cons 12 (.nil))))))) (.both (.cons 9 (.both (.cons 8 (.cons 10 (.cons 11 (.cons 12 (.nil))))) (.cons 10 (.cons 8 (.cons 11 (.cons 12 (.nil))))))) (.cons 10 (.both (.cons 8 (.cons 9 (.cons 11 (.cons 12 (.nil))))) (.cons 9 (.cons 8 (.cons 11 (.cons 12 (.nil)))))))))) (.both (.cons 9 (.both (.cons 5 (.both (.cons 8 (.cons 10 (.cons 11 (.cons 12 (.nil))))) (.cons 10 (.cons 8 (.cons 11 (.cons 12 (.nil))))))) (.cons 10 (.cons 5 (.cons 8 (.cons 11 (.cons 12 (.nil)))))))) (.cons 10 (.both (.cons 5 (.both (.cons 8 (.cons 9 (.cons 11 (.cons 12 (.nil))))) (.cons 9 (.cons 8 (.cons 11 (.cons 12 (.nil))))))) (.cons 9 (.cons 5 (.cons 8 (.cons 11 (.cons 12 (.nil)))))))))))))))))]⟩   -- (*escritoire/escritoirelaw13.World).step
def C21 : Cfg := ⟨[0, 1, 2, 6, 8, 10, 17], [], [], [], []⟩   -- escritoire/calls.Sym
theorem ok21 : codeOK Tryz.prog C21 Tryz.f21.ntmps ((Tryz.f21.body).getD .skip) = true := by kernel_rfl
def C22 : Cfg := ⟨[0, 2], [], [], [], []⟩   -- escritoire/memory.New
theorem ok22 : codeOK Tryz.prog C22 Tryz.f22.ntmps ((Tryz.f22.body).getD .skip) = true := by kernel_rfl
def C23 : Cfg := ⟨[0, 2, 3, 4, 5, 6, 12, 13, 14, 15, 16, 24, 30, 35], [], [], [], []⟩   -- escritoire/walk.Lay
theorem ok23 : codeOK Tryz.prog C23 Tryz.f23.ntmps ((Tryz.f23.body).getD .skip) = true := by kernel_rfl
def C24 : Cfg := ⟨[0, 2, 6], [], [], [], []⟩   -- escritoire/view.New
theorem ok24 : codeOK Tryz.prog C24 Tryz.f24.ntmps ((Tryz.f24.body).getD .skip) = true := by kernel_rfl
def C25 : Cfg := ⟨[0], [], [], [], []⟩   -- escritoire/escritoireref12.New
theorem ok25 : codeOK Tryz.prog C25 Tryz.f25.ntmps ((Tryz.f25.body).getD .skip) = true := by kernel_rfl
def C26 : Cfg := ⟨[0, 1, 2, 3, 8, 9, 10, 11, 12, 13, 14, 22, 31, 34, 42, 58], [9, 12], [9, 12], [], []⟩   -- escritoire/calls.fresh
theorem ok26 : codeOK Tryz.prog C26 Tryz.f26.ntmps ((Tryz.f26.body).getD .skip) = true := by kernel_rfl
def C27 : Cfg := ⟨[0, 1, 2, 6, 7, 8, 9, 10, 12, 20], [7], [7], [], []⟩   -- escritoire/walk.Path
theorem ok27 : codeOK Tryz.prog C27 Tryz.f27.ntmps ((Tryz.f27.body).getD .skip) = true := by kernel_rfl
def C28 : Cfg := ⟨[0, 1, 4, 5, 6, 7, 20], [4, 6], [4, 6, 17], [], []⟩   -- escritoire/calls.empty
theorem ok28 : codeOK Tryz.prog C28 Tryz.f28.ntmps ((Tryz.f28.body).getD .skip) = true := by kernel_rfl
def C29 : Cfg := ⟨[0, 1, 2, 3, 6, 8, 10, 16], [6], [6, 17, 20], [], []⟩   -- escritoire/calls.set
theorem ok29 : codeOK Tryz.prog C29 Tryz.f29.ntmps ((Tryz.f29.body).getD .skip) = true := by kernel_rfl
def C30 : Cfg := ⟨[0, 1, 2, 4, 6, 7, 8, 9, 18], [4, 7, 9], [4, 7, 9, 12, 22, 25, 32], [], []⟩   -- escritoire/calls.add
theorem ok30 : codeOK Tryz.prog C30 Tryz.f30.ntmps ((Tryz.f30.body).getD .skip) = true := by kernel_rfl
def C31 : Cfg := ⟨[0, 1, 4, 5, 6, 7, 8, 9, 23], [5, 8], [5, 8, 20], [], []⟩   -- escritoire/calls.file
theorem ok31 : codeOK Tryz.prog C31 Tryz.f31.ntmps ((Tryz.f31.body).getD .skip) = true := by kernel_rfl
def C32 : Cfg := ⟨[0, 1, 2, 3, 4, 7, 10, 11, 12, 14, 15, 16, 17, 18, 19, 20, 21, 22, 23, 24, 38, 40, 50, 54, 68, 80, 88, 99, 112, 152], [7, 10], [7, 10, 155, 159], [], []⟩   -- escritoire/body.Write
theorem ok32 : codeOK Tryz.prog C32 Tryz.f32.ntmps ((Tryz.f32.body).getD .skip) = true := by kernel_rfl
def C33 : Cfg := ⟨[0, 1, 2, 3, 5, 8, 9, 10, 11, 12, 13, 14, 15, 16, 17, 18, 32, 46, 54, 55, 56, 57, 63, 67, 79], [5], [5, 43, 48], [], []⟩   -- escritoire/body.Read
theorem ok33 : codeOK Tryz.prog C33 Tryz.f33.ntmps ((Tryz.f33.body).getD .skip) = true := by kernel_rfl
def C34 : Cfg := ⟨[0, 1, 2, 6, 7, 8, 9, 10, 11, 18, 22, 39, 44, 50, 54], [7, 9], [7, 9, 23, 28, 36, 52, 55, 58, 60, 65], [], []⟩   -- escritoire/calls.remove
theorem ok34 : codeOK Tryz.prog C34 Tryz.f34.ntmps ((Tryz.f34.body).getD .skip) = true := by kernel_rfl
def C35 : Cfg := ⟨[0, 1, 2, 5], [1], [1, 3], [], []⟩   -- escritoire/calls.Remove$1
theorem ok35 : codeOK Tryz.prog C35 Tryz.f35.ntmps ((Tryz.f35.body).getD .skip) = true := by kernel_rfl
def C36 : Cfg := ⟨[0, 2, 4], [], [], [], []⟩   -- slices.Clone[[]uint64,uint64]
theorem ok36 : codeOK Tryz.prog C36 Tryz.f36.ntmps ((Tryz.f36.body).getD .skip) = true := by kernel_rfl
def C37 : Cfg := ⟨[0, 1, 4], [], [], [], []⟩   -- escritoire/calls.Rmdir
def C38 : Cfg := ⟨[0, 1, 2, 6, 8, 10, 11, 12, 13, 14, 15, 17, 20, 21, 22, 23, 32, 41, 45, 55, 59, 74, 78, 80, 88], [11, 13], [11, 13, 46, 60, 62, 67, 69, 81, 92], [], []⟩   -- escritoire/calls.Rename
def C39 : Cfg := ⟨[0, 1, 2, 6, 7, 8, 9, 18], [8], [8], [], []⟩   -- escritoire/calls.Cut
def C40 : Cfg := ⟨[0, 1, 4, 5, 7, 8, 16, 20], [7], [7, 21], [], []⟩   -- escritoire/calls.Follow
def C41 : Cfg := ⟨[0, 1, 4, 5, 7, 8, 9, 10, 12, 21, 29, 30, 31, 32], [7, 12], [7, 12, 36], [], []⟩   -- escritoire/calls.List
def C42 : Cfg := ⟨[0, 1, 2, 6, 12], [], [], [], []⟩   -- escritoire/escritoireref13.Make
def C43 : Cfg := ⟨[0, 1, 2, 6, 7, 8, 9, 10, 11, 12, 20, 30, 40, 43, 52], [], [], [], []⟩   -- escritoire/escritoireref13.Link
def C44 : Cfg := ⟨[0, 1, 2, 6, 8, 15], [], [], [], []⟩   -- escritoire/escritoireref13.Sym
def C45 : Cfg := ⟨[0, 1, 2, 6, 7, 8, 9, 10, 20, 23, 36, 48, 61, 85], [], [], [], []⟩   -- escritoire/escritoireref13.Remove
def C46 : Cfg := ⟨[0, 1, 2, 6, 8, 10, 11, 12, 13, 14, 15, 16, 17, 18, 34, 44, 47, 57, 61, 76, 78], [], [], [], []⟩   -- escritoire/escritoireref13.Rename
def C47 : Cfg := ⟨[0, 1, 2, 3, 8, 9, 10, 11, 12, 20, 37], [], [], [], []⟩   -- escritoire/escritoireref13.Write
def C48 : Cfg := ⟨[0, 1, 2, 6, 7, 8, 9, 10, 18, 34], [], [], [], []⟩   -- escritoire/escritoireref13.Cut
def C49 : Cfg := ⟨[0, 1, 2, 3, 8, 9, 10, 11, 19], [], [], [], []⟩   -- escritoire/escritoireref13.Read
def C50 : Cfg := ⟨[0, 1, 4, 5, 6, 7, 8, 16], [4, 8], [4, 8, 26, 28, 30, 33], [], []⟩   -- escritoire/escritoireref13.Stat
def C51 : Cfg := ⟨[0, 1, 4, 5, 6, 7, 15, 25], [], [], [], []⟩   -- escritoire/escritoireref13.Follow
def C52 : Cfg := ⟨[0, 1, 4, 5, 6, 7, 8, 9, 28, 30, 42], [], [], [], []⟩   -- escritoire/escritoireref13.List
def C53 : Cfg := ⟨[0, 1, 4, 5, 10, 14, 25], [], [], [], []⟩   -- escritoire/escritoireref11.Same
def C54 : Cfg := ⟨[0, 3], [], [], [], []⟩   -- (*escritoire/view.View).Reset
def C55 : Cfg := ⟨[0, 2, 3, 12], [], [], [], []⟩   -- (*escritoire/escritoirelaw13.World).make
def C56 : Cfg := ⟨[0, 2, 3, 4, 5, 6, 18, 20, 24], [], [], [], []⟩   -- escritoire/names.Split
theorem ok56 : codeOK Tryz.prog C56 Tryz.f56.ntmps ((Tryz.f56.body).getD .skip) = true := by kernel_rfl
def C57 : Cfg := ⟨[0, 2], [], [], [], []⟩   -- escritoire/memory.Load
theorem ok57 : codeOK Tryz.prog C57 Tryz.f57.ntmps ((Tryz.f57.body).getD .skip) = true := by kernel_rfl
def C58 : Cfg := ⟨[0, 1, 2, 4, 6], [2], [2], [], []⟩   -- escritoire/walk.laid
theorem ok58 : codeOK Tryz.prog C58 Tryz.f58.ntmps ((Tryz.f58.body).getD .skip) = true := by kernel_rfl
def C59 : Cfg := ⟨[0, 2, 4], [], [], [], []⟩   -- (*escritoire/memory.Memory).Size
theorem ok59 : codeOK Tryz.prog C59 Tryz.f59.ntmps ((Tryz.f59.body).getD .skip) = true := by kernel_rfl
def C60 : Cfg := ⟨[0, 1, 4, 5, 6, 10, 20], [], [], [], []⟩   -- (*escritoire/memory.Memory).Read
theorem ok60 : codeOK Tryz.prog C60 Tryz.f60.ntmps ((Tryz.f60.body).getD .skip) = true := by kernel_rfl
def C61 : Cfg := ⟨[0, 1, 2, 6, 7, 14], [], [], [], []⟩   -- (*escritoire/memory.Memory).Store
theorem ok61 : codeOK Tryz.prog C61 Tryz.f61.ntmps ((Tryz.f61.body).getD .skip) = true := by kernel_rfl
def C62 : Cfg := ⟨[0, 1, 4, 5, 6, 7, 8, 9, 16, 26, 38], [], [], [], []⟩   -- (*escritoire/memory.Memory).Flush
theorem ok62 : codeOK Tryz.prog C62 Tryz.f62.ntmps ((Tryz.f62.body).getD .skip) = true := by kernel_rfl
def C63 : Cfg := ⟨[0, 2, 3, 4, 5, 9, 15, 17, 35], [], [], [], []⟩   -- (*escritoire/memory.Memory).Fence
theorem ok63 : codeOK Tryz.prog C63 Tryz.f63.ntmps ((Tryz.f63.body).getD .skip) = true := by kernel_rfl
def C64 : Cfg := ⟨[0], [], [], [], []⟩   -- escritoire/plan.Size
theorem ok64 : codeOK Tryz.prog C64 Tryz.f64.ntmps ((Tryz.f64.body).getD .skip) = true := by kernel_rfl
def C65 : Cfg := ⟨[0, 1, 4, 5, 7, 8, 9, 11, 13, 25, 27, 48], [6, 13], [6, 13], [], []⟩   -- escritoire/store.Node
theorem ok65 : codeOK Tryz.prog C65 Tryz.f65.ntmps ((Tryz.f65.body).getD .skip) = true := by kernel_rfl
def C66 : Cfg := ⟨[0, 1, 4, 5, 6, 7, 18], [4], [4], [], []⟩   -- (*escritoire/view.View).Card
theorem ok66 : codeOK Tryz.prog C66 Tryz.f66.ntmps ((Tryz.f66.body).getD .skip) = true := by kernel_rfl
def C67 : Cfg := ⟨[0, 1, 2, 6, 7, 8, 9, 10, 11, 12, 13, 14, 15, 16, 17, 18, 26, 29, 30, 31, 32, 44, 49, 60, 77, 81, 90], [7, 11], [7, 11, 64], [], []⟩   -- escritoire/walk.walk
theorem ok67 : codeOK Tryz.prog C67 Tryz.f67.ntmps ((Tryz.f67.body).getD .skip) = true := by kernel_rfl
def C68 : Cfg := ⟨[0, 1, 4, 5, 6, 7, 8, 9, 10, 11, 14, 23, 34, 46], [4, 10], [4, 10], [], []⟩   -- escritoire/walk.Place
theorem ok68 : codeOK Tryz.prog C68 Tryz.f68.ntmps ((Tryz.f68.body).getD .skip) = true := by kernel_rfl
def C69 : Cfg := ⟨[0, 1, 4], [], [], [], []⟩   -- slices.Contains[[]int,int]
theorem ok69 : codeOK Tryz.prog C69 Tryz.f69.ntmps ((Tryz.f69.body).getD .skip) = true := by kernel_rfl
def C70 : Cfg := ⟨[0, 2, 4], [], [], [], []⟩   -- (*escritoire/view.View).Mine
theorem ok70 : codeOK Tryz.prog C70 Tryz.f70.ntmps ((Tryz.f70.body).getD .skip) = true := by kernel_rfl
def C71 : Cfg := ⟨[0, 1, 2, 5, 6, 7, 8, 9, 10, 30], [5], [5], [], []⟩   -- (*escritoire/view.View).Set
theorem ok71 : codeOK Tryz.prog C71 Tryz.f71.ntmps ((Tryz.f71.body).getD .skip) = true := by kernel_rfl
def C72 : Cfg := ⟨[0, 1, 2, 3, 4, 7, 10, 11, 12, 13, 14, 15, 16, 18, 19, 20, 21, 34, 44, 58, 66, 78, 93], [7, 10], [7, 10, 96, 99], [], []⟩   -- escritoire/folder.Add
theorem ok72 : codeOK Tryz.prog C72 Tryz.f72.ntmps ((Tryz.f72.body).getD .skip) = true := by kernel_rfl
def C73 : Cfg := ⟨[0, 1, 4, 6, 13], [], [], [], []⟩   -- escritoire/body.may
theorem ok73 : codeOK Tryz.prog C73 Tryz.f73.ntmps ((Tryz.f73.body).getD .skip) = true := by kernel_rfl
def C74 : Cfg := ⟨[0, 1, 3, 4, 5, 6, 7, 8, 9, 10, 12, 21, 31, 32, 33, 34, 35, 40, 52], [], [], [], []⟩   -- escritoire/body.Map
theorem ok74 : codeOK Tryz.prog C74 Tryz.f74.ntmps ((Tryz.f74.body).getD .skip) = true := by kernel_rfl
def C75 : Cfg := ⟨[0, 2], [], [], [], []⟩   -- escritoire/body.over
theorem ok75 : codeOK Tryz.prog C75 Tryz.f75.ntmps ((Tryz.f75.body).getD .skip) = true := by kernel_rfl
def C76 : Cfg := ⟨[0, 2], [], [], [], []⟩   -- escritoire/body.used
theorem ok76 : codeOK Tryz.prog C76 Tryz.f76.ntmps ((Tryz.f76.body).getD .skip) = true := by kernel_rfl
def C77 : Cfg := ⟨[0, 1, 4, 5, 7, 8, 9, 11, 22, 23, 24, 29, 42], [], [], [], []⟩   -- escritoire/store.Take
theorem ok77 : codeOK Tryz.prog C77 Tryz.f77.ntmps ((Tryz.f77.body).getD .skip) = true := by kernel_rfl
def C78 : Cfg := ⟨[0, 1, 4, 5, 6, 7, 10, 19], [], [], [], []⟩   -- escritoire/body.text
theorem ok78 : codeOK Tryz.prog C78 Tryz.f78.ntmps ((Tryz.f78.body).getD .skip) = true := by kernel_rfl
def C79 : Cfg := ⟨[0, 1, 2, 6, 7, 8, 15], [], [], [], []⟩   -- escritoire/body.put
theorem ok79 : codeOK Tryz.prog C79 Tryz.f79.ntmps ((Tryz.f79.body).getD .skip) = true := by kernel_rfl
def C80 : Cfg := ⟨[0, 1, 2, 3, 6, 8, 9, 10, 11, 13, 27, 29, 39, 42, 48, 56, 65, 69, 70, 71, 72], [8], [8], [], [(24, .cons 1 (.cons 2 (.cons 3 (.cons 4 (.both (.cons 0 (.cons 5 (.cons 6 (.cons 7 (.nil))))) (.cons 5 (.cons 0 (.cons 6 (.cons 7 (.nil))))))))))]⟩   -- escritoire/body.Keep
theorem ok80 : codeOK Tryz.prog C80 Tryz.f80.ntmps ((Tryz.f80.body).getD .skip) = true := by kernel_rfl
def C81 : Cfg := ⟨[0, 1, 4, 5], [], [], [], []⟩   -- (*strings.Builder).WriteString
theorem ok81 : codeOK Tryz.prog C81 Tryz.f81.ntmps ((Tryz.f81.body).getD .skip) = true := by kernel_rfl
def C82 : Cfg := ⟨[0, 2], [], [], [], [(1, .cons 0 (.cons 1 (.cons 2 (.cons 3 (.cons 5 (.cons 6 (.cons 7 (.both (.cons 4 (.cons 8 (.cons 9 (.cons 10 (.cons 11 (.nil)))))) (.cons 8 (.both (.cons 4 (.cons 9 (.cons 10 (.cons 11 (.nil))))) (.cons 9 (.cons 4 (.cons 10 (.cons 11 (.nil)))))))))))))))]⟩   -- (*strings.Builder).String
theorem ok82 : codeOK Tryz.prog C82 Tryz.f82.ntmps ((Tryz.f82.body).getD .skip) = true := by kernel_rfl
def C83 : Cfg := ⟨[0, 1, 3, 4, 5, 7], [3, 5], [3, 5, 10, 12, 14, 21], [], []⟩   -- escritoire/calls.drop
theorem ok83 : codeOK Tryz.prog C83 Tryz.f83.ntmps ((Tryz.f83.body).getD .skip) = true := by kernel_rfl
def C84 : Cfg := ⟨[0, 1, 2, 5, 6, 7, 8, 9, 10, 13, 28], [5, 8], [5, 8, 11], [], []⟩   -- escritoire/calls.gone
theorem ok84 : codeOK Tryz.prog C84 Tryz.f84.ntmps ((Tryz.f84.body).getD .skip) = true := by kernel_rfl
def C85 : Cfg := ⟨[0, 1, 2, 3, 7], [1], [1, 4, 8], [], []⟩   -- escritoire/calls.Rmdir$1
def C86 : Cfg := ⟨[0, 1, 2, 6, 7, 8, 9, 10, 12, 13, 14, 17, 30, 39, 41, 42, 43, 44, 59], [8, 12], [8, 12, 27, 50], [], []⟩   -- escritoire/calls.below
def C87 : Cfg := ⟨[0, 1, 2, 3, 6, 8, 9, 10, 11, 12, 13, 14, 15, 16, 20, 28, 39, 43, 44, 45, 66, 69, 90, 103], [6, 8], [6, 8, 57, 108], [], []⟩   -- escritoire/body.Cut
theorem ok87 : codeOK Tryz.prog C87 Tryz.f87.ntmps ((Tryz.f87.body).getD .skip) = true := by kernel_rfl
def C88 : Cfg := ⟨[0, 1, 3, 4, 5, 7, 8], [3], [3], [], []⟩   -- escritoire/folder.List
def C89 : Cfg := ⟨[0, 1, 2, 3, 8, 9, 10, 11, 12, 22, 25], [], [], [], []⟩   -- escritoire/escritoireref13.fresh
def C90 : Cfg := ⟨[0, 1, 2, 6, 7, 8, 9, 16], [], [], [], []⟩   -- (*escritoire/escritoireref12.Tree).Path
def C91 : Cfg := ⟨[0, 1, 4, 5, 6, 7, 8, 9, 10, 11, 12, 13, 14, 15, 22, 26, 44, 54, 68], [], [], [], []⟩   -- (*escritoire/escritoireref12.Tree).Place
def C92 : Cfg := ⟨[0, 1, 2, 3, 8, 10], [], [], [], []⟩   -- escritoire/escritoireref13.add
def C93 : Cfg := ⟨[0, 2, 3, 4, 5, 6, 7, 8, 16, 28, 49], [], [], [], []⟩   -- escritoire/escritoireref04.Split
def C94 : Cfg := ⟨[0, 1, 2, 6], [], [], [], []⟩   -- escritoire/escritoireref13.drop
def C95 : Cfg := ⟨[0, 1, 2, 6, 7, 8, 11, 23, 48], [], [], [], []⟩   -- escritoire/escritoireref13.below
def C96 : Cfg := ⟨[0, 1, 4, 5, 6, 7, 26], [], [], [], []⟩   -- escritoire/escritoireref13.file
def C97 : Cfg := ⟨[0, 1, 2, 6, 7, 14, 16, 22, 29], [], [], [], []⟩   -- escritoire/escritoireref10.Write
def C98 : Cfg := ⟨[0, 1, 4, 5, 7, 9, 13], [], [], [], []⟩   -- escritoire/escritoireref10.Cut
def C99 : Cfg := ⟨[0, 1, 2, 6, 7, 17, 21], [], [], [], []⟩   -- escritoire/escritoireref10.Read
def C100 : Cfg := ⟨[0, 2, 3, 4, 5, 7, 12, 14, 25], [], [], [], []⟩   -- (*escritoire/view.View).Changes
def C101 : Cfg := ⟨[0, 1, 4, 5], [], [], [], []⟩   -- strings.CutPrefix
theorem ok101 : codeOK Tryz.prog C101 Tryz.f101.ntmps ((Tryz.f101.body).getD .skip) = true := by kernel_rfl
def C102 : Cfg := ⟨[0, 1, 4], [], [], [], []⟩   -- strings.Split
theorem ok102 : codeOK Tryz.prog C102 Tryz.f102.ntmps ((Tryz.f102.body).getD .skip) = true := by kernel_rfl
def C103 : Cfg := ⟨[0, 1, 4], [], [], [], []⟩   -- slices.ContainsFunc[[]string,string]
theorem ok103 : codeOK Tryz.prog C103 Tryz.f103.ntmps ((Tryz.f103.body).getD .skip) = true := by kernel_rfl
def C104 : Cfg := ⟨[0, 2], [], [], [], []⟩   -- escritoire/names.odd
theorem ok104 : codeOK Tryz.prog C104 Tryz.f104.ntmps ((Tryz.f104.body).getD .skip) = true := by kernel_rfl
def C105 : Cfg := ⟨[0, 1], [], [], [], []⟩   -- escritoire/plan.Head
theorem ok105 : codeOK Tryz.prog C105 Tryz.f105.ntmps ((Tryz.f105.body).getD .skip) = true := by kernel_rfl
def C106 : Cfg := ⟨[0, 1, 4, 5, 6, 7, 9], [4, 6], [4, 6, 16, 17], [], []⟩   -- escritoire/cards.Fresh
theorem ok106 : codeOK Tryz.prog C106 Tryz.f106.ntmps ((Tryz.f106.body).getD .skip) = true := by kernel_rfl
def C107 : Cfg := ⟨[0, 1, 2, 3, 4, 5, 6, 7, 8, 9, 12, 19, 20, 21, 22, 46], [1, 7], [1, 7, 15, 32, 36, 38, 48], [], []⟩   -- escritoire/cards.Write
theorem ok107 : codeOK Tryz.prog C107 Tryz.f107.ntmps ((Tryz.f107.body).getD .skip) = true := by kernel_rfl
def C108 : Cfg := ⟨[0, 2, 3], [], [], [], []⟩   -- escritoire/plan.Card
theorem ok108 : codeOK Tryz.prog C108 Tryz.f108.ntmps ((Tryz.f108.body).getD .skip) = true := by kernel_rfl
def C109 : Cfg := ⟨[0, 1, 4], [], [], [], []⟩   -- (*escritoire/memory.Memory).there
theorem ok109 : codeOK Tryz.prog C109 Tryz.f109.ntmps ((Tryz.f109.body).getD .skip) = true := by kernel_rfl
def C110 : Cfg := ⟨[0, 1, 4, 6, 14, 20, 34], [], [], [], []⟩   -- (*escritoire/memory.Memory).call
theorem ok110 : codeOK Tryz.prog C110 Tryz.f110.ntmps ((Tryz.f110.body).getD .skip) = true := by kernel_rfl
def C111 : Cfg := ⟨[0, 2], [2], [2], [], []⟩   -- escritoire/plan.of
theorem ok111 : codeOK Tryz.prog C111 Tryz.f111.ntmps ((Tryz.f111.body).getD .skip) = true := by kernel_rfl
def C112 : Cfg := ⟨[0, 1, 2], [1], [1, 3, 5, 7], [], []⟩   -- (escritoire/plan.part).end
theorem ok112 : codeOK Tryz.prog C112 Tryz.f112.ntmps ((Tryz.f112.body).getD .skip) = true := by kernel_rfl
def C113 : Cfg := ⟨[0, 1, 2, 6, 7, 8, 13], [], [], [], []⟩   -- escritoire/words.Get
theorem ok113 : codeOK Tryz.prog C113 Tryz.f113.ntmps ((Tryz.f113.body).getD .skip) = true := by kernel_rfl
def C114 : Cfg := ⟨[0, 1, 4, 5, 6, 8, 18], [], [], [], []⟩   -- (*escritoire/view.View).Read
theorem ok114 : codeOK Tryz.prog C114 Tryz.f114.ntmps ((Tryz.f114.body).getD .skip) = true := by kernel_rfl
def C115 : Cfg := ⟨[0, 1, 4], [], [], [], []⟩   -- (*escritoire/view.View).AvoidsNode
theorem ok115 : codeOK Tryz.prog C115 Tryz.f115.ntmps ((Tryz.f115.body).getD .skip) = true := by kernel_rfl
def C116 : Cfg := ⟨[0, 2, 3, 4, 6, 7, 9, 10, 11, 12, 15, 17, 18, 19, 20, 62, 63, 87], [2, 6, 9], [2, 6, 9, 25, 29, 31, 72, 73], [], []⟩   -- escritoire/cards.Read
theorem ok116 : codeOK Tryz.prog C116 Tryz.f116.ntmps ((Tryz.f116.body).getD .skip) = true := by kernel_rfl
def C117 : Cfg := ⟨[0, 1, 2, 6, 7, 8, 12, 13, 14], [], [], [], []⟩   -- (*escritoire/view.View).read
theorem ok117 : codeOK Tryz.prog C117 Tryz.f117.ntmps ((Tryz.f117.body).getD .skip) = true := by kernel_rfl
def C118 : Cfg := ⟨[0, 1, 4, 5, 6, 7, 20], [4, 6], [4, 6, 17], [], []⟩   -- escritoire/walk.get
theorem ok118 : codeOK Tryz.prog C118 Tryz.f118.ntmps ((Tryz.f118.body).getD .skip) = true := by kernel_rfl
def C119 : Cfg := ⟨[0, 1, 2, 4, 6, 7, 8, 10, 11, 12, 13, 22], [4], [4], [], []⟩   -- escritoire/folder.Find
theorem ok119 : codeOK Tryz.prog C119 Tryz.f119.ntmps ((Tryz.f119.body).getD .skip) = true := by kernel_rfl
def C120 : Cfg := ⟨[0, 1, 3, 4, 5, 6, 7, 8, 16, 23], [3], [3], [], []⟩   -- escritoire/walk.target
theorem ok120 : codeOK Tryz.prog C120 Tryz.f120.ntmps ((Tryz.f120.body).getD .skip) = true := by kernel_rfl
def C121 : Cfg := ⟨[0, 1, 4], [], [], [], []⟩   -- escritoire/names.Lead
theorem ok121 : codeOK Tryz.prog C121 Tryz.f121.ntmps ((Tryz.f121.body).getD .skip) = true := by kernel_rfl
def C122 : Cfg := ⟨[0, 2, 3, 4, 5, 6, 7, 8, 15, 19], [], [], [], []⟩   -- escritoire/names.Parent
theorem ok122 : codeOK Tryz.prog C122 Tryz.f122.ntmps ((Tryz.f122.body).getD .skip) = true := by kernel_rfl
def C123 : Cfg := ⟨[0, 1, 4, 5, 7, 8, 9, 16], [], [], [], []⟩   -- slices.Index[[]int,int]
theorem ok123 : codeOK Tryz.prog C123 Tryz.f123.ntmps ((Tryz.f123.body).getD .skip) = true := by kernel_rfl
def C124 : Cfg := ⟨[0, 2], [], [], [], []⟩   -- (escritoire/view.noted).list
theorem ok124 : codeOK Tryz.prog C124 Tryz.f124.ntmps ((Tryz.f124.body).getD .skip) = true := by kernel_rfl
def C125 : Cfg := ⟨[0, 1, 2, 6, 7, 8, 9, 10, 11], [], [], [], []⟩   -- (*escritoire/view.View).write
theorem ok125 : codeOK Tryz.prog C125 Tryz.f125.ntmps ((Tryz.f125.body).getD .skip) = true := by kernel_rfl
def C126 : Cfg := ⟨[0, 1, 4, 6, 13], [], [], [], []⟩   -- escritoire/folder.may
theorem ok126 : codeOK Tryz.prog C126 Tryz.f126.ntmps ((Tryz.f126.body).getD .skip) = true := by kernel_rfl
def C127 : Cfg := ⟨[0, 1, 3, 4, 5, 6, 7, 8, 9, 10, 11, 12, 13, 14, 15, 16, 17, 18, 19, 22, 33, 39, 40, 41, 42, 47, 61, 68, 69, 74, 84, 107], [3, 16], [3, 16, 23, 104], [], []⟩   -- escritoire/folder.open
theorem ok127 : codeOK Tryz.prog C127 Tryz.f127.ntmps ((Tryz.f127.body).getD .skip) = true := by kernel_rfl
def C128 : Cfg := ⟨[0, 1, 4, 5, 6, 7, 8, 9, 16, 25, 26, 27, 28], [], [], [], []⟩   -- escritoire/words.Text
theorem ok128 : codeOK Tryz.prog C128 Tryz.f128.ntmps ((Tryz.f128.body).getD .skip) = true := by kernel_rfl
def C129 : Cfg := ⟨[0, 1, 3, 4, 5, 6, 11], [], [], [], []⟩   -- escritoire/folder.find
theorem ok129 : codeOK Tryz.prog C129 Tryz.f129.ntmps ((Tryz.f129.body).getD .skip) = true := by kernel_rfl
def C130 : Cfg := ⟨[0, 2, 3, 5, 6, 7, 13], [], [], [], []⟩   -- escritoire/names.Right
theorem ok130 : codeOK Tryz.prog C130 Tryz.f130.ntmps ((Tryz.f130.body).getD .skip) = true := by kernel_rfl
def C131 : Cfg := ⟨[0, 1, 2, 3, 8, 9, 10, 11, 12, 13, 14, 22], [], [], [], []⟩   -- (*escritoire/folder.book).first
theorem ok131 : codeOK Tryz.prog C131 Tryz.f131.ntmps ((Tryz.f131.body).getD .skip) = true := by kernel_rfl
def C132 : Cfg := ⟨[0, 1, 2, 3, 4, 10], [], [], [], []⟩   -- (*escritoire/folder.book).put
theorem ok132 : codeOK Tryz.prog C132 Tryz.f132.ntmps ((Tryz.f132.body).getD .skip) = true := by kernel_rfl
def C133 : Cfg := ⟨[0, 2, 3, 5, 6, 8, 9, 10, 11, 12, 20, 25, 26, 27, 28], [], [], [], []⟩   -- slices.Concat[[]uint64,uint64]
theorem ok133 : codeOK Tryz.prog C133 Tryz.f133.ntmps ((Tryz.f133.body).getD .skip) = true := by kernel_rfl
def C134 : Cfg := ⟨[0, 2, 3, 5, 6, 8, 9, 10, 11, 12, 20, 25, 26, 27, 28], [], [], [], []⟩   -- slices.Concat[[]int,int]
theorem ok134 : codeOK Tryz.prog C134 Tryz.f134.ntmps ((Tryz.f134.body).getD .skip) = true := by kernel_rfl
def C135 : Cfg := ⟨[0, 1, 4, 5, 6, 7, 8, 10, 26, 37], [], [], [], []⟩   -- slices.Repeat[[]int,int]
theorem ok135 : codeOK Tryz.prog C135 Tryz.f135.ntmps ((Tryz.f135.body).getD .skip) = true := by kernel_rfl
def C136 : Cfg := ⟨[0, 1, 4, 5, 6, 7, 18], [], [], [], []⟩   -- (*escritoire/view.View).Block
theorem ok136 : codeOK Tryz.prog C136 Tryz.f136.ntmps ((Tryz.f136.body).getD .skip) = true := by kernel_rfl
def C137 : Cfg := ⟨[0, 1, 4], [], [], [], []⟩   -- slices.ContainsFunc[[]int,int]
theorem ok137 : codeOK Tryz.prog C137 Tryz.f137.ntmps ((Tryz.f137.body).getD .skip) = true := by kernel_rfl
def C138 : Cfg := ⟨[0, 1, 4, 5, 6], [], [], [], []⟩   -- (*escritoire/view.View).Fresh
theorem ok138 : codeOK Tryz.prog C138 Tryz.f138.ntmps ((Tryz.f138.body).getD .skip) = true := by kernel_rfl
def C139 : Cfg := ⟨[0, 2, 3], [], [], [], []⟩   -- escritoire/plan.Owner
theorem ok139 : codeOK Tryz.prog C139 Tryz.f139.ntmps ((Tryz.f139.body).getD .skip) = true := by kernel_rfl
def C140 : Cfg := ⟨[0, 1, 2, 6, 13], [], [], [], []⟩   -- (*escritoire/view.View).Write
theorem ok140 : codeOK Tryz.prog C140 Tryz.f140.ntmps ((Tryz.f140.body).getD .skip) = true := by kernel_rfl
def C141 : Cfg := ⟨[0, 1, 2, 6, 7, 8, 9, 25], [], [], [], []⟩   -- (*escritoire/view.View).SetBlock
theorem ok141 : codeOK Tryz.prog C141 Tryz.f141.ntmps ((Tryz.f141.body).getD .skip) = true := by kernel_rfl
def C142 : Cfg := ⟨[0, 1, 4, 5, 6, 7, 8, 9, 10, 11, 12, 14, 18, 34, 40, 42, 43, 49, 58, 67, 76, 85, 96, 104, 113], [], [], [], []⟩   -- strings.Repeat
theorem ok142 : codeOK Tryz.prog C142 Tryz.f142.ntmps ((Tryz.f142.body).getD .skip) = true := by kernel_rfl
def C143 : Cfg := ⟨[0, 1, 4, 5, 6, 7, 16, 20, 21, 22], [], [], [], []⟩   -- escritoire/words.Untext
theorem ok143 : codeOK Tryz.prog C143 Tryz.f143.ntmps ((Tryz.f143.body).getD .skip) = true := by kernel_rfl
def C144 : Cfg := ⟨[0, 2], [], [], [], []⟩   -- escritoire/body.odd
theorem ok144 : codeOK Tryz.prog C144 Tryz.f144.ntmps ((Tryz.f144.body).getD .skip) = true := by kernel_rfl
def C145 : Cfg := ⟨[0, 1, 4, 5, 6, 13, 17], [], [], [], []⟩   -- escritoire/store.Drop
theorem ok145 : codeOK Tryz.prog C145 Tryz.f145.ntmps ((Tryz.f145.body).getD .skip) = true := by kernel_rfl
def C146 : Cfg := ⟨[0, 6, 19], [], [], [], []⟩   -- (*strings.Builder).copyCheck
theorem ok146 : codeOK Tryz.prog C146 Tryz.f146.ntmps ((Tryz.f146.body).getD .skip) = true := by kernel_rfl
def C147 : Cfg := ⟨[0, 1, 2, 3, 6, 7, 8, 9, 10, 11, 12, 13, 14, 15, 16, 17, 18, 20, 25, 36, 46, 63], [6, 8], [6, 8, 66, 69], [], []⟩   -- escritoire/folder.Drop
theorem ok147 : codeOK Tryz.prog C147 Tryz.f147.ntmps ((Tryz.f147.body).getD .skip) = true := by kernel_rfl
def C148 : Cfg := ⟨[0, 1, 2, 6, 8, 9], [6, 8], [6, 8], [], []⟩   -- escritoire/calls.gone$1
def C149 : Cfg := ⟨[0, 1, 2, 5, 6, 7, 8, 9, 11, 12, 13, 14, 19, 30, 36, 37, 38, 39, 44, 49], [5, 6], [5, 6, 59], [], []⟩   -- escritoire/folder.Clear
def C150 : Cfg := ⟨[0, 1, 4, 5, 6, 13, 17], [5], [5, 18, 23], [], []⟩   -- escritoire/store.Release
theorem ok150 : codeOK Tryz.prog C150 Tryz.f150.ntmps ((Tryz.f150.body).getD .skip) = true := by kernel_rfl
def C151 : Cfg := ⟨[0, 1, 2, 6, 7, 8, 9, 10, 11, 12, 13, 14, 15, 18, 32, 47, 77, 82, 96], [], [], [], []⟩   -- (*escritoire/escritoireref12.Tree).Walk
def C152 : Cfg := ⟨[0, 1, 4, 5, 6, 19], [], [], [], []⟩   -- escritoire/escritoireref11.Place
def C153 : Cfg := ⟨[0, 1, 2, 6, 7, 8, 9, 15, 18, 25], [], [], [], [(8, .cons 0 (.cons 1 (.cons 2 (.cons 4 (.cons 5 (.cons 6 (.cons 9 (.cons 10 (.cons 11 (.both (.cons 3 (.cons 7 (.cons 8 (.cons 12 (.cons 13 (.cons 14 (.nil))))))) (.cons 7 (.cons 3 (.cons 8 (.cons 12 (.cons 13 (.cons 14 (.nil)))))))))))))))))]⟩   -- escritoire/escritoireref11.Add
def C154 : Cfg := ⟨[0, 2, 3, 4, 5, 8, 12, 20, 30], [], [], [], []⟩   -- escritoire/escritoireref04.Join
def C155 : Cfg := ⟨[0, 1, 4, 5, 6, 7, 8, 16], [], [], [], [(4, .cons 0 (.cons 1 (.cons 2 (.cons 4 (.cons 5 (.cons 6 (.cons 7 (.cons 9 (.cons 10 (.cons 11 (.cons 12 (.both (.cons 3 (.both (.cons 8 (.cons 13 (.cons 14 (.cons 15 (.cons 16 (.nil)))))) (.cons 13 (.cons 8 (.cons 14 (.cons 15 (.cons 16 (.nil)))))))) (.cons 13 (.cons 3 (.cons 8 (.cons 14 (.cons 15 (.cons 16 (.nil)))))))))))))))))))]⟩   -- escritoire/escritoireref11.Drop
def C156 : Cfg := ⟨[0, 2], [], [], [], []⟩   -- escritoire/escritoireref10.zeros
def C157 : Cfg := ⟨[0, 1, 4], [], [], [], []⟩   -- slices.SortFunc[[]escritoire/api.Change,escritoire/api.Change]
def C158 : Cfg := ⟨[0, 1, 2, 3, 4], [2, 3], [2, 3, 5, 7], [], []⟩   -- (*escritoire/view.View).Changes$1
def C159 : Cfg := ⟨[0, 1, 4, 5, 9], [], [], [], []⟩   -- internal/stringslite.CutPrefix
theorem ok159 : codeOK Tryz.prog C159 Tryz.f159.ntmps ((Tryz.f159.body).getD .skip) = true := by kernel_rfl
def C160 : Cfg := ⟨[0, 1, 2, 3, 8, 9, 10, 11, 13, 15, 20, 36, 41], [], [], [], []⟩   -- strings.genSplit
theorem ok160 : codeOK Tryz.prog C160 Tryz.f160.ntmps ((Tryz.f160.body).getD .skip) = true := by kernel_rfl
def C161 : Cfg := ⟨[0, 1, 4, 5, 7, 8, 9, 16], [], [], [], []⟩   -- slices.IndexFunc[[]string,string]
theorem ok161 : codeOK Tryz.prog C161 Tryz.f161.ntmps ((Tryz.f161.body).getD .skip) = true := by kernel_rfl
def C162 : Cfg := ⟨[0, 2, 3, 4, 7, 8], [2, 3], [2, 3, 11, 12], [], []⟩   -- escritoire/cards.None
theorem ok162 : codeOK Tryz.prog C162 Tryz.f162.ntmps ((Tryz.f162.body).getD .skip) = true := by kernel_rfl
def C163 : Cfg := ⟨[0, 1, 2, 3, 4, 6, 7, 22], [3], [3, 14], [], []⟩   -- escritoire/cards.Right
theorem ok163 : codeOK Tryz.prog C163 Tryz.f163.ntmps ((Tryz.f163.body).getD .skip) = true := by kernel_rfl
def C164 : Cfg := ⟨[0, 1, 2, 3, 5, 14, 15, 16], [1], [1, 6, 8, 10, 13, 25], [], []⟩   -- escritoire/cards.numbers
theorem ok164 : codeOK Tryz.prog C164 Tryz.f164.ntmps ((Tryz.f164.body).getD .skip) = true := by kernel_rfl
def C165 : Cfg := ⟨[0, 1, 2, 7, 8], [], [], [], []⟩   -- escritoire/cards.fields
theorem ok165 : codeOK Tryz.prog C165 Tryz.f165.ntmps ((Tryz.f165.body).getD .skip) = true := by kernel_rfl
def C166 : Cfg := ⟨[0, 1, 2, 3, 8, 9, 10, 14, 17], [], [], [], []⟩   -- escritoire/words.Put
theorem ok166 : codeOK Tryz.prog C166 Tryz.f166.ntmps ((Tryz.f166.body).getD .skip) = true := by kernel_rfl
def C167 : Cfg := ⟨[0, 1, 4, 5, 6, 16], [6], [6, 13, 17, 20], [], []⟩   -- escritoire/plan.first
theorem ok167 : codeOK Tryz.prog C167 Tryz.f167.ntmps ((Tryz.f167.body).getD .skip) = true := by kernel_rfl
def C168 : Cfg := ⟨[0, 1, 2, 12], [], [], [], []⟩   -- escritoire/plan.parts
theorem ok168 : codeOK Tryz.prog C168 Tryz.f168.ntmps ((Tryz.f168.body).getD .skip) = true := by kernel_rfl
def C169 : Cfg := ⟨[0, 1, 4, 20], [], [], [], []⟩   -- escritoire/words.mask
theorem ok169 : codeOK Tryz.prog C169 Tryz.f169.ntmps ((Tryz.f169.body).getD .skip) = true := by kernel_rfl
def C170 : Cfg := ⟨[0, 1, 4, 5, 10, 12, 13, 14, 24], [], [], [], []⟩   -- slices.Equal[[]uint64,uint64]
theorem ok170 : codeOK Tryz.prog C170 Tryz.f170.ntmps ((Tryz.f170.body).getD .skip) = true := by kernel_rfl
def C171 : Cfg := ⟨[0, 2, 3, 5, 6, 8, 9, 10, 11, 12, 20, 25, 26, 27, 28], [], [], [], []⟩   -- slices.Concat[[]string,string]
theorem ok171 : codeOK Tryz.prog C171 Tryz.f171.ntmps ((Tryz.f171.body).getD .skip) = true := by kernel_rfl
def C172 : Cfg := ⟨[0, 2, 3, 4, 14], [], [], [], []⟩   -- escritoire/names.Join
theorem ok172 : codeOK Tryz.prog C172 Tryz.f172.ntmps ((Tryz.f172.body).getD .skip) = true := by kernel_rfl
def C173 : Cfg := ⟨[0, 2, 3], [], [], [], []⟩   -- slices.Sorted[int]
def C174 : Cfg := ⟨[0, 1, 2], [], [], [], []⟩   -- maps.Keys[escritoire/view.noted,int,bool]
def C175 : Cfg := ⟨[0, 2], [], [], [], []⟩   -- escritoire/folder.empty
theorem ok175 : codeOK Tryz.prog C175 Tryz.f175.ntmps ((Tryz.f175.body).getD .skip) = true := by kernel_rfl
def C176 : Cfg := ⟨[0, 1, 4], [], [], [], []⟩   -- escritoire/folder.slot
theorem ok176 : codeOK Tryz.prog C176 Tryz.f176.ntmps ((Tryz.f176.body).getD .skip) = true := by kernel_rfl
def C177 : Cfg := ⟨[0, 1, 4, 5, 6, 7, 8, 9, 11], [4], [4], [], [(4, .cons 0 (.cons 1 (.cons 2 (.cons 3 (.cons 4 (.cons 5 (.cons 6 (.cons 7 (.cons 8 (.cons 9 (.cons 10 (.cons 11 (.cons 12 (.cons 13 (.cons 14 (.cons 15 (.both (.cons 16 (.cons 17 (.cons 18 (.cons 19 (.cons 20 (.nil)))))) (.cons 19 (.cons 16 (.cons 17 (.cons 18 (.cons 20 (.nil)))))))))))))))))))))))]⟩   -- escritoire/folder.entry
theorem ok177 : codeOK Tryz.prog C177 Tryz.f177.ntmps ((Tryz.f177.body).getD .skip) = true := by kernel_rfl
def C178 : Cfg := ⟨[0, 1, 4], [], [], [], []⟩   -- slices.SortFunc[[]escritoire/api.Entry,escritoire/api.Entry]
def C179 : Cfg := ⟨[0, 1, 2, 3, 4], [2, 3], [2, 3, 5, 7], [], []⟩   -- escritoire/folder.open$1
def C180 : Cfg := ⟨[0, 1, 4, 5, 6, 11, 12, 13, 16, 19], [], [], [], []⟩   -- cmp.Compare[string]
def C181 : Cfg := ⟨[0, 1, 4, 5, 6, 7, 10, 15, 28, 35, 49], [], [], [], []⟩   -- slices.CompactFunc[[]escritoire/api.Entry,escritoire/api.Entry]
theorem ok181 : codeOK Tryz.prog C181 Tryz.f181.ntmps ((Tryz.f181.body).getD .skip) = true := by kernel_rfl
def C182 : Cfg := ⟨[0, 2, 4], [], [], [], []⟩   -- slices.Clone[[]escritoire/api.Entry,escritoire/api.Entry]
theorem ok182 : codeOK Tryz.prog C182 Tryz.f182.ntmps ((Tryz.f182.body).getD .skip) = true := by kernel_rfl
def C183 : Cfg := ⟨[0, 1, 2, 3, 4], [2, 3], [2, 3, 5, 7], [], []⟩   -- escritoire/folder.open$2
theorem ok183 : codeOK Tryz.prog C183 Tryz.f183.ntmps ((Tryz.f183.body).getD .skip) = true := by kernel_rfl
def C184 : Cfg := ⟨[0, 1, 4, 5, 7, 8, 9, 16], [], [], [], []⟩   -- slices.IndexFunc[[]escritoire/api.Entry,escritoire/api.Entry]
theorem ok184 : codeOK Tryz.prog C184 Tryz.f184.ntmps ((Tryz.f184.body).getD .skip) = true := by kernel_rfl
def C185 : Cfg := ⟨[0, 1, 2, 3], [2], [2, 4], [], []⟩   -- escritoire/folder.find$1
theorem ok185 : codeOK Tryz.prog C185 Tryz.f185.ntmps ((Tryz.f185.body).getD .skip) = true := by kernel_rfl
def C186 : Cfg := ⟨[0, 2, 3], [], [], [], []⟩   -- escritoire/names.sign
theorem ok186 : codeOK Tryz.prog C186 Tryz.f186.ntmps ((Tryz.f186.body).getD .skip) = true := by kernel_rfl
def C187 : Cfg := ⟨[0, 1, 2, 6, 7, 8, 9, 10, 11, 12, 16, 29, 30, 31, 37], [], [], [], []⟩   -- (*escritoire/folder.book).spot
theorem ok187 : codeOK Tryz.prog C187 Tryz.f187.ntmps ((Tryz.f187.body).getD .skip) = true := by kernel_rfl
def C188 : Cfg := ⟨[0, 1, 2, 3, 8, 9, 10, 11, 12, 16, 26, 34], [], [], [], [(8, .cons 0 (.cons 1 (.cons 2 (.cons 4 (.cons 5 (.cons 6 (.cons 7 (.cons 9 (.cons 10 (.both (.cons 3 (.both (.cons 8 (.cons 12 (.both (.cons 11 (.cons 13 (.cons 14 (.cons 15 (.cons 16 (.nil)))))) (.cons 13 (.both (.cons 11 (.cons 14 (.cons 15 (.cons 16 (.nil))))) (.cons 14 (.cons 15 (.cons 11 (.cons 16 (.nil)))))))))) (.cons 11 (.cons 8 (.cons 12 (.cons 13 (.cons 14 (.cons 15 (.cons 16 (.nil)))))))))) (.both (.cons 8 (.both (.cons 3 (.cons 12 (.both (.cons 11 (.cons 13 (.cons 14 (.cons 15 (.cons 16 (.nil)))))) (.cons 13 (.both (.cons 11 (.cons 14 (.cons 15 (.cons 16 (.nil))))) (.cons 14 (.cons 15 (.cons 11 (.cons 16 (.nil)))))))))) (.cons 11 (.cons 3 (.cons 12 (.cons 13 (.cons 14 (.cons 15 (.cons 16 (.nil)))))))))) (.cons 11 (.cons 3 (.cons 8 (.cons 12 (.cons 13 (.cons 14 (.cons 15 (.cons 16 (.nil))))))))))))))))))))]⟩   -- (*escritoire/folder.book).grow
theorem ok188 : codeOK Tryz.prog C188 Tryz.f188.ntmps ((Tryz.f188.body).getD .skip) = true := by kernel_rfl
def C189 : Cfg := ⟨[0, 1, 4, 6, 16], [], [], [], []⟩   -- slices.Grow[[]uint64,uint64]
theorem ok189 : codeOK Tryz.prog C189 Tryz.f189.ntmps ((Tryz.f189.body).getD .skip) = true := by kernel_rfl
def C190 : Cfg := ⟨[0, 1, 4, 6, 16], [], [], [], []⟩   -- slices.Grow[[]int,int]
theorem ok190 : codeOK Tryz.prog C190 Tryz.f190.ntmps ((Tryz.f190.body).getD .skip) = true := by kernel_rfl
def C191 : Cfg := ⟨[0, 1, 4, 5, 6, 7, 8, 9], [], [], [], []⟩   -- math/bits.Mul
theorem ok191 : codeOK Tryz.prog C191 Tryz.f191.ntmps ((Tryz.f191.body).getD .skip) = true := by kernel_rfl
def C192 : Cfg := ⟨[0, 2, 3], [], [], [], []⟩   -- escritoire/plan.Block
theorem ok192 : codeOK Tryz.prog C192 Tryz.f192.ntmps ((Tryz.f192.body).getD .skip) = true := by kernel_rfl
def C193 : Cfg := ⟨[0, 1, 4, 5, 7, 8, 9, 16], [], [], [], []⟩   -- slices.IndexFunc[[]int,int]
theorem ok193 : codeOK Tryz.prog C193 Tryz.f193.ntmps ((Tryz.f193.body).getD .skip) = true := by kernel_rfl
def C194 : Cfg := ⟨[0, 1, 4], [], [], [], []⟩   -- (*escritoire/view.View).Avoids
theorem ok194 : codeOK Tryz.prog C194 Tryz.f194.ntmps ((Tryz.f194.body).getD .skip) = true := by kernel_rfl
def C195 : Cfg := ⟨[0, 2, 3], [], [], [], []⟩   -- escritoire/plan.Open
theorem ok195 : codeOK Tryz.prog C195 Tryz.f195.ntmps ((Tryz.f195.body).getD .skip) = true := by kernel_rfl
def C196 : Cfg := ⟨[0, 1, 4], [], [], [], []⟩   -- strings.HasPrefix
def C197 : Cfg := ⟨[0, 1, 7, 21], [], [], [], []⟩   -- (*strings.Builder).Grow
theorem ok197 : codeOK Tryz.prog C197 Tryz.f197.ntmps ((Tryz.f197.body).getD .skip) = true := by kernel_rfl
def C198 : Cfg := ⟨[0, 2], [], [], [], []⟩   -- (*strings.Builder).Len
theorem ok198 : codeOK Tryz.prog C198 Tryz.f198.ntmps ((Tryz.f198.body).getD .skip) = true := by kernel_rfl
def C199 : Cfg := ⟨[0, 1, 4, 5, 6, 7, 14], [], [], [], []⟩   -- escritoire/store.owner
theorem ok199 : codeOK Tryz.prog C199 Tryz.f199.ntmps ((Tryz.f199.body).getD .skip) = true := by kernel_rfl
def C201 : Cfg := ⟨[0, 1, 3, 4, 5], [4], [4, 15], [], []⟩   -- escritoire/folder.Drop$1
theorem ok201 : codeOK Tryz.prog C201 Tryz.f201.ntmps ((Tryz.f201.body).getD .skip) = true := by kernel_rfl
def C202 : Cfg := ⟨[0, 1, 4, 6], [], [], [], []⟩   -- escritoire/names.Bucket
theorem ok202 : codeOK Tryz.prog C202 Tryz.f202.ntmps ((Tryz.f202.body).getD .skip) = true := by kernel_rfl
def C203 : Cfg := ⟨[0, 1, 4, 5, 15, 24], [], [], [], []⟩   -- escritoire/escritoireref04.Ahead
def C204 : Cfg := ⟨[0, 2, 3, 4, 8, 41], [], [], [], []⟩   -- escritoire/escritoireref04.Right
def C205 : Cfg := ⟨[0, 1, 2, 3, 4, 10, 11, 12, 13, 14, 15, 16, 17, 18, 19, 20, 25, 32, 39, 56, 75, 80, 97, 125], [], [], [], []⟩   -- slices.pdqsortCmpFunc[escritoire/api.Change]
def C206 : Cfg := ⟨[0, 2], [], [], [], []⟩   -- math/bits.Len
def C207 : Cfg := ⟨[0, 1, 4], [], [], [], []⟩   -- internal/stringslite.HasPrefix
theorem ok207 : codeOK Tryz.prog C207 Tryz.f207.ntmps ((Tryz.f207.body).getD .skip) = true := by kernel_rfl
def C208 : Cfg := ⟨[0, 1, 4, 5, 6, 7, 9, 18, 25, 43], [], [], [], []⟩   -- strings.explode
def C209 : Cfg := ⟨[0, 1, 4, 5, 6, 9, 15, 24], [], [], [], []⟩   -- strings.Count
theorem ok209 : codeOK Tryz.prog C209 Tryz.f209.ntmps ((Tryz.f209.body).getD .skip) = true := by kernel_rfl
def C210 : Cfg := ⟨[0, 1, 4], [], [], [], []⟩   -- strings.Index
theorem ok210 : codeOK Tryz.prog C210 Tryz.f210.ntmps ((Tryz.f210.body).getD .skip) = true := by kernel_rfl
def C211 : Cfg := ⟨[0, 2], [], [], [], []⟩   -- escritoire/cards.odd
theorem ok211 : codeOK Tryz.prog C211 Tryz.f211.ntmps ((Tryz.f211.body).getD .skip) = true := by kernel_rfl
def C212 : Cfg := ⟨[0, 2, 4, 8, 14], [], [], [], []⟩   -- math/bits.Len64
theorem ok212 : codeOK Tryz.prog C212 Tryz.f212.ntmps ((Tryz.f212.body).getD .skip) = true := by kernel_rfl
def C213 : Cfg := ⟨[0, 1, 4, 6, 16], [], [], [], []⟩   -- slices.Grow[[]string,string]
theorem ok213 : codeOK Tryz.prog C213 Tryz.f213.ntmps ((Tryz.f213.body).getD .skip) = true := by kernel_rfl
def C214 : Cfg := ⟨[0, 1, 4, 5, 7, 8, 10, 12, 13, 15, 22, 29, 39, 40, 41, 42, 49, 63, 64, 65, 66], [], [], [], []⟩   -- strings.Join
theorem ok214 : codeOK Tryz.prog C214 Tryz.f214.ntmps ((Tryz.f214.body).getD .skip) = true := by kernel_rfl
def C215 : Cfg := ⟨[0, 2], [], [], [], []⟩   -- slices.Collect[int]
def C216 : Cfg := ⟨[0, 2], [], [], [], []⟩   -- slices.Sort[[]int,int]
def C217 : Cfg := ⟨[0, 1, 3, 5, 7, 13], [], [], [], []⟩   -- maps.Keys[escritoire/view.noted,int,bool]$1
def C218 : Cfg := ⟨[0, 1, 4, 5, 6], [], [], [], []⟩   -- strings.Cut
theorem ok218 : codeOK Tryz.prog C218 Tryz.f218.ntmps ((Tryz.f218.body).getD .skip) = true := by kernel_rfl
def C219 : Cfg := ⟨[0, 1, 4, 5, 6, 12, 21, 34], [], [], [], [(4, .cons 0 (.cons 1 (.cons 2 (.cons 4 (.cons 5 (.cons 3 (.cons 6 (.cons 7 (.nil)))))))))]⟩   -- strings.Trim
theorem ok219 : codeOK Tryz.prog C219 Tryz.f219.ntmps ((Tryz.f219.body).getD .skip) = true := by kernel_rfl
def C220 : Cfg := ⟨[0, 1, 2, 3, 4, 10, 11, 12, 13, 14, 15, 16, 17, 18, 19, 20, 25, 32, 39, 56, 75, 80, 97, 125], [], [], [], []⟩   -- slices.pdqsortCmpFunc[escritoire/api.Entry]
def C221 : Cfg := ⟨[0, 2], [], [], [], []⟩   -- cmp.isNaN[string]
def C222 : Cfg := ⟨[0, 1, 4], [], [], [], []⟩   -- strings.IndexByte
theorem ok222 : codeOK Tryz.prog C222 Tryz.f222.ntmps ((Tryz.f222.body).getD .skip) = true := by kernel_rfl
def C223 : Cfg := ⟨[0, 1, 4, 5, 6], [], [], [], []⟩   -- math/bits.Mul32
def C224 : Cfg := ⟨[0, 1, 4, 5, 6, 7, 8, 9, 10, 11, 12, 13], [], [], [], []⟩   -- math/bits.Mul64
theorem ok224 : codeOK Tryz.prog C224 Tryz.f224.ntmps ((Tryz.f224.body).getD .skip) = true := by kernel_rfl
def C225 : Cfg := ⟨[0, 2, 3, 5, 6, 7, 8, 9, 21], [5], [5, 13, 22, 25, 28], [], []⟩   -- escritoire/plan.What
theorem ok225 : codeOK Tryz.prog C225 Tryz.f225.ntmps ((Tryz.f225.body).getD .skip) = true := by kernel_rfl
def C226 : Cfg := ⟨[0, 1, 4], [], [], [], [(0, .cons 0 (.cons 1 (.cons 2 (.cons 3 (.cons 4 (.cons 5 (.cons 6 (.cons 7 (.cons 9 (.cons 10 (.cons 11 (.both (.cons 8 (.cons 12 (.cons 13 (.cons 14 (.cons 15 (.nil)))))) (.cons 12 (.both (.cons 8 (.cons 13 (.cons 14 (.cons 15 (.nil))))) (.cons 13 (.cons 8 (.cons 14 (.cons 15 (.nil)))))))))))))))))))]⟩   -- (*strings.Builder).grow
theorem ok226 : codeOK Tryz.prog C226 Tryz.f226.ntmps ((Tryz.f226.body).getD .skip) = true := by kernel_rfl
def C227 : Cfg := ⟨[0, 2, 3, 5, 7, 8, 9, 10], [], [], [], []⟩   -- escritoire/words.Hash
theorem ok227 : codeOK Tryz.prog C227 Tryz.f227.ntmps ((Tryz.f227.body).getD .skip) = true := by kernel_rfl
def C228 : Cfg := ⟨[0, 1, 2, 3, 8, 9, 14, 34], [], [], [], []⟩   -- slices.insertionSortCmpFunc[escritoire/api.Change]
def C229 : Cfg := ⟨[0, 1, 2, 3, 8, 9, 10, 11, 12, 21, 33], [], [], [], []⟩   -- slices.heapSortCmpFunc[escritoire/api.Change]
def C230 : Cfg := ⟨[0, 1, 2, 8, 9, 10, 11, 12, 17, 35, 45], [], [], [], []⟩   -- slices.breakPatternsCmpFunc[escritoire/api.Change]
def C231 : Cfg := ⟨[0, 1, 2, 3, 8, 9, 10, 11, 12, 13, 14, 34, 36, 55, 57, 60], [], [], [], []⟩   -- slices.choosePivotCmpFunc[escritoire/api.Change]
def C232 : Cfg := ⟨[0, 1, 2, 8, 9, 15], [], [], [], []⟩   -- slices.reverseRangeCmpFunc[escritoire/api.Change]
def C233 : Cfg := ⟨[0, 1, 2, 3, 8, 9, 10, 11, 12, 16, 36, 41, 45, 65, 69, 84, 104, 109, 124], [], [], [], []⟩   -- slices.partialInsertionSortCmpFunc[escritoire/api.Change]
def C234 : Cfg := ⟨[0, 1, 2, 3, 4, 10, 11, 12, 47, 65, 70], [], [], [], []⟩   -- slices.partitionEqualCmpFunc[escritoire/api.Change]
def C235 : Cfg := ⟨[0, 1, 2, 3, 4, 10, 11, 12, 13, 47, 66, 71, 120, 139, 144], [], [], [], []⟩   -- slices.partitionCmpFunc[escritoire/api.Change]
def C236 : Cfg := ⟨[0, 2, 4, 8], [], [], [], []⟩   -- math/bits.Len32
def C237 : Cfg := ⟨[0, 2, 4, 6], [], [], [], []⟩   -- unicode/utf8.RuneCountInString
def C238 : Cfg := ⟨[0, 2, 3, 10], [], [], [], []⟩   -- unicode/utf8.DecodeRuneInString
def C240 : Cfg := ⟨[0, 1, 4, 5, 6, 7, 8, 9, 10, 11, 12, 13, 16, 24, 31, 36, 59, 64, 73, 93, 107, 114, 132, 139], [], [], [], []⟩   -- internal/stringslite.Index
theorem ok240 : codeOK Tryz.prog C240 Tryz.f240.ntmps ((Tryz.f240.body).getD .skip) = true := by kernel_rfl
def C241 : Cfg := ⟨[0, 1, 2, 4, 5, 6], [2], [2], [], []⟩   -- slices.AppendSeq[[]int,int]
def C242 : Cfg := ⟨[0, 1, 2, 3, 8, 9, 10, 11, 12, 13, 14, 15, 16, 17, 18, 23, 29, 35, 50, 68, 72, 87, 113], [], [], [], []⟩   -- slices.pdqsortOrdered[int]
def C243 : Cfg := ⟨[0, 1, 4, 5, 6, 7, 12], [], [], [], []⟩   -- internal/stringslite.Cut
theorem ok243 : codeOK Tryz.prog C243 Tryz.f243.ntmps ((Tryz.f243.body).getD .skip) = true := by kernel_rfl
def C244 : Cfg := ⟨[0, 1, 4, 13], [], [], [], []⟩   -- strings.trimLeftByte
theorem ok244 : codeOK Tryz.prog C244 Tryz.f244.ntmps ((Tryz.f244.body).getD .skip) = true := by kernel_rfl
def C245 : Cfg := ⟨[0, 1, 4, 16], [], [], [], []⟩   -- strings.trimRightByte
theorem ok245 : codeOK Tryz.prog C245 Tryz.f245.ntmps ((Tryz.f245.body).getD .skip) = true := by kernel_rfl
def C246 : Cfg := ⟨[0, 2, 3, 4, 5, 9, 16], [2], [2, 19], [], []⟩   -- strings.makeASCIISet
def C247 : Cfg := ⟨[0, 1, 4, 7, 12], [], [], [], []⟩   -- strings.trimLeftASCII
def C248 : Cfg := ⟨[0, 1, 4, 7, 15], [], [], [], []⟩   -- strings.trimRightASCII
def C249 : Cfg := ⟨[0, 1, 4, 5, 6, 9, 18], [], [], [], []⟩   -- strings.trimLeftUnicode
def C250 : Cfg := ⟨[0, 1, 4, 5, 6, 9, 17, 26], [], [], [], []⟩   -- strings.trimRightUnicode
def C251 : Cfg := ⟨[0, 1, 2, 3, 8, 9, 14, 34], [], [], [], []⟩   -- slices.insertionSortCmpFunc[escritoire/api.Entry]
def C252 : Cfg := ⟨[0, 1, 2, 3, 8, 9, 10, 11, 12, 21, 33], [], [], [], []⟩   -- slices.heapSortCmpFunc[escritoire/api.Entry]
def C253 : Cfg := ⟨[0, 1, 2, 8, 9, 10, 11, 12, 17, 35, 45], [], [], [], []⟩   -- slices.breakPatternsCmpFunc[escritoire/api.Entry]
def C254 : Cfg := ⟨[0, 1, 2, 3, 8, 9, 10, 11, 12, 13, 14, 34, 36, 55, 57, 60], [], [], [], []⟩   -- slices.choosePivotCmpFunc[escritoire/api.Entry]
def C255 : Cfg := ⟨[0, 1, 2, 8, 9, 15], [], [], [], []⟩   -- slices.reverseRangeCmpFunc[escritoire/api.Entry]
def C256 : Cfg := ⟨[0, 1, 2, 3, 8, 9, 10, 11, 12, 16, 36, 41, 45, 65, 69, 84, 104, 109, 124], [], [], [], []⟩   -- slices.partialInsertionSortCmpFunc[escritoire/api.Entry]
def C257 : Cfg := ⟨[0, 1, 2, 3, 4, 10, 11, 12, 47, 65, 70], [], [], [], []⟩   -- slices.partitionEqualCmpFunc[escritoire/api.Entry]
def C258 : Cfg := ⟨[0, 1, 2, 3, 4, 10, 11, 12, 13, 47, 66, 71, 120, 139, 144], [], [], [], []⟩   -- slices.partitionCmpFunc[escritoire/api.Entry]
def C259 : Cfg := ⟨[0, 1, 4], [], [], [], []⟩   -- internal/stringslite.IndexByte
theorem ok259 : codeOK Tryz.prog C259 Tryz.f259.ntmps ((Tryz.f259.body).getD .skip) = true := by kernel_rfl
def C261 : Cfg := ⟨[0, 1, 2, 3, 4, 10, 11, 18, 40, 58], [], [], [], []⟩   -- slices.siftDownCmpFunc[escritoire/api.Change]
def C262 : Cfg := ⟨[0, 2], [], [], [], []⟩   -- slices.nextPowerOfTwo
def C263 : Cfg := ⟨[0, 2], [], [], [], []⟩   -- (*slices.xorshift).Next
def C264 : Cfg := ⟨[0, 1, 2, 3, 8], [], [], [], []⟩   -- slices.medianAdjacentCmpFunc[escritoire/api.Change]
def C265 : Cfg := ⟨[0, 1, 2, 3, 4, 5, 12], [], [], [], []⟩   -- slices.medianCmpFunc[escritoire/api.Change]
def C266 : Cfg := ⟨[0, 2, 3, 4, 5, 6, 7, 8, 9, 10, 11, 12, 16, 23, 45, 57, 59, 75, 77, 98], [9], [9, 49, 53], [], []⟩   -- unicode/utf8.decodeRuneInStringSlow
def C268 : Cfg := ⟨[0, 2], [], [], [], []⟩   -- internal/bytealg.Cutover
def C269 : Cfg := ⟨[0, 1, 4, 5, 6, 7, 8, 9, 10, 20, 39, 44, 77], [], [], [], []⟩   -- internal/bytealg.IndexRabinKarp[string]
def C270 : Cfg := ⟨[0, 1, 2, 6, 7, 12, 30], [], [], [], []⟩   -- slices.insertionSortOrdered[int]
def C271 : Cfg := ⟨[0, 1, 2, 6, 7, 8, 9, 10, 19, 30], [], [], [], []⟩   -- slices.heapSortOrdered[int]
def C272 : Cfg := ⟨[0, 1, 2, 6, 7, 8, 9, 10, 15, 33, 43], [], [], [], []⟩   -- slices.breakPatternsOrdered[int]
def C273 : Cfg := ⟨[0, 1, 2, 6, 7, 8, 9, 10, 11, 12, 32, 34, 49, 51, 54], [], [], [], []⟩   -- slices.choosePivotOrdered[int]
def C274 : Cfg := ⟨[0, 1, 2, 6, 7, 13], [], [], [], []⟩   -- slices.reverseRangeOrdered[int]
def C275 : Cfg := ⟨[0, 1, 2, 6, 7, 8, 9, 10, 14, 32, 37, 41, 61, 65, 78, 98, 103, 116], [], [], [], []⟩   -- slices.partialInsertionSortOrdered[int]
def C276 : Cfg := ⟨[0, 1, 4], [], [], [], []⟩   -- cmp.Less[int]
def C277 : Cfg := ⟨[0, 1, 2, 3, 8, 9, 10, 43, 59, 64], [], [], [], []⟩   -- slices.partitionEqualOrdered[int]
def C278 : Cfg := ⟨[0, 1, 2, 3, 8, 9, 10, 11, 43, 60, 65, 112, 129, 134], [], [], [], []⟩   -- slices.partitionOrdered[int]
def C279 : Cfg := ⟨[0, 1, 4], [], [], [], []⟩   -- (*strings.asciiSet).contains
def C280 : Cfg := ⟨[0, 1, 4], [], [], [], []⟩   -- strings.ContainsRune
def C281 : Cfg := ⟨[0, 2, 3, 4, 5, 6, 10, 18, 27, 33, 35, 48], [], [], [], []⟩   -- unicode/utf8.DecodeLastRuneInString
def C282 : Cfg := ⟨[0, 1, 2, 3, 4, 10, 11, 18, 40, 58], [], [], [], []⟩   -- slices.siftDownCmpFunc[escritoire/api.Entry]
def C283 : Cfg := ⟨[0, 1, 2, 3, 8], [], [], [], []⟩   -- slices.medianAdjacentCmpFunc[escritoire/api.Entry]
def C284 : Cfg := ⟨[0, 1, 2, 3, 4, 5, 12], [], [], [], []⟩   -- slices.medianCmpFunc[escritoire/api.Entry]
def C286 : Cfg := ⟨[0, 1, 2, 3, 4, 10, 11, 22], [], [], [], []⟩   -- slices.order2CmpFunc[escritoire/api.Change]
def C287 : Cfg := ⟨[0, 2, 3, 4, 5, 6, 7, 8, 12, 25, 30], [], [], [], []⟩   -- internal/bytealg.hashStr[string]
def C288 : Cfg := ⟨[0, 1, 2, 3, 8, 9, 16, 36, 52], [], [], [], []⟩   -- slices.siftDownOrdered[int]
def C289 : Cfg := ⟨[0, 1, 2, 6], [], [], [], []⟩   -- slices.medianAdjacentOrdered[int]
def C290 : Cfg := ⟨[0, 1, 2, 3, 4, 10], [], [], [], []⟩   -- slices.medianOrdered[int]
def C291 : Cfg := ⟨[0, 2], [], [], [], []⟩   -- cmp.isNaN[int]
def C292 : Cfg := ⟨[0, 1, 4, 5, 6, 7, 8, 9, 10, 11, 12, 13, 14, 15, 16, 26, 33, 43, 51, 64, 98, 108, 124, 139, 143, 156, 160, 171, 175, 176, 177, 181, 183], [], [], [], []⟩   -- strings.IndexRune
def C293 : Cfg := ⟨[0, 2], [], [], [], []⟩   -- unicode/utf8.RuneStart
def C294 : Cfg := ⟨[0, 1, 2, 3, 4, 10, 11, 22], [], [], [], []⟩   -- slices.order2CmpFunc[escritoire/api.Entry]
def C295 : Cfg := ⟨[0, 1, 2, 3, 8, 9, 18], [], [], [], []⟩   -- slices.order2Ordered[int]
def C296 : Cfg := ⟨[0, 2, 3, 10], [], [], [], []⟩   -- unicode/utf8.ValidRune
def C319 : Cfg := ⟨[], [], [], [], []⟩   -- gosem.cut.vars
end Go.Proofs.YtkjkdnphikendaaGreatDoor
/-
  Layers 5: where the words lie.
-/
set_option linter.all false
set_option maxRecDepth 100000
namespace Go.Proofs.YtkjkdnphikendaaGreatDoor
open Go Go.Eng

/-- the parts' cells, the first 'i' of them laid -/
def partsC (i : Nat) : List Value := [.int .i64 1, .int .i64 0, .int .i64 1, .int .i64 8, .int .i64 2, .int .i64 (if 1 < i then 8 else 0), .int .i64 24, .int .i64 8, .int .i64 3, .int .i64 (if 2 < i then 200 else 0), .int .i64 96, .int .i64 1,
  .int .i64 4, .int .i64 (if 3 < i then 296 else 0), .int .i64 4, .int .i64 248, .int .i64 5, .int .i64 (if 4 < i then 1288 else 0), .int .i64 96, .int .i64 16]

theorem end_spec (k a b c : Int) (h : Heap) : CallH Tryz.prog 112 [.agg ⟨[.int .i64 k, .int .i64 a, .int .i64 b, .int .i64 c]⟩] h (fun v h' => Keeps [] h h' ∧ v = .int .i64 (IntKind.i64.wrap (a + IntKind.i64.wrap (b * c)))) := by
  refine call_of hmix Tryz.func112 rfl ok112 (by simp [Tryz.f112]) ?_
  conv => whnf
  refine AllocR.i fun b1 h1 e1 s1 o1 k1 => ?_
  conv => whnf
  exact ⟨k1, rfl⟩

theorem parts_spec (h : Heap) : CallH Tryz.prog 168 [] h (fun v h' => Keeps [] h h' ∧ ∃ b, v = .slice (some ⟨b, 0, none⟩) 5 5 ∧ h'[b]? = some (.cells ⟨partsC 5⟩ 173 (0, 0))) := by
  refine call_of hmix Tryz.func168 rfl ok168 (by simp [Tryz.f168]) ?_
  conv => whnf
  refine AllocR.i fun b1 h1 e1 s1 o1 k1 => ?_
  conv => whnf
  refine LoopR.on [1, 2] [] (fun i : Nat => [(1, .v (.slice (some ⟨b1, 0, none⟩) 5 5)), (2, .v (.int .i64 (i : Int)))]) (fun _ => []) (fun i h' => 1 ≤ i ∧ i ≤ 5 ∧ Keeps [] h h' ∧ h'[b1]? = some (.cells ⟨partsC i⟩ 173 (0, 0))) (fun i => 5 - i) 1 ?_ ?_
  · conv => whnf
    exact ⟨1, rfl, rfl, rfl, by decide, by decide, k1, o1⟩
  · rintro i h2 ⟨i1, i5, k2, o2⟩
    have hi : i = 1 ∨ i = 2 ∨ i = 3 ∨ i = 4 ∨ i = 5 := by omega
    rcases hi with rfl | rfl | rfl | rfl | rfl
    case inr.inr.inr.inr =>
      conv => whnf
      refine IfR.f (by decide) ?_
      conv => whnf
      exact ⟨k2, b1, rfl, o2⟩
    case inl =>
      conv => whnf
      refine IfR.t (by decide) ?_
      conv => whnf
      refine IdxS.i 0 (by decide) (by decide) rfl ?_
      conv => whnf
      refine LoadN.o o2 rfl ?_
      conv => whnf
      refine CallR.i (end_spec _ _ _ _ h2) fun v h3 k3 hv => ?_
      subst hv
      conv => whnf
      refine IdxS.i 1 (by decide) (by decide) rfl ?_
      conv => whnf
      refine StoreR.i (k3.obj o2 (by simp)) (by decide) (by simp [blocksOf]) fun h4 s4 o4 k4 => ?_
      conv => whnf
      refine ⟨3, by decide, ?_⟩
      conv => whnf
      exact ⟨2, rfl, rfl, rfl, by decide, by decide, (k2.trans k3).new1 k4 (by omega), o4⟩
    case inr.inl =>
      conv => whnf
      refine IfR.t (by decide) ?_
      conv => whnf
      refine IdxS.i 1 (by decide) (by decide) rfl ?_
      conv => whnf
      refine LoadN.o o2 rfl ?_
      conv => whnf
      refine CallR.i (end_spec _ _ _ _ h2) fun v h3 k3 hv => ?_
      subst hv
      conv => whnf
      refine IdxS.i 2 (by decide) (by decide) rfl ?_
      conv => whnf
      refine StoreR.i (k3.obj o2 (by simp)) (by decide) (by simp [blocksOf]) fun h4 s4 o4 k4 => ?_
      conv => whnf
      refine ⟨2, by decide, ?_⟩
      conv => whnf
      exact ⟨3, rfl, rfl, rfl, by decide, by decide, (k2.trans k3).new1 k4 (by omega), o4⟩
    case inr.inr.inl =>
      conv => whnf
      refine IfR.t (by decide) ?_
      conv => whnf
      refine IdxS.i 2 (by decide) (by decide) rfl ?_
      conv => whnf
      refine LoadN.o o2 rfl ?_
      conv => whnf
      refine CallR.i (end_spec _ _ _ _ h2) fun v h3 k3 hv => ?_
      subst hv
      conv => whnf
      refine IdxS.i 3 (by decide) (by decide) rfl ?_
      conv => whnf
      refine StoreR.i (k3.obj o2 (by simp)) (by decide) (by simp [blocksOf]) fun h4 s4 o4 k4 => ?_
      conv => whnf
      refine ⟨1, by decide, ?_⟩
      conv => whnf
      exact ⟨4, rfl, rfl, rfl, by decide, by decide, (k2.trans k3).new1 k4 (by omega), o4⟩
    case inr.inr.inr.inl =>
      conv => whnf
      refine IfR.t (by decide) ?_
      conv => whnf
      refine IdxS.i 3 (by decide) (by decide) rfl ?_
      conv => whnf
      refine LoadN.o o2 rfl ?_
      conv => whnf
      refine CallR.i (end_spec _ _ _ _ h2) fun v h3 k3 hv => ?_
      subst hv
      conv => whnf
      refine IdxS.i 4 (by decide) (by decide) rfl ?_
      conv => whnf
      refine StoreR.i (k3.obj o2 (by simp)) (by decide) (by simp [blocksOf]) fun h4 s4 o4 k4 => ?_
      conv => whnf
      refine ⟨0, by decide, ?_⟩
      conv => whnf
      exact ⟨5, rfl, rfl, rfl, by decide, by decide, (k2.trans k3).new1 k4 (by omega), o4⟩

/-- where a kind's things begin, how many there are, how wide each is -/
def fromK : Nat → Int | 1 => 0 | 2 => 8 | 3 => 200 | 4 => 296 | _ => 1288
def countK : Nat → Int | 1 => 1 | 2 => 24 | 3 => 96 | 4 => 4 | _ => 96
def wideK : Nat → Int | 1 => 8 | 2 => 8 | 3 => 1 | 4 => 248 | _ => 16

theorem of_spec (k : Nat) (hk : k = 1 ∨ k = 2 ∨ k = 3 ∨ k = 4 ∨ k = 5) (h : Heap) : CallH Tryz.prog 111 [.int .i64 (k : Int)] h (fun v h' => Keeps [] h h' ∧ v = .agg ⟨[.int .i64 (k : Int), .int .i64 (fromK k), .int .i64 (countK k), .int .i64 (wideK k)]⟩) := by
  refine call_of hmix Tryz.func111 rfl ok111 (by simp [Tryz.f111]) ?_
  conv => whnf
  refine AllocR.i fun b1 h1 e1 s1 o1 k1 => ?_
  conv => whnf
  refine CallR.i (parts_spec h1) fun v h2 k2 hv => ?_
  obtain ⟨b, rfl, o2⟩ := hv
  conv => whnf
  refine IdxS.i (k - 1) ?_ (by omega) rfl ?_
  · rcases hk with rfl | rfl | rfl | rfl | rfl <;> decide
  conv => whnf
  refine LoadN.o (vs := [.int .i64 (k : Int), .int .i64 (fromK k), .int .i64 (countK k), .int .i64 (wideK k)]) o2 (by rcases hk with rfl | rfl | rfl | rfl | rfl <;> rfl) ?_
  conv => whnf
  refine BoxR.i fun h3 s3 k3 => ?_
  conv => whnf
  exact ⟨(k1.trans k2).new1 k3 (by omega), rfl⟩

theorem size_spec (h : Heap) : CallH Tryz.prog 64 [] h (fun v h' => Keeps [] h h' ∧ v = .int .i64 2824) := by
  refine call_of hmix Tryz.func64 rfl ok64 (by simp [Tryz.f64]) ?_
  conv => whnf
  refine CallR.i (of_spec 5 (by decide) h) fun v h1 k1 hv => ?_
  subst hv
  conv => whnf
  refine CallR.i (end_spec _ _ _ _ h1) fun v h2 k2 hv => ?_
  subst hv
  conv => whnf
  exact ⟨k1.trans k2, rfl⟩

theorem first_spec (k : Nat) (hk : k = 1 ∨ k = 2 ∨ k = 3 ∨ k = 4 ∨ k = 5) (i : Int) (h : Heap) : CallH Tryz.prog 167 [.int .i64 (k : Int), .int .i64 i] h (fun v h' => Keeps [] h h' ∧ v = .tuple #[.int .i64 (if 0 ≤ i ∧ i < countK k then fromK k + i * wideK k else 0), .int .i64 (if 0 ≤ i ∧ i < countK k then 0 else 1)]) := by
  refine call_of hmix Tryz.func167 rfl ok167 (by simp [Tryz.f167]) ?_
  conv => whnf
  refine CallR.i (of_spec k hk h) fun v h1 k1 hv => ?_
  subst hv
  conv => whnf
  refine AllocR.i fun b2 h2 e2 s2 o2 k2 => ?_
  conv => whnf
  refine BoxR.i fun h3 s3 k3 => ?_
  have kk : Keeps [] h h3 := (k1.trans k2).new1 k3 (by have := k1.size; omega)
  conv => whnf
  refine IfR.i (fun hc => ?_) (fun hc => ?_)
  · conv => whnf
    have hn : ¬ (0 ≤ i ∧ i < countK k) := by simp [bif_or] at hc; omega
    exact ⟨kk, by rw [if_neg hn, if_neg hn]⟩
  · conv => whnf
    have hn : 0 ≤ i ∧ i < countK k := by simp [bif_or] at hc; omega
    refine ⟨kk, ?_⟩
    rw [if_pos hn, if_pos hn]
    have hb : 0 ≤ i ∧ i < 96 := by rcases hk with rfl | rfl | rfl | rfl | rfl <;> simp [countK] at hn <;> omega
    have e : IntKind.i64.wrap (fromK k + IntKind.i64.wrap (i * wideK k)) = fromK k + i * wideK k := by
      rcases hk with rfl | rfl | rfl | rfl | rfl <;> simp only [fromK, wideK] <;> rw [wrapI (x := i * _) (by omega) (by omega), wrapI (by omega) (by omega)]
    rw [e]

theorem cardAt_spec (i : Int) (h : Heap) : CallH Tryz.prog 108 [.int .i64 i] h (fun v h' => Keeps [] h h' ∧ v = .tuple #[.int .i64 (if 0 ≤ i ∧ i < 24 then 8 + i * 8 else 0), .int .i64 (if 0 ≤ i ∧ i < 24 then 0 else 1)]) := by
  refine call_of hmix Tryz.func108 rfl ok108 (by simp [Tryz.f108]) ?_
  conv => whnf
  refine CallR.i (first_spec 2 (by decide) i h) fun v h1 k1 hv => ?_
  subst hv
  conv => whnf
  exact ⟨k1, rfl⟩
theorem ownerAt_spec (i : Int) (h : Heap) : CallH Tryz.prog 139 [.int .i64 i] h (fun v h' => Keeps [] h h' ∧ v = .tuple #[.int .i64 (if 0 ≤ i ∧ i < 96 then 200 + i * 1 else 0), .int .i64 (if 0 ≤ i ∧ i < 96 then 0 else 1)]) := by
  refine call_of hmix Tryz.func139 rfl ok139 (by simp [Tryz.f139]) ?_
  conv => whnf
  refine CallR.i (first_spec 3 (by decide) i h) fun v h1 k1 hv => ?_
  subst hv
  conv => whnf
  exact ⟨k1, rfl⟩
theorem blockAt_spec (i : Int) (h : Heap) : CallH Tryz.prog 192 [.int .i64 i] h (fun v h' => Keeps [] h h' ∧ v = .tuple #[.int .i64 (if 0 ≤ i ∧ i < 96 then 1288 + i * 16 else 0), .int .i64 (if 0 ≤ i ∧ i < 96 then 0 else 1)]) := by
  refine call_of hmix Tryz.func192 rfl ok192 (by simp [Tryz.f192]) ?_
  conv => whnf
  refine CallR.i (first_spec 5 (by decide) i h) fun v h1 k1 hv => ?_
  subst hv
  conv => whnf
  exact ⟨k1, rfl⟩
end Go.Proofs.YtkjkdnphikendaaGreatDoor
/-
  Layers 2, 5, 8: the memory's words, which words may be changed, a view.
-/
set_option linter.all false
set_option maxRecDepth 100000
namespace Go.Proofs.YtkjkdnphikendaaGreatDoor
open Go Go.Eng

/-! ### Lists of words by number -/

def lk : List (Int × UInt64) → Int → Option UInt64
  | [], _ => none
  | (k, v) :: r, n => if n = k then some v else lk r n
def putW : List (Int × UInt64) → Int → UInt64 → List (Int × UInt64)
  | [], n, v => [(n, v)]
  | (k, u) :: r, n, v => if n = k then (k, v) :: r else (k, u) :: putW r n v
def mapW (m : List (Int × UInt64)) : List (Int × Value) := m.map fun p => (p.1, wv p.2)

theorem lookI_mapW : ∀ (m : List (Int × UInt64)) (n : Int), lookI (mapW m) n = (lk m n).map wv
  | [], n => rfl
  | (k, v) :: r, n => by
    have := lookI_mapW r n
    simp only [mapW, List.map_cons, lookI, lk] at this ⊢
    split
    · rfl
    · exact this
theorem putI_mapW : ∀ (m : List (Int × UInt64)) (n : Int) (w : UInt64), putI (mapW m) n (wv w) = mapW (putW m n w)
  | [], n, w => rfl
  | (k, v) :: r, n, w => by
    have := putI_mapW r n w
    simp only [mapW, List.map_cons, putI, putW] at this ⊢
    split
    · rfl
    · rw [this]; rfl
theorem lk_put : ∀ (m : List (Int × UInt64)) (n : Int) (w : UInt64) (k : Int), lk (putW m n w) k = if k = n then some w else lk m k
  | [], n, w, k => by simp [putW, lk]
  | (k', u) :: r, n, w, k => by
    by_cases h : n = k'
    · subst h; simp only [putW, if_true, lk]; split <;> simp_all
    · simp only [putW, if_neg h, lk]
      rw [lk_put r n w k]
      by_cases h2 : k = k'
      · subst h2; rw [if_pos rfl, if_pos rfl, if_neg (fun e => h e.symm)]
      · rw [if_neg h2, if_neg h2]

/-- a set of numbers, as a map has it -/
def setV (s : List Int) : List (Int × Value) := s.map fun k => (k, .bool true)
theorem setV_look : ∀ (s : List Int) (k : Int), lookI (setV s) k = if k ∈ s then some (.bool true) else none
  | [], k => rfl
  | x :: s, k => by
    have := setV_look s k
    simp only [setV, List.map_cons, lookI, List.mem_cons] at this ⊢
    by_cases h : k = x
    · simp [h]
    · simp [h, this]
theorem setV_get (s : List Int) (k : Int) : (lookI (setV s) k).getD (.bool false) = .bool (decide (k ∈ s)) := by
  rw [setV_look]; split <;> simp_all
/-- a number is added to a set -/
def addS (s : List Int) (k : Int) : List Int := if k ∈ s then s else s ++ [k]
theorem addS_mem {s : List Int} {k x : Int} : x ∈ addS s k ↔ x ∈ s ∨ x = k := by
  unfold addS; split
  · constructor
    · exact .inl
    · rintro (h | rfl) <;> assumption
  · simp
theorem putI_set : ∀ (s : List Int) (k : Int), putI (setV s) k (.bool true) = setV (addS s k)
  | [], k => rfl
  | x :: s, k => by
    have ih := putI_set s k
    simp only [setV, List.map_cons, putI] at ih ⊢
    by_cases h : k = x
    · subst h; simp [addS]
    · rw [if_neg h, ih]
      unfold addS
      by_cases h2 : k ∈ s
      · simp [h2]
      · simp [h, h2]

/-! ### A memory -/

structure MemS where
  sure : List UInt64
  loose : List (Int × UInt64)
  way : List (Int × UInt64)
  calls : Int
  until_ : Int

/-- where a memory lies -/
structure ML where
  m : Nat
  sa : Option Addr
  len : Nat
  cap : Nat
  lb : Nat
  wb : Nat

def ML.blocks (L : ML) : List Nat := L.m :: L.lb :: L.wb :: blkA L.sa

structure MemAt (h : Heap) (L : ML) (M : MemS) : Prop where
  obj : h[L.m]? = some (.cells ⟨[.slice L.sa L.len L.cap, .map (some L.lb), .map (some L.wb), .int .i64 M.calls, .int .i64 M.until_]⟩ 82 (0, 0))
  sure : Sl h L.sa L.len L.cap M.sure
  loose : MapL h L.lb (mapW M.loose)
  way : MapL h L.wb (mapW M.way)
  ap1 : L.lb ≠ L.wb
  ap2 : ∀ b ∈ blkA L.sa, b ≠ L.m ∧ b ≠ L.lb ∧ b ≠ L.wb
  lt : ∀ b ∈ blkA L.sa, b < h.size

theorem obj_map_ne {h : Heap} {b r : Nat} {c : Array Value} {T : TypeId} {fz : Nat × Nat} {m : List (Int × Value)} (o : h[b]? = some (.cells c T fz)) (M : MapL h r m) : b ≠ r := by
  rintro rfl
  obtain ⟨es, cl, h1, _⟩ := M
  rw [o] at h1; cases h1

theorem MemAt.ap3 {h : Heap} {L : ML} {M : MemS} (A : MemAt h L M) : L.m ≠ L.lb ∧ L.m ≠ L.wb := ⟨obj_map_ne A.obj A.loose, obj_map_ne A.obj A.way⟩

theorem MemAt.keep {F : List Nat} {h h' : Heap} {L : ML} {M : MemS} (A : MemAt h L M) (k : Keeps F h h') (hF : ∀ b ∈ L.blocks, b ∉ F) : MemAt h' L M :=
  ⟨k.obj A.obj (hF _ (by simp [ML.blocks])), A.sure.keepM k (fun b hb => hF b (by simp [ML.blocks, hb])), A.loose.keep k (hF _ (by simp [ML.blocks])), A.way.keep k (hF _ (by simp [ML.blocks])), A.ap1, A.ap2, fun b hb => Nat.lt_of_lt_of_le (A.lt b hb) k.size⟩
theorem MemAt.blt {h : Heap} {L : ML} {M : MemS} (A : MemAt h L M) : ∀ b ∈ L.blocks, b < h.size := by
  intro b hb
  simp only [ML.blocks, List.mem_cons] at hb
  rcases hb with rfl | rfl | rfl | hb
  · exact obj_lt A.obj
  · exact A.loose.lt
  · exact A.way.lt
  · exact A.lt b hb
theorem MemAt.on {h h' : Heap} {L : ML} {M : MemS} (A : MemAt h L M) (k : Keeps [] h h') : MemAt h' L M := A.keep k (by simp)

def MemS.there (M : MemS) (i : Int) : Bool := decide (0 ≤ i) && decide (i < M.sure.length)
def MemS.read (M : MemS) (i : Int) : UInt64 := if M.there i then (lk M.loose i).getD (M.sure[i.toNat]?.getD 0) else 0

theorem there_spec {h : Heap} {L : ML} {M : MemS} (A : MemAt h L M) (i : Int) : CallH Tryz.prog 109 [.pointer (some ⟨L.m, 0, none⟩), .int .i64 i] h (fun v h' => Keeps [] h h' ∧ v = .bool (M.there i)) := by
  refine call_of hmix Tryz.func109 rfl ok109 (by simp [Tryz.f109]) ?_
  conv => whnf
  refine LoadR.u (.slice L.sa L.len L.cap) (fun _ => by unfold Heap.cell?; rw [A.obj]; rfl) ?_
  conv => whnf
  refine ⟨Keeps.refl _ _, ?_⟩
  have := A.sure.hlen
  simp [bif_and, MemS.there, this]

theorem mread_spec {h : Heap} {L : ML} {M : MemS} (A : MemAt h L M) (i : Int) : CallH Tryz.prog 60 [.pointer (some ⟨L.m, 0, none⟩), .int .i64 i] h (fun v h' => Keeps [] h h' ∧ v = wv (M.read i)) := by
  refine call_of hmix Tryz.func60 rfl ok60 (by simp [Tryz.f60]) ?_
  conv => whnf
  refine CallR.i (there_spec A i) fun v h1 k1 hv => ?_
  subst hv
  have A1 := A.on k1
  conv => whnf
  refine IfR.i (fun hc => ?_) (fun hc => ?_)
  · conv => whnf
    refine ⟨k1, ?_⟩
    have : M.there i = false := by simpa using hc
    unfold MemS.read; rw [this]
    first | done | rfl
  · have ht : M.there i = true := by simpa using hc
    conv => whnf
    refine LoadR.o A1.obj rfl ?_
    conv => whnf
    cases hl : lk M.loose i with
    | some w =>
      refine LookR.is A1.loose (by rw [lookI_mapW, hl]) ?_
      conv => whnf
      refine IfR.t rfl ?_
      conv => whnf
      refine ⟨k1, ?_⟩
      unfold MemS.read; rw [ht, hl]
      first | done | rfl
    | none =>
      refine LookR.is A1.loose (by rw [lookI_mapW, hl]) ?_
      conv => whnf
      refine IfR.f rfl ?_
      conv => whnf
      refine LoadR.o A1.obj rfl ?_
      conv => whnf
      have hn := A1.sure.hlen
      have hb : 0 ≤ i ∧ i < M.sure.length := by simpa [MemS.there] using ht
      obtain ⟨b, off, ha, _, hcell⟩ := A1.sure.at1 i.toNat (by omega)
      refine IdxS.i i.toNat (by omega) (by omega) ha ?_
      conv => whnf
      refine LoadR.i hcell ?_
      conv => whnf
      refine ⟨k1, ?_⟩
      unfold MemS.read; rw [ht, hl]
      have : i.toNat < M.sure.length := by omega
      simp [this]; rfl

/-- a call is counted -/
def MemS.call (M : MemS) (there : Bool) : Int × MemS :=
  let c := IntKind.i64.wrap (M.calls + 1)
  if M.until_ = 0 then (14, { M with calls := c })
  else
    let M2 := if 0 < M.until_ then { M with calls := c, until_ := IntKind.i64.wrap (M.until_ - 1) } else { M with calls := c }
    if there then (0, M2) else (1, M2)

theorem call_spec {h : Heap} {L : ML} {M : MemS} (A : MemAt h L M) (t : Bool) : CallH Tryz.prog 110 [.pointer (some ⟨L.m, 0, none⟩), .bool t] h (fun v h' => Keeps [L.m] h h' ∧ v = .int .i64 (M.call t).1 ∧ MemAt h' L (M.call t).2) := by
  refine call_of hmix Tryz.func110 rfl ok110 (by simp [Tryz.f110]) ?_
  conv => whnf
  refine IfR.f rfl ?_
  conv => whnf
  refine LoadR.o A.obj rfl ?_
  conv => whnf
  refine StoreR.i A.obj (Nat.le_of_ble_eq_true rfl) (by simp [blocksOf]) fun h1 s1 o1 k1 => ?_
  have nb : ∀ b ∈ L.lb :: L.wb :: blkA L.sa, b ∉ [L.m] := by
    intro b hb
    simp only [List.mem_cons] at hb
    simp only [List.mem_singleton]
    rcases hb with rfl | rfl | hb
    · exact fun e => A.ap3.1 e.symm
    · exact fun e => A.ap3.2 e.symm
    · exact (A.ap2 b hb).1
  have mk : ∀ {h' : Heap} (c u : Int), h'[L.m]? = some (.cells ⟨[.slice L.sa L.len L.cap, .map (some L.lb), .map (some L.wb), .int .i64 c, .int .i64 u]⟩ 82 (0, 0)) → Keeps [L.m] h h' → MemAt h' L { M with calls := c, until_ := u } :=
    fun c u o k => ⟨o, A.sure.keepM k (fun b hb => nb b (by simp [hb])), A.loose.keep k (nb _ (by simp)), A.way.keep k (nb _ (by simp)), A.ap1, A.ap2, fun b hb => Nat.lt_of_lt_of_le (A.lt b hb) k.size⟩
  have o1' : h1[L.m]? = some (.cells ⟨[.slice L.sa L.len L.cap, .map (some L.lb), .map (some L.wb), .int .i64 (IntKind.i64.wrap (M.calls + 1)), .int .i64 M.until_]⟩ 82 (0, 0)) := o1
  conv => whnf
  refine MeetR.pass ?_
  conv => whnf
  refine LoadR.o o1' rfl ?_
  conv => whnf
  refine IfR.i (fun hc => ?_) (fun hc => ?_)
  · conv => whnf
    have h0 : M.until_ = 0 := by simpa using hc
    refine ⟨k1, ?_⟩
    unfold MemS.call
    rw [if_pos h0]
    exact ⟨rfl, mk _ _ o1' k1⟩
  · have h0 : ¬ M.until_ = 0 := by simpa using hc
    conv => whnf
    refine LoadR.o o1' rfl ?_
    conv => whnf
    refine IfR.i (fun hd => ?_) (fun hd => ?_)
    · have h1 : 0 < M.until_ := by simpa using hd
      conv => whnf
      refine LoadR.o o1' rfl ?_
      conv => whnf
      refine StoreR.i o1' (Nat.le_of_ble_eq_true rfl) (by simp [blocksOf]) fun h2 s2 o2 k2 => ?_
      have o2' : h2[L.m]? = some (.cells ⟨[.slice L.sa L.len L.cap, .map (some L.lb), .map (some L.wb), .int .i64 (IntKind.i64.wrap (M.calls + 1)), .int .i64 (IntKind.i64.wrap (M.until_ - 1))]⟩ 82 (0, 0)) := o2
      conv => whnf
      refine IfR.i (fun he => ?_) (fun he => ?_)
      all_goals
        conv => whnf
        refine ⟨k1.trans k2, ?_⟩
        unfold MemS.call
        rw [if_neg h0, if_pos h1]
        cases t <;> first | (exact absurd he (by decide)) | exact ⟨rfl, mk _ _ o2' (k1.trans k2)⟩
    · have h1 : ¬ 0 < M.until_ := by simpa using hd
      conv => whnf
      refine IfR.i (fun he => ?_) (fun he => ?_)
      all_goals
        conv => whnf
        refine ⟨k1, ?_⟩
        unfold MemS.call
        rw [if_neg h0, if_neg h1]
        cases t <;> first | (exact absurd he (by decide)) | exact ⟨rfl, mk _ _ o1' k1⟩

def MemS.store (M : MemS) (i : Int) (w : UInt64) : Int × MemS :=
  if (M.call (M.there i)).1 = 0 then (0, { (M.call (M.there i)).2 with loose := putW (M.call (M.there i)).2.loose i w }) else M.call (M.there i)

theorem store_spec {h : Heap} {L : ML} {M : MemS} (A : MemAt h L M) (i : Int) (w : UInt64) : CallH Tryz.prog 61 [.pointer (some ⟨L.m, 0, none⟩), .int .i64 i, wv w] h (fun v h' => Keeps [L.m, L.lb] h h' ∧ v = .int .i64 (M.store i w).1 ∧ MemAt h' L (M.store i w).2) := by
  refine call_of hmix Tryz.func61 rfl ok61 (by simp [Tryz.f61]) ?_
  conv => whnf
  refine CallR.i (there_spec A i) fun v h1 k1 hv => ?_
  subst hv
  have A1 := A.on k1
  conv => whnf
  refine CallR.m (call_spec A1 (M.there i)) (by simp [blocksOf]) fun v h2 k2 hv => ?_
  obtain ⟨rfl, A2⟩ := hv
  conv => whnf
  refine MeetR.pass ?_
  conv => whnf
  refine IfR.i (fun hc => ?_) (fun hc => ?_)
  · have h0 : (M.call (M.there i)).1 = 0 := by simpa using hc
    conv => whnf
    refine LoadR.o A2.obj rfl ?_
    conv => whnf
    refine SemR.put rfl rfl A2.loose (by simp [blocksOf]) fun h3 s3 M3 k3 => ?_
    conv => whnf
    have k03 : Keeps [L.m, L.lb] h h3 := (k1.mono (by simp)).trans ((k2.mono (by simp)).trans (k3.mono (by simp)))
    refine ⟨k03, ?_⟩
    unfold MemS.store
    rw [if_pos h0]
    refine ⟨by simp [h0], ?_⟩
    have w3 : MapL h3 L.lb (mapW (putW (M.call (M.there i)).2.loose i w)) := by rw [← putI_mapW]; exact M3
    exact ⟨k3.obj A2.obj (by simpa using A2.ap3.1), A2.sure.keepM k3 (fun b hb => by simpa using (A2.ap2 b hb).2.1), w3, A2.way.keep k3 (by simpa using A2.ap1.symm), A2.ap1, A2.ap2, fun b hb => Nat.lt_of_lt_of_le (A2.lt b hb) k3.size⟩
  · have h0 : ¬ (M.call (M.there i)).1 = 0 := by simpa using hc
    conv => whnf
    refine ⟨(k1.mono (by simp)).trans (k2.mono (by simp)), ?_⟩
    unfold MemS.store
    rw [if_neg h0]
    exact ⟨rfl, A2⟩

theorem msize_spec {h : Heap} {L : ML} {M : MemS} (A : MemAt h L M) : CallH Tryz.prog 59 [.pointer (some ⟨L.m, 0, none⟩)] h (fun v h' => Keeps [] h h' ∧ v = .int .i64 M.sure.length) := by
  refine call_of hmix Tryz.func59 rfl ok59 (by simp [Tryz.f59]) ?_
  conv => whnf
  refine IfR.f rfl ?_
  conv => whnf
  refine LoadR.o A.obj rfl ?_
  conv => whnf
  exact ⟨Keeps.refl _ _, by rw [A.sure.hlen]⟩

end Go.Proofs.YtkjkdnphikendaaGreatDoor
/-
  Layers 5, 8: which words may be changed; a view.
-/
set_option linter.all false
set_option maxRecDepth 100000
namespace Go.Proofs.YtkjkdnphikendaaGreatDoor
open Go Go.Eng

/-- what a word is part of -/
def whatK (a : Int) : Int := if 0 ≤ a ∧ a < 8 then 1 else if 8 ≤ a ∧ a < 200 then 2 else if 200 ≤ a ∧ a < 296 then 3 else if 296 ≤ a ∧ a < 1288 then 4 else if 1288 ≤ a ∧ a < 2824 then 5 else 0
def openW (a : Int) : Bool := (decide (8 ≤ a) && decide (a < 296)) || (decide (1288 ≤ a) && decide (a < 2824))

theorem what_spec (a : Int) (h : Heap) : CallH Tryz.prog 225 [.int .i64 a] h (fun v h' => Keeps [] h h' ∧ ∃ i, v = .tuple #[.int .i64 (whatK a), .int .i64 i]) := by
  refine call_of hmix Tryz.func225 rfl ok225 (by simp [Tryz.f225]) ?_
  conv => whnf
  refine CallR.i (parts_spec h) fun v h1 k1 hv => ?_
  obtain ⟨b, rfl, o1⟩ := hv
  conv => whnf
  refine LoopR.on [0, 6, 7, 8] [] (fun i : Nat => [(0, .v (.int .i64 a)), (6, .v (.slice (some ⟨b, 0, none⟩) 5 5)), (7, .v (.int .i64 5)), (8, .v (.int .i64 (i : Int)))]) (fun _ => []) (fun i h' => i ≤ 5 ∧ Keeps [] h1 h' ∧ ∀ k : Nat, 1 ≤ k → k ≤ i → ¬ (fromK k ≤ a ∧ a < fromK k + countK k * wideK k)) (fun i => 5 - i) 0 ?_ ?_
  · conv => whnf
    exact ⟨0, rfl, rfl, rfl, by decide, Keeps.refl _ _, fun k h1 h2 => by omega⟩
  · rintro i h2 ⟨i5, k2, no⟩
    have o2 := k2.obj o1 (by simp)
    conv => whnf
    refine IfR.i (fun hc => ?_) (fun hc => ?_)
    · have hi : i < 5 := by simp at hc; omega
      conv => whnf
      refine IdxS.i i rfl hi rfl ?_
      conv => whnf
      refine LoadN.o (vs := [.int .i64 ((i + 1 : Nat) : Int), .int .i64 (fromK (i + 1)), .int .i64 (countK (i + 1)), .int .i64 (wideK (i + 1))]) o2 ?_ ?_
      · have : i = 0 ∨ i = 1 ∨ i = 2 ∨ i = 3 ∨ i = 4 := by omega
        rcases this with rfl | rfl | rfl | rfl | rfl <;> rfl
      conv => whnf
      refine AllocR.i fun b3 h3 e3 s3 o3 k3 => ?_
      conv => whnf
      refine BoxR.i fun h4 s4 k4 => ?_
      have k24 : Keeps [] h2 h4 := k3.new1 k4 (by omega)
      have bnd : 0 ≤ fromK (i + 1) ∧ fromK (i + 1) ≤ 1288 ∧ 0 ≤ countK (i + 1) * wideK (i + 1) ∧ countK (i + 1) * wideK (i + 1) ≤ 1536 ∧ 1 ≤ wideK (i + 1) := by
        have : i = 0 ∨ i = 1 ∨ i = 2 ∨ i = 3 ∨ i = 4 := by omega
        rcases this with rfl | rfl | rfl | rfl | rfl <;> decide
      have ew : IntKind.i64.wrap (fromK (i + 1) + IntKind.i64.wrap (countK (i + 1) * wideK (i + 1))) = fromK (i + 1) + countK (i + 1) * wideK (i + 1) := by
        rw [wrapI (x := countK (i + 1) * wideK (i + 1)) (by omega) (by omega), wrapI (by omega) (by omega)]
      have found : fromK (i + 1) ≤ a → a < fromK (i + 1) + countK (i + 1) * wideK (i + 1) → ((i + 1 : Nat) : Int) = whatK a := by
        intro h1 h2
        have : i = 0 ∨ i = 1 ∨ i = 2 ∨ i = 3 ∨ i = 4 := by omega
        unfold whatK
        rcases this with rfl | rfl | rfl | rfl | rfl <;> simp [fromK, countK, wideK] at h1 h2 ⊢ <;> (repeat' split) <;> omega
      have next : ¬ (fromK (i + 1) ≤ a ∧ a < fromK (i + 1) + countK (i + 1) * wideK (i + 1)) → ∀ k : Nat, 1 ≤ k → k ≤ i + 1 → ¬ (fromK k ≤ a ∧ a < fromK k + countK k * wideK k) := by
        intro hn k h1 h2
        rcases Nat.lt_or_ge k (i + 1) with h | h
        · exact no k h1 (by omega)
        · have : k = i + 1 := by omega
          subst this; exact hn
      refine IfR.i (fun hg => ?_) (fun hg => ?_)
      · have hg1 : fromK (i + 1) ≤ a := by simpa using hg
        conv => whnf
        refine CallR.i (end_spec _ _ _ _ h4) fun v h5 k5 hv => ?_
        subst hv
        rw [ew]
        conv => whnf
        refine IfR.i (fun hd => ?_) (fun hd => ?_)
        · have hd1 : a < fromK (i + 1) + countK (i + 1) * wideK (i + 1) := by simp [bif_and] at hd; exact hd.2
          conv => whnf
          refine Need.i (by omega) ?_
          conv => whnf
          exact ⟨k1.trans (k2.trans (k24.trans k5)), _, by rw [found hg1 hd1]⟩
        · have hd1 : ¬ a < fromK (i + 1) + countK (i + 1) * wideK (i + 1) := by
            intro hx; simp [bif_and] at hd; exact absurd hx (by have := hd hg1; omega)
          conv => whnf
          refine ⟨5 - (i + 1), by omega, ?_⟩
          conv => whnf
          exact ⟨i + 1, rfl, by rw [wrapN (n := i + 1) (by simp) (by omega)], rfl, by omega, k2.trans (k24.trans k5), next fun h => hd1 h.2⟩
      · have hg1 : ¬ fromK (i + 1) ≤ a := by simpa using hg
        conv => whnf
        refine IfR.i (fun hd => ?_) (fun hd => ?_)
        · exfalso; simp [bif_and] at hd; exact hg1 hd.1
        · conv => whnf
          refine ⟨5 - (i + 1), by omega, ?_⟩
          conv => whnf
          exact ⟨i + 1, rfl, by rw [wrapN (n := i + 1) (by simp) (by omega)], rfl, by omega, k2.trans k24, next fun h => hg1 h.1⟩
    · conv => whnf
      have hi : i = 5 := by simp at hc; omega
      subst hi
      refine ⟨k1.trans k2, 0, ?_⟩
      have h1 := no 1 (by omega) (by omega)
      have h2 := no 2 (by omega) (by omega)
      have h3 := no 3 (by omega) (by omega)
      have h4 := no 4 (by omega) (by omega)
      have h5 := no 5 (by omega) (by omega)
      simp [fromK, countK, wideK] at h1 h2 h3 h4 h5
      have : whatK a = 0 := by unfold whatK; (repeat' split) <;> omega
      rw [this]

theorem open_spec (a : Int) (h : Heap) : CallH Tryz.prog 195 [.int .i64 a] h (fun v h' => Keeps [] h h' ∧ v = .bool (openW a)) := by
  refine call_of hmix Tryz.func195 rfl ok195 (by simp [Tryz.f195]) ?_
  conv => whnf
  refine CallR.i (what_spec a h) fun v h1 k1 hv => ?_
  obtain ⟨i, rfl⟩ := hv
  conv => whnf
  refine ⟨k1, ?_⟩
  congr 1
  rw [bif_or, bif_or, Bool.eq_iff_iff]
  simp only [Bool.or_eq_true, beq_iff_eq, openW, Bool.and_eq_true, decide_eq_true_eq]
  unfold whatK
  (repeat' split) <;> omega

/-! ### A view -/

/-- words by number -/
def upd (f : Int → UInt64) (a : Int) (w : UInt64) : Int → UInt64 := fun x => if x = a then w else f x
def updL (f : Int → UInt64) (a : Int) (l : List UInt64) : Int → UInt64 := fun x => if a ≤ x ∧ x < a + l.length then l[(x - a).toNat]?.getD 0 else f x
def rdL (f : Int → UInt64) (a : Int) (n : Nat) : List UInt64 := (List.range n).map fun (i : Nat) => f (a + (i : Int))

theorem updL_nil (f : Int → UInt64) (a : Int) : updL f a [] = f := by
  funext x; unfold updL; rw [if_neg (by simp only [List.length_nil]; omega)]
theorem updL_step (f : Int → UInt64) (a : Int) (l : List UInt64) (i : Nat) (hi : i < l.length) : upd (updL f a (l.take i)) (a + (i : Int)) l[i] = updL f a (l.take (i + 1)) := by
  funext x
  unfold upd updL
  have h1 : (l.take i).length = i := by simp; omega
  have h2 : (l.take (i + 1)).length = i + 1 := by simp; omega
  rw [h1, h2]
  by_cases h : x = a + (i : Int)
  · subst h
    rw [if_pos rfl, if_pos (by omega)]
    have : (a + (i : Int) - a).toNat = i := by omega
    rw [this]; simp [hi]
  · rw [if_neg h]
    by_cases h3 : a ≤ x ∧ x < a + (i : Int)
    · rw [if_pos h3, if_pos (by omega)]
      have : (x - a).toNat < i := by omega
      simp [List.getElem?_take, this, show (x - a).toNat < i + 1 by omega]
    · rw [if_neg h3, if_neg (by omega)]

structure VS where
  now : Int → UInt64
  seen : List Int
  mine : List Int
  away : List Int
  awayN : List Int

/-- where a view lies -/
structure VL where
  v : Nat
  mem : ML
  ob : Nat
  sb : Nat
  mb : Nat
  ab : Option Nat
  anb : Option Nat

def VL.blocks (V : VL) : List Nat := V.v :: V.ob :: V.sb :: V.mb :: (V.mem.blocks ++ (V.ab.toList ++ V.anb.toList))
/-- its maps, that its calls write -/
def VL.fp (V : VL) : List Nat := [V.ob, V.sb, V.mb]

def SetAt (h : Heap) (r : Option Nat) (s : List Int) : Prop := match r with | none => s = [] | some r => MapL h r (setV s)
theorem SetAt.keep {F : List Nat} {h h' : Heap} {r : Option Nat} {s : List Int} (A : SetAt h r s) (k : Keeps F h h') (hF : ∀ b ∈ r.toList, b ∉ F) : SetAt h' r s := by
  cases r with
  | none => exact A
  | some r => exact MapL.keep A k (hF r (by simp))

structure At (h : Heap) (V : VL) (M : MemS) (X : VS) : Prop where
  mem : MemAt h V.mem M
  obj : h[V.v]? = some (.cells ⟨[.pointer (some ⟨V.mem.m, 0, none⟩), .map (some V.ob), .map (some V.sb), .map (some V.mb), .map V.ab, .map V.anb]⟩ 112 (0, 0))
  own : ∃ own : List (Int × UInt64), MapL h V.ob (mapW own) ∧ (∀ a, X.now a = (lk own a).getD (M.read a)) ∧ ∀ a, lk own a ≠ none → openW a = true
  seen : MapL h V.sb (setV X.seen)
  mine : MapL h V.mb (setV X.mine)
  away : SetAt h V.ab X.away
  awayN : SetAt h V.anb X.awayN
  ap1 : V.ob ≠ V.sb ∧ V.ob ≠ V.mb ∧ V.sb ≠ V.mb
  ap2 : ∀ b ∈ [V.v, V.ob, V.sb, V.mb], b ∉ V.mem.blocks
  ap3 : ∀ r ∈ V.ab.toList ++ V.anb.toList, r ≠ V.ob ∧ r ≠ V.sb ∧ r ≠ V.mb ∧ r ≠ V.v
  rng : ∀ x ∈ X.seen ++ X.mine, 0 ≤ x ∧ x < 24

theorem At.keep {F : List Nat} {h h' : Heap} {V : VL} {M : MemS} {X : VS} (A : At h V M X) (k : Keeps F h h') (hF : ∀ b ∈ V.blocks, b ∉ F) : At h' V M X where
  mem := A.mem.keep k (fun b hb => hF b (by simp [VL.blocks, hb]))
  obj := k.obj A.obj (hF _ (by simp [VL.blocks]))
  own := let ⟨own, h1, h2⟩ := A.own; ⟨own, h1.keep k (hF _ (by simp [VL.blocks])), h2⟩
  seen := A.seen.keep k (hF _ (by simp [VL.blocks]))
  mine := A.mine.keep k (hF _ (by simp [VL.blocks]))
  away := A.away.keep k (fun b hb => hF b (by simp only [VL.blocks, List.mem_cons, List.mem_append]; simp [hb]))
  awayN := A.awayN.keep k (fun b hb => hF b (by simp only [VL.blocks, List.mem_cons, List.mem_append]; simp [hb]))
  ap1 := A.ap1
  ap2 := A.ap2
  ap3 := A.ap3
  rng := A.rng
theorem At.on {h h' : Heap} {V : VL} {M : MemS} {X : VS} (A : At h V M X) (k : Keeps [] h h') : At h' V M X := A.keep k (by simp)

theorem At.blt {h : Heap} {V : VL} {M : MemS} {X : VS} (A : At h V M X) : ∀ b ∈ V.blocks, b < h.size := by
  have sl : ∀ (r : Option Nat) (s : List Int), SetAt h r s → ∀ b ∈ r.toList, b < h.size := by
    intro r s hs b hb
    cases r with
    | none => simp at hb
    | some r => simp at hb; subst hb; exact MapL.lt hs
  intro b hb
  simp only [VL.blocks, List.mem_cons, List.mem_append] at hb
  rcases hb with rfl | rfl | rfl | rfl | hb | hb | hb
  · exact obj_lt A.obj
  · obtain ⟨own, h1, _⟩ := A.own; exact h1.lt
  · exact A.seen.lt
  · exact A.mine.lt
  · exact A.mem.blt b hb
  · exact sl _ _ A.away b hb
  · exact sl _ _ A.awayN b hb
theorem At.vne {h : Heap} {V : VL} {M : MemS} {X : VS} (A : At h V M X) : V.v ≠ V.ob ∧ V.v ≠ V.sb ∧ V.v ≠ V.mb := by
  obtain ⟨own, h1, _⟩ := A.own
  exact ⟨obj_map_ne A.obj h1, obj_map_ne A.obj A.seen, obj_map_ne A.obj A.mine⟩

/-- words of the view's own are written -/
theorem At.put {h h' : Heap} {V : VL} {M : MemS} {X : VS} (A : At h V M X) {own : List (Int × UInt64)} (h2 : ∀ a, X.now a = (lk own a).getD (M.read a)) (h3 : ∀ a, lk own a ≠ none → openW a = true)
    {a : Int} {w : UInt64} (ho : openW a = true) (k : Keeps [V.ob] h h') (Mp : MapL h' V.ob (putI (mapW own) a (wv w))) : At h' V M { X with now := upd X.now a w } where
  mem := A.mem.keep k (fun b hb hx => by simp at hx; subst hx; exact A.ap2 _ (by simp) hb)
  obj := k.obj A.obj (by simpa using A.vne.1)
  own := ⟨putW own a w, by rw [← putI_mapW]; exact Mp, fun x => by
    rw [lk_put]
    show upd X.now a w x = _
    unfold upd
    split
    · rfl
    · exact h2 x, fun x hx => by
    rw [lk_put] at hx
    split at hx
    · rename_i e; subst e; exact ho
    · exact h3 x hx⟩
  seen := A.seen.keep k (by simpa using A.ap1.1.symm)
  mine := A.mine.keep k (by simpa using A.ap1.2.1.symm)
  away := A.away.keep k (fun b hb => by simpa using (A.ap3 b (by simp [hb])).1)
  awayN := A.awayN.keep k (fun b hb => by simpa using (A.ap3 b (by simp [hb])).1)
  ap1 := A.ap1
  ap2 := A.ap2
  ap3 := A.ap3
  rng := A.rng

theorem vread_spec {h : Heap} {V : VL} {M : MemS} {X : VS} (A : At h V M X) (a : Int) : CallH Tryz.prog 114 [.pointer (some ⟨V.v, 0, none⟩), .int .i64 a] h (fun v h' => Keeps [] h h' ∧ v = wv (X.now a)) := by
  refine call_of hmix Tryz.func114 rfl ok114 (by simp [Tryz.f114]) ?_
  conv => whnf
  refine IfR.f rfl ?_
  conv => whnf
  refine LoadR.o A.obj rfl ?_
  conv => whnf
  obtain ⟨own, h1, h2, h3⟩ := A.own
  cases hl : lk own a with
  | some w =>
    refine LookR.is h1 (by rw [lookI_mapW, hl]) ?_
    conv => whnf
    refine IfR.t rfl ?_
    conv => whnf
    exact ⟨Keeps.refl _ _, by rw [h2, hl]; rfl⟩
  | none =>
    refine LookR.is h1 (by rw [lookI_mapW, hl]) ?_
    conv => whnf
    refine IfR.f rfl ?_
    conv => whnf
    refine LoadR.o A.obj rfl ?_
    conv => whnf
    refine CallR.i (mread_spec A.mem a) fun v h4 k4 hv => ?_
    subst hv
    conv => whnf
    exact ⟨k4, by rw [h2, hl]; rfl⟩

theorem vwrite_spec {h : Heap} {V : VL} {M : MemS} {X : VS} (A : At h V M X) (a : Int) (w : UInt64) : CallH Tryz.prog 140 [.pointer (some ⟨V.v, 0, none⟩), .int .i64 a, wv w] h (fun v h' => Keeps [V.ob] h h' ∧ v = .int .i64 (if openW a then 0 else 1) ∧ At h' V M (if openW a then { X with now := upd X.now a w } else X)) := by
  refine call_of hmix Tryz.func140 rfl ok140 (by simp [Tryz.f140]) ?_
  conv => whnf
  refine IfR.t rfl ?_
  conv => whnf
  refine CallR.i (open_spec a h) fun v h1 k1 hv => ?_
  subst hv
  have A1 := A.on k1
  conv => whnf
  refine IfR.i (fun hc => ?_) (fun hc => ?_)
  · conv => whnf
    have ho : openW a = false := by simpa [bif_or] using hc
    rw [ho]
    exact ⟨k1.mono (by simp), rfl, A1⟩
  · have ho : openW a = true := by simpa [bif_or] using hc
    conv => whnf
    refine LoadR.o A1.obj rfl ?_
    conv => whnf
    obtain ⟨own, h1, h2, h3⟩ := A1.own
    refine SemR.put rfl rfl h1 (by simp [blocksOf]) fun h2 s2 M2 k2 => ?_
    conv => whnf
    rw [ho]
    exact ⟨(k1.mono (by simp)).trans k2, rfl, A1.put (by assumption) h3 ho k2 M2⟩

theorem splice_at {A B : List Value} {x v : Value} : spliceL A.length [v] (A ++ x :: B) = A ++ v :: B := by
  induction A with
  | nil => cases B <;> rfl
  | cons a A ih => simp only [List.length_cons, List.cons_append, spliceL, ih]

theorem read_spec {h : Heap} {V : VL} {M : MemS} {X : VS} (A : At h V M X) (a : Int) (n : Nat) (ha : 0 ≤ a ∧ a ≤ 1000000) (hn : n ≤ 1000000) : CallH Tryz.prog 117 [.pointer (some ⟨V.v, 0, none⟩), .int .i64 a, .int .i64 (n : Int)] h (fun v h' => Keeps [] h h' ∧ ∃ b, v = .slice (some ⟨b, 0, none⟩) n n ∧ h.size ≤ b ∧ b < h'.size ∧ h'[b]? = some (.cells ⟨(rdL X.now a n).map wv⟩ 56 (0, 0))) := by
  refine call_of hmix Tryz.func117 rfl ok117 (by simp [Tryz.f117]) ?_
  conv => whnf
  refine SemR.make rfl rfl rfl rfl rfl (by show 8 * n ≤ _; omega) (by omega) fun b1 h1 e1 s1 o1 k1 => ?_
  conv => whnf
  refine LoopR.on [0, 1, 7, 12, 13] [] (fun i : Nat => [(0, .v (.pointer (some ⟨V.v, 0, none⟩))), (1, .v (.int .i64 a)), (7, .v (.slice (some ⟨b1, 0, none⟩) n n)), (12, .v (.int .i64 (n : Int))), (13, .v (.int .i64 (i : Int)))]) (fun _ => [])
    (fun i h' => i ≤ n ∧ Keeps [] h h' ∧ h1.size ≤ h'.size ∧ h'[b1]? = some (.cells ⟨(rdL X.now a i).map wv ++ List.replicate (n - i) (.int .u64 0)⟩ 56 (0, 0))) (fun i => n - i) 0 ?_ ?_
  · conv => whnf
    exact ⟨0, rfl, rfl, rfl, Nat.zero_le _, k1, Nat.le_refl _, o1⟩
  · rintro i h2 ⟨hi, k2, z2, o2⟩
    conv => whnf
    refine IfR.i (fun hc => ?_) (fun hc => ?_)
    · have hi1 : i < n := by simp at hc; omega
      conv => whnf
      rw [wrapI (x := a + (i : Int)) (by omega) (by omega)]
      refine CallR.i (vread_spec (A.on k2) (a + (i : Int))) fun v h3 k3 hv => ?_
      subst hv
      conv => whnf
      refine IdxS.i i rfl hi1 rfl ?_
      have er : List.replicate (n - i) (Value.int .u64 0) = .int .u64 0 :: List.replicate (n - (i + 1)) (.int .u64 0) := by
        rw [show n - i = (n - (i + 1)) + 1 by omega, List.replicate_succ]
      rw [er] at o2
      have hlen : ((rdL X.now a i).map wv).length = i := by simp [rdL]
      conv => whnf
      refine StoreR.i (k3.obj o2 (by simp)) ?_ (by simp [blocksOf]) fun h4 s4 o4 k4 => ?_
      · simp only [List.length_append, List.length_cons, hlen, List.length_replicate]
        show 0 + i * 1 + 1 ≤ _
        omega
      conv => whnf
      refine ⟨n - (i + 1), by omega, ?_⟩
      conv => whnf
      refine ⟨i + 1, rfl, by rw [wrapN (n := i + 1) (by simp) (by omega)], rfl, by omega, (k2.trans k3).new1 k4 (by omega), by have := k3.size; omega, ?_⟩
      have e4 : spliceL (0 + i * 1) [wv (X.now (a + (i : Int)))] ((rdL X.now a i).map wv ++ .int .u64 0 :: List.replicate (n - (i + 1)) (.int .u64 0)) = (rdL X.now a (i + 1)).map wv ++ List.replicate (n - (i + 1)) (.int .u64 0) := by
        have := splice_at (A := (rdL X.now a i).map wv) (x := .int .u64 0) (v := wv (X.now (a + (i : Int)))) (B := List.replicate (n - (i + 1)) (.int .u64 0))
        rw [hlen] at this
        rw [show 0 + i * 1 = i by omega, this]
        simp [rdL, List.range_succ]
      rw [← e4]; exact o4
    · conv => whnf
      have hi1 : i = n := by simp at hc; omega
      subst hi1
      refine ⟨k2, b1, rfl, by omega, by have := k1.size; omega, ?_⟩
      simpa using o2

theorem writes_spec {h : Heap} {V : VL} {M : MemS} {X : VS} (A : At h V M X) (a : Int) {sa : Option Addr} {n c : Nat} {ws : List UInt64} (S : Sl h sa n c ws) (ha : 0 ≤ a ∧ a ≤ 1000000) (hn : n ≤ 1000000) (ho : ∀ i : Nat, i < n → openW (a + (i : Int)) = true) (hs : V.ob ∉ blkA sa) :
    CallH Tryz.prog 125 [.pointer (some ⟨V.v, 0, none⟩), .int .i64 a, .slice sa n c] h (fun v h' => Keeps [V.ob] h h' ∧ At h' V M { X with now := updL X.now a ws }) := by
  refine call_of hmix Tryz.func125 rfl ok125 (by simp [Tryz.f125]) ?_
  conv => whnf
  have hl := S.hlen
  refine LoopR.on [0, 1, 8, 9, 10] [] (fun i : Nat => [(0, .v (.pointer (some ⟨V.v, 0, none⟩))), (1, .v (.int .i64 a)), (8, .v (.slice sa n c)), (9, .v (.int .i64 (n : Int))), (10, .v (.int .i64 (i : Int)))]) (fun _ => [])
    (fun i h' => i ≤ n ∧ Keeps [V.ob] h h' ∧ At h' V M { X with now := updL X.now a (ws.take i) }) (fun i => n - i) 0 ?_ ?_
  · conv => whnf
    exact ⟨0, rfl, rfl, rfl, Nat.zero_le _, Keeps.refl _ _, by rw [List.take_zero, updL_nil]; exact A⟩
  · rintro i h2 ⟨hi, k2, A2⟩
    conv => whnf
    refine IfR.i (fun hc => ?_) (fun hc => ?_)
    · have hi1 : i < ws.length := by simp at hc; omega
      have S2 := S.keepM k2 (fun b hb hx => by simp at hx; subst hx; exact hs hb)
      obtain ⟨b, off, hb, _, hcell⟩ := S2.at1 i hi1
      conv => whnf
      refine IdxS.i i rfl (by omega) hb ?_
      conv => whnf
      refine LoadR.i hcell ?_
      conv => whnf
      refine LoadR.o A2.obj rfl ?_
      conv => whnf
      rw [wrapI (x := a + (i : Int)) (by omega) (by omega)]
      obtain ⟨own, q1, q2, q3⟩ := A2.own
      refine SemR.put rfl rfl q1 (by simp [blocksOf]) fun h3 s3 M3 k3 => ?_
      conv => whnf
      refine ⟨n - (i + 1), by omega, ?_⟩
      conv => whnf
      refine ⟨i + 1, rfl, by rw [wrapN (n := i + 1) (by simp) (by omega)], rfl, by omega, k2.trans k3, ?_⟩
      have := A2.put q2 q3 (ho i (by omega)) k3 M3
      simp only at this
      rw [updL_step X.now a ws i hi1] at this
      exact this
    · conv => whnf
      have hi1 : i = ws.length := by simp at hc; omega
      rw [hi1, List.take_length] at A2
      exact ⟨k2, A2⟩
end Go.Proofs.YtkjkdnphikendaaGreatDoor
/-
  Layers 8, 9: blocks of a view, and who has them.
-/
set_option linter.all false
set_option maxRecDepth 100000
namespace Go.Proofs.YtkjkdnphikendaaGreatDoor
open Go Go.Eng

theorem block_spec {h : Heap} {V : VL} {M : MemS} {X : VS} (A : At h V M X) (k : Int) : CallH Tryz.prog 136 [.pointer (some ⟨V.v, 0, none⟩), .int .i64 k] h (fun v h' => Keeps [] h h' ∧
    ((0 ≤ k ∧ k < 96 ∧ ∃ b, v = .tuple #[.slice (some ⟨b, 0, none⟩) 16 16, .int .i64 0] ∧ h.size ≤ b ∧ b < h'.size ∧ h'[b]? = some (.cells ⟨(rdL X.now (1288 + k * 16) 16).map wv⟩ 56 (0, 0))) ∨ (¬ (0 ≤ k ∧ k < 96) ∧ v = .tuple #[.slice none 0 0, .int .i64 1]))) := by
  refine call_of hmix Tryz.func136 rfl ok136 (by simp [Tryz.f136]) ?_
  conv => whnf
  refine CallR.i (blockAt_spec k h) fun v h1 k1 hv => ?_
  subst hv
  conv => whnf
  refine IfR.i (fun hc => ?_) (fun hc => ?_)
  · conv => whnf
    refine ⟨k1, .inr ⟨fun hk => ?_, rfl⟩⟩
    rw [if_pos hk] at hc
    simp [bif_or] at hc
  · have hk : 0 ≤ k ∧ k < 96 := Classical.byContradiction fun hk => by
      rw [if_neg hk] at hc
      simp [bif_or] at hc
    rw [if_pos hk]
    conv => whnf
    refine CallR.i (read_spec (A.on k1) (1288 + k * 16) 16 (by omega) (by omega)) fun v h2 k2 hv => ?_
    obtain ⟨b, rfl, q1, q2, q3⟩ := hv
    conv => whnf
    exact ⟨k1.trans k2, .inl ⟨hk.1, hk.2, b, rfl, by have := k1.size; omega, q2, q3⟩⟩

/-- a block's words, and noughts behind -/
def fullB (ws : List UInt64) : List UInt64 := ws ++ List.replicate (16 - ws.length) 0
def putBlk (f : Int → UInt64) (k : Int) (ws : List UInt64) : Int → UInt64 := updL f (1288 + k * 16) (fullB ws)

theorem allOne_wv : ∀ l : List UInt64, allOne (l.map wv) = true
  | [] => rfl
  | x :: l => by simpa [allOne, oneV, wv] using allOne_wv l

theorem _root_.Go.Eng.Sl.nonnil {α : Type} [Rp α] {h : Heap} {a : Option Addr} {len cap : Nat} {xs : List α} (s : Sl h a len cap xs) (hp : 0 < len) : ∃ b off, a = some ⟨b, off, none⟩ := by
  obtain ⟨b, off, ha, _⟩ := s.at_ 0 (by rw [← s.hlen]; exact hp)
  exact ⟨b, off, ha⟩

theorem splice_head {A B : List Value} {x : Value} : spliceL 0 A (List.replicate A.length x ++ B) = A ++ B := by
  induction A with
  | nil => cases B <;> simp [spliceL]
  | cons a A ih => simp only [List.length_cons, List.replicate_succ, List.cons_append, spliceL]; rw [ih]

theorem setBlock_spec {h : Heap} {V : VL} {M : MemS} {X : VS} (A : At h V M X) (k : Int) {sa : Option Addr} {n c : Nat} {ws : List UInt64} (S : Sl h sa n c ws) (hs : V.ob ∉ blkA sa) :
    CallH Tryz.prog 141 [.pointer (some ⟨V.v, 0, none⟩), .int .i64 k, .slice sa n c] h (fun v h' => Keeps [V.ob] h h' ∧ v = .int .i64 (if 0 ≤ k ∧ k < 96 ∧ n ≤ 16 then 0 else 1) ∧ At h' V M (if 0 ≤ k ∧ k < 96 ∧ n ≤ 16 then { X with now := putBlk X.now k ws } else X)) := by
  refine call_of hmix Tryz.func141 rfl ok141 (by simp [Tryz.f141]) ?_
  conv => whnf
  refine CallR.i (blockAt_spec k h) fun v h1 k1 hv => ?_
  subst hv
  have A1 := A.on k1
  conv => whnf
  refine IfR.i (fun hc => ?_) (fun hc => ?_)
  · conv => whnf
    have hn : ¬ (0 ≤ k ∧ k < 96 ∧ n ≤ 16) := fun hk => by
      rw [if_pos ⟨hk.1, hk.2.1⟩] at hc
      simp [bif_or] at hc; omega
    rw [if_neg hn, if_neg hn]
    exact ⟨k1.mono (by simp), rfl, A1⟩
  · have hk : 0 ≤ k ∧ k < 96 ∧ n ≤ 16 := by
      by_cases hk : 0 ≤ k ∧ k < 96
      · rw [if_pos hk] at hc
        simp [bif_or] at hc; omega
      · rw [if_neg hk] at hc
        simp [bif_or] at hc
    rw [if_pos hk, if_pos hk, if_pos ⟨hk.1, hk.2.1⟩]
    have hl := S.hlen
    conv => whnf
    refine SemR.make (n := 16) rfl rfl rfl rfl rfl (by decide) (by decide) fun b2 h2 e2 s2 o2 k2 => ?_
    have S2 := S.keep (k1.trans k2)
    have o2' : h2[b2]? = some (.cells ⟨List.replicate n (.int .u64 0) ++ List.replicate (16 - n) (.int .u64 0)⟩ 56 (0, 0)) := by
      rw [o2, List.replicate_append_replicate, show n + (16 - n) = 16 by omega]
    -- what is copied
    have fin : ∀ h3, h2.size ≤ h3.size → Keeps [b2] h2 h3 → h3[b2]? = some (.cells ⟨(fullB ws).map wv⟩ 56 (0, 0)) → At h3 V M X ∧ Sl h3 (some ⟨b2, 0, none⟩) 16 16 (fullB ws) ∧ V.ob ∉ blkA (some ⟨b2, 0, none⟩) := by
      intro h3 s3 k3 o3
      have hV : V.ob < h.size := by obtain ⟨own, q, _⟩ := A.own; exact q.lt
      have z1 := k1.size
      refine ⟨A.on ((k1.trans k2).new1 k3 (by omega)), Sl.of1' o3 (by simp [One.ok]) (by simp [fullB]; omega) (by simp [fullB]; omega), ?_⟩
      simp [blkA]; omega
    have rest : ∀ h3, h2.size ≤ h3.size → Keeps [b2] h2 h3 → h3[b2]? = some (.cells ⟨(fullB ws).map wv⟩ 56 (0, 0)) → CallH Tryz.prog 125 [.pointer (some ⟨V.v, 0, none⟩), .int .i64 (1288 + k * 16), .slice (some ⟨b2, 0, none⟩) 16 16] h3 (fun v h' => Keeps [V.ob] h3 h' ∧ At h' V M { X with now := putBlk X.now k ws }) := by
      intro h3 s3 k3 o3
      obtain ⟨A3, S3, n3⟩ := fin h3 s3 k3 o3
      refine writes_spec A3 (1288 + k * 16) S3 (by omega) (by decide) (fun i hi => ?_) n3
      simp [openW]; omega
    conv => whnf
    rcases Nat.eq_zero_or_pos n with h0 | h0
    · subst h0
      have hw : ws = [] := List.eq_nil_of_length_eq_zero hl.symm
      subst hw
      refine SemR.copy0 rfl rfl (by simp) ?_
      conv => whnf
      refine CallR.m (rest h2 (Nat.le_refl _) (Keeps.refl _ _) (by rw [o2]; rfl)) (by simp [blocksOf]) fun v h4 k4 hv => ?_
      conv => whnf
      exact ⟨((k1.trans k2).mono (by simp)).trans k4, rfl, hv⟩
    · obtain ⟨xb, xo, rfl⟩ := S.nonnil h0
      refine SemR.copy (sz := 1) (new := ws.map wv) rfl rfl rfl o2' (by rw [List.length_map, ← hl]; omega) (S2.cells1) (allOne_wv ws) (by simp only [List.length_map, List.length_append, List.length_replicate]; omega) (by simp [blocksOf]) fun h3 s3 o3 k3 => ?_
      have o3' : h3[b2]? = some (.cells ⟨(fullB ws).map wv⟩ 56 (0, 0)) := by
        rw [o3]
        have : n = (ws.map wv).length := by simp [hl]
        rw [this, splice_head]
        simp [fullB, wv]
      conv => whnf
      refine CallR.m (rest h3 (by omega) k3 o3') (by simp [blocksOf]) fun v h4 k4 hv => ?_
      conv => whnf
      exact ⟨(((k1.trans k2).new1 k3 (by have := k1.size; omega)).mono (by simp)).trans k4, rfl, hv⟩

theorem avoids_spec {h : Heap} {V : VL} {M : MemS} {X : VS} (A : At h V M X) (k : Int) : CallH Tryz.prog 194 [.pointer (some ⟨V.v, 0, none⟩), .int .i64 k] h (fun v h' => Keeps [] h h' ∧ v = .bool (decide (k ∈ X.away))) := by
  have ha := A.away
  have ho := A.obj
  cases hab : V.ab with
  | none =>
    rw [hab] at ha ho
    refine call_of hmix Tryz.func194 rfl ok194 (by simp [Tryz.f194]) ?_
    conv => whnf
    refine LoadR.u (.map none) (fun _ => by unfold Heap.cell?; rw [ho]; rfl) ?_
    conv => whnf
    have : X.away = [] := ha
    exact ⟨Keeps.refl _ _, by rw [this]; rfl⟩
  | some r =>
    rw [hab] at ha ho
    refine call_of hmix Tryz.func194 rfl ok194 (by simp [Tryz.f194]) ?_
    conv => whnf
    refine LoadR.u (.map (some r)) (fun _ => by unfold Heap.cell?; rw [ho]; rfl) ?_
    conv => whnf
    refine LookR.z (.bool false) ha rfl (setV_get _ _) ?_
    conv => whnf
    exact ⟨Keeps.refl _ _, rfl⟩

/-- is a block free for a view over words? -/
def freshB (B : Int → UInt64) (X : VS) (k : Int) : Bool := (decide (0 ≤ k) && decide (k < 96)) && (decide (B (200 + k) = 0) && (decide (X.now (200 + k) = 0) && !decide (k ∈ X.away)))

theorem wv_zero (w : UInt64) : (((w.toNat : Int) == 0) : Bool) = decide (w = 0) := by
  rw [Bool.eq_iff_iff]; simp
  constructor
  · intro h; exact UInt64.toNat_inj.1 (by simpa using h)
  · rintro rfl; rfl

theorem fresh_spec {h : Heap} {V : VL} {M : MemS} {X : VS} (A : At h V M X) (k : Int) : CallH Tryz.prog 138 [.pointer (some ⟨V.v, 0, none⟩), .int .i64 k] h (fun v h' => Keeps [] h h' ∧ v = .bool (freshB M.read X k)) := by
  refine call_of hmix Tryz.func138 rfl ok138 (by simp [Tryz.f138]) ?_
  conv => whnf
  refine CallR.i (ownerAt_spec k h) fun v h1 k1 hv => ?_
  subst hv
  have A1 := A.on k1
  conv => whnf
  refine LoadR.u (.pointer (some ⟨V.mem.m, 0, none⟩)) (fun _ => by unfold Heap.cell?; rw [A1.obj]; rfl) ?_
  conv => whnf
  refine IfR.i (fun hc => ?_) (fun hc => ?_)
  case refine_1 =>
    have hk : 0 ≤ k ∧ k < 96 := Classical.byContradiction fun hk => by
      rw [if_neg hk] at hc; simp [bif_and] at hc
    rw [if_pos hk, if_pos hk, Int.mul_one]
    conv => whnf
    refine CallR.i (mread_spec A1.mem (200 + k)) fun v h2 k2 hv => ?_
    subst hv
    have A2 := A1.on k2
    conv => whnf
    refine IfR.i (fun hd => ?_) (fun hd => ?_)
    · have hm : M.read (200 + k) = 0 := by simpa [bif_and, wv_zero] using hd
      conv => whnf
      refine CallR.i (vread_spec A2 (200 + k)) fun v h3 k3 hv => ?_
      subst hv
      have A3 := A2.on k3
      conv => whnf
      refine IfR.i (fun he => ?_) (fun he => ?_)
      · have hn : X.now (200 + k) = 0 := by
          simp [bif_and, hm, wv_zero] at he; exact he
        conv => whnf
        refine CallR.i (avoids_spec A3 k) fun v h4 k4 hv => ?_
        subst hv
        conv => whnf
        refine ⟨k1.trans (k2.trans (k3.trans k4)), ?_⟩
        simp [freshB, hk, hm, hn, bif_and]
      · have hn : ¬ X.now (200 + k) = 0 := by
          intro hn; simp [bif_and, hm, hn] at he
        conv => whnf
        refine ⟨k1.trans (k2.trans k3), ?_⟩
        simp [freshB, hn, bif_and, wv_zero]
    · have hm : ¬ M.read (200 + k) = 0 := by
        intro hm; simp [bif_and, hm] at hd
      conv => whnf
      refine IfR.i (fun he => ?_) (fun he => ?_)
      · exfalso; simp [bif_and, wv_zero, hm] at he
      · conv => whnf
        refine ⟨k1.trans k2, ?_⟩
        simp [freshB, hm, bif_and, wv_zero]
  case refine_2 =>
    have hk : ¬ (0 ≤ k ∧ k < 96) := fun hk => by
      rw [if_pos hk] at hc; simp [bif_and] at hc
    rw [if_neg hk, if_neg hk]
    conv => whnf
    refine IfR.i (fun hd => ?_) (fun hd => ?_)
    · exfalso; simp [bif_and] at hd
    · conv => whnf
      refine IfR.i (fun hd => ?_) (fun hd => ?_)
      · exfalso; simp [bif_and] at hd
      · conv => whnf
        refine ⟨k1, ?_⟩
        have : freshB M.read X k = false := by
          unfold freshB
          have : (decide (0 ≤ k) && decide (k < 96)) = false := by
            rw [Bool.eq_false_iff]; intro h; simp at h; exact hk h
          rw [this]; rfl
        rw [this]; rfl
end Go.Proofs.YtkjkdnphikendaaGreatDoor
