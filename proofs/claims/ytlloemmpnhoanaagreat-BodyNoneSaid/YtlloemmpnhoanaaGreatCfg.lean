/-
  The functions' settings for the engine, and what the kernel says of them.
-/
import Derived.Test.YtlloemmpnhoanaaGreatEngR
import Derived.Test.YtlloemmpnhoanaaGreatProg
set_option linter.all false
namespace Go.Proofs.YtlloemmpnhoanaaGreat
open Go Go.Eng
theorem hmix : Tryz.prog.follows .mixedOrders = true := by kernel_rfl
def C3 : Cfg := ⟨[0, 2, 3, 4, 6, 14, 23], [], [], [], []⟩   -- escritoire/escritoirelaw10.BodyPlays
theorem ok3 : codeOK Tryz.prog C3 Tryz.f3.ntmps ((Tryz.f3.body).getD .skip) = true := by kernel_rfl
def C4 : Cfg := ⟨[0, 1, 4, 5, 6, 7, 8, 10, 25, 57], [5], [5, 33, 48, 58, 61, 71, 76, 81], [], [(10, .cons 0 (.cons 1 (.cons 3 (.cons 4 (.cons 2 (.cons 5 (.cons 6 (.cons 7 (.nil)))))))))]⟩   -- escritoire/escritoirelaw10.BodyApart
theorem ok4 : codeOK Tryz.prog C4 Tryz.f4.ntmps ((Tryz.f4.body).getD .skip) = true := by kernel_rfl
def C5 : Cfg := ⟨[0, 1, 4, 5, 6, 7, 8, 9, 11, 19, 28, 56, 72, 78], [], [], [], []⟩   -- escritoire/escritoirelaw10.BodyNone
theorem ok5 : codeOK Tryz.prog C5 Tryz.f5.ntmps ((Tryz.f5.body).getD .skip) = true := by kernel_rfl
def C6 : Cfg := ⟨[0, 1, 2, 4, 5, 6, 7, 12], [2, 4], [2, 4, 32, 37], [], []⟩   -- escritoire/escritoirelaw10.lives
theorem ok6 : codeOK Tryz.prog C6 Tryz.f6.ntmps ((Tryz.f6.body).getD .skip) = true := by kernel_rfl
def C7 : Cfg := ⟨[0, 1, 2, 3], [0, 3], [0, 3], [], []⟩   -- escritoire/escritoirelaw10.two
theorem ok7 : codeOK Tryz.prog C7 Tryz.f7.ntmps ((Tryz.f7.body).getD .skip) = true := by kernel_rfl
def C8 : Cfg := ⟨[0, 2], [], [], [], []⟩   -- escritoire/escritoirelaw10.early
theorem ok8 : codeOK Tryz.prog C8 Tryz.f8.ntmps ((Tryz.f8.body).getD .skip) = true := by kernel_rfl
def C9 : Cfg := ⟨[0, 1, 3, 4, 5, 6, 7, 8, 9, 10, 11, 12, 13, 14, 15, 16, 18, 19, 59], [3, 5, 9], [3, 5, 9, 34, 36, 46, 48, 74, 84, 104, 106, 116, 118], [], [(3, .cons 0 (.cons 1 (.cons 2 (.cons 3 (.cons 4 (.cons 5 (.cons 6 (.cons 7 (.cons 8 (.cons 9 (.cons 10 (.cons 11 (.cons 12 (.cons 13 (.cons 14 (.cons 15 (.both (.cons 16 (.cons 17 (.cons 18 (.cons 19 (.cons 20 (.cons 21 (.cons 22 (.nil)))))))) (.cons 20 (.cons 16 (.cons 17 (.cons 18 (.cons 19 (.cons 21 (.cons 22 (.nil))))))))))))))))))))))))), (7, .cons 0 (.cons 1 (.cons 2 (.cons 3 (.cons 4 (.cons 5 (.cons 6 (.cons 7 (.cons 8 (.cons 9 (.cons 10 (.cons 11 (.cons 12 (.cons 13 (.both (.cons 14 (.cons 15 (.cons 16 (.cons 17 (.cons 18 (.cons 19 (.cons 20 (.nil)))))))) (.cons 18 (.cons 14 (.cons 15 (.cons 16 (.cons 17 (.cons 19 (.cons 20 (.nil)))))))))))))))))))))))]⟩   -- (*escritoire/escritoirelaw10.File).step
theorem ok9 : codeOK Tryz.prog C9 Tryz.f9.ntmps ((Tryz.f9.body).getD .skip) = true := by kernel_rfl
def C10 : Cfg := ⟨[0, 2, 3, 4], [], [], [], []⟩   -- (*escritoire/escritoirelaw10.File).whole
theorem ok10 : codeOK Tryz.prog C10 Tryz.f10.ntmps ((Tryz.f10.body).getD .skip) = true := by kernel_rfl
def C11 : Cfg := ⟨[0, 2, 3, 4, 5, 6, 7, 8, 22, 28, 40, 47, 79], [], [], [], []⟩   -- (*escritoire/escritoirelaw10.File).own
theorem ok11 : codeOK Tryz.prog C11 Tryz.f11.ntmps ((Tryz.f11.body).getD .skip) = true := by kernel_rfl
def C12 : Cfg := ⟨[0, 2, 3, 4, 5, 6, 10], [], [], [], []⟩   -- escritoire/store.Free
theorem ok12 : codeOK Tryz.prog C12 Tryz.f12.ntmps ((Tryz.f12.body).getD .skip) = true := by kernel_rfl
def C13 : Cfg := ⟨[0, 1, 2, 3, 5, 8, 9, 10, 11, 12, 13, 14, 15, 16, 17, 18, 32, 46, 54, 55, 56, 57, 63, 67, 79], [5], [5, 43, 48], [], []⟩   -- escritoire/body.Read
theorem ok13 : codeOK Tryz.prog C13 Tryz.f13.ntmps ((Tryz.f13.body).getD .skip) = true := by kernel_rfl
def C14 : Cfg := ⟨[0, 2, 6], [], [], [], []⟩   -- escritoire/view.New
theorem ok14 : codeOK Tryz.prog C14 Tryz.f14.ntmps ((Tryz.f14.body).getD .skip) = true := by kernel_rfl
def C15 : Cfg := ⟨[0, 2], [], [], [], []⟩   -- escritoire/memory.Load
theorem ok15 : codeOK Tryz.prog C15 Tryz.f15.ntmps ((Tryz.f15.body).getD .skip) = true := by kernel_rfl
def C16 : Cfg := ⟨[0, 2, 3, 4, 16], [], [], [], []⟩   -- escritoire/escritoirelaw10.image
theorem ok16 : codeOK Tryz.prog C16 Tryz.f16.ntmps ((Tryz.f16.body).getD .skip) = true := by kernel_rfl
def C17 : Cfg := ⟨[0, 1, 4, 5, 6, 12], [4, 6], [4, 6, 17, 18], [], []⟩   -- escritoire/escritoireref06.Fresh
theorem ok17 : codeOK Tryz.prog C17 Tryz.f17.ntmps ((Tryz.f17.body).getD .skip) = true := by kernel_rfl
def C18 : Cfg := ⟨[0, 1, 2, 3, 4, 7, 10, 11, 12, 14, 15, 16, 17, 18, 19, 20, 21, 22, 23, 24, 38, 40, 50, 54, 68, 80, 88, 99, 112, 152], [7, 10], [7, 10, 155, 159], [], []⟩   -- escritoire/body.Write
theorem ok18 : codeOK Tryz.prog C18 Tryz.f18.ntmps ((Tryz.f18.body).getD .skip) = true := by kernel_rfl
def C19 : Cfg := ⟨[0, 1, 2], [1], [1, 3], [], []⟩   -- (escritoire/escritoirelaw10.Op).kind
theorem ok19 : codeOK Tryz.prog C19 Tryz.f19.ntmps ((Tryz.f19.body).getD .skip) = true := by kernel_rfl
def C20 : Cfg := ⟨[0, 1, 2, 6, 7, 14, 16, 22, 29], [], [], [], []⟩   -- escritoire/escritoireref10.Write
theorem ok20 : codeOK Tryz.prog C20 Tryz.f20.ntmps ((Tryz.f20.body).getD .skip) = true := by kernel_rfl
def C21 : Cfg := ⟨[0, 1, 2, 3, 4, 6, 10, 11, 12, 18, 27], [6], [6], [], []⟩   -- (*escritoire/escritoirelaw10.File).end
theorem ok21 : codeOK Tryz.prog C21 Tryz.f21.ntmps ((Tryz.f21.body).getD .skip) = true := by kernel_rfl
def C22 : Cfg := ⟨[0, 1, 2, 3, 6, 8, 9, 10, 11, 12, 13, 14, 15, 16, 20, 28, 39, 43, 44, 45, 66, 69, 90, 103], [6, 8], [6, 8, 57, 108], [], []⟩   -- escritoire/body.Cut
theorem ok22 : codeOK Tryz.prog C22 Tryz.f22.ntmps ((Tryz.f22.body).getD .skip) = true := by kernel_rfl
def C23 : Cfg := ⟨[0, 1, 4, 5, 7, 9, 13], [], [], [], []⟩   -- escritoire/escritoireref10.Cut
theorem ok23 : codeOK Tryz.prog C23 Tryz.f23.ntmps ((Tryz.f23.body).getD .skip) = true := by kernel_rfl
def C24 : Cfg := ⟨[0, 1, 2, 6, 7, 17, 21], [], [], [], []⟩   -- escritoire/escritoireref10.Read
theorem ok24 : codeOK Tryz.prog C24 Tryz.f24.ntmps ((Tryz.f24.body).getD .skip) = true := by kernel_rfl
def C25 : Cfg := ⟨[0, 1, 2, 3, 6, 13, 21], [1], [1, 4, 8, 17, 18, 22, 26, 31, 36, 41, 46, 51], [], []⟩   -- escritoire/escritoireref06.Right
theorem ok25 : codeOK Tryz.prog C25 Tryz.f25.ntmps ((Tryz.f25.body).getD .skip) = true := by kernel_rfl
def C26 : Cfg := ⟨[0, 1, 3, 4, 5, 6, 7, 8, 9, 10, 12, 21, 31, 32, 33, 34, 35, 40, 52], [], [], [], []⟩   -- escritoire/body.Map
theorem ok26 : codeOK Tryz.prog C26 Tryz.f26.ntmps ((Tryz.f26.body).getD .skip) = true := by kernel_rfl
def C27 : Cfg := ⟨[0, 1, 4, 5, 6, 7, 8, 16, 22], [], [], [], []⟩   -- escritoire/store.Owner
theorem ok27 : codeOK Tryz.prog C27 Tryz.f27.ntmps ((Tryz.f27.body).getD .skip) = true := by kernel_rfl
def C28 : Cfg := ⟨[0, 1, 4, 5, 9, 17], [], [], [], []⟩   -- escritoire/escritoireref08.Has
theorem ok28 : codeOK Tryz.prog C28 Tryz.f28.ntmps ((Tryz.f28.body).getD .skip) = true := by kernel_rfl
def C29 : Cfg := ⟨[0, 1, 4, 5, 6], [], [], [], []⟩   -- (*escritoire/view.View).Fresh
theorem ok29 : codeOK Tryz.prog C29 Tryz.f29.ntmps ((Tryz.f29.body).getD .skip) = true := by kernel_rfl
def C30 : Cfg := ⟨[0, 1, 4, 5, 6, 7, 10, 19], [], [], [], []⟩   -- escritoire/body.text
theorem ok30 : codeOK Tryz.prog C30 Tryz.f30.ntmps ((Tryz.f30.body).getD .skip) = true := by kernel_rfl
def C31 : Cfg := ⟨[0, 1, 4, 5], [], [], [], []⟩   -- (*strings.Builder).WriteString
theorem ok31 : codeOK Tryz.prog C31 Tryz.f31.ntmps ((Tryz.f31.body).getD .skip) = true := by kernel_rfl
def C32 : Cfg := ⟨[0, 2], [], [], [], [(1, .cons 0 (.cons 1 (.cons 2 (.cons 3 (.cons 5 (.cons 6 (.cons 7 (.both (.cons 4 (.cons 8 (.cons 9 (.cons 10 (.cons 11 (.nil)))))) (.cons 8 (.both (.cons 4 (.cons 9 (.cons 10 (.cons 11 (.nil))))) (.cons 9 (.cons 4 (.cons 10 (.cons 11 (.nil)))))))))))))))]⟩   -- (*strings.Builder).String
theorem ok32 : codeOK Tryz.prog C32 Tryz.f32.ntmps ((Tryz.f32.body).getD .skip) = true := by kernel_rfl
def C33 : Cfg := ⟨[0, 2, 4], [], [], [], []⟩   -- (*escritoire/memory.Memory).Size
theorem ok33 : codeOK Tryz.prog C33 Tryz.f33.ntmps ((Tryz.f33.body).getD .skip) = true := by kernel_rfl
def C34 : Cfg := ⟨[0], [], [], [], []⟩   -- escritoire/plan.Size
theorem ok34 : codeOK Tryz.prog C34 Tryz.f34.ntmps ((Tryz.f34.body).getD .skip) = true := by kernel_rfl
def C35 : Cfg := ⟨[0, 2, 4], [], [], [], []⟩   -- slices.Clone[[]uint64,uint64]
theorem ok35 : codeOK Tryz.prog C35 Tryz.f35.ntmps ((Tryz.f35.body).getD .skip) = true := by kernel_rfl
def C36 : Cfg := ⟨[0, 1], [], [], [], []⟩   -- escritoire/plan.Head
theorem ok36 : codeOK Tryz.prog C36 Tryz.f36.ntmps ((Tryz.f36.body).getD .skip) = true := by kernel_rfl
def C37 : Cfg := ⟨[0, 2], [2], [2], [], []⟩   -- escritoire/escritoireref06.None
theorem ok37 : codeOK Tryz.prog C37 Tryz.f37.ntmps ((Tryz.f37.body).getD .skip) = true := by kernel_rfl
def C38 : Cfg := ⟨[0, 1, 4, 6, 13], [], [], [], []⟩   -- escritoire/body.may
theorem ok38 : codeOK Tryz.prog C38 Tryz.f38.ntmps ((Tryz.f38.body).getD .skip) = true := by kernel_rfl
def C39 : Cfg := ⟨[0, 2], [], [], [], []⟩   -- escritoire/body.over
theorem ok39 : codeOK Tryz.prog C39 Tryz.f39.ntmps ((Tryz.f39.body).getD .skip) = true := by kernel_rfl
def C40 : Cfg := ⟨[0, 2], [], [], [], []⟩   -- escritoire/body.used
theorem ok40 : codeOK Tryz.prog C40 Tryz.f40.ntmps ((Tryz.f40.body).getD .skip) = true := by kernel_rfl
def C41 : Cfg := ⟨[0, 1, 4, 5, 7, 8, 9, 11, 22, 23, 24, 29, 42], [], [], [], []⟩   -- escritoire/store.Take
theorem ok41 : codeOK Tryz.prog C41 Tryz.f41.ntmps ((Tryz.f41.body).getD .skip) = true := by kernel_rfl
def C42 : Cfg := ⟨[0, 1, 2, 6, 7, 8, 15], [], [], [], []⟩   -- escritoire/body.put
theorem ok42 : codeOK Tryz.prog C42 Tryz.f42.ntmps ((Tryz.f42.body).getD .skip) = true := by kernel_rfl
def C43 : Cfg := ⟨[0, 1, 2, 3, 6, 8, 9, 10, 11, 13, 27, 29, 39, 42, 48, 56, 65, 69, 70, 71, 72], [8], [8], [], [(24, .cons 1 (.cons 2 (.cons 3 (.cons 4 (.both (.cons 0 (.cons 5 (.cons 6 (.cons 7 (.nil))))) (.cons 5 (.cons 0 (.cons 6 (.cons 7 (.nil))))))))))]⟩   -- escritoire/body.Keep
theorem ok43 : codeOK Tryz.prog C43 Tryz.f43.ntmps ((Tryz.f43.body).getD .skip) = true := by kernel_rfl
def C44 : Cfg := ⟨[0, 2], [], [], [], []⟩   -- escritoire/escritoireref10.zeros
theorem ok44 : codeOK Tryz.prog C44 Tryz.f44.ntmps ((Tryz.f44.body).getD .skip) = true := by kernel_rfl
def C45 : Cfg := ⟨[0, 2, 3, 4, 5, 7, 12, 14, 25], [], [], [], []⟩   -- (*escritoire/view.View).Changes
theorem ok45 : codeOK Tryz.prog C45 Tryz.f45.ntmps ((Tryz.f45.body).getD .skip) = true := by kernel_rfl
def C46 : Cfg := ⟨[0, 1, 2, 6, 7, 14], [], [], [], []⟩   -- (*escritoire/memory.Memory).Store
theorem ok46 : codeOK Tryz.prog C46 Tryz.f46.ntmps ((Tryz.f46.body).getD .skip) = true := by kernel_rfl
def C47 : Cfg := ⟨[0, 3], [], [], [], []⟩   -- (*escritoire/view.View).Reset
theorem ok47 : codeOK Tryz.prog C47 Tryz.f47.ntmps ((Tryz.f47.body).getD .skip) = true := by kernel_rfl
def C48 : Cfg := ⟨[0, 1, 4, 5, 6, 13, 17], [], [], [], []⟩   -- escritoire/store.Drop
theorem ok48 : codeOK Tryz.prog C48 Tryz.f48.ntmps ((Tryz.f48.body).getD .skip) = true := by kernel_rfl
def C49 : Cfg := ⟨[0, 2], [], [], [], []⟩   -- escritoire/escritoireref06.block
theorem ok49 : codeOK Tryz.prog C49 Tryz.f49.ntmps ((Tryz.f49.body).getD .skip) = true := by kernel_rfl
def C50 : Cfg := ⟨[0, 2, 3, 5, 6, 8, 9, 10, 11, 12, 20, 25, 26, 27, 28], [], [], [], []⟩   -- slices.Concat[[]int,int]
theorem ok50 : codeOK Tryz.prog C50 Tryz.f50.ntmps ((Tryz.f50.body).getD .skip) = true := by kernel_rfl
def C51 : Cfg := ⟨[0, 1, 4, 5, 6, 7, 8, 10, 26, 37], [], [], [], []⟩   -- slices.Repeat[[]int,int]
theorem ok51 : codeOK Tryz.prog C51 Tryz.f51.ntmps ((Tryz.f51.body).getD .skip) = true := by kernel_rfl
def C52 : Cfg := ⟨[0, 1, 4, 5, 6, 7, 18], [], [], [], []⟩   -- (*escritoire/view.View).Block
theorem ok52 : codeOK Tryz.prog C52 Tryz.f52.ntmps ((Tryz.f52.body).getD .skip) = true := by kernel_rfl
def C53 : Cfg := ⟨[0, 1, 4], [], [], [], []⟩   -- slices.ContainsFunc[[]int,int]
theorem ok53 : codeOK Tryz.prog C53 Tryz.f53.ntmps ((Tryz.f53.body).getD .skip) = true := by kernel_rfl
def C54 : Cfg := ⟨[0, 1, 4, 5, 6, 7, 14], [], [], [], []⟩   -- escritoire/store.owner
theorem ok54 : codeOK Tryz.prog C54 Tryz.f54.ntmps ((Tryz.f54.body).getD .skip) = true := by kernel_rfl
def C55 : Cfg := ⟨[0, 1, 4, 5, 6, 8, 18], [], [], [], []⟩   -- (*escritoire/view.View).Read
theorem ok55 : codeOK Tryz.prog C55 Tryz.f55.ntmps ((Tryz.f55.body).getD .skip) = true := by kernel_rfl
def C56 : Cfg := ⟨[0, 2, 3], [], [], [], []⟩   -- escritoire/plan.Owner
theorem ok56 : codeOK Tryz.prog C56 Tryz.f56.ntmps ((Tryz.f56.body).getD .skip) = true := by kernel_rfl
def C57 : Cfg := ⟨[0, 1, 4, 5, 6, 10, 20], [], [], [], []⟩   -- (*escritoire/memory.Memory).Read
theorem ok57 : codeOK Tryz.prog C57 Tryz.f57.ntmps ((Tryz.f57.body).getD .skip) = true := by kernel_rfl
def C58 : Cfg := ⟨[0, 1, 4], [], [], [], []⟩   -- (*escritoire/view.View).Avoids
theorem ok58 : codeOK Tryz.prog C58 Tryz.f58.ntmps ((Tryz.f58.body).getD .skip) = true := by kernel_rfl
def C59 : Cfg := ⟨[0, 1, 4, 5, 6, 7, 8, 9, 10, 11, 12, 14, 18, 34, 40, 42, 43, 49, 58, 67, 76, 85, 96, 104, 113], [], [], [], []⟩   -- strings.Repeat
theorem ok59 : codeOK Tryz.prog C59 Tryz.f59.ntmps ((Tryz.f59.body).getD .skip) = true := by kernel_rfl
def C60 : Cfg := ⟨[0, 1, 4, 5, 6, 7, 16, 20, 21, 22], [], [], [], []⟩   -- escritoire/words.Untext
theorem ok60 : codeOK Tryz.prog C60 Tryz.f60.ntmps ((Tryz.f60.body).getD .skip) = true := by kernel_rfl
def C61 : Cfg := ⟨[0, 6, 19], [], [], [], []⟩   -- (*strings.Builder).copyCheck
theorem ok61 : codeOK Tryz.prog C61 Tryz.f61.ntmps ((Tryz.f61.body).getD .skip) = true := by kernel_rfl
def C62 : Cfg := ⟨[0, 2], [2], [2], [], []⟩   -- escritoire/plan.of
theorem ok62 : codeOK Tryz.prog C62 Tryz.f62.ntmps ((Tryz.f62.body).getD .skip) = true := by kernel_rfl
def C63 : Cfg := ⟨[0, 1, 2], [1], [1, 3, 5, 7], [], []⟩   -- (escritoire/plan.part).end
theorem ok63 : codeOK Tryz.prog C63 Tryz.f63.ntmps ((Tryz.f63.body).getD .skip) = true := by kernel_rfl
def C64 : Cfg := ⟨[0, 2, 3], [], [], [], []⟩   -- escritoire/plan.Card
theorem ok64 : codeOK Tryz.prog C64 Tryz.f64.ntmps ((Tryz.f64.body).getD .skip) = true := by kernel_rfl
def C65 : Cfg := ⟨[0, 1, 2, 6, 13], [], [], [], []⟩   -- (*escritoire/view.View).Write
theorem ok65 : codeOK Tryz.prog C65 Tryz.f65.ntmps ((Tryz.f65.body).getD .skip) = true := by kernel_rfl
def C66 : Cfg := ⟨[0, 1, 2, 6, 7, 8, 9, 25], [], [], [], []⟩   -- (*escritoire/view.View).SetBlock
theorem ok66 : codeOK Tryz.prog C66 Tryz.f66.ntmps ((Tryz.f66.body).getD .skip) = true := by kernel_rfl
def C67 : Cfg := ⟨[0, 1, 4, 5, 6, 7, 8, 9, 16, 25, 26, 27, 28], [], [], [], []⟩   -- escritoire/words.Text
theorem ok67 : codeOK Tryz.prog C67 Tryz.f67.ntmps ((Tryz.f67.body).getD .skip) = true := by kernel_rfl
def C68 : Cfg := ⟨[0, 2], [], [], [], []⟩   -- escritoire/body.odd
theorem ok68 : codeOK Tryz.prog C68 Tryz.f68.ntmps ((Tryz.f68.body).getD .skip) = true := by kernel_rfl
def C69 : Cfg := ⟨[0, 1, 4], [], [], [], []⟩   -- slices.SortFunc[[]escritoire/api.Change,escritoire/api.Change]
theorem ok69 : codeOK Tryz.prog C69 Tryz.f69.ntmps ((Tryz.f69.body).getD .skip) = true := by kernel_rfl
def C70 : Cfg := ⟨[0, 1, 2, 3, 4], [2, 3], [2, 3, 5, 7], [], []⟩   -- (*escritoire/view.View).Changes$1
theorem ok70 : codeOK Tryz.prog C70 Tryz.f70.ntmps ((Tryz.f70.body).getD .skip) = true := by kernel_rfl
def C71 : Cfg := ⟨[0, 1, 4, 6, 14, 20, 34], [], [], [], []⟩   -- (*escritoire/memory.Memory).call
theorem ok71 : codeOK Tryz.prog C71 Tryz.f71.ntmps ((Tryz.f71.body).getD .skip) = true := by kernel_rfl
def C72 : Cfg := ⟨[0, 1, 4], [], [], [], []⟩   -- (*escritoire/memory.Memory).there
theorem ok72 : codeOK Tryz.prog C72 Tryz.f72.ntmps ((Tryz.f72.body).getD .skip) = true := by kernel_rfl
def C73 : Cfg := ⟨[0, 1, 4, 6, 16], [], [], [], []⟩   -- slices.Grow[[]int,int]
theorem ok73 : codeOK Tryz.prog C73 Tryz.f73.ntmps ((Tryz.f73.body).getD .skip) = true := by kernel_rfl
def C74 : Cfg := ⟨[0, 1, 4, 5, 6, 7, 8, 9], [], [], [], []⟩   -- math/bits.Mul
theorem ok74 : codeOK Tryz.prog C74 Tryz.f74.ntmps ((Tryz.f74.body).getD .skip) = true := by kernel_rfl
def C75 : Cfg := ⟨[0, 2, 3], [], [], [], []⟩   -- escritoire/plan.Block
theorem ok75 : codeOK Tryz.prog C75 Tryz.f75.ntmps ((Tryz.f75.body).getD .skip) = true := by kernel_rfl
def C76 : Cfg := ⟨[0, 1, 2, 6, 7, 8, 12, 13, 14], [], [], [], []⟩   -- (*escritoire/view.View).read
theorem ok76 : codeOK Tryz.prog C76 Tryz.f76.ntmps ((Tryz.f76.body).getD .skip) = true := by kernel_rfl
def C77 : Cfg := ⟨[0, 1, 4, 5, 7, 8, 9, 16], [], [], [], []⟩   -- slices.IndexFunc[[]int,int]
theorem ok77 : codeOK Tryz.prog C77 Tryz.f77.ntmps ((Tryz.f77.body).getD .skip) = true := by kernel_rfl
def C78 : Cfg := ⟨[0, 1, 4, 5, 6, 16], [6], [6, 13, 17, 20], [], []⟩   -- escritoire/plan.first
theorem ok78 : codeOK Tryz.prog C78 Tryz.f78.ntmps ((Tryz.f78.body).getD .skip) = true := by kernel_rfl
def C79 : Cfg := ⟨[0, 1, 4], [], [], [], []⟩   -- strings.HasPrefix
theorem ok79 : codeOK Tryz.prog C79 Tryz.f79.ntmps ((Tryz.f79.body).getD .skip) = true := by kernel_rfl
def C80 : Cfg := ⟨[0, 1, 7, 21], [], [], [], []⟩   -- (*strings.Builder).Grow
theorem ok80 : codeOK Tryz.prog C80 Tryz.f80.ntmps ((Tryz.f80.body).getD .skip) = true := by kernel_rfl
def C81 : Cfg := ⟨[0, 2], [], [], [], []⟩   -- (*strings.Builder).Len
theorem ok81 : codeOK Tryz.prog C81 Tryz.f81.ntmps ((Tryz.f81.body).getD .skip) = true := by kernel_rfl
def C83 : Cfg := ⟨[0, 1, 2, 12], [], [], [], []⟩   -- escritoire/plan.parts
theorem ok83 : codeOK Tryz.prog C83 Tryz.f83.ntmps ((Tryz.f83.body).getD .skip) = true := by kernel_rfl
def C84 : Cfg := ⟨[0, 2, 3], [], [], [], []⟩   -- escritoire/plan.Open
theorem ok84 : codeOK Tryz.prog C84 Tryz.f84.ntmps ((Tryz.f84.body).getD .skip) = true := by kernel_rfl
def C85 : Cfg := ⟨[0, 1, 2, 6, 7, 8, 9, 10, 11], [], [], [], []⟩   -- (*escritoire/view.View).write
theorem ok85 : codeOK Tryz.prog C85 Tryz.f85.ntmps ((Tryz.f85.body).getD .skip) = true := by kernel_rfl
def C86 : Cfg := ⟨[0, 1, 2, 3, 4, 10, 11, 12, 13, 14, 15, 16, 17, 18, 19, 20, 25, 32, 39, 56, 75, 80, 97, 125], [], [], [], []⟩   -- slices.pdqsortCmpFunc[escritoire/api.Change]
theorem ok86 : codeOK Tryz.prog C86 Tryz.f86.ntmps ((Tryz.f86.body).getD .skip) = true := by kernel_rfl
def C87 : Cfg := ⟨[0, 2], [], [], [], []⟩   -- math/bits.Len
theorem ok87 : codeOK Tryz.prog C87 Tryz.f87.ntmps ((Tryz.f87.body).getD .skip) = true := by kernel_rfl
def C88 : Cfg := ⟨[0, 1, 4, 5, 6], [], [], [], []⟩   -- math/bits.Mul32
theorem ok88 : codeOK Tryz.prog C88 Tryz.f88.ntmps ((Tryz.f88.body).getD .skip) = true := by kernel_rfl
def C89 : Cfg := ⟨[0, 1, 4, 5, 6, 7, 8, 9, 10, 11, 12, 13], [], [], [], []⟩   -- math/bits.Mul64
theorem ok89 : codeOK Tryz.prog C89 Tryz.f89.ntmps ((Tryz.f89.body).getD .skip) = true := by kernel_rfl
def C90 : Cfg := ⟨[0, 1, 4], [], [], [], []⟩   -- internal/stringslite.HasPrefix
theorem ok90 : codeOK Tryz.prog C90 Tryz.f90.ntmps ((Tryz.f90.body).getD .skip) = true := by kernel_rfl
def C91 : Cfg := ⟨[0, 1, 4], [], [], [], [(0, .cons 0 (.cons 1 (.cons 2 (.cons 3 (.cons 4 (.cons 5 (.cons 6 (.cons 7 (.cons 9 (.cons 10 (.cons 11 (.both (.cons 8 (.cons 12 (.cons 13 (.cons 14 (.cons 15 (.nil)))))) (.cons 12 (.both (.cons 8 (.cons 13 (.cons 14 (.cons 15 (.nil))))) (.cons 13 (.cons 8 (.cons 14 (.cons 15 (.nil)))))))))))))))))))]⟩   -- (*strings.Builder).grow
theorem ok91 : codeOK Tryz.prog C91 Tryz.f91.ntmps ((Tryz.f91.body).getD .skip) = true := by kernel_rfl
def C92 : Cfg := ⟨[0, 2, 3, 5, 6, 7, 8, 9, 21], [5], [5, 13, 22, 25, 28], [], []⟩   -- escritoire/plan.What
theorem ok92 : codeOK Tryz.prog C92 Tryz.f92.ntmps ((Tryz.f92.body).getD .skip) = true := by kernel_rfl
def C93 : Cfg := ⟨[0, 1, 2, 3, 8, 9, 14, 34], [], [], [], []⟩   -- slices.insertionSortCmpFunc[escritoire/api.Change]
theorem ok93 : codeOK Tryz.prog C93 Tryz.f93.ntmps ((Tryz.f93.body).getD .skip) = true := by kernel_rfl
def C94 : Cfg := ⟨[0, 1, 2, 3, 8, 9, 10, 11, 12, 21, 33], [], [], [], []⟩   -- slices.heapSortCmpFunc[escritoire/api.Change]
theorem ok94 : codeOK Tryz.prog C94 Tryz.f94.ntmps ((Tryz.f94.body).getD .skip) = true := by kernel_rfl
def C95 : Cfg := ⟨[0, 1, 2, 8, 9, 10, 11, 12, 17, 35, 45], [], [], [], []⟩   -- slices.breakPatternsCmpFunc[escritoire/api.Change]
theorem ok95 : codeOK Tryz.prog C95 Tryz.f95.ntmps ((Tryz.f95.body).getD .skip) = true := by kernel_rfl
def C96 : Cfg := ⟨[0, 1, 2, 3, 8, 9, 10, 11, 12, 13, 14, 34, 36, 55, 57, 60], [], [], [], []⟩   -- slices.choosePivotCmpFunc[escritoire/api.Change]
theorem ok96 : codeOK Tryz.prog C96 Tryz.f96.ntmps ((Tryz.f96.body).getD .skip) = true := by kernel_rfl
def C97 : Cfg := ⟨[0, 1, 2, 8, 9, 15], [], [], [], []⟩   -- slices.reverseRangeCmpFunc[escritoire/api.Change]
theorem ok97 : codeOK Tryz.prog C97 Tryz.f97.ntmps ((Tryz.f97.body).getD .skip) = true := by kernel_rfl
def C98 : Cfg := ⟨[0, 1, 2, 3, 8, 9, 10, 11, 12, 16, 36, 41, 45, 65, 69, 84, 104, 109, 124], [], [], [], []⟩   -- slices.partialInsertionSortCmpFunc[escritoire/api.Change]
theorem ok98 : codeOK Tryz.prog C98 Tryz.f98.ntmps ((Tryz.f98.body).getD .skip) = true := by kernel_rfl
def C99 : Cfg := ⟨[0, 1, 2, 3, 4, 10, 11, 12, 47, 65, 70], [], [], [], []⟩   -- slices.partitionEqualCmpFunc[escritoire/api.Change]
theorem ok99 : codeOK Tryz.prog C99 Tryz.f99.ntmps ((Tryz.f99.body).getD .skip) = true := by kernel_rfl
def C100 : Cfg := ⟨[0, 1, 2, 3, 4, 10, 11, 12, 13, 47, 66, 71, 120, 139, 144], [], [], [], []⟩   -- slices.partitionCmpFunc[escritoire/api.Change]
theorem ok100 : codeOK Tryz.prog C100 Tryz.f100.ntmps ((Tryz.f100.body).getD .skip) = true := by kernel_rfl
def C101 : Cfg := ⟨[0, 2, 4, 8], [], [], [], []⟩   -- math/bits.Len32
theorem ok101 : codeOK Tryz.prog C101 Tryz.f101.ntmps ((Tryz.f101.body).getD .skip) = true := by kernel_rfl
def C102 : Cfg := ⟨[0, 2, 4, 8, 14], [], [], [], []⟩   -- math/bits.Len64
theorem ok102 : codeOK Tryz.prog C102 Tryz.f102.ntmps ((Tryz.f102.body).getD .skip) = true := by kernel_rfl
def C104 : Cfg := ⟨[0, 1, 2, 3, 4, 10, 11, 18, 40, 58], [], [], [], []⟩   -- slices.siftDownCmpFunc[escritoire/api.Change]
theorem ok104 : codeOK Tryz.prog C104 Tryz.f104.ntmps ((Tryz.f104.body).getD .skip) = true := by kernel_rfl
def C105 : Cfg := ⟨[0, 2], [], [], [], []⟩   -- slices.nextPowerOfTwo
theorem ok105 : codeOK Tryz.prog C105 Tryz.f105.ntmps ((Tryz.f105.body).getD .skip) = true := by kernel_rfl
def C106 : Cfg := ⟨[0, 2], [], [], [], []⟩   -- (*slices.xorshift).Next
theorem ok106 : codeOK Tryz.prog C106 Tryz.f106.ntmps ((Tryz.f106.body).getD .skip) = true := by kernel_rfl
def C107 : Cfg := ⟨[0, 1, 2, 3, 8], [], [], [], []⟩   -- slices.medianAdjacentCmpFunc[escritoire/api.Change]
theorem ok107 : codeOK Tryz.prog C107 Tryz.f107.ntmps ((Tryz.f107.body).getD .skip) = true := by kernel_rfl
def C108 : Cfg := ⟨[0, 1, 2, 3, 4, 5, 12], [], [], [], []⟩   -- slices.medianCmpFunc[escritoire/api.Change]
theorem ok108 : codeOK Tryz.prog C108 Tryz.f108.ntmps ((Tryz.f108.body).getD .skip) = true := by kernel_rfl
def C109 : Cfg := ⟨[0, 1, 2, 3, 4, 10, 11, 22], [], [], [], []⟩   -- slices.order2CmpFunc[escritoire/api.Change]
theorem ok109 : codeOK Tryz.prog C109 Tryz.f109.ntmps ((Tryz.f109.body).getD .skip) = true := by kernel_rfl
end Go.Proofs.YtlloemmpnhoanaaGreat
