/-
  The functions' settings for the engine, and what the kernel says of them.
-/
import Derived.Test.YtlloemmpnhoanaaEngR
import Derived.Test.YtlloemmpnhoanaaProg
set_option linter.all false
namespace Go.Proofs.Ytlloemmpnhoanaa
open Go Go.Eng
theorem hmix : Try.prog.follows .mixedOrders = true := by kernel_rfl
def C3 : Cfg := ⟨[0, 1, 2, 4, 6, 7, 8, 9, 10, 11, 12, 13, 14, 16, 17, 18, 19, 20, 21, 23, 26, 71, 89, 112], [4, 14, 16], [4, 14, 16, 140], [], []⟩   -- escritoire/escritoirelaw10.BodyMaps
theorem ok3 : codeOK Try.prog C3 Try.f3.ntmps ((Try.f3.body).getD .skip) = true := by kernel_rfl
def C4 : Cfg := ⟨[0, 1, 2, 3, 4, 6, 8, 10, 12, 14, 16], [2, 3, 9, 11, 13], [2, 3, 9, 11, 13, 24, 26, 33, 35, 42], [], []⟩   -- escritoire/escritoirelaw10.BodyNil
theorem ok4 : codeOK Try.prog C4 Try.f4.ntmps ((Try.f4.body).getD .skip) = true := by kernel_rfl
def C5 : Cfg := ⟨[0, 1, 4, 5, 6, 7, 8, 9, 10, 12, 59, 61, 86], [6], [6], [], [(6, .cons 0 (.cons 1 (.cons 2 (.cons 3 (.cons 4 (.cons 5 (.cons 6 (.cons 7 (.cons 8 (.cons 9 (.cons 10 (.cons 11 (.cons 12 (.cons 13 (.both (.cons 14 (.cons 15 (.cons 16 (.cons 17 (.cons 18 (.cons 19 (.cons 20 (.nil)))))))) (.cons 18 (.cons 14 (.cons 15 (.cons 16 (.cons 17 (.cons 19 (.cons 20 (.nil))))))))))))))))))))))), (7, .cons 0 (.cons 1 (.cons 2 (.cons 3 (.cons 4 (.cons 5 (.cons 8 (.cons 10 (.cons 6 (.cons 7 (.cons 9 (.cons 11 (.cons 12 (.cons 13 (.nil)))))))))))))))]⟩   -- escritoire/escritoirelaw10.BodyTouches
theorem ok5 : codeOK Try.prog C5 Try.f5.ntmps ((Try.f5.body).getD .skip) = true := by kernel_rfl
def C6 : Cfg := ⟨[0, 1, 2, 4, 5, 6, 7, 12], [2, 4], [2, 4, 32, 37], [], []⟩   -- escritoire/escritoirelaw10.lives
theorem ok6 : codeOK Try.prog C6 Try.f6.ntmps ((Try.f6.body).getD .skip) = true := by kernel_rfl
def C7 : Cfg := ⟨[0, 1, 2, 3, 6, 13, 21], [1], [1, 4, 8, 17, 18, 22, 26, 31, 36, 41, 46, 51], [], []⟩   -- escritoire/escritoireref06.Right
theorem ok7 : codeOK Try.prog C7 Try.f7.ntmps ((Try.f7.body).getD .skip) = true := by kernel_rfl
def C8 : Cfg := ⟨[0, 2, 3, 4, 16], [], [], [], []⟩   -- escritoire/escritoirelaw10.image
theorem ok8 : codeOK Try.prog C8 Try.f8.ntmps ((Try.f8.body).getD .skip) = true := by kernel_rfl
def C9 : Cfg := ⟨[0, 2, 6], [], [], [], []⟩   -- escritoire/view.New
theorem ok9 : codeOK Try.prog C9 Try.f9.ntmps ((Try.f9.body).getD .skip) = true := by kernel_rfl
def C10 : Cfg := ⟨[0, 2], [], [], [], []⟩   -- escritoire/memory.Load
theorem ok10 : codeOK Try.prog C10 Try.f10.ntmps ((Try.f10.body).getD .skip) = true := by kernel_rfl
def C11 : Cfg := ⟨[0, 2], [], [], [], []⟩   -- escritoire/escritoireref08.New
theorem ok11 : codeOK Try.prog C11 Try.f11.ntmps ((Try.f11.body).getD .skip) = true := by kernel_rfl
def C12 : Cfg := ⟨[0, 1, 3, 4, 5, 6, 7, 8, 9, 10, 12, 21, 31, 32, 33, 34, 35, 40, 52], [], [], [], []⟩   -- escritoire/body.Map
theorem ok12 : codeOK Try.prog C12 Try.f12.ntmps ((Try.f12.body).getD .skip) = true := by kernel_rfl
def C13 : Cfg := ⟨[0, 1, 3, 4, 5, 6, 7, 8, 9, 10, 12, 26, 31, 41], [3], [3, 17, 18, 22, 29, 33], [], []⟩   -- escritoire/escritoireref10.Map
theorem ok13 : codeOK Try.prog C13 Try.f13.ntmps ((Try.f13.body).getD .skip) = true := by kernel_rfl
def C14 : Cfg := ⟨[0, 1, 4, 5, 10, 14, 25], [], [], [], []⟩   -- escritoire/escritoireref01.SameInts
theorem ok14 : codeOK Try.prog C14 Try.f14.ntmps ((Try.f14.body).getD .skip) = true := by kernel_rfl
def C15 : Cfg := ⟨[0, 1, 4, 5, 6, 12], [4, 6], [4, 6, 17, 18], [], []⟩   -- escritoire/escritoireref06.Fresh
theorem ok15 : codeOK Try.prog C15 Try.f15.ntmps ((Try.f15.body).getD .skip) = true := by kernel_rfl
def C16 : Cfg := ⟨[0, 1, 2, 3, 6, 8, 9, 10, 11, 13, 27, 29, 39, 42, 48, 56, 65, 69, 70, 71, 72], [8], [8], [], [(24, .cons 1 (.cons 2 (.cons 3 (.cons 4 (.both (.cons 0 (.cons 5 (.cons 6 (.cons 7 (.nil))))) (.cons 5 (.cons 0 (.cons 6 (.cons 7 (.nil))))))))))]⟩   -- escritoire/body.Keep
theorem ok16 : codeOK Try.prog C16 Try.f16.ntmps ((Try.f16.body).getD .skip) = true := by kernel_rfl
def C17 : Cfg := ⟨[0, 2, 3, 7, 14], [], [], [], []⟩   -- escritoire/escritoirelaw10.some
theorem ok17 : codeOK Try.prog C17 Try.f17.ntmps ((Try.f17.body).getD .skip) = true := by kernel_rfl
def C18 : Cfg := ⟨[0, 1, 2, 3, 5, 8, 9, 10, 11, 12, 13, 14, 15, 16, 17, 18, 32, 46, 54, 55, 56, 57, 63, 67, 79], [5], [5, 43, 48], [], []⟩   -- escritoire/body.Read
theorem ok18 : codeOK Try.prog C18 Try.f18.ntmps ((Try.f18.body).getD .skip) = true := by kernel_rfl
def C19 : Cfg := ⟨[0, 1, 2, 3, 4, 7, 10, 11, 12, 14, 15, 16, 17, 18, 19, 20, 21, 22, 23, 24, 38, 40, 50, 54, 68, 80, 88, 99, 112, 152], [7, 10], [7, 10, 155, 159], [], []⟩   -- escritoire/body.Write
theorem ok19 : codeOK Try.prog C19 Try.f19.ntmps ((Try.f19.body).getD .skip) = true := by kernel_rfl
def C20 : Cfg := ⟨[0, 1, 2, 3, 6, 8, 9, 10, 11, 12, 13, 14, 15, 16, 20, 28, 39, 43, 44, 45, 66, 69, 90, 103], [6, 8], [6, 8, 57, 108], [], []⟩   -- escritoire/body.Cut
theorem ok20 : codeOK Try.prog C20 Try.f20.ntmps ((Try.f20.body).getD .skip) = true := by kernel_rfl
def C21 : Cfg := ⟨[0, 1, 2, 3], [0, 3], [0, 3], [], []⟩   -- escritoire/escritoirelaw10.two
theorem ok21 : codeOK Try.prog C21 Try.f21.ntmps ((Try.f21.body).getD .skip) = true := by kernel_rfl
def C22 : Cfg := ⟨[0, 1, 2, 3, 4, 6, 10, 11, 12, 18, 27], [6], [6], [], []⟩   -- (*escritoire/escritoirelaw10.File).end
theorem ok22 : codeOK Try.prog C22 Try.f22.ntmps ((Try.f22.body).getD .skip) = true := by kernel_rfl
def C23 : Cfg := ⟨[0, 2, 3, 4, 5, 6, 7, 8, 22, 28, 40, 47, 79], [], [], [], []⟩   -- (*escritoire/escritoirelaw10.File).own
theorem ok23 : codeOK Try.prog C23 Try.f23.ntmps ((Try.f23.body).getD .skip) = true := by kernel_rfl
def C24 : Cfg := ⟨[0, 2, 3, 4], [], [], [], []⟩   -- (*escritoire/escritoirelaw10.File).whole
theorem ok24 : codeOK Try.prog C24 Try.f24.ntmps ((Try.f24.body).getD .skip) = true := by kernel_rfl
def C25 : Cfg := ⟨[0, 2, 3, 4, 5, 6, 10], [], [], [], []⟩   -- escritoire/store.Free
theorem ok25 : codeOK Try.prog C25 Try.f25.ntmps ((Try.f25.body).getD .skip) = true := by kernel_rfl
def C26 : Cfg := ⟨[0, 2], [2], [2], [], []⟩   -- escritoire/escritoireref06.None
theorem ok26 : codeOK Try.prog C26 Try.f26.ntmps ((Try.f26.body).getD .skip) = true := by kernel_rfl
def C27 : Cfg := ⟨[0, 2], [], [], [], []⟩   -- escritoire/escritoireref06.block
theorem ok27 : codeOK Try.prog C27 Try.f27.ntmps ((Try.f27.body).getD .skip) = true := by kernel_rfl
def C28 : Cfg := ⟨[0, 1], [], [], [], []⟩   -- escritoire/plan.Head
theorem ok28 : codeOK Try.prog C28 Try.f28.ntmps ((Try.f28.body).getD .skip) = true := by kernel_rfl
def C29 : Cfg := ⟨[0, 2, 4], [], [], [], []⟩   -- (*escritoire/memory.Memory).Size
theorem ok29 : codeOK Try.prog C29 Try.f29.ntmps ((Try.f29.body).getD .skip) = true := by kernel_rfl
def C30 : Cfg := ⟨[0], [], [], [], []⟩   -- escritoire/plan.Size
theorem ok30 : codeOK Try.prog C30 Try.f30.ntmps ((Try.f30.body).getD .skip) = true := by kernel_rfl
def C31 : Cfg := ⟨[0, 2, 4], [], [], [], []⟩   -- slices.Clone[[]uint64,uint64]
theorem ok31 : codeOK Try.prog C31 Try.f31.ntmps ((Try.f31.body).getD .skip) = true := by kernel_rfl
def C32 : Cfg := ⟨[0, 2, 3, 5, 6, 8, 9, 10, 11, 12, 20, 25, 26, 27, 28], [], [], [], []⟩   -- slices.Concat[[]int,int]
theorem ok32 : codeOK Try.prog C32 Try.f32.ntmps ((Try.f32.body).getD .skip) = true := by kernel_rfl
def C33 : Cfg := ⟨[0, 1, 4, 5, 6, 7, 8, 10, 26, 37], [], [], [], []⟩   -- slices.Repeat[[]int,int]
theorem ok33 : codeOK Try.prog C33 Try.f33.ntmps ((Try.f33.body).getD .skip) = true := by kernel_rfl
def C34 : Cfg := ⟨[0, 1, 4, 5, 6, 7, 18], [], [], [], []⟩   -- (*escritoire/view.View).Block
theorem ok34 : codeOK Try.prog C34 Try.f34.ntmps ((Try.f34.body).getD .skip) = true := by kernel_rfl
def C35 : Cfg := ⟨[0, 1, 4], [], [], [], []⟩   -- slices.ContainsFunc[[]int,int]
theorem ok35 : codeOK Try.prog C35 Try.f35.ntmps ((Try.f35.body).getD .skip) = true := by kernel_rfl
def C36 : Cfg := ⟨[0, 2], [], [], [], []⟩   -- escritoire/body.used
theorem ok36 : codeOK Try.prog C36 Try.f36.ntmps ((Try.f36.body).getD .skip) = true := by kernel_rfl
def C37 : Cfg := ⟨[0, 1, 4, 15], [], [], [], []⟩   -- (*escritoire/escritoireref08.View).Read
theorem ok37 : codeOK Try.prog C37 Try.f37.ntmps ((Try.f37.body).getD .skip) = true := by kernel_rfl
def C38 : Cfg := ⟨[0, 1, 4, 6, 13], [], [], [], []⟩   -- escritoire/body.may
theorem ok38 : codeOK Try.prog C38 Try.f38.ntmps ((Try.f38.body).getD .skip) = true := by kernel_rfl
def C39 : Cfg := ⟨[0, 2], [], [], [], []⟩   -- escritoire/body.odd
theorem ok39 : codeOK Try.prog C39 Try.f39.ntmps ((Try.f39.body).getD .skip) = true := by kernel_rfl
def C40 : Cfg := ⟨[0, 1, 4, 5, 6, 13, 17], [], [], [], []⟩   -- escritoire/store.Drop
theorem ok40 : codeOK Try.prog C40 Try.f40.ntmps ((Try.f40.body).getD .skip) = true := by kernel_rfl
def C41 : Cfg := ⟨[0, 1, 4, 5, 7, 8, 9, 11, 22, 23, 24, 29, 42], [], [], [], []⟩   -- escritoire/store.Take
theorem ok41 : codeOK Try.prog C41 Try.f41.ntmps ((Try.f41.body).getD .skip) = true := by kernel_rfl
def C42 : Cfg := ⟨[0, 1, 2, 6, 7, 8, 9, 25], [], [], [], []⟩   -- (*escritoire/view.View).SetBlock
theorem ok42 : codeOK Try.prog C42 Try.f42.ntmps ((Try.f42.body).getD .skip) = true := by kernel_rfl
def C43 : Cfg := ⟨[0, 1, 4, 5, 6, 7, 10, 19], [], [], [], []⟩   -- escritoire/body.text
theorem ok43 : codeOK Try.prog C43 Try.f43.ntmps ((Try.f43.body).getD .skip) = true := by kernel_rfl
def C44 : Cfg := ⟨[0, 1, 4, 5], [], [], [], []⟩   -- (*strings.Builder).WriteString
theorem ok44 : codeOK Try.prog C44 Try.f44.ntmps ((Try.f44.body).getD .skip) = true := by kernel_rfl
def C45 : Cfg := ⟨[0, 2], [], [], [], [(1, .cons 0 (.cons 1 (.cons 2 (.cons 3 (.cons 5 (.cons 6 (.cons 7 (.both (.cons 4 (.cons 8 (.cons 9 (.cons 10 (.cons 11 (.nil)))))) (.cons 8 (.both (.cons 4 (.cons 9 (.cons 10 (.cons 11 (.nil))))) (.cons 9 (.cons 4 (.cons 10 (.cons 11 (.nil)))))))))))))))]⟩   -- (*strings.Builder).String
theorem ok45 : codeOK Try.prog C45 Try.f45.ntmps ((Try.f45.body).getD .skip) = true := by kernel_rfl
def C46 : Cfg := ⟨[0, 2], [], [], [], []⟩   -- escritoire/body.over
theorem ok46 : codeOK Try.prog C46 Try.f46.ntmps ((Try.f46.body).getD .skip) = true := by kernel_rfl
def C47 : Cfg := ⟨[0, 1, 2, 6, 7, 8, 15], [], [], [], []⟩   -- escritoire/body.put
theorem ok47 : codeOK Try.prog C47 Try.f47.ntmps ((Try.f47.body).getD .skip) = true := by kernel_rfl
def C48 : Cfg := ⟨[0, 2, 3, 4, 5, 7, 12, 14, 25], [], [], [], []⟩   -- (*escritoire/view.View).Changes
theorem ok48 : codeOK Try.prog C48 Try.f48.ntmps ((Try.f48.body).getD .skip) = true := by kernel_rfl
def C49 : Cfg := ⟨[0, 1, 2, 6, 7, 14], [], [], [], []⟩   -- (*escritoire/memory.Memory).Store
theorem ok49 : codeOK Try.prog C49 Try.f49.ntmps ((Try.f49.body).getD .skip) = true := by kernel_rfl
def C50 : Cfg := ⟨[0, 3], [], [], [], []⟩   -- (*escritoire/view.View).Reset
theorem ok50 : codeOK Try.prog C50 Try.f50.ntmps ((Try.f50.body).getD .skip) = true := by kernel_rfl
def C51 : Cfg := ⟨[0, 1, 4, 5, 6, 7, 8, 16, 22], [], [], [], []⟩   -- escritoire/store.Owner
theorem ok51 : codeOK Try.prog C51 Try.f51.ntmps ((Try.f51.body).getD .skip) = true := by kernel_rfl
def C52 : Cfg := ⟨[0, 1, 4, 5, 9, 17], [], [], [], []⟩   -- escritoire/escritoireref08.Has
theorem ok52 : codeOK Try.prog C52 Try.f52.ntmps ((Try.f52.body).getD .skip) = true := by kernel_rfl
def C53 : Cfg := ⟨[0, 1, 4, 5, 6], [], [], [], []⟩   -- (*escritoire/view.View).Fresh
theorem ok53 : codeOK Try.prog C53 Try.f53.ntmps ((Try.f53.body).getD .skip) = true := by kernel_rfl
def C54 : Cfg := ⟨[0, 2], [2], [2], [], []⟩   -- escritoire/plan.of
theorem ok54 : codeOK Try.prog C54 Try.f54.ntmps ((Try.f54.body).getD .skip) = true := by kernel_rfl
def C55 : Cfg := ⟨[0, 1, 2], [1], [1, 3, 5, 7], [], []⟩   -- (escritoire/plan.part).end
theorem ok55 : codeOK Try.prog C55 Try.f55.ntmps ((Try.f55.body).getD .skip) = true := by kernel_rfl
def C56 : Cfg := ⟨[0, 1, 4, 6, 16], [], [], [], []⟩   -- slices.Grow[[]int,int]
theorem ok56 : codeOK Try.prog C56 Try.f56.ntmps ((Try.f56.body).getD .skip) = true := by kernel_rfl
def C57 : Cfg := ⟨[0, 1, 4, 5, 6, 7, 8, 9], [], [], [], []⟩   -- math/bits.Mul
theorem ok57 : codeOK Try.prog C57 Try.f57.ntmps ((Try.f57.body).getD .skip) = true := by kernel_rfl
def C58 : Cfg := ⟨[0, 2, 3], [], [], [], []⟩   -- escritoire/plan.Block
theorem ok58 : codeOK Try.prog C58 Try.f58.ntmps ((Try.f58.body).getD .skip) = true := by kernel_rfl
def C59 : Cfg := ⟨[0, 1, 2, 6, 7, 8, 12, 13, 14], [], [], [], []⟩   -- (*escritoire/view.View).read
theorem ok59 : codeOK Try.prog C59 Try.f59.ntmps ((Try.f59.body).getD .skip) = true := by kernel_rfl
def C60 : Cfg := ⟨[0, 1, 4, 5, 7, 8, 9, 16], [], [], [], []⟩   -- slices.IndexFunc[[]int,int]
theorem ok60 : codeOK Try.prog C60 Try.f60.ntmps ((Try.f60.body).getD .skip) = true := by kernel_rfl
def C61 : Cfg := ⟨[0, 2, 3], [], [], [], []⟩   -- escritoire/plan.Card
theorem ok61 : codeOK Try.prog C61 Try.f61.ntmps ((Try.f61.body).getD .skip) = true := by kernel_rfl
def C62 : Cfg := ⟨[0, 1, 4, 5, 6, 7, 14], [], [], [], []⟩   -- escritoire/store.owner
theorem ok62 : codeOK Try.prog C62 Try.f62.ntmps ((Try.f62.body).getD .skip) = true := by kernel_rfl
def C63 : Cfg := ⟨[0, 1, 4, 5, 6, 8, 18], [], [], [], []⟩   -- (*escritoire/view.View).Read
theorem ok63 : codeOK Try.prog C63 Try.f63.ntmps ((Try.f63.body).getD .skip) = true := by kernel_rfl
def C64 : Cfg := ⟨[0, 1, 2, 6, 13], [], [], [], []⟩   -- (*escritoire/view.View).Write
theorem ok64 : codeOK Try.prog C64 Try.f64.ntmps ((Try.f64.body).getD .skip) = true := by kernel_rfl
def C65 : Cfg := ⟨[0, 2, 3], [], [], [], []⟩   -- escritoire/plan.Owner
theorem ok65 : codeOK Try.prog C65 Try.f65.ntmps ((Try.f65.body).getD .skip) = true := by kernel_rfl
def C66 : Cfg := ⟨[0, 1, 2, 6, 7, 8, 9, 10, 11], [], [], [], []⟩   -- (*escritoire/view.View).write
theorem ok66 : codeOK Try.prog C66 Try.f66.ntmps ((Try.f66.body).getD .skip) = true := by kernel_rfl
def C67 : Cfg := ⟨[0, 1, 4, 5, 6, 7, 8, 9, 10, 11, 12, 14, 18, 34, 40, 42, 43, 49, 58, 67, 76, 85, 96, 104, 113], [], [], [], []⟩   -- strings.Repeat
theorem ok67 : codeOK Try.prog C67 Try.f67.ntmps ((Try.f67.body).getD .skip) = true := by kernel_rfl
def C68 : Cfg := ⟨[0, 1, 4, 5, 6, 7, 16, 20, 21, 22], [], [], [], []⟩   -- escritoire/words.Untext
theorem ok68 : codeOK Try.prog C68 Try.f68.ntmps ((Try.f68.body).getD .skip) = true := by kernel_rfl
def C69 : Cfg := ⟨[0, 6, 19], [], [], [], []⟩   -- (*strings.Builder).copyCheck
theorem ok69 : codeOK Try.prog C69 Try.f69.ntmps ((Try.f69.body).getD .skip) = true := by kernel_rfl
def C70 : Cfg := ⟨[0, 1, 4, 5, 6, 7, 8, 9, 16, 25, 26, 27, 28], [], [], [], []⟩   -- escritoire/words.Text
theorem ok70 : codeOK Try.prog C70 Try.f70.ntmps ((Try.f70.body).getD .skip) = true := by kernel_rfl
def C71 : Cfg := ⟨[0, 1, 4, 5, 6, 10, 20], [], [], [], []⟩   -- (*escritoire/memory.Memory).Read
theorem ok71 : codeOK Try.prog C71 Try.f71.ntmps ((Try.f71.body).getD .skip) = true := by kernel_rfl
def C72 : Cfg := ⟨[0, 1, 4], [], [], [], []⟩   -- slices.SortFunc[[]escritoire/api.Change,escritoire/api.Change]
theorem ok72 : codeOK Try.prog C72 Try.f72.ntmps ((Try.f72.body).getD .skip) = true := by kernel_rfl
def C73 : Cfg := ⟨[0, 1, 2, 3, 4], [2, 3], [2, 3, 5, 7], [], []⟩   -- (*escritoire/view.View).Changes$1
theorem ok73 : codeOK Try.prog C73 Try.f73.ntmps ((Try.f73.body).getD .skip) = true := by kernel_rfl
def C74 : Cfg := ⟨[0, 1, 4, 6, 14, 20, 34], [], [], [], []⟩   -- (*escritoire/memory.Memory).call
theorem ok74 : codeOK Try.prog C74 Try.f74.ntmps ((Try.f74.body).getD .skip) = true := by kernel_rfl
def C75 : Cfg := ⟨[0, 1, 4], [], [], [], []⟩   -- (*escritoire/memory.Memory).there
theorem ok75 : codeOK Try.prog C75 Try.f75.ntmps ((Try.f75.body).getD .skip) = true := by kernel_rfl
def C76 : Cfg := ⟨[0, 1, 4], [], [], [], []⟩   -- (*escritoire/view.View).Avoids
theorem ok76 : codeOK Try.prog C76 Try.f76.ntmps ((Try.f76.body).getD .skip) = true := by kernel_rfl
def C77 : Cfg := ⟨[0, 1, 2, 12], [], [], [], []⟩   -- escritoire/plan.parts
theorem ok77 : codeOK Try.prog C77 Try.f77.ntmps ((Try.f77.body).getD .skip) = true := by kernel_rfl
def C78 : Cfg := ⟨[0, 1, 4, 5, 6], [], [], [], []⟩   -- math/bits.Mul32
theorem ok78 : codeOK Try.prog C78 Try.f78.ntmps ((Try.f78.body).getD .skip) = true := by kernel_rfl
def C79 : Cfg := ⟨[0, 1, 4, 5, 6, 7, 8, 9, 10, 11, 12, 13], [], [], [], []⟩   -- math/bits.Mul64
theorem ok79 : codeOK Try.prog C79 Try.f79.ntmps ((Try.f79.body).getD .skip) = true := by kernel_rfl
def C80 : Cfg := ⟨[0, 1, 4, 5, 6, 16], [6], [6, 13, 17, 20], [], []⟩   -- escritoire/plan.first
theorem ok80 : codeOK Try.prog C80 Try.f80.ntmps ((Try.f80.body).getD .skip) = true := by kernel_rfl
def C81 : Cfg := ⟨[0, 2, 3], [], [], [], []⟩   -- escritoire/plan.Open
theorem ok81 : codeOK Try.prog C81 Try.f81.ntmps ((Try.f81.body).getD .skip) = true := by kernel_rfl
def C82 : Cfg := ⟨[0, 1, 4], [], [], [], []⟩   -- strings.HasPrefix
theorem ok82 : codeOK Try.prog C82 Try.f82.ntmps ((Try.f82.body).getD .skip) = true := by kernel_rfl
def C83 : Cfg := ⟨[0, 1, 7, 21], [], [], [], []⟩   -- (*strings.Builder).Grow
theorem ok83 : codeOK Try.prog C83 Try.f83.ntmps ((Try.f83.body).getD .skip) = true := by kernel_rfl
def C84 : Cfg := ⟨[0, 2], [], [], [], []⟩   -- (*strings.Builder).Len
theorem ok84 : codeOK Try.prog C84 Try.f84.ntmps ((Try.f84.body).getD .skip) = true := by kernel_rfl
def C86 : Cfg := ⟨[0, 1, 2, 3, 4, 10, 11, 12, 13, 14, 15, 16, 17, 18, 19, 20, 25, 32, 39, 56, 75, 80, 97, 125], [], [], [], []⟩   -- slices.pdqsortCmpFunc[escritoire/api.Change]
theorem ok86 : codeOK Try.prog C86 Try.f86.ntmps ((Try.f86.body).getD .skip) = true := by kernel_rfl
def C87 : Cfg := ⟨[0, 2], [], [], [], []⟩   -- math/bits.Len
theorem ok87 : codeOK Try.prog C87 Try.f87.ntmps ((Try.f87.body).getD .skip) = true := by kernel_rfl
def C88 : Cfg := ⟨[0, 2, 3, 5, 6, 7, 8, 9, 21], [5], [5, 13, 22, 25, 28], [], []⟩   -- escritoire/plan.What
theorem ok88 : codeOK Try.prog C88 Try.f88.ntmps ((Try.f88.body).getD .skip) = true := by kernel_rfl
def C89 : Cfg := ⟨[0, 1, 4], [], [], [], []⟩   -- internal/stringslite.HasPrefix
theorem ok89 : codeOK Try.prog C89 Try.f89.ntmps ((Try.f89.body).getD .skip) = true := by kernel_rfl
def C90 : Cfg := ⟨[0, 1, 4], [], [], [], [(0, .cons 0 (.cons 1 (.cons 2 (.cons 3 (.cons 4 (.cons 5 (.cons 6 (.cons 7 (.cons 9 (.cons 10 (.cons 11 (.both (.cons 8 (.cons 12 (.cons 13 (.cons 14 (.cons 15 (.nil)))))) (.cons 12 (.both (.cons 8 (.cons 13 (.cons 14 (.cons 15 (.nil))))) (.cons 13 (.cons 8 (.cons 14 (.cons 15 (.nil)))))))))))))))))))]⟩   -- (*strings.Builder).grow
theorem ok90 : codeOK Try.prog C90 Try.f90.ntmps ((Try.f90.body).getD .skip) = true := by kernel_rfl
def C91 : Cfg := ⟨[0, 1, 2, 3, 8, 9, 14, 34], [], [], [], []⟩   -- slices.insertionSortCmpFunc[escritoire/api.Change]
theorem ok91 : codeOK Try.prog C91 Try.f91.ntmps ((Try.f91.body).getD .skip) = true := by kernel_rfl
def C92 : Cfg := ⟨[0, 1, 2, 3, 8, 9, 10, 11, 12, 21, 33], [], [], [], []⟩   -- slices.heapSortCmpFunc[escritoire/api.Change]
theorem ok92 : codeOK Try.prog C92 Try.f92.ntmps ((Try.f92.body).getD .skip) = true := by kernel_rfl
def C93 : Cfg := ⟨[0, 1, 2, 8, 9, 10, 11, 12, 17, 35, 45], [], [], [], []⟩   -- slices.breakPatternsCmpFunc[escritoire/api.Change]
theorem ok93 : codeOK Try.prog C93 Try.f93.ntmps ((Try.f93.body).getD .skip) = true := by kernel_rfl
def C94 : Cfg := ⟨[0, 1, 2, 3, 8, 9, 10, 11, 12, 13, 14, 34, 36, 55, 57, 60], [], [], [], []⟩   -- slices.choosePivotCmpFunc[escritoire/api.Change]
theorem ok94 : codeOK Try.prog C94 Try.f94.ntmps ((Try.f94.body).getD .skip) = true := by kernel_rfl
def C95 : Cfg := ⟨[0, 1, 2, 8, 9, 15], [], [], [], []⟩   -- slices.reverseRangeCmpFunc[escritoire/api.Change]
theorem ok95 : codeOK Try.prog C95 Try.f95.ntmps ((Try.f95.body).getD .skip) = true := by kernel_rfl
def C96 : Cfg := ⟨[0, 1, 2, 3, 8, 9, 10, 11, 12, 16, 36, 41, 45, 65, 69, 84, 104, 109, 124], [], [], [], []⟩   -- slices.partialInsertionSortCmpFunc[escritoire/api.Change]
theorem ok96 : codeOK Try.prog C96 Try.f96.ntmps ((Try.f96.body).getD .skip) = true := by kernel_rfl
def C97 : Cfg := ⟨[0, 1, 2, 3, 4, 10, 11, 12, 47, 65, 70], [], [], [], []⟩   -- slices.partitionEqualCmpFunc[escritoire/api.Change]
theorem ok97 : codeOK Try.prog C97 Try.f97.ntmps ((Try.f97.body).getD .skip) = true := by kernel_rfl
def C98 : Cfg := ⟨[0, 1, 2, 3, 4, 10, 11, 12, 13, 47, 66, 71, 120, 139, 144], [], [], [], []⟩   -- slices.partitionCmpFunc[escritoire/api.Change]
theorem ok98 : codeOK Try.prog C98 Try.f98.ntmps ((Try.f98.body).getD .skip) = true := by kernel_rfl
def C99 : Cfg := ⟨[0, 2, 4, 8], [], [], [], []⟩   -- math/bits.Len32
theorem ok99 : codeOK Try.prog C99 Try.f99.ntmps ((Try.f99.body).getD .skip) = true := by kernel_rfl
def C100 : Cfg := ⟨[0, 2, 4, 8, 14], [], [], [], []⟩   -- math/bits.Len64
theorem ok100 : codeOK Try.prog C100 Try.f100.ntmps ((Try.f100.body).getD .skip) = true := by kernel_rfl
def C102 : Cfg := ⟨[0, 1, 2, 3, 4, 10, 11, 18, 40, 58], [], [], [], []⟩   -- slices.siftDownCmpFunc[escritoire/api.Change]
theorem ok102 : codeOK Try.prog C102 Try.f102.ntmps ((Try.f102.body).getD .skip) = true := by kernel_rfl
def C103 : Cfg := ⟨[0, 2], [], [], [], []⟩   -- slices.nextPowerOfTwo
theorem ok103 : codeOK Try.prog C103 Try.f103.ntmps ((Try.f103.body).getD .skip) = true := by kernel_rfl
def C104 : Cfg := ⟨[0, 2], [], [], [], []⟩   -- (*slices.xorshift).Next
theorem ok104 : codeOK Try.prog C104 Try.f104.ntmps ((Try.f104.body).getD .skip) = true := by kernel_rfl
def C105 : Cfg := ⟨[0, 1, 2, 3, 8], [], [], [], []⟩   -- slices.medianAdjacentCmpFunc[escritoire/api.Change]
theorem ok105 : codeOK Try.prog C105 Try.f105.ntmps ((Try.f105.body).getD .skip) = true := by kernel_rfl
def C106 : Cfg := ⟨[0, 1, 2, 3, 4, 5, 12], [], [], [], []⟩   -- slices.medianCmpFunc[escritoire/api.Change]
theorem ok106 : codeOK Try.prog C106 Try.f106.ntmps ((Try.f106.body).getD .skip) = true := by kernel_rfl
def C107 : Cfg := ⟨[0, 1, 2, 3, 4, 10, 11, 22], [], [], [], []⟩   -- slices.order2CmpFunc[escritoire/api.Change]
theorem ok107 : codeOK Try.prog C107 Try.f107.ntmps ((Try.f107.body).getD .skip) = true := by kernel_rfl
end Go.Proofs.Ytlloemmpnhoanaa
