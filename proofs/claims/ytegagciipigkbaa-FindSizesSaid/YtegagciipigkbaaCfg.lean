/-
  The functions' settings for the engine, and what the kernel says of them.
-/
import Derived.Test.YtegagciipigkbaaEngR
import Derived.Test.YtegagciipigkbaaProg
set_option linter.all false
namespace Go.Proofs.Ytegagciipigkbaa
open Go Go.Eng
theorem hmix : Try.prog.follows .mixedOrders = true := by kernel_rfl
def C3 : Cfg := ⟨[0, 2, 3, 4, 5, 6, 7, 8, 9, 10, 11, 12, 13, 14, 16, 24, 39, 60, 92, 96, 104], [], [], []⟩   -- escritoire/escritoirelaw26.FindSizes
theorem ok3 : codeOK Try.prog C3 Try.f3.ntmps ((Try.f3.body).getD .skip) = true := by kernel_rfl
def C4 : Cfg := ⟨[0, 1, 3, 4, 5, 6, 7, 8, 9, 10, 11, 13, 19, 35, 48], [3, 6, 10, 11], [3, 6, 10, 11, 36, 38, 40, 53, 61, 64, 65, 66, 69], []⟩   -- escritoire/escritoirelaw26.FindKinds
theorem ok4 : codeOK Try.prog C4 Try.f4.ntmps ((Try.f4.body).getD .skip) = true := by kernel_rfl
def C5 : Cfg := ⟨[0, 1, 2, 3], [], [], []⟩   -- escritoire/escritoirelaw26.lives
theorem ok5 : codeOK Try.prog C5 Try.f5.ntmps ((Try.f5.body).getD .skip) = true := by kernel_rfl
def C6 : Cfg := ⟨[0, 2, 3, 4, 13, 40, 48, 88], [], [], []⟩   -- escritoire/escritoirelaw26.fitting
theorem ok6 : codeOK Try.prog C6 Try.f6.ntmps ((Try.f6.body).getD .skip) = true := by kernel_rfl
def C7 : Cfg := ⟨[0, 2], [], [], []⟩   -- escritoire/find.Paths
theorem ok7 : codeOK Try.prog C7 Try.f7.ntmps ((Try.f7.body).getD .skip) = true := by kernel_rfl
def C8 : Cfg := ⟨[0, 1, 4, 5, 6, 7, 8, 9, 11, 15, 19, 20, 21, 22, 49, 57, 66], [11], [11, 27, 33, 34, 38, 43, 51, 52, 54, 55, 59, 60], []⟩   -- escritoire/find.Size
theorem ok8 : codeOK Try.prog C8 Try.f8.ntmps ((Try.f8.body).getD .skip) = true := by kernel_rfl
def C9 : Cfg := ⟨[0, 1, 3, 4], [3], [3], []⟩   -- escritoire/find.All
theorem ok9 : codeOK Try.prog C9 Try.f9.ntmps ((Try.f9.body).getD .skip) = true := by kernel_rfl
def C10 : Cfg := ⟨[0, 2, 3, 7, 15], [], [], []⟩   -- escritoire/escritoirelaw26.anyBelow
theorem ok10 : codeOK Try.prog C10 Try.f10.ntmps ((Try.f10.body).getD .skip) = true := by kernel_rfl
def C11 : Cfg := ⟨[0, 2, 3, 4, 6, 7, 9, 12, 13, 14, 15, 23, 44, 45, 46, 47, 54], [6], [6, 19, 20, 25, 26, 31, 32, 35, 36, 39], []⟩   -- escritoire/find.Twice
theorem ok11 : codeOK Try.prog C11 Try.f11.ntmps ((Try.f11.body).getD .skip) = true := by kernel_rfl
def C12 : Cfg := ⟨[0], [], [], []⟩   -- escritoire/escritoirelaw26.tree
theorem ok12 : codeOK Try.prog C12 Try.f12.ntmps ((Try.f12.body).getD .skip) = true := by kernel_rfl
def C13 : Cfg := ⟨[0, 1, 4, 5, 10, 14, 25], [], [], []⟩   -- escritoire/escritoireref04.SameTexts
theorem ok13 : codeOK Try.prog C13 Try.f13.ntmps ((Try.f13.body).getD .skip) = true := by kernel_rfl
def C14 : Cfg := ⟨[0, 2, 3, 5, 7, 8, 9, 10], [5], [5, 14], []⟩   -- escritoire/find.Deep
theorem ok14 : codeOK Try.prog C14 Try.f14.ntmps ((Try.f14.body).getD .skip) = true := by kernel_rfl
def C15 : Cfg := ⟨[0, 2, 3, 4, 8, 41], [], [], []⟩   -- escritoire/escritoireref04.Right
theorem ok15 : codeOK Try.prog C15 Try.f15.ntmps ((Try.f15.body).getD .skip) = true := by kernel_rfl
def C16 : Cfg := ⟨[0, 1, 4, 5, 15, 24], [], [], []⟩   -- escritoire/escritoireref04.Ahead
theorem ok16 : codeOK Try.prog C16 Try.f16.ntmps ((Try.f16.body).getD .skip) = true := by kernel_rfl
def C17 : Cfg := ⟨[0, 1, 4, 5, 7, 9, 10, 11, 12, 17], [7], [7, 19], []⟩   -- escritoire/find.chosen
theorem ok17 : codeOK Try.prog C17 Try.f17.ntmps ((Try.f17.body).getD .skip) = true := by kernel_rfl
def C18 : Cfg := ⟨[0, 2], [1], [1], []⟩   -- escritoire/find.Paths$1
theorem ok18 : codeOK Try.prog C18 Try.f18.ntmps ((Try.f18.body).getD .skip) = true := by kernel_rfl
def C19 : Cfg := ⟨[0, 2, 3, 5, 8, 12, 13, 14, 15], [5], [5, 22], []⟩   -- escritoire/find.spots
theorem ok19 : codeOK Try.prog C19 Try.f19.ntmps ((Try.f19.body).getD .skip) = true := by kernel_rfl
def C20 : Cfg := ⟨[0, 1, 4], [], [], []⟩   -- strings.HasPrefix
theorem ok20 : codeOK Try.prog C20 Try.f20.ntmps ((Try.f20.body).getD .skip) = true := by kernel_rfl
def C21 : Cfg := ⟨[0, 1, 2, 3, 4, 5, 6, 7], [2, 3], [2, 3, 8, 11, 15, 17, 18, 23, 27, 32, 42, 43, 45, 50, 54, 56], []⟩   -- (escritoire/find.Want).wants
theorem ok21 : codeOK Try.prog C21 Try.f21.ntmps ((Try.f21.body).getD .skip) = true := by kernel_rfl
def C22 : Cfg := ⟨[0, 2, 4], [], [], []⟩   -- escritoire/audit.Names
theorem ok22 : codeOK Try.prog C22 Try.f22.ntmps ((Try.f22.body).getD .skip) = true := by kernel_rfl
def C23 : Cfg := ⟨[0, 1, 3, 4, 6, 12, 26, 30, 33, 34, 35, 36], [3, 6], [3, 6, 23, 24, 27, 31, 32, 42, 45, 47, 54], []⟩   -- (*escritoire/find.finder).visit
theorem ok23 : codeOK Try.prog C23 Try.f23.ntmps ((Try.f23.body).getD .skip) = true := by kernel_rfl
def C24 : Cfg := ⟨[0, 1, 4], [], [], []⟩   -- internal/stringslite.HasPrefix
theorem ok24 : codeOK Try.prog C24 Try.f24.ntmps ((Try.f24.body).getD .skip) = true := by kernel_rfl
def C25 : Cfg := ⟨[0, 1, 2, 5], [1], [1, 3, 6, 9], []⟩   -- escritoire/find.size
theorem ok25 : codeOK Try.prog C25 Try.f25.ntmps ((Try.f25.body).getD .skip) = true := by kernel_rfl
def C26 : Cfg := ⟨[0, 2, 3, 4, 6, 8, 10, 12, 13, 14, 15, 21, 22, 23, 24, 41, 46, 48, 53, 55, 56, 57, 58, 72, 88, 90, 97, 124], [6, 8, 10, 11, 14], [6, 8, 10, 11, 14, 31, 51, 54, 66, 77, 94, 116, 120], []⟩   -- escritoire/audit.grow
theorem ok26 : codeOK Try.prog C26 Try.f26.ntmps ((Try.f26.body).getD .skip) = true := by kernel_rfl
def C27 : Cfg := ⟨[0, 1, 4, 6, 12, 26, 28, 29, 30, 31], [4, 6], [4, 6, 24, 27, 35], []⟩   -- (*escritoire/audit.tree).visit
theorem ok27 : codeOK Try.prog C27 Try.f27.ntmps ((Try.f27.body).getD .skip) = true := by kernel_rfl
end Go.Proofs.Ytegagciipigkbaa
