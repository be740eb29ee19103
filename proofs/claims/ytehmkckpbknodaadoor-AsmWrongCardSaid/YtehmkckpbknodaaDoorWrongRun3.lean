/- AsmWrong, case by case: by the kernel's own run. -/
import Derived.Test.YtehmkckpbknodaaDoorTab
import Derived.Test.YtehmkckpbknodaaDoorHeap0
set_option linter.all false
namespace Go.Proofs.YtehmkckpbknodaaDoor
open Go Go.Ev
theorem w8_0 : isTrue (tab 1000 60 4 [.complex .f64 0 34] (H1 [(10, 8), (7, 0)])) = true := by kernel_rfl
theorem w8_1 : isTrue (tab 1000 60 4 [.complex .f64 0 34] (H1 [(10, 8), (7, 1)])) = true := by kernel_rfl
theorem w8_2 : isTrue (tab 1000 60 4 [.complex .f64 0 34] (H1 [(10, 8), (7, 2)])) = true := by kernel_rfl
theorem w8_3 : isTrue (tab 1000 60 4 [.complex .f64 0 34] (H1 [(10, 8), (7, 3)])) = true := by kernel_rfl
theorem w8_4 : isTrue (tab 1000 60 4 [.complex .f64 0 34] (H1 [(10, 8), (7, 4)])) = true := by kernel_rfl
theorem w8_5 : isTrue (tab 1000 60 4 [.complex .f64 0 34] (H1 [(10, 8), (7, 5)])) = true := by kernel_rfl
theorem w8_6 : isTrue (tab 1000 60 4 [.complex .f64 0 34] (H1 [(10, 8), (7, 6)])) = true := by kernel_rfl
theorem w9_0 : isTrue (tab 1000 60 4 [.complex .f64 0 34] (H1 [(10, 9), (7, 0)])) = true := by kernel_rfl
theorem w9_1 : isTrue (tab 1000 60 4 [.complex .f64 0 34] (H1 [(10, 9), (7, 1)])) = true := by kernel_rfl
theorem w9_2 : isTrue (tab 1000 60 4 [.complex .f64 0 34] (H1 [(10, 9), (7, 2)])) = true := by kernel_rfl
theorem w9_3 : isTrue (tab 1000 60 4 [.complex .f64 0 34] (H1 [(10, 9), (7, 3)])) = true := by kernel_rfl
theorem w9_4 : isTrue (tab 1000 60 4 [.complex .f64 0 34] (H1 [(10, 9), (7, 4)])) = true := by kernel_rfl
theorem w9_5 : isTrue (tab 1000 60 4 [.complex .f64 0 34] (H1 [(10, 9), (7, 5)])) = true := by kernel_rfl
theorem w9_6 : isTrue (tab 1000 60 4 [.complex .f64 0 34] (H1 [(10, 9), (7, 6)])) = true := by kernel_rfl
end Go.Proofs.YtehmkckpbknodaaDoor
