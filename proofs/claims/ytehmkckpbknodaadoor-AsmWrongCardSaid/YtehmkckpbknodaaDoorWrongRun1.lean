/- AsmWrong, case by case: by the kernel's own run. -/
import Derived.Test.YtehmkckpbknodaaDoorTab
import Derived.Test.YtehmkckpbknodaaDoorHeap0
set_option linter.all false
namespace Go.Proofs.YtehmkckpbknodaaDoor
open Go Go.Ev
theorem w3_0 : isTrue (tab 1000 60 4 [.complex .f64 0 34] (H1 [(10, 3), (7, 0)])) = true := by kernel_rfl
theorem w3_1 : isTrue (tab 1000 60 4 [.complex .f64 0 34] (H1 [(10, 3), (7, 1)])) = true := by kernel_rfl
theorem w3_2 : isTrue (tab 1000 60 4 [.complex .f64 0 34] (H1 [(10, 3), (7, 2)])) = true := by kernel_rfl
theorem w3_3 : isTrue (tab 1000 60 4 [.complex .f64 0 34] (H1 [(10, 3), (7, 3)])) = true := by kernel_rfl
theorem w3_4 : isTrue (tab 1000 60 4 [.complex .f64 0 34] (H1 [(10, 3), (7, 4)])) = true := by kernel_rfl
theorem w3_5 : isTrue (tab 1000 60 4 [.complex .f64 0 34] (H1 [(10, 3), (7, 5)])) = true := by kernel_rfl
theorem w3_6 : isTrue (tab 1000 60 4 [.complex .f64 0 34] (H1 [(10, 3), (7, 6)])) = true := by kernel_rfl
theorem w4_0 : isTrue (tab 1000 60 4 [.complex .f64 0 34] (H1 [(10, 4), (7, 0)])) = true := by kernel_rfl
theorem w4_1 : isTrue (tab 1000 60 4 [.complex .f64 0 34] (H1 [(10, 4), (7, 1)])) = true := by kernel_rfl
theorem w4_2 : isTrue (tab 1000 60 4 [.complex .f64 0 34] (H1 [(10, 4), (7, 2)])) = true := by kernel_rfl
theorem w4_3 : isTrue (tab 1000 60 4 [.complex .f64 0 34] (H1 [(10, 4), (7, 3)])) = true := by kernel_rfl
theorem w4_4 : isTrue (tab 1000 60 4 [.complex .f64 0 34] (H1 [(10, 4), (7, 4)])) = true := by kernel_rfl
theorem w4_5 : isTrue (tab 1000 60 4 [.complex .f64 0 34] (H1 [(10, 4), (7, 5)])) = true := by kernel_rfl
theorem w4_6 : isTrue (tab 1000 60 4 [.complex .f64 0 34] (H1 [(10, 4), (7, 6)])) = true := by kernel_rfl
end Go.Proofs.YtehmkckpbknodaaDoor
