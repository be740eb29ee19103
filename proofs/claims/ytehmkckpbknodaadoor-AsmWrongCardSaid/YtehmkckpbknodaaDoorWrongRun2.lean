/- AsmWrong, case by case: by the kernel's own run. -/
import Derived.Test.YtehmkckpbknodaaDoorTab
import Derived.Test.YtehmkckpbknodaaDoorHeap0
set_option linter.all false
namespace Go.Proofs.YtehmkckpbknodaaDoor
open Go Go.Ev
theorem w5_0 : isTrue (tab 1000 60 4 [.complex .f64 0 34] (H1 [(10, 5), (7, 0)])) = true := by kernel_rfl
theorem w5_1 : isTrue (tab 1000 60 4 [.complex .f64 0 34] (H1 [(10, 5), (7, 1)])) = true := by kernel_rfl
theorem w5_2 : isTrue (tab 1000 60 4 [.complex .f64 0 34] (H1 [(10, 5), (7, 2)])) = true := by kernel_rfl
theorem w5_3 : isTrue (tab 1000 60 4 [.complex .f64 0 34] (H1 [(10, 5), (7, 3)])) = true := by kernel_rfl
theorem w5_4 : isTrue (tab 1000 60 4 [.complex .f64 0 34] (H1 [(10, 5), (7, 4)])) = true := by kernel_rfl
theorem w5_5 : isTrue (tab 1000 60 4 [.complex .f64 0 34] (H1 [(10, 5), (7, 5)])) = true := by kernel_rfl
theorem w5_6 : isTrue (tab 1000 60 4 [.complex .f64 0 34] (H1 [(10, 5), (7, 6)])) = true := by kernel_rfl
theorem w6_0 : isTrue (tab 1000 60 4 [.complex .f64 0 34] (H1 [(10, 6), (7, 0)])) = true := by kernel_rfl
theorem w6_1 : isTrue (tab 1000 60 4 [.complex .f64 0 34] (H1 [(10, 6), (7, 1)])) = true := by kernel_rfl
theorem w6_2 : isTrue (tab 1000 60 4 [.complex .f64 0 34] (H1 [(10, 6), (7, 2)])) = true := by kernel_rfl
theorem w6_3 : isTrue (tab 1000 60 4 [.complex .f64 0 34] (H1 [(10, 6), (7, 3)])) = true := by kernel_rfl
theorem w6_4 : isTrue (tab 1000 60 4 [.complex .f64 0 34] (H1 [(10, 6), (7, 4)])) = true := by kernel_rfl
theorem w6_5 : isTrue (tab 1000 60 4 [.complex .f64 0 34] (H1 [(10, 6), (7, 5)])) = true := by kernel_rfl
theorem w6_6 : isTrue (tab 1000 60 4 [.complex .f64 0 34] (H1 [(10, 6), (7, 6)])) = true := by kernel_rfl
theorem w7_0 : isTrue (tab 1000 60 4 [.complex .f64 0 34] (H1 [(10, 7), (7, 0)])) = true := by kernel_rfl
theorem w7_1 : isTrue (tab 1000 60 4 [.complex .f64 0 34] (H1 [(10, 7), (7, 1)])) = true := by kernel_rfl
theorem w7_2 : isTrue (tab 1000 60 4 [.complex .f64 0 34] (H1 [(10, 7), (7, 2)])) = true := by kernel_rfl
theorem w7_3 : isTrue (tab 1000 60 4 [.complex .f64 0 34] (H1 [(10, 7), (7, 3)])) = true := by kernel_rfl
theorem w7_4 : isTrue (tab 1000 60 4 [.complex .f64 0 34] (H1 [(10, 7), (7, 4)])) = true := by kernel_rfl
theorem w7_5 : isTrue (tab 1000 60 4 [.complex .f64 0 34] (H1 [(10, 7), (7, 5)])) = true := by kernel_rfl
theorem w7_6 : isTrue (tab 1000 60 4 [.complex .f64 0 34] (H1 [(10, 7), (7, 6)])) = true := by kernel_rfl
end Go.Proofs.YtehmkckpbknodaaDoor
