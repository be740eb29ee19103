/- AsmWrong, case by case: by the kernel's own run. -/
import Derived.Test.YtehmkckpbknodaaDoorTab
import Derived.Test.YtehmkckpbknodaaDoorHeap0
set_option linter.all false
namespace Go.Proofs.YtehmkckpbknodaaDoor
open Go Go.Ev
theorem w0_0 : isTrue (tab 1000 60 4 [.complex .f64 0 34] (H1 [(10, 0), (7, 0)])) = true := by kernel_rfl
theorem w0_1 : isTrue (tab 1000 60 4 [.complex .f64 0 34] (H1 [(10, 0), (7, 1)])) = true := by kernel_rfl
theorem w0_2 : isTrue (tab 1000 60 4 [.complex .f64 0 34] (H1 [(10, 0), (7, 2)])) = true := by kernel_rfl
theorem w0_3 : isTrue (tab 1000 60 4 [.complex .f64 0 34] (H1 [(10, 0), (7, 3)])) = true := by kernel_rfl
theorem w0_4 : isTrue (tab 1000 60 4 [.complex .f64 0 34] (H1 [(10, 0), (7, 4)])) = true := by kernel_rfl
theorem w0_5 : isTrue (tab 1000 60 4 [.complex .f64 0 34] (H1 [(10, 0), (7, 5)])) = true := by kernel_rfl
theorem w0_6 : isTrue (tab 1000 60 4 [.complex .f64 0 34] (H1 [(10, 0), (7, 6)])) = true := by kernel_rfl
theorem w1_0 : isTrue (tab 1000 60 4 [.complex .f64 0 34] (H1 [(10, 1), (7, 0)])) = true := by kernel_rfl
theorem w1_1 : isTrue (tab 1000 60 4 [.complex .f64 0 34] (H1 [(10, 1), (7, 1)])) = true := by kernel_rfl
theorem w1_2 : isTrue (tab 1000 60 4 [.complex .f64 0 34] (H1 [(10, 1), (7, 2)])) = true := by kernel_rfl
theorem w1_3 : isTrue (tab 1000 60 4 [.complex .f64 0 34] (H1 [(10, 1), (7, 3)])) = true := by kernel_rfl
theorem w1_4 : isTrue (tab 1000 60 4 [.complex .f64 0 34] (H1 [(10, 1), (7, 4)])) = true := by kernel_rfl
theorem w1_5 : isTrue (tab 1000 60 4 [.complex .f64 0 34] (H1 [(10, 1), (7, 5)])) = true := by kernel_rfl
theorem w1_6 : isTrue (tab 1000 60 4 [.complex .f64 0 34] (H1 [(10, 1), (7, 6)])) = true := by kernel_rfl
theorem w2_0 : isTrue (tab 1000 60 4 [.complex .f64 0 34] (H1 [(10, 2), (7, 0)])) = true := by kernel_rfl
theorem w2_1 : isTrue (tab 1000 60 4 [.complex .f64 0 34] (H1 [(10, 2), (7, 1)])) = true := by kernel_rfl
theorem w2_2 : isTrue (tab 1000 60 4 [.complex .f64 0 34] (H1 [(10, 2), (7, 2)])) = true := by kernel_rfl
theorem w2_3 : isTrue (tab 1000 60 4 [.complex .f64 0 34] (H1 [(10, 2), (7, 3)])) = true := by kernel_rfl
theorem w2_4 : isTrue (tab 1000 60 4 [.complex .f64 0 34] (H1 [(10, 2), (7, 4)])) = true := by kernel_rfl
theorem w2_5 : isTrue (tab 1000 60 4 [.complex .f64 0 34] (H1 [(10, 2), (7, 5)])) = true := by kernel_rfl
theorem w2_6 : isTrue (tab 1000 60 4 [.complex .f64 0 34] (H1 [(10, 2), (7, 6)])) = true := by kernel_rfl
end Go.Proofs.YtehmkckpbknodaaDoor
