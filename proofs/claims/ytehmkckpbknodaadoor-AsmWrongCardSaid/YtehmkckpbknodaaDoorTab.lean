/- The table of all functions. Printed by a program of ours. -/
import Derived.Test.YtehmkckpbknodaaDoorQ0
import Derived.Test.YtehmkckpbknodaaDoorQ1
import Derived.Test.YtehmkckpbknodaaDoorQ2
import Derived.Test.YtehmkckpbknodaaDoorQ3
import Derived.Test.YtehmkckpbknodaaDoorClone
import Derived.Test.YtehmkckpbknodaaDoorNum
import Derived.KernelRfl
set_option linter.all false
namespace Go.Proofs.YtehmkckpbknodaaDoor
open Go Go.Ev
variable {G : Nat} (hp : progOk Tryd.prog G = true) (hdr : DrawnOk Tryd.prog G)
include hp hdr

noncomputable def D3_3 (F : CallH) (M : Nat) (f : Nat) (args : List Value) (h : AH) : Res := match Nat.beq f 3 with | true => (match args with | [x0, x1, x2, x3] => R3 F M x0 x1 x2 x3 h | _ => none) | false => none
theorem D3_3_ok {F : CallH} (hf : FnsOk Tryd.prog G F) (M : Nat) : FnsOk Tryd.prog G (D3_3 F M) := FnsOk.leaf (FOk.r4 hp hdr hf (R3_ok F M))
noncomputable def D4_4 (F : CallH) (M : Nat) (f : Nat) (args : List Value) (h : AH) : Res := match Nat.beq f 4 with | true => (match args with | [x0] => R4 F M x0 h | _ => none) | false => none
theorem D4_4_ok {F : CallH} (hf : FnsOk Tryd.prog G F) (M : Nat) : FnsOk Tryd.prog G (D4_4 F M) := FnsOk.leaf (FOk.r1 hp hdr hf (R4_ok F M))
noncomputable def D3_4 (F : CallH) (M : Nat) (f : Nat) (args : List Value) (h : AH) : Res := match Nat.blt f 4 with | true => D3_3 F M f args h | false => D4_4 F M f args h
theorem D3_4_ok {F : CallH} (hf : FnsOk Tryd.prog G F) (M : Nat) : FnsOk Tryd.prog G (D3_4 F M) := FnsOk.node (D3_3_ok hp hdr hf M) (D4_4_ok hp hdr hf M)
noncomputable def D5_5 (F : CallH) (M : Nat) (f : Nat) (args : List Value) (h : AH) : Res := match Nat.beq f 5 with | true => (match args with | [] => R5 F M h | _ => none) | false => none
theorem D5_5_ok {F : CallH} (hf : FnsOk Tryd.prog G F) (M : Nat) : FnsOk Tryd.prog G (D5_5 F M) := FnsOk.leaf (FOk.r0 hp hdr hf (R5_ok F M))
noncomputable def D6_6 (F : CallH) (M : Nat) (f : Nat) (args : List Value) (h : AH) : Res := match Nat.beq f 6 with | true => ovNum (fun a b h => R6 F M a b h) args h | false => none
theorem D6_6_ok {F : CallH} (hf : FnsOk Tryd.prog G F) (M : Nat) : FnsOk Tryd.prog G (D6_6 F M) := FnsOk.leaf (numSym_ok hp hdr hf M)
noncomputable def D7_7 (F : CallH) (M : Nat) (f : Nat) (args : List Value) (h : AH) : Res := match Nat.beq f 7 with | true => (match args with | [x0] => R7 F M x0 h | _ => none) | false => none
theorem D7_7_ok {F : CallH} (hf : FnsOk Tryd.prog G F) (M : Nat) : FnsOk Tryd.prog G (D7_7 F M) := FnsOk.leaf (FOk.r1 hp hdr hf (R7_ok F M))
noncomputable def D6_7 (F : CallH) (M : Nat) (f : Nat) (args : List Value) (h : AH) : Res := match Nat.blt f 7 with | true => D6_6 F M f args h | false => D7_7 F M f args h
theorem D6_7_ok {F : CallH} (hf : FnsOk Tryd.prog G F) (M : Nat) : FnsOk Tryd.prog G (D6_7 F M) := FnsOk.node (D6_6_ok hp hdr hf M) (D7_7_ok hp hdr hf M)
noncomputable def D5_7 (F : CallH) (M : Nat) (f : Nat) (args : List Value) (h : AH) : Res := match Nat.blt f 6 with | true => D5_5 F M f args h | false => D6_7 F M f args h
theorem D5_7_ok {F : CallH} (hf : FnsOk Tryd.prog G F) (M : Nat) : FnsOk Tryd.prog G (D5_7 F M) := FnsOk.node (D5_5_ok hp hdr hf M) (D6_7_ok hp hdr hf M)
noncomputable def D3_7 (F : CallH) (M : Nat) (f : Nat) (args : List Value) (h : AH) : Res := match Nat.blt f 5 with | true => D3_4 F M f args h | false => D5_7 F M f args h
theorem D3_7_ok {F : CallH} (hf : FnsOk Tryd.prog G F) (M : Nat) : FnsOk Tryd.prog G (D3_7 F M) := FnsOk.node (D3_4_ok hp hdr hf M) (D5_7_ok hp hdr hf M)
noncomputable def D8_8 (F : CallH) (M : Nat) (f : Nat) (args : List Value) (h : AH) : Res := match Nat.beq f 8 with | true => (match args with | [x0] => R8 F M x0 h | _ => none) | false => none
theorem D8_8_ok {F : CallH} (hf : FnsOk Tryd.prog G F) (M : Nat) : FnsOk Tryd.prog G (D8_8 F M) := FnsOk.leaf (FOk.r1 hp hdr hf (R8_ok F M))
noncomputable def D9_9 (F : CallH) (M : Nat) (f : Nat) (args : List Value) (h : AH) : Res := match Nat.beq f 9 with | true => (match args with | [x0, x1] => R9 F M x0 x1 h | _ => none) | false => none
theorem D9_9_ok {F : CallH} (hf : FnsOk Tryd.prog G F) (M : Nat) : FnsOk Tryd.prog G (D9_9 F M) := FnsOk.leaf (FOk.r2 hp hdr hf (R9_ok F M))
noncomputable def D10_10 (F : CallH) (M : Nat) (f : Nat) (args : List Value) (h : AH) : Res := match Nat.beq f 10 with | true => (match args with | [x0, x1] => R10 F M x0 x1 h | _ => none) | false => none
theorem D10_10_ok {F : CallH} (hf : FnsOk Tryd.prog G F) (M : Nat) : FnsOk Tryd.prog G (D10_10 F M) := FnsOk.leaf (FOk.r2 hp hdr hf (R10_ok F M))
noncomputable def D9_10 (F : CallH) (M : Nat) (f : Nat) (args : List Value) (h : AH) : Res := match Nat.blt f 10 with | true => D9_9 F M f args h | false => D10_10 F M f args h
theorem D9_10_ok {F : CallH} (hf : FnsOk Tryd.prog G F) (M : Nat) : FnsOk Tryd.prog G (D9_10 F M) := FnsOk.node (D9_9_ok hp hdr hf M) (D10_10_ok hp hdr hf M)
noncomputable def D8_10 (F : CallH) (M : Nat) (f : Nat) (args : List Value) (h : AH) : Res := match Nat.blt f 9 with | true => D8_8 F M f args h | false => D9_10 F M f args h
theorem D8_10_ok {F : CallH} (hf : FnsOk Tryd.prog G F) (M : Nat) : FnsOk Tryd.prog G (D8_10 F M) := FnsOk.node (D8_8_ok hp hdr hf M) (D9_10_ok hp hdr hf M)
noncomputable def D11_11 (F : CallH) (M : Nat) (f : Nat) (args : List Value) (h : AH) : Res := match Nat.beq f 11 with | true => (match args with | [x0] => R11 F M x0 h | _ => none) | false => none
theorem D11_11_ok {F : CallH} (hf : FnsOk Tryd.prog G F) (M : Nat) : FnsOk Tryd.prog G (D11_11 F M) := FnsOk.leaf (FOk.r1 hp hdr hf (R11_ok F M))
noncomputable def D12_12 (F : CallH) (M : Nat) (f : Nat) (args : List Value) (h : AH) : Res := match Nat.beq f 12 with | true => (match args with | [x0, x1] => R12 F M x0 x1 h | _ => none) | false => none
theorem D12_12_ok {F : CallH} (hf : FnsOk Tryd.prog G F) (M : Nat) : FnsOk Tryd.prog G (D12_12 F M) := FnsOk.leaf (FOk.r2 hp hdr hf (R12_ok F M))
noncomputable def D13_13 (F : CallH) (M : Nat) (f : Nat) (args : List Value) (h : AH) : Res := match Nat.beq f 13 with | true => (match args with | [x0] => R13 F M x0 h | _ => none) | false => none
theorem D13_13_ok {F : CallH} (hf : FnsOk Tryd.prog G F) (M : Nat) : FnsOk Tryd.prog G (D13_13 F M) := FnsOk.leaf (FOk.r1 hp hdr hf (R13_ok F M))
noncomputable def D12_13 (F : CallH) (M : Nat) (f : Nat) (args : List Value) (h : AH) : Res := match Nat.blt f 13 with | true => D12_12 F M f args h | false => D13_13 F M f args h
theorem D12_13_ok {F : CallH} (hf : FnsOk Tryd.prog G F) (M : Nat) : FnsOk Tryd.prog G (D12_13 F M) := FnsOk.node (D12_12_ok hp hdr hf M) (D13_13_ok hp hdr hf M)
noncomputable def D11_13 (F : CallH) (M : Nat) (f : Nat) (args : List Value) (h : AH) : Res := match Nat.blt f 12 with | true => D11_11 F M f args h | false => D12_13 F M f args h
theorem D11_13_ok {F : CallH} (hf : FnsOk Tryd.prog G F) (M : Nat) : FnsOk Tryd.prog G (D11_13 F M) := FnsOk.node (D11_11_ok hp hdr hf M) (D12_13_ok hp hdr hf M)
noncomputable def D8_13 (F : CallH) (M : Nat) (f : Nat) (args : List Value) (h : AH) : Res := match Nat.blt f 11 with | true => D8_10 F M f args h | false => D11_13 F M f args h
theorem D8_13_ok {F : CallH} (hf : FnsOk Tryd.prog G F) (M : Nat) : FnsOk Tryd.prog G (D8_13 F M) := FnsOk.node (D8_10_ok hp hdr hf M) (D11_13_ok hp hdr hf M)
noncomputable def D3_13 (F : CallH) (M : Nat) (f : Nat) (args : List Value) (h : AH) : Res := match Nat.blt f 8 with | true => D3_7 F M f args h | false => D8_13 F M f args h
theorem D3_13_ok {F : CallH} (hf : FnsOk Tryd.prog G F) (M : Nat) : FnsOk Tryd.prog G (D3_13 F M) := FnsOk.node (D3_7_ok hp hdr hf M) (D8_13_ok hp hdr hf M)
noncomputable def D14_14 (F : CallH) (M : Nat) (f : Nat) (args : List Value) (h : AH) : Res := match Nat.beq f 14 with | true => (match args with | [x0] => R14 F M x0 h | _ => none) | false => none
theorem D14_14_ok {F : CallH} (hf : FnsOk Tryd.prog G F) (M : Nat) : FnsOk Tryd.prog G (D14_14 F M) := FnsOk.leaf (FOk.r1 hp hdr hf (R14_ok F M))
noncomputable def D15_15 (F : CallH) (M : Nat) (f : Nat) (args : List Value) (h : AH) : Res := match Nat.beq f 15 with | true => (match args with | [x0, x1] => R15 F M x0 x1 h | _ => none) | false => none
theorem D15_15_ok {F : CallH} (hf : FnsOk Tryd.prog G F) (M : Nat) : FnsOk Tryd.prog G (D15_15 F M) := FnsOk.leaf (FOk.r2 hp hdr hf (R15_ok F M))
noncomputable def D16_16 (F : CallH) (M : Nat) (f : Nat) (args : List Value) (h : AH) : Res := match Nat.beq f 16 with | true => (match args with | [x0] => R16 F M x0 h | _ => none) | false => none
theorem D16_16_ok {F : CallH} (hf : FnsOk Tryd.prog G F) (M : Nat) : FnsOk Tryd.prog G (D16_16 F M) := FnsOk.leaf (FOk.r1 hp hdr hf (R16_ok F M))
noncomputable def D15_16 (F : CallH) (M : Nat) (f : Nat) (args : List Value) (h : AH) : Res := match Nat.blt f 16 with | true => D15_15 F M f args h | false => D16_16 F M f args h
theorem D15_16_ok {F : CallH} (hf : FnsOk Tryd.prog G F) (M : Nat) : FnsOk Tryd.prog G (D15_16 F M) := FnsOk.node (D15_15_ok hp hdr hf M) (D16_16_ok hp hdr hf M)
noncomputable def D14_16 (F : CallH) (M : Nat) (f : Nat) (args : List Value) (h : AH) : Res := match Nat.blt f 15 with | true => D14_14 F M f args h | false => D15_16 F M f args h
theorem D14_16_ok {F : CallH} (hf : FnsOk Tryd.prog G F) (M : Nat) : FnsOk Tryd.prog G (D14_16 F M) := FnsOk.node (D14_14_ok hp hdr hf M) (D15_16_ok hp hdr hf M)
noncomputable def D17_17 (F : CallH) (M : Nat) (f : Nat) (args : List Value) (h : AH) : Res := match Nat.beq f 17 with | true => (match args with | [x0] => R17 F M x0 h | _ => none) | false => none
theorem D17_17_ok {F : CallH} (hf : FnsOk Tryd.prog G F) (M : Nat) : FnsOk Tryd.prog G (D17_17 F M) := FnsOk.leaf (FOk.r1 hp hdr hf (R17_ok F M))
noncomputable def D18_18 (F : CallH) (M : Nat) (f : Nat) (args : List Value) (h : AH) : Res := match Nat.beq f 18 with | true => (match args with | [x0, x1] => R18 F M x0 x1 h | _ => none) | false => none
theorem D18_18_ok {F : CallH} (hf : FnsOk Tryd.prog G F) (M : Nat) : FnsOk Tryd.prog G (D18_18 F M) := FnsOk.leaf (FOk.r2 hp hdr hf (R18_ok F M))
noncomputable def D19_19 (F : CallH) (M : Nat) (f : Nat) (args : List Value) (h : AH) : Res := match Nat.beq f 19 with | true => (match args with | [x0] => R19 F M x0 h | _ => none) | false => none
theorem D19_19_ok {F : CallH} (hf : FnsOk Tryd.prog G F) (M : Nat) : FnsOk Tryd.prog G (D19_19 F M) := FnsOk.leaf (FOk.r1 hp hdr hf (R19_ok F M))
noncomputable def D18_19 (F : CallH) (M : Nat) (f : Nat) (args : List Value) (h : AH) : Res := match Nat.blt f 19 with | true => D18_18 F M f args h | false => D19_19 F M f args h
theorem D18_19_ok {F : CallH} (hf : FnsOk Tryd.prog G F) (M : Nat) : FnsOk Tryd.prog G (D18_19 F M) := FnsOk.node (D18_18_ok hp hdr hf M) (D19_19_ok hp hdr hf M)
noncomputable def D17_19 (F : CallH) (M : Nat) (f : Nat) (args : List Value) (h : AH) : Res := match Nat.blt f 18 with | true => D17_17 F M f args h | false => D18_19 F M f args h
theorem D17_19_ok {F : CallH} (hf : FnsOk Tryd.prog G F) (M : Nat) : FnsOk Tryd.prog G (D17_19 F M) := FnsOk.node (D17_17_ok hp hdr hf M) (D18_19_ok hp hdr hf M)
noncomputable def D14_19 (F : CallH) (M : Nat) (f : Nat) (args : List Value) (h : AH) : Res := match Nat.blt f 17 with | true => D14_16 F M f args h | false => D17_19 F M f args h
theorem D14_19_ok {F : CallH} (hf : FnsOk Tryd.prog G F) (M : Nat) : FnsOk Tryd.prog G (D14_19 F M) := FnsOk.node (D14_16_ok hp hdr hf M) (D17_19_ok hp hdr hf M)
noncomputable def D20_20 (F : CallH) (M : Nat) (f : Nat) (args : List Value) (h : AH) : Res := match Nat.beq f 20 with | true => (match args with | [x0, x1] => R20 F M x0 x1 h | _ => none) | false => none
theorem D20_20_ok {F : CallH} (hf : FnsOk Tryd.prog G F) (M : Nat) : FnsOk Tryd.prog G (D20_20 F M) := FnsOk.leaf (FOk.r2 hp hdr hf (R20_ok F M))
noncomputable def D21_21 (F : CallH) (M : Nat) (f : Nat) (args : List Value) (h : AH) : Res := match Nat.beq f 21 with | true => (match args with | [x0] => R21 F M x0 h | _ => none) | false => none
theorem D21_21_ok {F : CallH} (hf : FnsOk Tryd.prog G F) (M : Nat) : FnsOk Tryd.prog G (D21_21 F M) := FnsOk.leaf (FOk.r1 hp hdr hf (R21_ok F M))
noncomputable def D22_22 (F : CallH) (M : Nat) (f : Nat) (args : List Value) (h : AH) : Res := match Nat.beq f 22 with | true => (match args with | [] => R22 F M h | _ => none) | false => none
theorem D22_22_ok {F : CallH} (hf : FnsOk Tryd.prog G F) (M : Nat) : FnsOk Tryd.prog G (D22_22 F M) := FnsOk.leaf (FOk.r0 hp hdr hf (R22_ok F M))
noncomputable def D21_22 (F : CallH) (M : Nat) (f : Nat) (args : List Value) (h : AH) : Res := match Nat.blt f 22 with | true => D21_21 F M f args h | false => D22_22 F M f args h
theorem D21_22_ok {F : CallH} (hf : FnsOk Tryd.prog G F) (M : Nat) : FnsOk Tryd.prog G (D21_22 F M) := FnsOk.node (D21_21_ok hp hdr hf M) (D22_22_ok hp hdr hf M)
noncomputable def D20_22 (F : CallH) (M : Nat) (f : Nat) (args : List Value) (h : AH) : Res := match Nat.blt f 21 with | true => D20_20 F M f args h | false => D21_22 F M f args h
theorem D20_22_ok {F : CallH} (hf : FnsOk Tryd.prog G F) (M : Nat) : FnsOk Tryd.prog G (D20_22 F M) := FnsOk.node (D20_20_ok hp hdr hf M) (D21_22_ok hp hdr hf M)
noncomputable def D23_23 (F : CallH) (M : Nat) (f : Nat) (args : List Value) (h : AH) : Res := match Nat.beq f 23 with | true => (match args with | [x0, x1] => R23 F M x0 x1 h | _ => none) | false => none
theorem D23_23_ok {F : CallH} (hf : FnsOk Tryd.prog G F) (M : Nat) : FnsOk Tryd.prog G (D23_23 F M) := FnsOk.leaf (FOk.r2 hp hdr hf (R23_ok F M))
noncomputable def D24_24 (F : CallH) (M : Nat) (f : Nat) (args : List Value) (h : AH) : Res := match Nat.beq f 24 with | true => (match args with | [x0] => R24 F M x0 h | _ => none) | false => none
theorem D24_24_ok {F : CallH} (hf : FnsOk Tryd.prog G F) (M : Nat) : FnsOk Tryd.prog G (D24_24 F M) := FnsOk.leaf (FOk.r1 hp hdr hf (R24_ok F M))
noncomputable def D25_25 (F : CallH) (M : Nat) (f : Nat) (args : List Value) (h : AH) : Res := match Nat.beq f 25 with | true => (match args with | [x0, x1] => R25 F M x0 x1 h | _ => none) | false => none
theorem D25_25_ok {F : CallH} (hf : FnsOk Tryd.prog G F) (M : Nat) : FnsOk Tryd.prog G (D25_25 F M) := FnsOk.leaf (FOk.r2 hp hdr hf (R25_ok F M))
noncomputable def D24_25 (F : CallH) (M : Nat) (f : Nat) (args : List Value) (h : AH) : Res := match Nat.blt f 25 with | true => D24_24 F M f args h | false => D25_25 F M f args h
theorem D24_25_ok {F : CallH} (hf : FnsOk Tryd.prog G F) (M : Nat) : FnsOk Tryd.prog G (D24_25 F M) := FnsOk.node (D24_24_ok hp hdr hf M) (D25_25_ok hp hdr hf M)
noncomputable def D23_25 (F : CallH) (M : Nat) (f : Nat) (args : List Value) (h : AH) : Res := match Nat.blt f 24 with | true => D23_23 F M f args h | false => D24_25 F M f args h
theorem D23_25_ok {F : CallH} (hf : FnsOk Tryd.prog G F) (M : Nat) : FnsOk Tryd.prog G (D23_25 F M) := FnsOk.node (D23_23_ok hp hdr hf M) (D24_25_ok hp hdr hf M)
noncomputable def D20_25 (F : CallH) (M : Nat) (f : Nat) (args : List Value) (h : AH) : Res := match Nat.blt f 23 with | true => D20_22 F M f args h | false => D23_25 F M f args h
theorem D20_25_ok {F : CallH} (hf : FnsOk Tryd.prog G F) (M : Nat) : FnsOk Tryd.prog G (D20_25 F M) := FnsOk.node (D20_22_ok hp hdr hf M) (D23_25_ok hp hdr hf M)
noncomputable def D14_25 (F : CallH) (M : Nat) (f : Nat) (args : List Value) (h : AH) : Res := match Nat.blt f 20 with | true => D14_19 F M f args h | false => D20_25 F M f args h
theorem D14_25_ok {F : CallH} (hf : FnsOk Tryd.prog G F) (M : Nat) : FnsOk Tryd.prog G (D14_25 F M) := FnsOk.node (D14_19_ok hp hdr hf M) (D20_25_ok hp hdr hf M)
noncomputable def D3_25 (F : CallH) (M : Nat) (f : Nat) (args : List Value) (h : AH) : Res := match Nat.blt f 14 with | true => D3_13 F M f args h | false => D14_25 F M f args h
theorem D3_25_ok {F : CallH} (hf : FnsOk Tryd.prog G F) (M : Nat) : FnsOk Tryd.prog G (D3_25 F M) := FnsOk.node (D3_13_ok hp hdr hf M) (D14_25_ok hp hdr hf M)
noncomputable def D26_26 (F : CallH) (M : Nat) (f : Nat) (args : List Value) (h : AH) : Res := match Nat.beq f 26 with | true => (match args with | [x0, x1] => R26 F M x0 x1 h | _ => none) | false => none
theorem D26_26_ok {F : CallH} (hf : FnsOk Tryd.prog G F) (M : Nat) : FnsOk Tryd.prog G (D26_26 F M) := FnsOk.leaf (FOk.r2 hp hdr hf (R26_ok F M))
noncomputable def D27_27 (F : CallH) (M : Nat) (f : Nat) (args : List Value) (h : AH) : Res := match Nat.beq f 27 with | true => (match args with | [x0, x1] => R27 F M x0 x1 h | _ => none) | false => none
theorem D27_27_ok {F : CallH} (hf : FnsOk Tryd.prog G F) (M : Nat) : FnsOk Tryd.prog G (D27_27 F M) := FnsOk.leaf (FOk.r2 hp hdr hf (R27_ok F M))
noncomputable def D28_28 (F : CallH) (M : Nat) (f : Nat) (args : List Value) (h : AH) : Res := match Nat.beq f 28 with | true => (match args with | [x0] => R28 F M x0 h | _ => none) | false => none
theorem D28_28_ok {F : CallH} (hf : FnsOk Tryd.prog G F) (M : Nat) : FnsOk Tryd.prog G (D28_28 F M) := FnsOk.leaf (FOk.r1 hp hdr hf (R28_ok F M))
noncomputable def D27_28 (F : CallH) (M : Nat) (f : Nat) (args : List Value) (h : AH) : Res := match Nat.blt f 28 with | true => D27_27 F M f args h | false => D28_28 F M f args h
theorem D27_28_ok {F : CallH} (hf : FnsOk Tryd.prog G F) (M : Nat) : FnsOk Tryd.prog G (D27_28 F M) := FnsOk.node (D27_27_ok hp hdr hf M) (D28_28_ok hp hdr hf M)
noncomputable def D26_28 (F : CallH) (M : Nat) (f : Nat) (args : List Value) (h : AH) : Res := match Nat.blt f 27 with | true => D26_26 F M f args h | false => D27_28 F M f args h
theorem D26_28_ok {F : CallH} (hf : FnsOk Tryd.prog G F) (M : Nat) : FnsOk Tryd.prog G (D26_28 F M) := FnsOk.node (D26_26_ok hp hdr hf M) (D27_28_ok hp hdr hf M)
noncomputable def D29_29 (F : CallH) (M : Nat) (f : Nat) (args : List Value) (h : AH) : Res := match Nat.beq f 29 with | true => (match args with | [x0] => R29 F M x0 h | _ => none) | false => none
theorem D29_29_ok {F : CallH} (hf : FnsOk Tryd.prog G F) (M : Nat) : FnsOk Tryd.prog G (D29_29 F M) := FnsOk.leaf (FOk.r1 hp hdr hf (R29_ok F M))
noncomputable def D30_30 (F : CallH) (M : Nat) (f : Nat) (args : List Value) (h : AH) : Res := match Nat.beq f 30 with | true => (match args with | [x0] => R30 F M x0 h | _ => none) | false => none
theorem D30_30_ok {F : CallH} (hf : FnsOk Tryd.prog G F) (M : Nat) : FnsOk Tryd.prog G (D30_30 F M) := FnsOk.leaf (FOk.r1 hp hdr hf (R30_ok F M))
noncomputable def D31_31 (F : CallH) (M : Nat) (f : Nat) (args : List Value) (h : AH) : Res := match Nat.beq f 31 with | true => (match args with | [x0] => R31 F M x0 h | _ => none) | false => none
theorem D31_31_ok {F : CallH} (hf : FnsOk Tryd.prog G F) (M : Nat) : FnsOk Tryd.prog G (D31_31 F M) := FnsOk.leaf (FOk.r1 hp hdr hf (R31_ok F M))
noncomputable def D30_31 (F : CallH) (M : Nat) (f : Nat) (args : List Value) (h : AH) : Res := match Nat.blt f 31 with | true => D30_30 F M f args h | false => D31_31 F M f args h
theorem D30_31_ok {F : CallH} (hf : FnsOk Tryd.prog G F) (M : Nat) : FnsOk Tryd.prog G (D30_31 F M) := FnsOk.node (D30_30_ok hp hdr hf M) (D31_31_ok hp hdr hf M)
noncomputable def D29_31 (F : CallH) (M : Nat) (f : Nat) (args : List Value) (h : AH) : Res := match Nat.blt f 30 with | true => D29_29 F M f args h | false => D30_31 F M f args h
theorem D29_31_ok {F : CallH} (hf : FnsOk Tryd.prog G F) (M : Nat) : FnsOk Tryd.prog G (D29_31 F M) := FnsOk.node (D29_29_ok hp hdr hf M) (D30_31_ok hp hdr hf M)
noncomputable def D26_31 (F : CallH) (M : Nat) (f : Nat) (args : List Value) (h : AH) : Res := match Nat.blt f 29 with | true => D26_28 F M f args h | false => D29_31 F M f args h
theorem D26_31_ok {F : CallH} (hf : FnsOk Tryd.prog G F) (M : Nat) : FnsOk Tryd.prog G (D26_31 F M) := FnsOk.node (D26_28_ok hp hdr hf M) (D29_31_ok hp hdr hf M)
noncomputable def D32_32 (F : CallH) (M : Nat) (f : Nat) (args : List Value) (h : AH) : Res := match Nat.beq f 32 with | true => (match args with | [x0] => R32 F M x0 h | _ => none) | false => none
theorem D32_32_ok {F : CallH} (hf : FnsOk Tryd.prog G F) (M : Nat) : FnsOk Tryd.prog G (D32_32 F M) := FnsOk.leaf (FOk.r1 hp hdr hf (R32_ok F M))
noncomputable def D33_33 (F : CallH) (M : Nat) (f : Nat) (args : List Value) (h : AH) : Res := match Nat.beq f 33 with | true => (match args with | [x0] => R33 F M x0 h | _ => none) | false => none
theorem D33_33_ok {F : CallH} (hf : FnsOk Tryd.prog G F) (M : Nat) : FnsOk Tryd.prog G (D33_33 F M) := FnsOk.leaf (FOk.r1 hp hdr hf (R33_ok F M))
noncomputable def D34_34 (F : CallH) (M : Nat) (f : Nat) (args : List Value) (h : AH) : Res := match Nat.beq f 34 with | true => (match args with | [x0] => R34 F M x0 h | _ => none) | false => none
theorem D34_34_ok {F : CallH} (hf : FnsOk Tryd.prog G F) (M : Nat) : FnsOk Tryd.prog G (D34_34 F M) := FnsOk.leaf (FOk.r1 hp hdr hf (R34_ok F M))
noncomputable def D33_34 (F : CallH) (M : Nat) (f : Nat) (args : List Value) (h : AH) : Res := match Nat.blt f 34 with | true => D33_33 F M f args h | false => D34_34 F M f args h
theorem D33_34_ok {F : CallH} (hf : FnsOk Tryd.prog G F) (M : Nat) : FnsOk Tryd.prog G (D33_34 F M) := FnsOk.node (D33_33_ok hp hdr hf M) (D34_34_ok hp hdr hf M)
noncomputable def D32_34 (F : CallH) (M : Nat) (f : Nat) (args : List Value) (h : AH) : Res := match Nat.blt f 33 with | true => D32_32 F M f args h | false => D33_34 F M f args h
theorem D32_34_ok {F : CallH} (hf : FnsOk Tryd.prog G F) (M : Nat) : FnsOk Tryd.prog G (D32_34 F M) := FnsOk.node (D32_32_ok hp hdr hf M) (D33_34_ok hp hdr hf M)
noncomputable def D35_35 (F : CallH) (M : Nat) (f : Nat) (args : List Value) (h : AH) : Res := match Nat.beq f 35 with | true => (match args with | [x0, x1] => R35 F M x0 x1 h | _ => none) | false => none
theorem D35_35_ok {F : CallH} (hf : FnsOk Tryd.prog G F) (M : Nat) : FnsOk Tryd.prog G (D35_35 F M) := FnsOk.leaf (FOk.r2 hp hdr hf (R35_ok F M))
noncomputable def D36_36 (F : CallH) (M : Nat) (f : Nat) (args : List Value) (h : AH) : Res := match Nat.beq f 36 with | true => (match args with | [] => R36 F M h | _ => none) | false => none
theorem D36_36_ok {F : CallH} (hf : FnsOk Tryd.prog G F) (M : Nat) : FnsOk Tryd.prog G (D36_36 F M) := FnsOk.leaf (FOk.r0 hp hdr hf (R36_ok F M))
noncomputable def D37_37 (F : CallH) (M : Nat) (f : Nat) (args : List Value) (h : AH) : Res := match Nat.beq f 37 with | true => (match args with | [x0, x1] => R37 F M x0 x1 h | _ => none) | false => none
theorem D37_37_ok {F : CallH} (hf : FnsOk Tryd.prog G F) (M : Nat) : FnsOk Tryd.prog G (D37_37 F M) := FnsOk.leaf (FOk.r2 hp hdr hf (R37_ok F M))
noncomputable def D36_37 (F : CallH) (M : Nat) (f : Nat) (args : List Value) (h : AH) : Res := match Nat.blt f 37 with | true => D36_36 F M f args h | false => D37_37 F M f args h
theorem D36_37_ok {F : CallH} (hf : FnsOk Tryd.prog G F) (M : Nat) : FnsOk Tryd.prog G (D36_37 F M) := FnsOk.node (D36_36_ok hp hdr hf M) (D37_37_ok hp hdr hf M)
noncomputable def D35_37 (F : CallH) (M : Nat) (f : Nat) (args : List Value) (h : AH) : Res := match Nat.blt f 36 with | true => D35_35 F M f args h | false => D36_37 F M f args h
theorem D35_37_ok {F : CallH} (hf : FnsOk Tryd.prog G F) (M : Nat) : FnsOk Tryd.prog G (D35_37 F M) := FnsOk.node (D35_35_ok hp hdr hf M) (D36_37_ok hp hdr hf M)
noncomputable def D32_37 (F : CallH) (M : Nat) (f : Nat) (args : List Value) (h : AH) : Res := match Nat.blt f 35 with | true => D32_34 F M f args h | false => D35_37 F M f args h
theorem D32_37_ok {F : CallH} (hf : FnsOk Tryd.prog G F) (M : Nat) : FnsOk Tryd.prog G (D32_37 F M) := FnsOk.node (D32_34_ok hp hdr hf M) (D35_37_ok hp hdr hf M)
noncomputable def D26_37 (F : CallH) (M : Nat) (f : Nat) (args : List Value) (h : AH) : Res := match Nat.blt f 32 with | true => D26_31 F M f args h | false => D32_37 F M f args h
theorem D26_37_ok {F : CallH} (hf : FnsOk Tryd.prog G F) (M : Nat) : FnsOk Tryd.prog G (D26_37 F M) := FnsOk.node (D26_31_ok hp hdr hf M) (D32_37_ok hp hdr hf M)
noncomputable def D38_38 (F : CallH) (M : Nat) (f : Nat) (args : List Value) (h : AH) : Res := match Nat.beq f 38 with | true => (match args with | [x0, x1, x2, x3] => R38 F M x0 x1 x2 x3 h | _ => none) | false => none
theorem D38_38_ok {F : CallH} (hf : FnsOk Tryd.prog G F) (M : Nat) : FnsOk Tryd.prog G (D38_38 F M) := FnsOk.leaf (FOk.r4 hp hdr hf (R38_ok F M))
noncomputable def D39_39 (F : CallH) (M : Nat) (f : Nat) (args : List Value) (h : AH) : Res := match Nat.beq f 39 with | true => (match args with | [x0, x1] => R39 F M x0 x1 h | _ => none) | false => none
theorem D39_39_ok {F : CallH} (hf : FnsOk Tryd.prog G F) (M : Nat) : FnsOk Tryd.prog G (D39_39 F M) := FnsOk.leaf (FOk.r2 hp hdr hf (R39_ok F M))
noncomputable def D40_40 (F : CallH) (M : Nat) (f : Nat) (args : List Value) (h : AH) : Res := match Nat.beq f 40 with | true => (match args with | [x0, x1] => R40 F M x0 x1 h | _ => none) | false => none
theorem D40_40_ok {F : CallH} (hf : FnsOk Tryd.prog G F) (M : Nat) : FnsOk Tryd.prog G (D40_40 F M) := FnsOk.leaf (FOk.r2 hp hdr hf (R40_ok F M))
noncomputable def D39_40 (F : CallH) (M : Nat) (f : Nat) (args : List Value) (h : AH) : Res := match Nat.blt f 40 with | true => D39_39 F M f args h | false => D40_40 F M f args h
theorem D39_40_ok {F : CallH} (hf : FnsOk Tryd.prog G F) (M : Nat) : FnsOk Tryd.prog G (D39_40 F M) := FnsOk.node (D39_39_ok hp hdr hf M) (D40_40_ok hp hdr hf M)
noncomputable def D38_40 (F : CallH) (M : Nat) (f : Nat) (args : List Value) (h : AH) : Res := match Nat.blt f 39 with | true => D38_38 F M f args h | false => D39_40 F M f args h
theorem D38_40_ok {F : CallH} (hf : FnsOk Tryd.prog G F) (M : Nat) : FnsOk Tryd.prog G (D38_40 F M) := FnsOk.node (D38_38_ok hp hdr hf M) (D39_40_ok hp hdr hf M)
noncomputable def D41_41 (F : CallH) (M : Nat) (f : Nat) (args : List Value) (h : AH) : Res := match Nat.beq f 41 with | true => (match args with | [x0] => R41 F M x0 h | _ => none) | false => none
theorem D41_41_ok {F : CallH} (hf : FnsOk Tryd.prog G F) (M : Nat) : FnsOk Tryd.prog G (D41_41 F M) := FnsOk.leaf (FOk.r1 hp hdr hf (R41_ok F M))
noncomputable def D42_42 (F : CallH) (M : Nat) (f : Nat) (args : List Value) (h : AH) : Res := match Nat.beq f 42 with | true => (match args with | [x0] => R42 F M x0 h | _ => none) | false => none
theorem D42_42_ok {F : CallH} (hf : FnsOk Tryd.prog G F) (M : Nat) : FnsOk Tryd.prog G (D42_42 F M) := FnsOk.leaf (FOk.r1 hp hdr hf (R42_ok F M))
noncomputable def D43_43 (F : CallH) (M : Nat) (f : Nat) (args : List Value) (h : AH) : Res := match Nat.beq f 43 with | true => (match args with | [x0] => R43 F M x0 h | _ => none) | false => none
theorem D43_43_ok {F : CallH} (hf : FnsOk Tryd.prog G F) (M : Nat) : FnsOk Tryd.prog G (D43_43 F M) := FnsOk.leaf (FOk.r1 hp hdr hf (R43_ok F M))
noncomputable def D42_43 (F : CallH) (M : Nat) (f : Nat) (args : List Value) (h : AH) : Res := match Nat.blt f 43 with | true => D42_42 F M f args h | false => D43_43 F M f args h
theorem D42_43_ok {F : CallH} (hf : FnsOk Tryd.prog G F) (M : Nat) : FnsOk Tryd.prog G (D42_43 F M) := FnsOk.node (D42_42_ok hp hdr hf M) (D43_43_ok hp hdr hf M)
noncomputable def D41_43 (F : CallH) (M : Nat) (f : Nat) (args : List Value) (h : AH) : Res := match Nat.blt f 42 with | true => D41_41 F M f args h | false => D42_43 F M f args h
theorem D41_43_ok {F : CallH} (hf : FnsOk Tryd.prog G F) (M : Nat) : FnsOk Tryd.prog G (D41_43 F M) := FnsOk.node (D41_41_ok hp hdr hf M) (D42_43_ok hp hdr hf M)
noncomputable def D38_43 (F : CallH) (M : Nat) (f : Nat) (args : List Value) (h : AH) : Res := match Nat.blt f 41 with | true => D38_40 F M f args h | false => D41_43 F M f args h
theorem D38_43_ok {F : CallH} (hf : FnsOk Tryd.prog G F) (M : Nat) : FnsOk Tryd.prog G (D38_43 F M) := FnsOk.node (D38_40_ok hp hdr hf M) (D41_43_ok hp hdr hf M)
noncomputable def D44_44 (F : CallH) (M : Nat) (f : Nat) (args : List Value) (h : AH) : Res := match Nat.beq f 44 with | true => (match args with | [x0] => R44 F M x0 h | _ => none) | false => none
theorem D44_44_ok {F : CallH} (hf : FnsOk Tryd.prog G F) (M : Nat) : FnsOk Tryd.prog G (D44_44 F M) := FnsOk.leaf (FOk.r1 hp hdr hf (R44_ok F M))
noncomputable def D45_45 (F : CallH) (M : Nat) (f : Nat) (args : List Value) (h : AH) : Res := match Nat.beq f 45 with | true => (match args with | [x0, x1] => R45 F M x0 x1 h | _ => none) | false => none
theorem D45_45_ok {F : CallH} (hf : FnsOk Tryd.prog G F) (M : Nat) : FnsOk Tryd.prog G (D45_45 F M) := FnsOk.leaf (FOk.r2 hp hdr hf (R45_ok F M))
noncomputable def D46_46 (F : CallH) (M : Nat) (f : Nat) (args : List Value) (h : AH) : Res := match Nat.beq f 46 with | true => (match args with | [x0] => R46 F M x0 h | _ => none) | false => none
theorem D46_46_ok {F : CallH} (hf : FnsOk Tryd.prog G F) (M : Nat) : FnsOk Tryd.prog G (D46_46 F M) := FnsOk.leaf (FOk.r1 hp hdr hf (R46_ok F M))
noncomputable def D45_46 (F : CallH) (M : Nat) (f : Nat) (args : List Value) (h : AH) : Res := match Nat.blt f 46 with | true => D45_45 F M f args h | false => D46_46 F M f args h
theorem D45_46_ok {F : CallH} (hf : FnsOk Tryd.prog G F) (M : Nat) : FnsOk Tryd.prog G (D45_46 F M) := FnsOk.node (D45_45_ok hp hdr hf M) (D46_46_ok hp hdr hf M)
noncomputable def D44_46 (F : CallH) (M : Nat) (f : Nat) (args : List Value) (h : AH) : Res := match Nat.blt f 45 with | true => D44_44 F M f args h | false => D45_46 F M f args h
theorem D44_46_ok {F : CallH} (hf : FnsOk Tryd.prog G F) (M : Nat) : FnsOk Tryd.prog G (D44_46 F M) := FnsOk.node (D44_44_ok hp hdr hf M) (D45_46_ok hp hdr hf M)
noncomputable def D47_47 (F : CallH) (M : Nat) (f : Nat) (args : List Value) (h : AH) : Res := match Nat.beq f 47 with | true => (match args with | [] => R47 F M h | _ => none) | false => none
theorem D47_47_ok {F : CallH} (hf : FnsOk Tryd.prog G F) (M : Nat) : FnsOk Tryd.prog G (D47_47 F M) := FnsOk.leaf (FOk.r0 hp hdr hf (R47_ok F M))
noncomputable def D48_48 (F : CallH) (M : Nat) (f : Nat) (args : List Value) (h : AH) : Res := match Nat.beq f 48 with | true => (match args with | [x0, x1] => R48 F M x0 x1 h | _ => none) | false => none
theorem D48_48_ok {F : CallH} (hf : FnsOk Tryd.prog G F) (M : Nat) : FnsOk Tryd.prog G (D48_48 F M) := FnsOk.leaf (FOk.r2 hp hdr hf (R48_ok F M))
noncomputable def D49_49 (F : CallH) (M : Nat) (f : Nat) (args : List Value) (h : AH) : Res := match Nat.beq f 49 with | true => (match args with | [] => R49 F M h | _ => none) | false => none
theorem D49_49_ok {F : CallH} (hf : FnsOk Tryd.prog G F) (M : Nat) : FnsOk Tryd.prog G (D49_49 F M) := FnsOk.leaf (FOk.r0 hp hdr hf (R49_ok F M))
noncomputable def D48_49 (F : CallH) (M : Nat) (f : Nat) (args : List Value) (h : AH) : Res := match Nat.blt f 49 with | true => D48_48 F M f args h | false => D49_49 F M f args h
theorem D48_49_ok {F : CallH} (hf : FnsOk Tryd.prog G F) (M : Nat) : FnsOk Tryd.prog G (D48_49 F M) := FnsOk.node (D48_48_ok hp hdr hf M) (D49_49_ok hp hdr hf M)
noncomputable def D47_49 (F : CallH) (M : Nat) (f : Nat) (args : List Value) (h : AH) : Res := match Nat.blt f 48 with | true => D47_47 F M f args h | false => D48_49 F M f args h
theorem D47_49_ok {F : CallH} (hf : FnsOk Tryd.prog G F) (M : Nat) : FnsOk Tryd.prog G (D47_49 F M) := FnsOk.node (D47_47_ok hp hdr hf M) (D48_49_ok hp hdr hf M)
noncomputable def D44_49 (F : CallH) (M : Nat) (f : Nat) (args : List Value) (h : AH) : Res := match Nat.blt f 47 with | true => D44_46 F M f args h | false => D47_49 F M f args h
theorem D44_49_ok {F : CallH} (hf : FnsOk Tryd.prog G F) (M : Nat) : FnsOk Tryd.prog G (D44_49 F M) := FnsOk.node (D44_46_ok hp hdr hf M) (D47_49_ok hp hdr hf M)
noncomputable def D38_49 (F : CallH) (M : Nat) (f : Nat) (args : List Value) (h : AH) : Res := match Nat.blt f 44 with | true => D38_43 F M f args h | false => D44_49 F M f args h
theorem D38_49_ok {F : CallH} (hf : FnsOk Tryd.prog G F) (M : Nat) : FnsOk Tryd.prog G (D38_49 F M) := FnsOk.node (D38_43_ok hp hdr hf M) (D44_49_ok hp hdr hf M)
noncomputable def D26_49 (F : CallH) (M : Nat) (f : Nat) (args : List Value) (h : AH) : Res := match Nat.blt f 38 with | true => D26_37 F M f args h | false => D38_49 F M f args h
theorem D26_49_ok {F : CallH} (hf : FnsOk Tryd.prog G F) (M : Nat) : FnsOk Tryd.prog G (D26_49 F M) := FnsOk.node (D26_37_ok hp hdr hf M) (D38_49_ok hp hdr hf M)
noncomputable def D3_49 (F : CallH) (M : Nat) (f : Nat) (args : List Value) (h : AH) : Res := match Nat.blt f 26 with | true => D3_25 F M f args h | false => D26_49 F M f args h
theorem D3_49_ok {F : CallH} (hf : FnsOk Tryd.prog G F) (M : Nat) : FnsOk Tryd.prog G (D3_49 F M) := FnsOk.node (D3_25_ok hp hdr hf M) (D26_49_ok hp hdr hf M)
noncomputable def D50_50 (F : CallH) (M : Nat) (f : Nat) (args : List Value) (h : AH) : Res := match Nat.beq f 50 with | true => (match args with | [x0, x1] => R50 F M x0 x1 h | _ => none) | false => none
theorem D50_50_ok {F : CallH} (hf : FnsOk Tryd.prog G F) (M : Nat) : FnsOk Tryd.prog G (D50_50 F M) := FnsOk.leaf (FOk.r2 hp hdr hf (R50_ok F M))
noncomputable def D51_51 (F : CallH) (M : Nat) (f : Nat) (args : List Value) (h : AH) : Res := match Nat.beq f 51 with | true => (match args with | [x0] => R51 F M x0 h | _ => none) | false => none
theorem D51_51_ok {F : CallH} (hf : FnsOk Tryd.prog G F) (M : Nat) : FnsOk Tryd.prog G (D51_51 F M) := FnsOk.leaf (FOk.r1 hp hdr hf (R51_ok F M))
noncomputable def D52_52 (F : CallH) (M : Nat) (f : Nat) (args : List Value) (h : AH) : Res := match Nat.beq f 52 with | true => (match args with | [x0, x1] => R52 F M x0 x1 h | _ => none) | false => none
theorem D52_52_ok {F : CallH} (hf : FnsOk Tryd.prog G F) (M : Nat) : FnsOk Tryd.prog G (D52_52 F M) := FnsOk.leaf (FOk.r2 hp hdr hf (R52_ok F M))
noncomputable def D51_52 (F : CallH) (M : Nat) (f : Nat) (args : List Value) (h : AH) : Res := match Nat.blt f 52 with | true => D51_51 F M f args h | false => D52_52 F M f args h
theorem D51_52_ok {F : CallH} (hf : FnsOk Tryd.prog G F) (M : Nat) : FnsOk Tryd.prog G (D51_52 F M) := FnsOk.node (D51_51_ok hp hdr hf M) (D52_52_ok hp hdr hf M)
noncomputable def D50_52 (F : CallH) (M : Nat) (f : Nat) (args : List Value) (h : AH) : Res := match Nat.blt f 51 with | true => D50_50 F M f args h | false => D51_52 F M f args h
theorem D50_52_ok {F : CallH} (hf : FnsOk Tryd.prog G F) (M : Nat) : FnsOk Tryd.prog G (D50_52 F M) := FnsOk.node (D50_50_ok hp hdr hf M) (D51_52_ok hp hdr hf M)
noncomputable def D53_53 (F : CallH) (M : Nat) (f : Nat) (args : List Value) (h : AH) : Res := match Nat.beq f 53 with | true => (match args with | [x0, x1] => R53 F M x0 x1 h | _ => none) | false => none
theorem D53_53_ok {F : CallH} (hf : FnsOk Tryd.prog G F) (M : Nat) : FnsOk Tryd.prog G (D53_53 F M) := FnsOk.leaf (FOk.r2 hp hdr hf (R53_ok F M))
noncomputable def D54_54 (F : CallH) (M : Nat) (f : Nat) (args : List Value) (h : AH) : Res := match Nat.beq f 54 with | true => (match args with | [x0, x1] => R54 F M x0 x1 h | _ => none) | false => none
theorem D54_54_ok {F : CallH} (hf : FnsOk Tryd.prog G F) (M : Nat) : FnsOk Tryd.prog G (D54_54 F M) := FnsOk.leaf (FOk.r2 hp hdr hf (R54_ok F M))
noncomputable def D55_55 (F : CallH) (M : Nat) (f : Nat) (args : List Value) (h : AH) : Res := match Nat.beq f 55 with | true => (match args with | [x0, x1] => R55 F M x0 x1 h | _ => none) | false => none
theorem D55_55_ok {F : CallH} (hf : FnsOk Tryd.prog G F) (M : Nat) : FnsOk Tryd.prog G (D55_55 F M) := FnsOk.leaf (FOk.r2 hp hdr hf (R55_ok F M))
noncomputable def D54_55 (F : CallH) (M : Nat) (f : Nat) (args : List Value) (h : AH) : Res := match Nat.blt f 55 with | true => D54_54 F M f args h | false => D55_55 F M f args h
theorem D54_55_ok {F : CallH} (hf : FnsOk Tryd.prog G F) (M : Nat) : FnsOk Tryd.prog G (D54_55 F M) := FnsOk.node (D54_54_ok hp hdr hf M) (D55_55_ok hp hdr hf M)
noncomputable def D53_55 (F : CallH) (M : Nat) (f : Nat) (args : List Value) (h : AH) : Res := match Nat.blt f 54 with | true => D53_53 F M f args h | false => D54_55 F M f args h
theorem D53_55_ok {F : CallH} (hf : FnsOk Tryd.prog G F) (M : Nat) : FnsOk Tryd.prog G (D53_55 F M) := FnsOk.node (D53_53_ok hp hdr hf M) (D54_55_ok hp hdr hf M)
noncomputable def D50_55 (F : CallH) (M : Nat) (f : Nat) (args : List Value) (h : AH) : Res := match Nat.blt f 53 with | true => D50_52 F M f args h | false => D53_55 F M f args h
theorem D50_55_ok {F : CallH} (hf : FnsOk Tryd.prog G F) (M : Nat) : FnsOk Tryd.prog G (D50_55 F M) := FnsOk.node (D50_52_ok hp hdr hf M) (D53_55_ok hp hdr hf M)
noncomputable def D56_56 (F : CallH) (M : Nat) (f : Nat) (args : List Value) (h : AH) : Res := match Nat.beq f 56 with | true => (match args with | [x0, x1] => R56 F M x0 x1 h | _ => none) | false => none
theorem D56_56_ok {F : CallH} (hf : FnsOk Tryd.prog G F) (M : Nat) : FnsOk Tryd.prog G (D56_56 F M) := FnsOk.leaf (FOk.r2 hp hdr hf (R56_ok F M))
noncomputable def D57_57 (F : CallH) (M : Nat) (f : Nat) (args : List Value) (h : AH) : Res := match Nat.beq f 57 with | true => (match args with | [x0, x1] => R57 F M x0 x1 h | _ => none) | false => none
theorem D57_57_ok {F : CallH} (hf : FnsOk Tryd.prog G F) (M : Nat) : FnsOk Tryd.prog G (D57_57 F M) := FnsOk.leaf (FOk.r2 hp hdr hf (R57_ok F M))
noncomputable def D58_58 (F : CallH) (M : Nat) (f : Nat) (args : List Value) (h : AH) : Res := match Nat.beq f 58 with | true => (match args with | [x0] => R58 F M x0 h | _ => none) | false => none
theorem D58_58_ok {F : CallH} (hf : FnsOk Tryd.prog G F) (M : Nat) : FnsOk Tryd.prog G (D58_58 F M) := FnsOk.leaf (FOk.r1 hp hdr hf (R58_ok F M))
noncomputable def D57_58 (F : CallH) (M : Nat) (f : Nat) (args : List Value) (h : AH) : Res := match Nat.blt f 58 with | true => D57_57 F M f args h | false => D58_58 F M f args h
theorem D57_58_ok {F : CallH} (hf : FnsOk Tryd.prog G F) (M : Nat) : FnsOk Tryd.prog G (D57_58 F M) := FnsOk.node (D57_57_ok hp hdr hf M) (D58_58_ok hp hdr hf M)
noncomputable def D56_58 (F : CallH) (M : Nat) (f : Nat) (args : List Value) (h : AH) : Res := match Nat.blt f 57 with | true => D56_56 F M f args h | false => D57_58 F M f args h
theorem D56_58_ok {F : CallH} (hf : FnsOk Tryd.prog G F) (M : Nat) : FnsOk Tryd.prog G (D56_58 F M) := FnsOk.node (D56_56_ok hp hdr hf M) (D57_58_ok hp hdr hf M)
noncomputable def D59_59 (F : CallH) (M : Nat) (f : Nat) (args : List Value) (h : AH) : Res := match Nat.beq f 59 with | true => (match args with | [x0, x1, x2, x3, x4] => R59 F M x0 x1 x2 x3 x4 h | _ => none) | false => none
theorem D59_59_ok {F : CallH} (hf : FnsOk Tryd.prog G F) (M : Nat) : FnsOk Tryd.prog G (D59_59 F M) := FnsOk.leaf (FOk.r5 hp hdr hf (R59_ok F M))
noncomputable def D60_60 (F : CallH) (M : Nat) (f : Nat) (args : List Value) (h : AH) : Res := match Nat.beq f 60 with | true => (match args with | [x0] => R60 F M x0 h | _ => none) | false => none
theorem D60_60_ok {F : CallH} (hf : FnsOk Tryd.prog G F) (M : Nat) : FnsOk Tryd.prog G (D60_60 F M) := FnsOk.leaf (FOk.r1 hp hdr hf (R60_ok F M))
noncomputable def D61_61 (F : CallH) (M : Nat) (f : Nat) (args : List Value) (h : AH) : Res := match Nat.beq f 61 with | true => (match args with | [x0, x1] => R61 F M x0 x1 h | _ => none) | false => none
theorem D61_61_ok {F : CallH} (hf : FnsOk Tryd.prog G F) (M : Nat) : FnsOk Tryd.prog G (D61_61 F M) := FnsOk.leaf (FOk.r2 hp hdr hf (R61_ok F M))
noncomputable def D60_61 (F : CallH) (M : Nat) (f : Nat) (args : List Value) (h : AH) : Res := match Nat.blt f 61 with | true => D60_60 F M f args h | false => D61_61 F M f args h
theorem D60_61_ok {F : CallH} (hf : FnsOk Tryd.prog G F) (M : Nat) : FnsOk Tryd.prog G (D60_61 F M) := FnsOk.node (D60_60_ok hp hdr hf M) (D61_61_ok hp hdr hf M)
noncomputable def D59_61 (F : CallH) (M : Nat) (f : Nat) (args : List Value) (h : AH) : Res := match Nat.blt f 60 with | true => D59_59 F M f args h | false => D60_61 F M f args h
theorem D59_61_ok {F : CallH} (hf : FnsOk Tryd.prog G F) (M : Nat) : FnsOk Tryd.prog G (D59_61 F M) := FnsOk.node (D59_59_ok hp hdr hf M) (D60_61_ok hp hdr hf M)
noncomputable def D56_61 (F : CallH) (M : Nat) (f : Nat) (args : List Value) (h : AH) : Res := match Nat.blt f 59 with | true => D56_58 F M f args h | false => D59_61 F M f args h
theorem D56_61_ok {F : CallH} (hf : FnsOk Tryd.prog G F) (M : Nat) : FnsOk Tryd.prog G (D56_61 F M) := FnsOk.node (D56_58_ok hp hdr hf M) (D59_61_ok hp hdr hf M)
noncomputable def D50_61 (F : CallH) (M : Nat) (f : Nat) (args : List Value) (h : AH) : Res := match Nat.blt f 56 with | true => D50_55 F M f args h | false => D56_61 F M f args h
theorem D50_61_ok {F : CallH} (hf : FnsOk Tryd.prog G F) (M : Nat) : FnsOk Tryd.prog G (D50_61 F M) := FnsOk.node (D50_55_ok hp hdr hf M) (D56_61_ok hp hdr hf M)
noncomputable def D62_62 (F : CallH) (M : Nat) (f : Nat) (args : List Value) (h : AH) : Res := match Nat.beq f 62 with | true => (match args with | [x0, x1] => R62 F M x0 x1 h | _ => none) | false => none
theorem D62_62_ok {F : CallH} (hf : FnsOk Tryd.prog G F) (M : Nat) : FnsOk Tryd.prog G (D62_62 F M) := FnsOk.leaf (FOk.r2 hp hdr hf (R62_ok F M))
noncomputable def D63_63 (F : CallH) (M : Nat) (f : Nat) (args : List Value) (h : AH) : Res := match Nat.beq f 63 with | true => (match args with | [x0] => R63 F M x0 h | _ => none) | false => none
theorem D63_63_ok {F : CallH} (hf : FnsOk Tryd.prog G F) (M : Nat) : FnsOk Tryd.prog G (D63_63 F M) := FnsOk.leaf (FOk.r1 hp hdr hf (R63_ok F M))
noncomputable def D64_64 (F : CallH) (M : Nat) (f : Nat) (args : List Value) (h : AH) : Res := match Nat.beq f 64 with | true => (match args with | [x0] => R64 F M x0 h | _ => none) | false => none
theorem D64_64_ok {F : CallH} (hf : FnsOk Tryd.prog G F) (M : Nat) : FnsOk Tryd.prog G (D64_64 F M) := FnsOk.leaf (FOk.r1 hp hdr hf (R64_ok F M))
noncomputable def D63_64 (F : CallH) (M : Nat) (f : Nat) (args : List Value) (h : AH) : Res := match Nat.blt f 64 with | true => D63_63 F M f args h | false => D64_64 F M f args h
theorem D63_64_ok {F : CallH} (hf : FnsOk Tryd.prog G F) (M : Nat) : FnsOk Tryd.prog G (D63_64 F M) := FnsOk.node (D63_63_ok hp hdr hf M) (D64_64_ok hp hdr hf M)
noncomputable def D62_64 (F : CallH) (M : Nat) (f : Nat) (args : List Value) (h : AH) : Res := match Nat.blt f 63 with | true => D62_62 F M f args h | false => D63_64 F M f args h
theorem D62_64_ok {F : CallH} (hf : FnsOk Tryd.prog G F) (M : Nat) : FnsOk Tryd.prog G (D62_64 F M) := FnsOk.node (D62_62_ok hp hdr hf M) (D63_64_ok hp hdr hf M)
noncomputable def D65_65 (F : CallH) (M : Nat) (f : Nat) (args : List Value) (h : AH) : Res := match Nat.beq f 65 with | true => ovCount args h | false => none
theorem D65_65_ok {F : CallH} (hf : FnsOk Tryd.prog G F) (M : Nat) : FnsOk Tryd.prog G (D65_65 F M) := FnsOk.leaf (ovCount_ok Tryd.func65 (by kernel_rfl) (by kernel_rfl) (by kernel_rfl) (by kernel_rfl))
noncomputable def D66_66 (F : CallH) (M : Nat) (f : Nat) (args : List Value) (h : AH) : Res := match Nat.beq f 66 with | true => (match args with | [x0, x1] => R66 F M x0 x1 h | _ => none) | false => none
theorem D66_66_ok {F : CallH} (hf : FnsOk Tryd.prog G F) (M : Nat) : FnsOk Tryd.prog G (D66_66 F M) := FnsOk.leaf (FOk.r2 hp hdr hf (R66_ok F M))
noncomputable def D67_67 (F : CallH) (M : Nat) (f : Nat) (args : List Value) (h : AH) : Res := match Nat.beq f 67 with | true => (match args with | [x0, x1, x2] => R67 F M x0 x1 x2 h | _ => none) | false => none
theorem D67_67_ok {F : CallH} (hf : FnsOk Tryd.prog G F) (M : Nat) : FnsOk Tryd.prog G (D67_67 F M) := FnsOk.leaf (FOk.r3 hp hdr hf (R67_ok F M))
noncomputable def D66_67 (F : CallH) (M : Nat) (f : Nat) (args : List Value) (h : AH) : Res := match Nat.blt f 67 with | true => D66_66 F M f args h | false => D67_67 F M f args h
theorem D66_67_ok {F : CallH} (hf : FnsOk Tryd.prog G F) (M : Nat) : FnsOk Tryd.prog G (D66_67 F M) := FnsOk.node (D66_66_ok hp hdr hf M) (D67_67_ok hp hdr hf M)
noncomputable def D65_67 (F : CallH) (M : Nat) (f : Nat) (args : List Value) (h : AH) : Res := match Nat.blt f 66 with | true => D65_65 F M f args h | false => D66_67 F M f args h
theorem D65_67_ok {F : CallH} (hf : FnsOk Tryd.prog G F) (M : Nat) : FnsOk Tryd.prog G (D65_67 F M) := FnsOk.node (D65_65_ok hp hdr hf M) (D66_67_ok hp hdr hf M)
noncomputable def D62_67 (F : CallH) (M : Nat) (f : Nat) (args : List Value) (h : AH) : Res := match Nat.blt f 65 with | true => D62_64 F M f args h | false => D65_67 F M f args h
theorem D62_67_ok {F : CallH} (hf : FnsOk Tryd.prog G F) (M : Nat) : FnsOk Tryd.prog G (D62_67 F M) := FnsOk.node (D62_64_ok hp hdr hf M) (D65_67_ok hp hdr hf M)
noncomputable def D68_68 (F : CallH) (M : Nat) (f : Nat) (args : List Value) (h : AH) : Res := match Nat.beq f 68 with | true => (match args with | [x0, x1, x2] => R68 F M x0 x1 x2 h | _ => none) | false => none
theorem D68_68_ok {F : CallH} (hf : FnsOk Tryd.prog G F) (M : Nat) : FnsOk Tryd.prog G (D68_68 F M) := FnsOk.leaf (FOk.r3 hp hdr hf (R68_ok F M))
noncomputable def D69_69 (F : CallH) (M : Nat) (f : Nat) (args : List Value) (h : AH) : Res := match Nat.beq f 69 with | true => (match args with | [x0, x1] => R69 F M x0 x1 h | _ => none) | false => none
theorem D69_69_ok {F : CallH} (hf : FnsOk Tryd.prog G F) (M : Nat) : FnsOk Tryd.prog G (D69_69 F M) := FnsOk.leaf (FOk.r2 hp hdr hf (R69_ok F M))
noncomputable def D70_70 (F : CallH) (M : Nat) (f : Nat) (args : List Value) (h : AH) : Res := match Nat.beq f 70 with | true => (match args with | [x0, x1] => R70 F M x0 x1 h | _ => none) | false => none
theorem D70_70_ok {F : CallH} (hf : FnsOk Tryd.prog G F) (M : Nat) : FnsOk Tryd.prog G (D70_70 F M) := FnsOk.leaf (FOk.r2 hp hdr hf (R70_ok F M))
noncomputable def D69_70 (F : CallH) (M : Nat) (f : Nat) (args : List Value) (h : AH) : Res := match Nat.blt f 70 with | true => D69_69 F M f args h | false => D70_70 F M f args h
theorem D69_70_ok {F : CallH} (hf : FnsOk Tryd.prog G F) (M : Nat) : FnsOk Tryd.prog G (D69_70 F M) := FnsOk.node (D69_69_ok hp hdr hf M) (D70_70_ok hp hdr hf M)
noncomputable def D68_70 (F : CallH) (M : Nat) (f : Nat) (args : List Value) (h : AH) : Res := match Nat.blt f 69 with | true => D68_68 F M f args h | false => D69_70 F M f args h
theorem D68_70_ok {F : CallH} (hf : FnsOk Tryd.prog G F) (M : Nat) : FnsOk Tryd.prog G (D68_70 F M) := FnsOk.node (D68_68_ok hp hdr hf M) (D69_70_ok hp hdr hf M)
noncomputable def D71_71 (F : CallH) (M : Nat) (f : Nat) (args : List Value) (h : AH) : Res := match Nat.beq f 71 with | true => (match args with | [x0, x1, x2] => R71 F M x0 x1 x2 h | _ => none) | false => none
theorem D71_71_ok {F : CallH} (hf : FnsOk Tryd.prog G F) (M : Nat) : FnsOk Tryd.prog G (D71_71 F M) := FnsOk.leaf (FOk.r3 hp hdr hf (R71_ok F M))
noncomputable def D72_72 (F : CallH) (M : Nat) (f : Nat) (args : List Value) (h : AH) : Res := match Nat.beq f 72 with | true => (match args with | [x0, x1, x2] => R72 F M x0 x1 x2 h | _ => none) | false => none
theorem D72_72_ok {F : CallH} (hf : FnsOk Tryd.prog G F) (M : Nat) : FnsOk Tryd.prog G (D72_72 F M) := FnsOk.leaf (FOk.r3 hp hdr hf (R72_ok F M))
noncomputable def D73_73 (F : CallH) (M : Nat) (f : Nat) (args : List Value) (h : AH) : Res := match Nat.beq f 73 with | true => (match args with | [x0, x1] => R73 F M x0 x1 h | _ => none) | false => none
theorem D73_73_ok {F : CallH} (hf : FnsOk Tryd.prog G F) (M : Nat) : FnsOk Tryd.prog G (D73_73 F M) := FnsOk.leaf (FOk.r2 hp hdr hf (R73_ok F M))
noncomputable def D72_73 (F : CallH) (M : Nat) (f : Nat) (args : List Value) (h : AH) : Res := match Nat.blt f 73 with | true => D72_72 F M f args h | false => D73_73 F M f args h
theorem D72_73_ok {F : CallH} (hf : FnsOk Tryd.prog G F) (M : Nat) : FnsOk Tryd.prog G (D72_73 F M) := FnsOk.node (D72_72_ok hp hdr hf M) (D73_73_ok hp hdr hf M)
noncomputable def D71_73 (F : CallH) (M : Nat) (f : Nat) (args : List Value) (h : AH) : Res := match Nat.blt f 72 with | true => D71_71 F M f args h | false => D72_73 F M f args h
theorem D71_73_ok {F : CallH} (hf : FnsOk Tryd.prog G F) (M : Nat) : FnsOk Tryd.prog G (D71_73 F M) := FnsOk.node (D71_71_ok hp hdr hf M) (D72_73_ok hp hdr hf M)
noncomputable def D68_73 (F : CallH) (M : Nat) (f : Nat) (args : List Value) (h : AH) : Res := match Nat.blt f 71 with | true => D68_70 F M f args h | false => D71_73 F M f args h
theorem D68_73_ok {F : CallH} (hf : FnsOk Tryd.prog G F) (M : Nat) : FnsOk Tryd.prog G (D68_73 F M) := FnsOk.node (D68_70_ok hp hdr hf M) (D71_73_ok hp hdr hf M)
noncomputable def D62_73 (F : CallH) (M : Nat) (f : Nat) (args : List Value) (h : AH) : Res := match Nat.blt f 68 with | true => D62_67 F M f args h | false => D68_73 F M f args h
theorem D62_73_ok {F : CallH} (hf : FnsOk Tryd.prog G F) (M : Nat) : FnsOk Tryd.prog G (D62_73 F M) := FnsOk.node (D62_67_ok hp hdr hf M) (D68_73_ok hp hdr hf M)
noncomputable def D50_73 (F : CallH) (M : Nat) (f : Nat) (args : List Value) (h : AH) : Res := match Nat.blt f 62 with | true => D50_61 F M f args h | false => D62_73 F M f args h
theorem D50_73_ok {F : CallH} (hf : FnsOk Tryd.prog G F) (M : Nat) : FnsOk Tryd.prog G (D50_73 F M) := FnsOk.node (D50_61_ok hp hdr hf M) (D62_73_ok hp hdr hf M)
noncomputable def D74_74 (F : CallH) (M : Nat) (f : Nat) (args : List Value) (h : AH) : Res := match Nat.beq f 74 with | true => (match args with | [x0, x1] => R74 F M x0 x1 h | _ => none) | false => none
theorem D74_74_ok {F : CallH} (hf : FnsOk Tryd.prog G F) (M : Nat) : FnsOk Tryd.prog G (D74_74 F M) := FnsOk.leaf (FOk.r2 hp hdr hf (R74_ok F M))
noncomputable def D75_75 (F : CallH) (M : Nat) (f : Nat) (args : List Value) (h : AH) : Res := match Nat.beq f 75 with | true => (match args with | [x0] => R75 F M x0 h | _ => none) | false => none
theorem D75_75_ok {F : CallH} (hf : FnsOk Tryd.prog G F) (M : Nat) : FnsOk Tryd.prog G (D75_75 F M) := FnsOk.leaf (FOk.r1 hp hdr hf (R75_ok F M))
noncomputable def D76_76 (F : CallH) (M : Nat) (f : Nat) (args : List Value) (h : AH) : Res := match Nat.beq f 76 with | true => (match args with | [x0, x1] => R76 F M x0 x1 h | _ => none) | false => none
theorem D76_76_ok {F : CallH} (hf : FnsOk Tryd.prog G F) (M : Nat) : FnsOk Tryd.prog G (D76_76 F M) := FnsOk.leaf (FOk.r2 hp hdr hf (R76_ok F M))
noncomputable def D75_76 (F : CallH) (M : Nat) (f : Nat) (args : List Value) (h : AH) : Res := match Nat.blt f 76 with | true => D75_75 F M f args h | false => D76_76 F M f args h
theorem D75_76_ok {F : CallH} (hf : FnsOk Tryd.prog G F) (M : Nat) : FnsOk Tryd.prog G (D75_76 F M) := FnsOk.node (D75_75_ok hp hdr hf M) (D76_76_ok hp hdr hf M)
noncomputable def D74_76 (F : CallH) (M : Nat) (f : Nat) (args : List Value) (h : AH) : Res := match Nat.blt f 75 with | true => D74_74 F M f args h | false => D75_76 F M f args h
theorem D74_76_ok {F : CallH} (hf : FnsOk Tryd.prog G F) (M : Nat) : FnsOk Tryd.prog G (D74_76 F M) := FnsOk.node (D74_74_ok hp hdr hf M) (D75_76_ok hp hdr hf M)
noncomputable def D78_78 (F : CallH) (M : Nat) (f : Nat) (args : List Value) (h : AH) : Res := match Nat.beq f 78 with | true => (match args with | [x0] => R78 F M x0 h | _ => none) | false => none
theorem D78_78_ok {F : CallH} (hf : FnsOk Tryd.prog G F) (M : Nat) : FnsOk Tryd.prog G (D78_78 F M) := FnsOk.leaf (FOk.r1 hp hdr hf (R78_ok F M))
noncomputable def D79_79 (F : CallH) (M : Nat) (f : Nat) (args : List Value) (h : AH) : Res := match Nat.beq f 79 with | true => (match args with | [x0, x1] => R79 F M x0 x1 h | _ => none) | false => none
theorem D79_79_ok {F : CallH} (hf : FnsOk Tryd.prog G F) (M : Nat) : FnsOk Tryd.prog G (D79_79 F M) := FnsOk.leaf (FOk.r2 hp hdr hf (R79_ok F M))
noncomputable def D80_80 (F : CallH) (M : Nat) (f : Nat) (args : List Value) (h : AH) : Res := match Nat.beq f 80 with | true => (match args with | [x0, x1, x2] => R80 F M x0 x1 x2 h | _ => none) | false => none
theorem D80_80_ok {F : CallH} (hf : FnsOk Tryd.prog G F) (M : Nat) : FnsOk Tryd.prog G (D80_80 F M) := FnsOk.leaf (FOk.r3 hp hdr hf (R80_ok F M))
noncomputable def D79_80 (F : CallH) (M : Nat) (f : Nat) (args : List Value) (h : AH) : Res := match Nat.blt f 80 with | true => D79_79 F M f args h | false => D80_80 F M f args h
theorem D79_80_ok {F : CallH} (hf : FnsOk Tryd.prog G F) (M : Nat) : FnsOk Tryd.prog G (D79_80 F M) := FnsOk.node (D79_79_ok hp hdr hf M) (D80_80_ok hp hdr hf M)
noncomputable def D78_80 (F : CallH) (M : Nat) (f : Nat) (args : List Value) (h : AH) : Res := match Nat.blt f 79 with | true => D78_78 F M f args h | false => D79_80 F M f args h
theorem D78_80_ok {F : CallH} (hf : FnsOk Tryd.prog G F) (M : Nat) : FnsOk Tryd.prog G (D78_80 F M) := FnsOk.node (D78_78_ok hp hdr hf M) (D79_80_ok hp hdr hf M)
noncomputable def D74_80 (F : CallH) (M : Nat) (f : Nat) (args : List Value) (h : AH) : Res := match Nat.blt f 78 with | true => D74_76 F M f args h | false => D78_80 F M f args h
theorem D74_80_ok {F : CallH} (hf : FnsOk Tryd.prog G F) (M : Nat) : FnsOk Tryd.prog G (D74_80 F M) := FnsOk.node (D74_76_ok hp hdr hf M) (D78_80_ok hp hdr hf M)
noncomputable def D81_81 (F : CallH) (M : Nat) (f : Nat) (args : List Value) (h : AH) : Res := match Nat.beq f 81 with | true => ovClone args h | false => none
theorem D81_81_ok {F : CallH} (hf : FnsOk Tryd.prog G F) (M : Nat) : FnsOk Tryd.prog G (D81_81 F M) := FnsOk.leaf (ovClone_ok)
noncomputable def D82_82 (F : CallH) (M : Nat) (f : Nat) (args : List Value) (h : AH) : Res := match Nat.beq f 82 with | true => (match args with | [x0] => R82 F M x0 h | _ => none) | false => none
theorem D82_82_ok {F : CallH} (hf : FnsOk Tryd.prog G F) (M : Nat) : FnsOk Tryd.prog G (D82_82 F M) := FnsOk.leaf (FOk.r1 hp hdr hf (R82_ok F M))
noncomputable def D83_83 (F : CallH) (M : Nat) (f : Nat) (args : List Value) (h : AH) : Res := match Nat.beq f 83 with | true => (match args with | [x0] => R83 F M x0 h | _ => none) | false => none
theorem D83_83_ok {F : CallH} (hf : FnsOk Tryd.prog G F) (M : Nat) : FnsOk Tryd.prog G (D83_83 F M) := FnsOk.leaf (FOk.r1 hp hdr hf (R83_ok F M))
noncomputable def D82_83 (F : CallH) (M : Nat) (f : Nat) (args : List Value) (h : AH) : Res := match Nat.blt f 83 with | true => D82_82 F M f args h | false => D83_83 F M f args h
theorem D82_83_ok {F : CallH} (hf : FnsOk Tryd.prog G F) (M : Nat) : FnsOk Tryd.prog G (D82_83 F M) := FnsOk.node (D82_82_ok hp hdr hf M) (D83_83_ok hp hdr hf M)
noncomputable def D81_83 (F : CallH) (M : Nat) (f : Nat) (args : List Value) (h : AH) : Res := match Nat.blt f 82 with | true => D81_81 F M f args h | false => D82_83 F M f args h
theorem D81_83_ok {F : CallH} (hf : FnsOk Tryd.prog G F) (M : Nat) : FnsOk Tryd.prog G (D81_83 F M) := FnsOk.node (D81_81_ok hp hdr hf M) (D82_83_ok hp hdr hf M)
noncomputable def D84_84 (F : CallH) (M : Nat) (f : Nat) (args : List Value) (h : AH) : Res := match Nat.beq f 84 with | true => (match args with | [x0] => R84 F M x0 h | _ => none) | false => none
theorem D84_84_ok {F : CallH} (hf : FnsOk Tryd.prog G F) (M : Nat) : FnsOk Tryd.prog G (D84_84 F M) := FnsOk.leaf (FOk.r1 hp hdr hf (R84_ok F M))
noncomputable def D85_85 (F : CallH) (M : Nat) (f : Nat) (args : List Value) (h : AH) : Res := match Nat.beq f 85 with | true => (match args with | [x0, x1] => R85 F M x0 x1 h | _ => none) | false => none
theorem D85_85_ok {F : CallH} (hf : FnsOk Tryd.prog G F) (M : Nat) : FnsOk Tryd.prog G (D85_85 F M) := FnsOk.leaf (FOk.r2 hp hdr hf (R85_ok F M))
noncomputable def D86_86 (F : CallH) (M : Nat) (f : Nat) (args : List Value) (h : AH) : Res := match Nat.beq f 86 with | true => (match args with | [x0, x1, x2, x3, x4] => R86 F M x0 x1 x2 x3 x4 h | _ => none) | false => none
theorem D86_86_ok {F : CallH} (hf : FnsOk Tryd.prog G F) (M : Nat) : FnsOk Tryd.prog G (D86_86 F M) := FnsOk.leaf (FOk.r5 hp hdr hf (R86_ok F M))
noncomputable def D85_86 (F : CallH) (M : Nat) (f : Nat) (args : List Value) (h : AH) : Res := match Nat.blt f 86 with | true => D85_85 F M f args h | false => D86_86 F M f args h
theorem D85_86_ok {F : CallH} (hf : FnsOk Tryd.prog G F) (M : Nat) : FnsOk Tryd.prog G (D85_86 F M) := FnsOk.node (D85_85_ok hp hdr hf M) (D86_86_ok hp hdr hf M)
noncomputable def D84_86 (F : CallH) (M : Nat) (f : Nat) (args : List Value) (h : AH) : Res := match Nat.blt f 85 with | true => D84_84 F M f args h | false => D85_86 F M f args h
theorem D84_86_ok {F : CallH} (hf : FnsOk Tryd.prog G F) (M : Nat) : FnsOk Tryd.prog G (D84_86 F M) := FnsOk.node (D84_84_ok hp hdr hf M) (D85_86_ok hp hdr hf M)
noncomputable def D81_86 (F : CallH) (M : Nat) (f : Nat) (args : List Value) (h : AH) : Res := match Nat.blt f 84 with | true => D81_83 F M f args h | false => D84_86 F M f args h
theorem D81_86_ok {F : CallH} (hf : FnsOk Tryd.prog G F) (M : Nat) : FnsOk Tryd.prog G (D81_86 F M) := FnsOk.node (D81_83_ok hp hdr hf M) (D84_86_ok hp hdr hf M)
noncomputable def D74_86 (F : CallH) (M : Nat) (f : Nat) (args : List Value) (h : AH) : Res := match Nat.blt f 81 with | true => D74_80 F M f args h | false => D81_86 F M f args h
theorem D74_86_ok {F : CallH} (hf : FnsOk Tryd.prog G F) (M : Nat) : FnsOk Tryd.prog G (D74_86 F M) := FnsOk.node (D74_80_ok hp hdr hf M) (D81_86_ok hp hdr hf M)
noncomputable def D87_87 (F : CallH) (M : Nat) (f : Nat) (args : List Value) (h : AH) : Res := match Nat.beq f 87 with | true => ovIndex args h | false => none
theorem D87_87_ok {F : CallH} (hf : FnsOk Tryd.prog G F) (M : Nat) : FnsOk Tryd.prog G (D87_87 F M) := FnsOk.leaf (ovIndex_ok Tryd.func87 (by kernel_rfl) (by kernel_rfl) (by kernel_rfl) (by kernel_rfl))
noncomputable def D88_88 (F : CallH) (M : Nat) (f : Nat) (args : List Value) (h : AH) : Res := match Nat.beq f 88 with | true => (match args with | [x0] => R88 F M x0 h | _ => none) | false => none
theorem D88_88_ok {F : CallH} (hf : FnsOk Tryd.prog G F) (M : Nat) : FnsOk Tryd.prog G (D88_88 F M) := FnsOk.leaf (FOk.r1 hp hdr hf (R88_ok F M))
noncomputable def D89_89 (F : CallH) (M : Nat) (f : Nat) (args : List Value) (h : AH) : Res := match Nat.beq f 89 with | true => (match args with | [x0] => R89 F M x0 h | _ => none) | false => none
theorem D89_89_ok {F : CallH} (hf : FnsOk Tryd.prog G F) (M : Nat) : FnsOk Tryd.prog G (D89_89 F M) := FnsOk.leaf (FOk.r1 hp hdr hf (R89_ok F M))
noncomputable def D88_89 (F : CallH) (M : Nat) (f : Nat) (args : List Value) (h : AH) : Res := match Nat.blt f 89 with | true => D88_88 F M f args h | false => D89_89 F M f args h
theorem D88_89_ok {F : CallH} (hf : FnsOk Tryd.prog G F) (M : Nat) : FnsOk Tryd.prog G (D88_89 F M) := FnsOk.node (D88_88_ok hp hdr hf M) (D89_89_ok hp hdr hf M)
noncomputable def D87_89 (F : CallH) (M : Nat) (f : Nat) (args : List Value) (h : AH) : Res := match Nat.blt f 88 with | true => D87_87 F M f args h | false => D88_89 F M f args h
theorem D87_89_ok {F : CallH} (hf : FnsOk Tryd.prog G F) (M : Nat) : FnsOk Tryd.prog G (D87_89 F M) := FnsOk.node (D87_87_ok hp hdr hf M) (D88_89_ok hp hdr hf M)
noncomputable def D90_90 (F : CallH) (M : Nat) (f : Nat) (args : List Value) (h : AH) : Res := match Nat.beq f 90 with | true => (match args with | [x0] => R90 F M x0 h | _ => none) | false => none
theorem D90_90_ok {F : CallH} (hf : FnsOk Tryd.prog G F) (M : Nat) : FnsOk Tryd.prog G (D90_90 F M) := FnsOk.leaf (FOk.r1 hp hdr hf (R90_ok F M))
noncomputable def D91_91 (F : CallH) (M : Nat) (f : Nat) (args : List Value) (h : AH) : Res := match Nat.beq f 91 with | true => (match args with | [x0] => R91 F M x0 h | _ => none) | false => none
theorem D91_91_ok {F : CallH} (hf : FnsOk Tryd.prog G F) (M : Nat) : FnsOk Tryd.prog G (D91_91 F M) := FnsOk.leaf (FOk.r1 hp hdr hf (R91_ok F M))
noncomputable def D92_92 (F : CallH) (M : Nat) (f : Nat) (args : List Value) (h : AH) : Res := match Nat.beq f 92 with | true => (match args with | [x0] => R92 F M x0 h | _ => none) | false => none
theorem D92_92_ok {F : CallH} (hf : FnsOk Tryd.prog G F) (M : Nat) : FnsOk Tryd.prog G (D92_92 F M) := FnsOk.leaf (FOk.r1 hp hdr hf (R92_ok F M))
noncomputable def D91_92 (F : CallH) (M : Nat) (f : Nat) (args : List Value) (h : AH) : Res := match Nat.blt f 92 with | true => D91_91 F M f args h | false => D92_92 F M f args h
theorem D91_92_ok {F : CallH} (hf : FnsOk Tryd.prog G F) (M : Nat) : FnsOk Tryd.prog G (D91_92 F M) := FnsOk.node (D91_91_ok hp hdr hf M) (D92_92_ok hp hdr hf M)
noncomputable def D90_92 (F : CallH) (M : Nat) (f : Nat) (args : List Value) (h : AH) : Res := match Nat.blt f 91 with | true => D90_90 F M f args h | false => D91_92 F M f args h
theorem D90_92_ok {F : CallH} (hf : FnsOk Tryd.prog G F) (M : Nat) : FnsOk Tryd.prog G (D90_92 F M) := FnsOk.node (D90_90_ok hp hdr hf M) (D91_92_ok hp hdr hf M)
noncomputable def D87_92 (F : CallH) (M : Nat) (f : Nat) (args : List Value) (h : AH) : Res := match Nat.blt f 90 with | true => D87_89 F M f args h | false => D90_92 F M f args h
theorem D87_92_ok {F : CallH} (hf : FnsOk Tryd.prog G F) (M : Nat) : FnsOk Tryd.prog G (D87_92 F M) := FnsOk.node (D87_89_ok hp hdr hf M) (D90_92_ok hp hdr hf M)
noncomputable def D93_93 (F : CallH) (M : Nat) (f : Nat) (args : List Value) (h : AH) : Res := match Nat.beq f 93 with | true => (match args with | [x0] => R93 F M x0 h | _ => none) | false => none
theorem D93_93_ok {F : CallH} (hf : FnsOk Tryd.prog G F) (M : Nat) : FnsOk Tryd.prog G (D93_93 F M) := FnsOk.leaf (FOk.r1 hp hdr hf (R93_ok F M))
noncomputable def D94_94 (F : CallH) (M : Nat) (f : Nat) (args : List Value) (h : AH) : Res := match Nat.beq f 94 with | true => (match args with | [x0] => R94 F M x0 h | _ => none) | false => none
theorem D94_94_ok {F : CallH} (hf : FnsOk Tryd.prog G F) (M : Nat) : FnsOk Tryd.prog G (D94_94 F M) := FnsOk.leaf (FOk.r1 hp hdr hf (R94_ok F M))
noncomputable def D95_95 (F : CallH) (M : Nat) (f : Nat) (args : List Value) (h : AH) : Res := match Nat.beq f 95 with | true => (match args with | [x0] => R95 F M x0 h | _ => none) | false => none
theorem D95_95_ok {F : CallH} (hf : FnsOk Tryd.prog G F) (M : Nat) : FnsOk Tryd.prog G (D95_95 F M) := FnsOk.leaf (FOk.r1 hp hdr hf (R95_ok F M))
noncomputable def D94_95 (F : CallH) (M : Nat) (f : Nat) (args : List Value) (h : AH) : Res := match Nat.blt f 95 with | true => D94_94 F M f args h | false => D95_95 F M f args h
theorem D94_95_ok {F : CallH} (hf : FnsOk Tryd.prog G F) (M : Nat) : FnsOk Tryd.prog G (D94_95 F M) := FnsOk.node (D94_94_ok hp hdr hf M) (D95_95_ok hp hdr hf M)
noncomputable def D93_95 (F : CallH) (M : Nat) (f : Nat) (args : List Value) (h : AH) : Res := match Nat.blt f 94 with | true => D93_93 F M f args h | false => D94_95 F M f args h
theorem D93_95_ok {F : CallH} (hf : FnsOk Tryd.prog G F) (M : Nat) : FnsOk Tryd.prog G (D93_95 F M) := FnsOk.node (D93_93_ok hp hdr hf M) (D94_95_ok hp hdr hf M)
noncomputable def D96_96 (F : CallH) (M : Nat) (f : Nat) (args : List Value) (h : AH) : Res := match Nat.beq f 96 with | true => (match args with | [x0] => R96 F M x0 h | _ => none) | false => none
theorem D96_96_ok {F : CallH} (hf : FnsOk Tryd.prog G F) (M : Nat) : FnsOk Tryd.prog G (D96_96 F M) := FnsOk.leaf (FOk.r1 hp hdr hf (R96_ok F M))
noncomputable def D97_97 (F : CallH) (M : Nat) (f : Nat) (args : List Value) (h : AH) : Res := match Nat.beq f 97 with | true => (match args with | [x0] => R97 F M x0 h | _ => none) | false => none
theorem D97_97_ok {F : CallH} (hf : FnsOk Tryd.prog G F) (M : Nat) : FnsOk Tryd.prog G (D97_97 F M) := FnsOk.leaf (FOk.r1 hp hdr hf (R97_ok F M))
noncomputable def D139_139 (F : CallH) (M : Nat) (f : Nat) (args : List Value) (h : AH) : Res := match Nat.beq f 139 with | true => (match args with | [] => R139 F M h | _ => none) | false => none
theorem D139_139_ok {F : CallH} (hf : FnsOk Tryd.prog G F) (M : Nat) : FnsOk Tryd.prog G (D139_139 F M) := FnsOk.leaf (FOk.r0 hp hdr hf (R139_ok F M))
noncomputable def D97_139 (F : CallH) (M : Nat) (f : Nat) (args : List Value) (h : AH) : Res := match Nat.blt f 139 with | true => D97_97 F M f args h | false => D139_139 F M f args h
theorem D97_139_ok {F : CallH} (hf : FnsOk Tryd.prog G F) (M : Nat) : FnsOk Tryd.prog G (D97_139 F M) := FnsOk.node (D97_97_ok hp hdr hf M) (D139_139_ok hp hdr hf M)
noncomputable def D96_139 (F : CallH) (M : Nat) (f : Nat) (args : List Value) (h : AH) : Res := match Nat.blt f 97 with | true => D96_96 F M f args h | false => D97_139 F M f args h
theorem D96_139_ok {F : CallH} (hf : FnsOk Tryd.prog G F) (M : Nat) : FnsOk Tryd.prog G (D96_139 F M) := FnsOk.node (D96_96_ok hp hdr hf M) (D97_139_ok hp hdr hf M)
noncomputable def D93_139 (F : CallH) (M : Nat) (f : Nat) (args : List Value) (h : AH) : Res := match Nat.blt f 96 with | true => D93_95 F M f args h | false => D96_139 F M f args h
theorem D93_139_ok {F : CallH} (hf : FnsOk Tryd.prog G F) (M : Nat) : FnsOk Tryd.prog G (D93_139 F M) := FnsOk.node (D93_95_ok hp hdr hf M) (D96_139_ok hp hdr hf M)
noncomputable def D87_139 (F : CallH) (M : Nat) (f : Nat) (args : List Value) (h : AH) : Res := match Nat.blt f 93 with | true => D87_92 F M f args h | false => D93_139 F M f args h
theorem D87_139_ok {F : CallH} (hf : FnsOk Tryd.prog G F) (M : Nat) : FnsOk Tryd.prog G (D87_139 F M) := FnsOk.node (D87_92_ok hp hdr hf M) (D93_139_ok hp hdr hf M)
noncomputable def D74_139 (F : CallH) (M : Nat) (f : Nat) (args : List Value) (h : AH) : Res := match Nat.blt f 87 with | true => D74_86 F M f args h | false => D87_139 F M f args h
theorem D74_139_ok {F : CallH} (hf : FnsOk Tryd.prog G F) (M : Nat) : FnsOk Tryd.prog G (D74_139 F M) := FnsOk.node (D74_86_ok hp hdr hf M) (D87_139_ok hp hdr hf M)
noncomputable def D50_139 (F : CallH) (M : Nat) (f : Nat) (args : List Value) (h : AH) : Res := match Nat.blt f 74 with | true => D50_73 F M f args h | false => D74_139 F M f args h
theorem D50_139_ok {F : CallH} (hf : FnsOk Tryd.prog G F) (M : Nat) : FnsOk Tryd.prog G (D50_139 F M) := FnsOk.node (D50_73_ok hp hdr hf M) (D74_139_ok hp hdr hf M)
noncomputable def D3_139 (F : CallH) (M : Nat) (f : Nat) (args : List Value) (h : AH) : Res := match Nat.blt f 50 with | true => D3_49 F M f args h | false => D50_139 F M f args h
theorem D3_139_ok {F : CallH} (hf : FnsOk Tryd.prog G F) (M : Nat) : FnsOk Tryd.prog G (D3_139 F M) := FnsOk.node (D3_49_ok hp hdr hf M) (D50_139_ok hp hdr hf M)
omit hp hdr
noncomputable def tab (M : Nat) : Nat → CallH
  | 0 => fun _ _ _ => none
  | n + 1 => D3_139 (tab M n) M
include hp hdr
theorem tab_ok (M : Nat) : ∀ n, FnsOk Tryd.prog G (tab M n)
  | 0 => FnsOk.empty
  | n + 1 => D3_139_ok hp hdr (tab_ok M n) M
omit hp hdr
theorem follows : Tryd.prog.follows .mixedOrders = true := by first | rfl | kernel_rfl
set_option maxRecDepth 100000
theorem progok : progOk Tryd.prog 20 = true := by kernel_rfl
end Go.Proofs.YtehmkckpbknodaaDoor
