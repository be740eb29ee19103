/- The functions of the program as Lean functions, printed by a program of ours; each with its proof. -/
import Derived.Test.YtehmkckpbknodaaDoorProg
import Derived.Test.YtehmkckpbknodaaDoorEvE
import Derived.KernelRfl
namespace Go.Proofs.YtehmkckpbknodaaDoor
open Go Go.Ev
set_option maxRecDepth 100000
set_option linter.all false
/-! ### 5 turnkey/turnkeylaw15.first -/
noncomputable def E5 (v0 : Value) (h : AH) : Res := some (v0, h)
noncomputable def J5_0 (F : CallH) (M : Nat) (h : AH) : Res :=
  bindO (xrow [(str []), (str [])] [(0, 1, (str [97, 58])), (1, 1, (str [106, 109, 112, 32, 97]))]) fun v4 => newK h (.cells v4 1) fun iv4 h1 =>
  bindO (F 7 [(slOf iv4 2 2)] h1) fun pv5 =>
  bindO (xext 0 pv5.1) fun v6 =>
  bindO (xext 1 pv5.1) fun v7 =>
  bindO (xnilI .eql v7) fun v9 =>
  condO v9 (
  bindO (xlenL v6) fun v12 =>
  bindO (ibin .eql v12 (.int .i64 1)) fun v13 =>
  E5 v13 pv5.2) (
  E5 (.bool false) pv5.2)
theorem J5_0_ok (F : CallH) (M : Nat) : ∀ r h, kcode Tryd.prog F 15 M (Code.sub [] (bodyOf Tryd.prog 5)) r h (KX (fun r h => E5 (r 0) h) (exitsOf []) (fun r h => E5 (r 0) h)) = J5_0 F M h := fun r h => by kernel_rfl
noncomputable def R5 (F : CallH) (M : Nat) (h : AH) : Res := J5_0 F M h
theorem R5_ok (F : CallH) (M : Nat) (h : AH) : kfn Tryd.prog F M 5 [] h = R5 F M h :=
  (fn_pt (N := 15) (E := (fun r h => E5 (r 0) h)) (T := (fun r h => J5_0 F M h)) Tryd.func5 (by kernel_rfl) (by kernel_rfl) (fun r h => by kernel_rfl) (J5_0_ok F M)).trans (by kernel_rfl)
/-! ### 9 turnkey/turnkeysee.Same -/
noncomputable def E9 (v4 : Value) (h : AH) : Res := some (v4, h)
noncomputable def J9_0 (F : CallH) (M : Nat) (v0 : Value) (v1 : Value) (h : AH) : Res :=
  bindO (xcells 3 v1) fun v3 => newK h (.cells v3 3) fun iv3 h1 =>
  withH (bump h1 5) fun h2 =>
  bindO (F 21 [v0] h2) fun pv6 =>
  bindO (ldn 3 pv6.2 (ptrTo iv3)) fun v7 =>
  bindO (F 20 [pv6.1, v7] pv6.2) fun pv8 =>
  andO (rdok (ldn 3 h2 (ptrTo iv3)) v7) <|
  E9 pv8.1 pv8.2
theorem J9_0_ok (F : CallH) (M : Nat) : ∀ r h, kcode Tryd.prog F 9 M (Code.sub [] (bodyOf Tryd.prog 9)) r h (KX (fun r h => E9 (r 4) h) (exitsOf []) (fun r h => E9 (r 4) h)) = J9_0 F M (r 0) (r 1) h := fun r h => by kernel_rfl
noncomputable def R9 (F : CallH) (M : Nat) (x0 x1 : Value) (h : AH) : Res := J9_0 F M x0 x1 h
theorem R9_ok (F : CallH) (M : Nat) (x0 x1 : Value) (h : AH) : kfn Tryd.prog F M 9 [x0, x1] h = R9 F M x0 x1 h :=
  (fn_pt (N := 9) (E := (fun r h => E9 (r 4) h)) (T := (fun r h => J9_0 F M (r 0) (r 1) h)) Tryd.func9 (by kernel_rfl) (by kernel_rfl) (fun r h => by kernel_rfl) (J9_0_ok F M)).trans (by kernel_rfl)
/-! ### 13 turnkey/asm.Words -/
noncomputable def E13 (v2 : Value) (h : AH) : Res := some (v2, h)
noncomputable def J13_0 (F : CallH) (M : Nat) (v3 : Value) (h : AH) : Res :=
  E13 v3 h
theorem J13_0_ok (F : CallH) (M : Nat) : ∀ r h, kcode Tryd.prog F 21 M (Code.sub [true, true, true] (bodyOf Tryd.prog 13)) r h (KX (fun r h => E13 (r 2) h) (exitsOf []) (fun r h => E13 (r 2) h)) = J13_0 F M (r 3) h := fun r h => by kernel_rfl
noncomputable def J13_2 (F : CallH) (M : Nat) (L1 : Value → Value → Value → Value → AH → Res) (v3 : Value) (v7 : Value) (v8 : Value) (v9 : Value) (h : AH) : Res :=
  bindO (ibin .add v9 (.int .i64 1)) fun v19 =>
  L1 v3 v7 v8 v19 h
theorem J13_2_ok (F : CallH) (M : Nat) (L1 : Value → Value → Value → Value → AH → Res) : ∀ r h, kcode Tryd.prog F 21 M (Code.sub [true, true, false, true, false, false, true, true, true] (bodyOf Tryd.prog 13)) r h (KX (fun r h => L1 (r 3) (r 7) (r 8) (r 9) h) (exitsOf [(0, (fun r h => J13_0 F M (r 3) h))]) (fun r h => E13 (r 2) h)) = J13_2 F M L1 (r 3) (r 7) (r 8) (r 9) h := fun r h => by kernel_rfl
noncomputable def J13_3 (F : CallH) (M : Nat) (L1 : Value → Value → Value → Value → AH → Res) (v3 : Value) (v7 : Value) (v8 : Value) (v9 : Value) (h : AH) : Res :=
  bindO (xia 1 v7 v9) fun v11 =>
  bindO (ld1 h v11) fun v12 =>
  bindO (sbin .neq v12 (str [])) fun v14 =>
  condO v14 (
  bindO (xrow [(str [])] [(0, 1, v12)]) fun v17 => newK h (.cells v17 1) fun iv17 h1 =>
  bindO (xapp 16 1 h1 v3 (slOf iv17 1 1)) fun pv18 =>
  J13_2 F M L1 pv18.1 v7 v8 v9 pv18.2) (
  J13_2 F M L1 v3 v7 v8 v9 h)
theorem J13_3_ok (F : CallH) (M : Nat) (L1 : Value → Value → Value → Value → AH → Res) : ∀ r h, kcode Tryd.prog F 21 M (Code.sub [true, true, false, true, false, false, true, true, false] (bodyOf Tryd.prog 13)) r h (KX (fun r h => J13_2 F M L1 (r 3) (r 7) (r 8) (r 9) h) (exitsOf [(0, (fun r h => J13_0 F M (r 3) h))]) (fun r h => E13 (r 2) h)) = J13_3 F M L1 (r 3) (r 7) (r 8) (r 9) h := fun r h => by kernel_rfl
theorem J13_4_ok (F : CallH) (M : Nat) (L1 : Value → Value → Value → Value → AH → Res) : ∀ r h, kcode Tryd.prog F 21 M (Code.sub [true, true, false, true, false, false, true, true] (bodyOf Tryd.prog 13)) r h (KX (fun r h => L1 (r 3) (r 7) (r 8) (r 9) h) (exitsOf [(0, (fun r h => J13_0 F M (r 3) h))]) (fun r h => E13 (r 2) h)) = J13_3 F M L1 (r 3) (r 7) (r 8) (r 9) h :=
  seq_pt (a := (Code.sub [true, true, false, true, false, false, true, true, false] (bodyOf Tryd.prog 13))) (b := (Code.sub [true, true, false, true, false, false, true, true, true] (bodyOf Tryd.prog 13))) (T := (fun r h => J13_3 F M L1 (r 3) (r 7) (r 8) (r 9) h)) (g := (fun r h => J13_2 F M L1 (r 3) (r 7) (r 8) (r 9) h)) (by kernel_rfl) (J13_2_ok F M L1) (J13_3_ok F M L1)
noncomputable def J13_5 (F : CallH) (M : Nat) (L1 : Value → Value → Value → Value → AH → Res) (v3 : Value) (v7 : Value) (v8 : Value) (v9 : Value) (v10 : Value) (h : AH) : Res :=
  condO v10 (
  J13_3 F M L1 v3 v7 v8 v9 h) (
  J13_0 F M v3 h)
theorem J13_5_ok (F : CallH) (M : Nat) (L1 : Value → Value → Value → Value → AH → Res) : ∀ r h, kcode Tryd.prog F 21 M (Code.sub [true, true, false, true, false, false, true, false] (bodyOf Tryd.prog 13)) r h (KX (fun r h => J13_3 F M L1 (r 3) (r 7) (r 8) (r 9) h) (exitsOf [(0, (fun r h => J13_0 F M (r 3) h))]) (fun r h => E13 (r 2) h)) = J13_5 F M L1 (r 3) (r 7) (r 8) (r 9) (r 10) h := fun r h => by kernel_rfl
theorem J13_6_ok (F : CallH) (M : Nat) (L1 : Value → Value → Value → Value → AH → Res) : ∀ r h, kcode Tryd.prog F 21 M (Code.sub [true, true, false, true, false, false, true] (bodyOf Tryd.prog 13)) r h (KX (fun r h => L1 (r 3) (r 7) (r 8) (r 9) h) (exitsOf [(0, (fun r h => J13_0 F M (r 3) h))]) (fun r h => E13 (r 2) h)) = J13_5 F M L1 (r 3) (r 7) (r 8) (r 9) (r 10) h :=
  seq_pt (a := (Code.sub [true, true, false, true, false, false, true, false] (bodyOf Tryd.prog 13))) (b := (Code.sub [true, true, false, true, false, false, true, true] (bodyOf Tryd.prog 13))) (T := (fun r h => J13_5 F M L1 (r 3) (r 7) (r 8) (r 9) (r 10) h)) (g := (fun r h => J13_3 F M L1 (r 3) (r 7) (r 8) (r 9) h)) (by kernel_rfl) (J13_4_ok F M L1) (J13_5_ok F M L1)
noncomputable def J13_7 (F : CallH) (M : Nat) (L1 : Value → Value → Value → Value → AH → Res) (v3 : Value) (v7 : Value) (v8 : Value) (v9 : Value) (h : AH) : Res :=
  bindO (ibin .lss v9 v8) fun v10 =>
  J13_5 F M L1 v3 v7 v8 v9 v10 h
theorem J13_7_ok (F : CallH) (M : Nat) (L1 : Value → Value → Value → Value → AH → Res) : ∀ r h, kcode Tryd.prog F 21 M (Code.sub [true, true, false, true, false, false] (bodyOf Tryd.prog 13)) r h (KX (fun r h => L1 (r 3) (r 7) (r 8) (r 9) h) (exitsOf [(0, (fun r h => J13_0 F M (r 3) h))]) (fun r h => E13 (r 2) h)) = J13_7 F M L1 (r 3) (r 7) (r 8) (r 9) h :=
  seq_pt (a := (Code.sub [true, true, false, true, false, false, false] (bodyOf Tryd.prog 13))) (b := (Code.sub [true, true, false, true, false, false, true] (bodyOf Tryd.prog 13))) (T := (fun r h => J13_7 F M L1 (r 3) (r 7) (r 8) (r 9) h)) (g := (fun r h => J13_5 F M L1 (r 3) (r 7) (r 8) (r 9) (r 10) h)) (by kernel_rfl) (J13_6_ok F M L1) (fun r h => by kernel_rfl)
noncomputable def L13_1 (F : CallH) (M : Nat) : Nat → Value → Value → Value → Value → AH → Res
  | 0, _, _, _, _, _ => none
  | m + 1, v3, v7, v8, v9, h => J13_7 F M (L13_1 F M m) v3 v7 v8 v9 h
theorem L13_1_ok (F : CallH) (M : Nat) : ∀ r h, kcode Tryd.prog F 21 M (Code.sub [true, true, false, true, false] (bodyOf Tryd.prog 13)) r h (KX (fun r h => J13_0 F M (r 3) h) (exitsOf [(0, (fun r h => J13_0 F M (r 3) h))]) (fun r h => E13 (r 2) h)) = L13_1 F M M (r 3) (r 7) (r 8) (r 9) h :=
  loop_pt (b := (Code.sub [true, true, false, true, false, false] (bodyOf Tryd.prog 13))) (by kernel_rfl) (fun m r h => L13_1 F M m (r 3) (r 7) (r 8) (r 9) h) (fun _ _ => rfl) (fun m r h => ((J13_7_ok F M (L13_1 F M m)) r h).trans rfl)
theorem J13_8_ok (F : CallH) (M : Nat) : ∀ r h, kcode Tryd.prog F 21 M (Code.sub [true, true, false, true] (bodyOf Tryd.prog 13)) r h (KX (fun r h => J13_0 F M (r 3) h) (exitsOf []) (fun r h => E13 (r 2) h)) = L13_1 F M M (r 3) (r 7) (r 8) (r 9) h :=
  block_pt (b := (Code.sub [true, true, false, true, false] (bodyOf Tryd.prog 13))) (T := (fun r h => L13_1 F M M (r 3) (r 7) (r 8) (r 9) h)) (id := 0) (by kernel_rfl) (L13_1_ok F M)
noncomputable def J13_9 (F : CallH) (M : Nat) (v0 : Value) (v3 : Value) (h : AH) : Res :=
  bindO (F 25 [v0, (str [32])] h) fun pv7 =>
  bindO (xlenL pv7.1) fun v8 =>
  L13_1 F M M v3 pv7.1 v8 (.int .i64 0) pv7.2
theorem J13_9_ok (F : CallH) (M : Nat) : ∀ r h, kcode Tryd.prog F 21 M (Code.sub [true, true, false] (bodyOf Tryd.prog 13)) r h (KX (fun r h => J13_0 F M (r 3) h) (exitsOf []) (fun r h => E13 (r 2) h)) = J13_9 F M (r 0) (r 3) h :=
  seq_pt (a := (Code.sub [true, true, false, false] (bodyOf Tryd.prog 13))) (b := (Code.sub [true, true, false, true] (bodyOf Tryd.prog 13))) (T := (fun r h => J13_9 F M (r 0) (r 3) h)) (g := (fun r h => L13_1 F M M (r 3) (r 7) (r 8) (r 9) h)) (by kernel_rfl) (J13_8_ok F M) (fun r h => by kernel_rfl)
theorem J13_10_ok (F : CallH) (M : Nat) : ∀ r h, kcode Tryd.prog F 21 M (Code.sub [true, true] (bodyOf Tryd.prog 13)) r h (KX (fun r h => E13 (r 2) h) (exitsOf []) (fun r h => E13 (r 2) h)) = J13_9 F M (r 0) (r 3) h :=
  seq_pt (a := (Code.sub [true, true, false] (bodyOf Tryd.prog 13))) (b := (Code.sub [true, true, true] (bodyOf Tryd.prog 13))) (T := (fun r h => J13_9 F M (r 0) (r 3) h)) (g := (fun r h => J13_0 F M (r 3) h)) (by kernel_rfl) (J13_0_ok F M) (J13_9_ok F M)
noncomputable def J13_11 (F : CallH) (M : Nat) (v0 : Value) (h : AH) : Res :=
  J13_9 F M v0 (.slice none 0 0) h
theorem J13_11_ok (F : CallH) (M : Nat) : ∀ r h, kcode Tryd.prog F 21 M (Code.sub [true] (bodyOf Tryd.prog 13)) r h (KX (fun r h => E13 (r 2) h) (exitsOf []) (fun r h => E13 (r 2) h)) = J13_11 F M (r 0) h :=
  seq_pt (a := (Code.sub [true, false] (bodyOf Tryd.prog 13))) (b := (Code.sub [true, true] (bodyOf Tryd.prog 13))) (T := (fun r h => J13_11 F M (r 0) h)) (g := (fun r h => J13_9 F M (r 0) (r 3) h)) (by kernel_rfl) (J13_10_ok F M) (fun r h => by kernel_rfl)
noncomputable def J13_12 (F : CallH) (M : Nat) (v0 : Value) (h : AH) : Res :=
  J13_11 F M v0 h
theorem J13_12_ok (F : CallH) (M : Nat) : ∀ r h, kcode Tryd.prog F 21 M (Code.sub [] (bodyOf Tryd.prog 13)) r h (KX (fun r h => E13 (r 2) h) (exitsOf []) (fun r h => E13 (r 2) h)) = J13_12 F M (r 0) h :=
  seq_pt (a := (Code.sub [false] (bodyOf Tryd.prog 13))) (b := (Code.sub [true] (bodyOf Tryd.prog 13))) (T := (fun r h => J13_12 F M (r 0) h)) (g := (fun r h => J13_11 F M (r 0) h)) (by kernel_rfl) (J13_11_ok F M) (fun r h => by kernel_rfl)
noncomputable def R13 (F : CallH) (M : Nat) (x0 : Value) (h : AH) : Res := J13_12 F M x0 h
theorem R13_ok (F : CallH) (M : Nat) (x0 : Value) (h : AH) : kfn Tryd.prog F M 13 [x0] h = R13 F M x0 h :=
  (fn_pt (N := 21) (E := (fun r h => E13 (r 2) h)) (T := (fun r h => J13_12 F M (r 0) h)) Tryd.func13 (by kernel_rfl) (by kernel_rfl) (fun r h => by kernel_rfl) (J13_12_ok F M)).trans (by kernel_rfl)
/-! ### 17 turnkey/asm.quiet -/
noncomputable def E17 (v2 : Value) (h : AH) : Res := some (v2, h)
noncomputable def J17_0 (F : CallH) (M : Nat) (v0 : Value) (h : AH) : Res :=
  bindO (xlenL v0) fun v4 =>
  bindO (ibin .eql v4 (.int .i64 0)) fun v5 =>
  condO v5 (
  E17 (.bool true) h) (
  bindO (xia 1 v0 (.int .i64 0)) fun v8 =>
  bindO (ld1 h v8) fun v9 =>
  bindO (ixS v9 (.int .i64 0)) fun v10 =>
  bindO (ibin .eql v10 (.int .u8 35)) fun v11 =>
  E17 v11 h)
theorem J17_0_ok (F : CallH) (M : Nat) : ∀ r h, kcode Tryd.prog F 13 M (Code.sub [] (bodyOf Tryd.prog 17)) r h (KX (fun r h => E17 (r 2) h) (exitsOf []) (fun r h => E17 (r 2) h)) = J17_0 F M (r 0) h := fun r h => by kernel_rfl
noncomputable def R17 (F : CallH) (M : Nat) (x0 : Value) (h : AH) : Res := J17_0 F M x0 h
theorem R17_ok (F : CallH) (M : Nat) (x0 : Value) (h : AH) : kfn Tryd.prog F M 17 [x0] h = R17 F M x0 h :=
  (fn_pt (N := 13) (E := (fun r h => E17 (r 2) h)) (T := (fun r h => J17_0 F M (r 0) h)) Tryd.func17 (by kernel_rfl) (by kernel_rfl) (fun r h => by kernel_rfl) (J17_0_ok F M)).trans (by kernel_rfl)
/-! ### 21 turnkey/turnkeysee.Fault -/
noncomputable def E21 (v2 : Value) (h : AH) : Res := bindO (ldn 3 h v2) fun x2 => some (x2, h)
noncomputable def J21_0 (F : CallH) (M : Nat) (v2 : Value) (v3 : Value) (h : AH) : Res :=
  withH (bump h 11) fun h1 =>
  bindO (xnil v3) fun v29 =>
  bindO (xfa 1 v29) fun v30 =>
  bindO (ld1 h1 v30) fun v31 =>
  bindO (F 31 [v31] h1) fun pv32 =>
  bindO (xnil v3) fun v34 =>
  bindO (xfa 0 v34) fun v35 =>
  bindO (ld1 pv32.2 v35) fun v36 =>
  bindO (F 10 [pv32.1, v36] pv32.2) fun pv37 =>
  bindO (xst 3 pv37.2 v2 pv37.1) fun h4 =>
  andO (rdok (ld1 h1 v35) v36) <|
  E21 v2 h4
theorem J21_0_ok (F : CallH) (M : Nat) : ∀ r h, kcode Tryd.prog F 38 M (Code.sub [true, true, true, true, true] (bodyOf Tryd.prog 21)) r h (KX (fun r h => E21 (r 2) h) (exitsOf []) (fun r h => E21 (r 2) h)) = J21_0 F M (r 2) (r 3) h := fun r h => by kernel_rfl
noncomputable def J21_1 (F : CallH) (M : Nat) (v2 : Value) (v3 : Value) (h : AH) : Res :=
  bindO (xnilP .eql v3) fun v19 =>
  condO v19 (
  bindO (F 24 [(.int .i64 (-1))] h) fun pv27 =>
  bindO (xst 3 pv27.2 v2 pv27.1) fun h6 =>
  E21 v2 h6) (
  bindO (xnil v3) fun v22 =>
  bindO (xfa 1 v22) fun v23 =>
  bindO (ld1 h v23) fun v24 =>
  bindO (xnilI .eql v24) fun v25 =>
  condO v25 (
  bindO (F 24 [(.int .i64 (-1))] h) fun pv27 =>
  bindO (xst 3 pv27.2 v2 pv27.1) fun h8 =>
  E21 v2 h8) (
  J21_0 F M v2 v3 h))
theorem J21_1_ok (F : CallH) (M : Nat) : ∀ r h, kcode Tryd.prog F 38 M (Code.sub [true, true, true, true, false] (bodyOf Tryd.prog 21)) r h (KX (fun r h => J21_0 F M (r 2) (r 3) h) (exitsOf []) (fun r h => E21 (r 2) h)) = J21_1 F M (r 2) (r 3) h := fun r h => by kernel_rfl
theorem J21_2_ok (F : CallH) (M : Nat) : ∀ r h, kcode Tryd.prog F 38 M (Code.sub [true, true, true, true] (bodyOf Tryd.prog 21)) r h (KX (fun r h => E21 (r 2) h) (exitsOf []) (fun r h => E21 (r 2) h)) = J21_1 F M (r 2) (r 3) h :=
  seq_pt (a := (Code.sub [true, true, true, true, false] (bodyOf Tryd.prog 21))) (b := (Code.sub [true, true, true, true, true] (bodyOf Tryd.prog 21))) (T := (fun r h => J21_1 F M (r 2) (r 3) h)) (g := (fun r h => J21_0 F M (r 2) (r 3) h)) (by kernel_rfl) (J21_0_ok F M) (J21_1_ok F M)
noncomputable def J21_3 (F : CallH) (M : Nat) (v0 : Value) (v2 : Value) (v3 : Value) (v4 : Value) (h : AH) : Res :=
  bindO (xnot v4) fun v14 =>
  condO v14 (
  bindO (F 31 [v0] h) fun pv16 =>
  bindO (F 24 [pv16.1] pv16.2) fun pv17 =>
  bindO (xst 3 pv17.2 v2 pv17.1) fun h11 =>
  E21 v2 h11) (
  J21_1 F M v2 v3 h)
theorem J21_3_ok (F : CallH) (M : Nat) : ∀ r h, kcode Tryd.prog F 38 M (Code.sub [true, true, true, false] (bodyOf Tryd.prog 21)) r h (KX (fun r h => J21_1 F M (r 2) (r 3) h) (exitsOf []) (fun r h => E21 (r 2) h)) = J21_3 F M (r 0) (r 2) (r 3) (r 4) h := fun r h => by kernel_rfl
theorem J21_4_ok (F : CallH) (M : Nat) : ∀ r h, kcode Tryd.prog F 38 M (Code.sub [true, true, true] (bodyOf Tryd.prog 21)) r h (KX (fun r h => E21 (r 2) h) (exitsOf []) (fun r h => E21 (r 2) h)) = J21_3 F M (r 0) (r 2) (r 3) (r 4) h :=
  seq_pt (a := (Code.sub [true, true, true, false] (bodyOf Tryd.prog 21))) (b := (Code.sub [true, true, true, true] (bodyOf Tryd.prog 21))) (T := (fun r h => J21_3 F M (r 0) (r 2) (r 3) (r 4) h)) (g := (fun r h => J21_1 F M (r 2) (r 3) h)) (by kernel_rfl) (J21_2_ok F M) (J21_3_ok F M)
noncomputable def J21_5 (F : CallH) (M : Nat) (v0 : Value) (v2 : Value) (h : AH) : Res :=
  bindO (xtaOk 51 (.pointer none) v0) fun v10 =>
  bindO (xext 0 v10) fun v11 =>
  bindO (xext 1 v10) fun v12 =>
  J21_3 F M v0 v2 v11 v12 h
theorem J21_5_ok (F : CallH) (M : Nat) : ∀ r h, kcode Tryd.prog F 38 M (Code.sub [true, true] (bodyOf Tryd.prog 21)) r h (KX (fun r h => E21 (r 2) h) (exitsOf []) (fun r h => E21 (r 2) h)) = J21_5 F M (r 0) (r 2) h :=
  seq_pt (a := (Code.sub [true, true, false] (bodyOf Tryd.prog 21))) (b := (Code.sub [true, true, true] (bodyOf Tryd.prog 21))) (T := (fun r h => J21_5 F M (r 0) (r 2) h)) (g := (fun r h => J21_3 F M (r 0) (r 2) (r 3) (r 4) h)) (by kernel_rfl) (J21_4_ok F M) (fun r h => by kernel_rfl)
noncomputable def J21_6 (F : CallH) (M : Nat) (v0 : Value) (v2 : Value) (h : AH) : Res :=
  bindO (xnilI .eql v0) fun v6 =>
  condO v6 (
  bindO (F 22 [] h) fun pv7 =>
  bindO (xst 3 pv7.2 v2 pv7.1) fun h13 =>
  E21 v2 h13) (
  J21_5 F M v0 v2 h)
theorem J21_6_ok (F : CallH) (M : Nat) : ∀ r h, kcode Tryd.prog F 38 M (Code.sub [true, false] (bodyOf Tryd.prog 21)) r h (KX (fun r h => J21_5 F M (r 0) (r 2) h) (exitsOf []) (fun r h => E21 (r 2) h)) = J21_6 F M (r 0) (r 2) h := fun r h => by kernel_rfl
theorem J21_7_ok (F : CallH) (M : Nat) : ∀ r h, kcode Tryd.prog F 38 M (Code.sub [true] (bodyOf Tryd.prog 21)) r h (KX (fun r h => E21 (r 2) h) (exitsOf []) (fun r h => E21 (r 2) h)) = J21_6 F M (r 0) (r 2) h :=
  seq_pt (a := (Code.sub [true, false] (bodyOf Tryd.prog 21))) (b := (Code.sub [true, true] (bodyOf Tryd.prog 21))) (T := (fun r h => J21_6 F M (r 0) (r 2) h)) (g := (fun r h => J21_5 F M (r 0) (r 2) h)) (by kernel_rfl) (J21_5_ok F M) (J21_6_ok F M)
noncomputable def J21_8 (F : CallH) (M : Nat) (v0 : Value) (h : AH) : Res :=
  newK h (.cells [(.int .i64 0), (.bool false), (.int .i64 0)] 3) fun iv2 h14 =>
  J21_6 F M v0 (ptrTo iv2) h14
theorem J21_8_ok (F : CallH) (M : Nat) : ∀ r h, kcode Tryd.prog F 38 M (Code.sub [] (bodyOf Tryd.prog 21)) r h (KX (fun r h => E21 (r 2) h) (exitsOf []) (fun r h => E21 (r 2) h)) = J21_8 F M (r 0) h :=
  seq_pt (a := (Code.sub [false] (bodyOf Tryd.prog 21))) (b := (Code.sub [true] (bodyOf Tryd.prog 21))) (T := (fun r h => J21_8 F M (r 0) h)) (g := (fun r h => J21_6 F M (r 0) (r 2) h)) (by kernel_rfl) (J21_7_ok F M) (fun r h => by kernel_rfl)
noncomputable def R21 (F : CallH) (M : Nat) (x0 : Value) (h : AH) : Res := J21_8 F M x0 h
theorem R21_ok (F : CallH) (M : Nat) (x0 : Value) (h : AH) : kfn Tryd.prog F M 21 [x0] h = R21 F M x0 h :=
  (fn_pt (N := 38) (E := (fun r h => E21 (r 2) h)) (T := (fun r h => J21_8 F M (r 0) h)) Tryd.func21 (by kernel_rfl) (by kernel_rfl) (fun r h => by kernel_rfl) (J21_8_ok F M)).trans (by kernel_rfl)
/-! ### 25 strings.Split -/
noncomputable def E25 (v4 : Value) (h : AH) : Res := some (v4, h)
noncomputable def J25_0 (F : CallH) (M : Nat) (v0 : Value) (v1 : Value) (h : AH) : Res :=
  bindO (F 38 [v0, v1, (.int .i64 0), (.int .i64 (-1))] h) fun pv7 =>
  E25 pv7.1 pv7.2
theorem J25_0_ok (F : CallH) (M : Nat) : ∀ r h, kcode Tryd.prog F 8 M (Code.sub [] (bodyOf Tryd.prog 25)) r h (KX (fun r h => E25 (r 4) h) (exitsOf []) (fun r h => E25 (r 4) h)) = J25_0 F M (r 0) (r 1) h := fun r h => by kernel_rfl
noncomputable def R25 (F : CallH) (M : Nat) (x0 x1 : Value) (h : AH) : Res := J25_0 F M x0 x1 h
theorem R25_ok (F : CallH) (M : Nat) (x0 x1 : Value) (h : AH) : kfn Tryd.prog F M 25 [x0, x1] h = R25 F M x0 x1 h :=
  (fn_pt (N := 8) (E := (fun r h => E25 (r 4) h)) (T := (fun r h => J25_0 F M (r 0) (r 1) h)) Tryd.func25 (by kernel_rfl) (by kernel_rfl) (fun r h => by kernel_rfl) (J25_0_ok F M)).trans (by kernel_rfl)
/-! ### 29 turnkey/asm.Number -/
noncomputable def E29 (v2 : Value) (v3 : Value) (h : AH) : Res := some ((.tuple #[v2, v3]), h)
noncomputable def J29_0 (F : CallH) (M : Nat) (v0 : Value) (h : AH) : Res :=
  bindO (F 42 [v0] h) fun pv11 =>
  bindO (xext 0 pv11.1) fun v12 =>
  bindO (xext 1 pv11.1) fun v13 =>
  bindO (xnilI .eql v13) fun v16 =>
  condO v16 (
  bindO (ibin .geq v12 (.int .i64 0)) fun v19 =>
  condO v19 (
  bindO (F 43 [v12] pv11.2) fun pv23 =>
  bindO (sbin .eql pv23.1 v0) fun v25 =>
  E29 v12 v25 pv23.2) (
  E29 v12 (.bool false) pv11.2)) (
  E29 v12 (.bool false) pv11.2)
theorem J29_0_ok (F : CallH) (M : Nat) : ∀ r h, kcode Tryd.prog F 27 M (Code.sub [true, true] (bodyOf Tryd.prog 29)) r h (KX (fun r h => E29 (r 2) (r 3) h) (exitsOf []) (fun r h => E29 (r 2) (r 3) h)) = J29_0 F M (r 0) h := fun r h => by kernel_rfl
noncomputable def J29_1 (F : CallH) (M : Nat) (v0 : Value) (h : AH) : Res :=
  bindO (xlenS v0) fun v7 =>
  bindO (ibin .gtr v7 (.int .i64 9)) fun v8 =>
  condO v8 (
  E29 (.int .i64 0) (.bool false) h) (
  J29_0 F M v0 h)
theorem J29_1_ok (F : CallH) (M : Nat) : ∀ r h, kcode Tryd.prog F 27 M (Code.sub [true, false] (bodyOf Tryd.prog 29)) r h (KX (fun r h => J29_0 F M (r 0) h) (exitsOf []) (fun r h => E29 (r 2) (r 3) h)) = J29_1 F M (r 0) h := fun r h => by kernel_rfl
theorem J29_2_ok (F : CallH) (M : Nat) : ∀ r h, kcode Tryd.prog F 27 M (Code.sub [true] (bodyOf Tryd.prog 29)) r h (KX (fun r h => E29 (r 2) (r 3) h) (exitsOf []) (fun r h => E29 (r 2) (r 3) h)) = J29_1 F M (r 0) h :=
  seq_pt (a := (Code.sub [true, false] (bodyOf Tryd.prog 29))) (b := (Code.sub [true, true] (bodyOf Tryd.prog 29))) (T := (fun r h => J29_1 F M (r 0) h)) (g := (fun r h => J29_0 F M (r 0) h)) (by kernel_rfl) (J29_0_ok F M) (J29_1_ok F M)
noncomputable def J29_3 (F : CallH) (M : Nat) (v0 : Value) (h : AH) : Res :=
  J29_1 F M v0 h
theorem J29_3_ok (F : CallH) (M : Nat) : ∀ r h, kcode Tryd.prog F 27 M (Code.sub [] (bodyOf Tryd.prog 29)) r h (KX (fun r h => E29 (r 2) (r 3) h) (exitsOf []) (fun r h => E29 (r 2) (r 3) h)) = J29_3 F M (r 0) h :=
  seq_pt (a := (Code.sub [false] (bodyOf Tryd.prog 29))) (b := (Code.sub [true] (bodyOf Tryd.prog 29))) (T := (fun r h => J29_3 F M (r 0) h)) (g := (fun r h => J29_1 F M (r 0) h)) (by kernel_rfl) (J29_2_ok F M) (fun r h => by kernel_rfl)
noncomputable def R29 (F : CallH) (M : Nat) (x0 : Value) (h : AH) : Res := J29_3 F M x0 h
theorem R29_ok (F : CallH) (M : Nat) (x0 : Value) (h : AH) : kfn Tryd.prog F M 29 [x0] h = R29 F M x0 h :=
  (fn_pt (N := 27) (E := (fun r h => E29 (r 2) (r 3) h)) (T := (fun r h => J29_3 F M (r 0) h)) Tryd.func29 (by kernel_rfl) (by kernel_rfl) (fun r h => by kernel_rfl) (J29_3_ok F M)).trans (by kernel_rfl)
/-! ### 33 turnkey/code.Form -/
noncomputable def E33 (v2 : Value) (h : AH) : Res := some (v2, h)
noncomputable def J33_0 (F : CallH) (M : Nat) (v0 : Value) (v3 : Value) (h : AH) : Res :=
  bindO (xia 1 v3 v0) fun v15 =>
  bindO (ld1 h v15) fun v16 =>
  E33 v16 h
theorem J33_0_ok (F : CallH) (M : Nat) : ∀ r h, kcode Tryd.prog F 17 M (Code.sub [true, true, true] (bodyOf Tryd.prog 33)) r h (KX (fun r h => E33 (r 2) h) (exitsOf []) (fun r h => E33 (r 2) h)) = J33_0 F M (r 0) (r 3) h := fun r h => by kernel_rfl
noncomputable def J33_1 (F : CallH) (M : Nat) (v0 : Value) (v3 : Value) (h : AH) : Res :=
  bindO (ibin .lss v0 (.int .i64 0)) fun v6 =>
  condO v6 (
  E33 (str []) h) (
  bindO (xlenL v3) fun v10 =>
  bindO (ibin .geq v0 v10) fun v11 =>
  condO v11 (
  E33 (str []) h) (
  J33_0 F M v0 v3 h))
theorem J33_1_ok (F : CallH) (M : Nat) : ∀ r h, kcode Tryd.prog F 17 M (Code.sub [true, true, false] (bodyOf Tryd.prog 33)) r h (KX (fun r h => J33_0 F M (r 0) (r 3) h) (exitsOf []) (fun r h => E33 (r 2) h)) = J33_1 F M (r 0) (r 3) h := fun r h => by kernel_rfl
theorem J33_2_ok (F : CallH) (M : Nat) : ∀ r h, kcode Tryd.prog F 17 M (Code.sub [true, true] (bodyOf Tryd.prog 33)) r h (KX (fun r h => E33 (r 2) h) (exitsOf []) (fun r h => E33 (r 2) h)) = J33_1 F M (r 0) (r 3) h :=
  seq_pt (a := (Code.sub [true, true, false] (bodyOf Tryd.prog 33))) (b := (Code.sub [true, true, true] (bodyOf Tryd.prog 33))) (T := (fun r h => J33_1 F M (r 0) (r 3) h)) (g := (fun r h => J33_0 F M (r 0) (r 3) h)) (by kernel_rfl) (J33_0_ok F M) (J33_1_ok F M)
noncomputable def J33_3 (F : CallH) (M : Nat) (v0 : Value) (h : AH) : Res :=
  bindO (xrow (copies [(str [])] 14) [(0, 1, (str [])), (1, 1, (str [114, 110])), (2, 1, (str [114, 110])), (3, 1, (str [111, 114, 114, 114])), (4, 1, (str [110])), (5, 1, (str [114, 110])), (6, 1, (str [114, 114, 110])), (7, 1, (str [114, 114, 110])), (8, 1, (str [107, 107])), (9, 1, (str [107, 114])), (10, 1, (str [114, 107])), (11, 1, (str [104, 107, 107])), (12, 1, (str [])), (13, 1, (str []))]) fun v4 => newK h (.cells v4 1) fun iv4 h1 =>
  J33_1 F M v0 (slOf iv4 14 14) h1
theorem J33_3_ok (F : CallH) (M : Nat) : ∀ r h, kcode Tryd.prog F 17 M (Code.sub [true] (bodyOf Tryd.prog 33)) r h (KX (fun r h => E33 (r 2) h) (exitsOf []) (fun r h => E33 (r 2) h)) = J33_3 F M (r 0) h :=
  seq_pt (a := (Code.sub [true, false] (bodyOf Tryd.prog 33))) (b := (Code.sub [true, true] (bodyOf Tryd.prog 33))) (T := (fun r h => J33_3 F M (r 0) h)) (g := (fun r h => J33_1 F M (r 0) (r 3) h)) (by kernel_rfl) (J33_2_ok F M) (fun r h => by kernel_rfl)
noncomputable def J33_4 (F : CallH) (M : Nat) (v0 : Value) (h : AH) : Res :=
  J33_3 F M v0 h
theorem J33_4_ok (F : CallH) (M : Nat) : ∀ r h, kcode Tryd.prog F 17 M (Code.sub [] (bodyOf Tryd.prog 33)) r h (KX (fun r h => E33 (r 2) h) (exitsOf []) (fun r h => E33 (r 2) h)) = J33_4 F M (r 0) h :=
  seq_pt (a := (Code.sub [false] (bodyOf Tryd.prog 33))) (b := (Code.sub [true] (bodyOf Tryd.prog 33))) (T := (fun r h => J33_4 F M (r 0) h)) (g := (fun r h => J33_3 F M (r 0) h)) (by kernel_rfl) (J33_3_ok F M) (fun r h => by kernel_rfl)
noncomputable def R33 (F : CallH) (M : Nat) (x0 : Value) (h : AH) : Res := J33_4 F M x0 h
theorem R33_ok (F : CallH) (M : Nat) (x0 : Value) (h : AH) : kfn Tryd.prog F M 33 [x0] h = R33 F M x0 h :=
  (fn_pt (N := 17) (E := (fun r h => E33 (r 2) h)) (T := (fun r h => J33_4 F M (r 0) h)) Tryd.func33 (by kernel_rfl) (by kernel_rfl) (fun r h => by kernel_rfl) (J33_4_ok F M)).trans (by kernel_rfl)
/-! ### 37 turnkey/asm.register -/
noncomputable def E37 (v4 : Value) (v5 : Value) (h : AH) : Res := some ((.tuple #[v4, v5]), h)
noncomputable def J37_0 (F : CallH) (M : Nat) (v0 : Value) (v1 : Value) (h : AH) : Res :=
  bindO (xrune v1) fun v13 =>
  bindO (F 52 [v0, v13] h) fun pv14 =>
  bindO (xext 0 pv14.1) fun v15 =>
  bindO (xext 1 pv14.1) fun v16 =>
  bindO (F 29 [v15] pv14.2) fun pv19 =>
  bindO (xext 0 pv19.1) fun v20 =>
  bindO (xext 1 pv19.1) fun v21 =>
  condO v16 (
  E37 v20 v21 pv19.2) (
  E37 v20 (.bool false) pv19.2)
theorem J37_0_ok (F : CallH) (M : Nat) : ∀ r h, kcode Tryd.prog F 27 M (Code.sub [] (bodyOf Tryd.prog 37)) r h (KX (fun r h => E37 (r 4) (r 5) h) (exitsOf []) (fun r h => E37 (r 4) (r 5) h)) = J37_0 F M (r 0) (r 1) h := fun r h => by kernel_rfl
noncomputable def R37 (F : CallH) (M : Nat) (x0 x1 : Value) (h : AH) : Res := J37_0 F M x0 x1 h
theorem R37_ok (F : CallH) (M : Nat) (x0 x1 : Value) (h : AH) : kfn Tryd.prog F M 37 [x0, x1] h = R37 F M x0 x1 h :=
  (fn_pt (N := 27) (E := (fun r h => E37 (r 4) (r 5) h)) (T := (fun r h => J37_0 F M (r 0) (r 1) h)) Tryd.func37 (by kernel_rfl) (by kernel_rfl) (fun r h => by kernel_rfl) (J37_0_ok F M)).trans (by kernel_rfl)
/-! ### 41 turnkey/asm.name$1 -/
noncomputable def E41 (v2 : Value) (h : AH) : Res := some (v2, h)
noncomputable def J41_0 (F : CallH) (M : Nat) (v0 : Value) (h : AH) : Res :=
  bindO (ibin .lss v0 (.int .i32 97)) fun v4 =>
  condO v4 (
  E41 (.bool true) h) (
  bindO (ibin .gtr v0 (.int .i32 122)) fun v7 =>
  E41 v7 h)
theorem J41_0_ok (F : CallH) (M : Nat) : ∀ r h, kcode Tryd.prog F 9 M (Code.sub [] (bodyOf Tryd.prog 41)) r h (KX (fun r h => E41 (r 2) h) (exitsOf []) (fun r h => E41 (r 2) h)) = J41_0 F M (r 0) h := fun r h => by kernel_rfl
noncomputable def R41 (F : CallH) (M : Nat) (x0 : Value) (h : AH) : Res := J41_0 F M x0 h
theorem R41_ok (F : CallH) (M : Nat) (x0 : Value) (h : AH) : kfn Tryd.prog F M 41 [x0] h = R41 F M x0 h :=
  (fn_pt (N := 9) (E := (fun r h => E41 (r 2) h)) (T := (fun r h => J41_0 F M (r 0) h)) Tryd.func41 (by kernel_rfl) (by kernel_rfl) (fun r h => by kernel_rfl) (J41_0_ok F M)).trans (by kernel_rfl)
/-! ### 45 slices.ContainsFunc[[]int,int] -/
noncomputable def E45 (v4 : Value) (h : AH) : Res := some (v4, h)
noncomputable def J45_0 (F : CallH) (M : Nat) (v0 : Value) (v1 : Value) (h : AH) : Res :=
  bindO (F 61 [v0, v1] h) fun pv7 =>
  bindO (ibin .geq pv7.1 (.int .i64 0)) fun v8 =>
  E45 v8 pv7.2
theorem J45_0_ok (F : CallH) (M : Nat) : ∀ r h, kcode Tryd.prog F 9 M (Code.sub [] (bodyOf Tryd.prog 45)) r h (KX (fun r h => E45 (r 4) h) (exitsOf []) (fun r h => E45 (r 4) h)) = J45_0 F M (r 0) (r 1) h := fun r h => by kernel_rfl
noncomputable def R45 (F : CallH) (M : Nat) (x0 x1 : Value) (h : AH) : Res := J45_0 F M x0 x1 h
theorem R45_ok (F : CallH) (M : Nat) (x0 x1 : Value) (h : AH) : kfn Tryd.prog F M 45 [x0, x1] h = R45 F M x0 x1 h :=
  (fn_pt (N := 9) (E := (fun r h => E45 (r 4) h)) (T := (fun r h => J45_0 F M (r 0) (r 1) h)) Tryd.func45 (by kernel_rfl) (by kernel_rfl) (fun r h => by kernel_rfl) (J45_0_ok F M)).trans (by kernel_rfl)
/-! ### 49 turnkey/code.Names -/
noncomputable def E49 (v0 : Value) (h : AH) : Res := some (v0, h)
noncomputable def J49_0 (F : CallH) (M : Nat) (h : AH) : Res :=
  bindO (F 25 [(str [108, 105, 32, 108, 105, 104, 32, 97, 108, 117, 32, 106, 109, 112, 32, 106, 122, 32, 108, 111, 97, 100, 32, 115, 97, 118, 101, 32, 107, 109, 111, 118, 101, 32, 107, 110, 117, 109, 32, 107, 103, 101, 116, 32, 105, 110, 118, 32, 121, 105, 101, 108, 100, 32, 104, 97, 108, 116]), (str [32])] h) fun pv1 =>
  E49 pv1.1 pv1.2
theorem J49_0_ok (F : CallH) (M : Nat) : ∀ r h, kcode Tryd.prog F 2 M (Code.sub [] (bodyOf Tryd.prog 49)) r h (KX (fun r h => E49 (r 0) h) (exitsOf []) (fun r h => E49 (r 0) h)) = J49_0 F M h := fun r h => by kernel_rfl
noncomputable def R49 (F : CallH) (M : Nat) (h : AH) : Res := J49_0 F M h
theorem R49_ok (F : CallH) (M : Nat) (h : AH) : kfn Tryd.prog F M 49 [] h = R49 F M h :=
  (fn_pt (N := 2) (E := (fun r h => E49 (r 0) h)) (T := (fun r h => J49_0 F M h)) Tryd.func49 (by kernel_rfl) (by kernel_rfl) (fun r h => by kernel_rfl) (J49_0_ok F M)).trans (by kernel_rfl)
/-! ### 53 strings.explode -/
noncomputable def E53 (v4 : Value) (h : AH) : Res := some (v4, h)
noncomputable def J53_0 (F : CallH) (M : Nat) (v6 : Value) (h : AH) : Res :=
  E53 v6 h
theorem J53_0_ok (F : CallH) (M : Nat) : ∀ r h, kcode Tryd.prog F 50 M (Code.sub [true, true, true, true, true, true] (bodyOf Tryd.prog 53)) r h (KX (fun r h => E53 (r 4) h) (exitsOf []) (fun r h => E53 (r 4) h)) = J53_0 F M (r 6) h := fun r h => by kernel_rfl
noncomputable def J53_1 (F : CallH) (M : Nat) (v0 : Value) (v1 : Value) (v6 : Value) (h : AH) : Res :=
  bindO (ibin .gtr v1 (.int .i64 0)) fun v43 =>
  condO v43 (
  bindO (ibin .sub v1 (.int .i64 1)) fun v46 =>
  bindO (xia 1 v6 v46) fun v48 =>
  bindO (xst 1 h v48 v0) fun h1 =>
  J53_0 F M v6 h1) (
  J53_0 F M v6 h)
theorem J53_1_ok (F : CallH) (M : Nat) : ∀ r h, kcode Tryd.prog F 50 M (Code.sub [true, true, true, true, true, false] (bodyOf Tryd.prog 53)) r h (KX (fun r h => J53_0 F M (r 6) h) (exitsOf []) (fun r h => E53 (r 4) h)) = J53_1 F M (r 0) (r 1) (r 6) h := fun r h => by kernel_rfl
theorem J53_2_ok (F : CallH) (M : Nat) : ∀ r h, kcode Tryd.prog F 50 M (Code.sub [true, true, true, true, true] (bodyOf Tryd.prog 53)) r h (KX (fun r h => E53 (r 4) h) (exitsOf []) (fun r h => E53 (r 4) h)) = J53_1 F M (r 0) (r 1) (r 6) h :=
  seq_pt (a := (Code.sub [true, true, true, true, true, false] (bodyOf Tryd.prog 53))) (b := (Code.sub [true, true, true, true, true, true] (bodyOf Tryd.prog 53))) (T := (fun r h => J53_1 F M (r 0) (r 1) (r 6) h)) (g := (fun r h => J53_0 F M (r 6) h)) (by kernel_rfl) (J53_0_ok F M) (J53_1_ok F M)
noncomputable def J53_4 (F : CallH) (M : Nat) (L3 : Value → Value → Value → Value → AH → Res) (v0 : Value) (v1 : Value) (v6 : Value) (v7 : Value) (h : AH) : Res :=
  bindO (ibin .add v7 (.int .i64 1)) fun v27 =>
  L3 v0 v1 v6 v27 h
theorem J53_4_ok (F : CallH) (M : Nat) (L3 : Value → Value → Value → Value → AH → Res) : ∀ r h, kcode Tryd.prog F 50 M (Code.sub [true, true, true, true, false, true, false, false, true, true] (bodyOf Tryd.prog 53)) r h (KX (fun r h => L3 (r 0) (r 1) (r 6) (r 7) h) (exitsOf [(0, (fun r h => J53_1 F M (r 0) (r 1) (r 6) h))]) (fun r h => E53 (r 4) h)) = J53_4 F M L3 (r 0) (r 1) (r 6) (r 7) h := fun r h => by kernel_rfl
noncomputable def J53_5 (F : CallH) (M : Nat) (L3 : Value → Value → Value → Value → AH → Res) (v0 : Value) (v1 : Value) (v6 : Value) (v7 : Value) (h : AH) : Res :=
  bindO (F 64 [v0] h) fun pv30 =>
  bindO (xext 0 pv30.1) fun v31 =>
  bindO (xext 1 pv30.1) fun v32 =>
  bindO (xslS v0 none (some v32)) fun v37 =>
  bindO (xia 1 v6 v7) fun v38 =>
  bindO (xst 1 pv30.2 v38 v37) fun h3 =>
  bindO (xslS v0 (some v32) none) fun v41 =>
  J53_4 F M L3 v41 v1 v6 v7 h3
theorem J53_5_ok (F : CallH) (M : Nat) (L3 : Value → Value → Value → Value → AH → Res) : ∀ r h, kcode Tryd.prog F 50 M (Code.sub [true, true, true, true, false, true, false, false, true, false] (bodyOf Tryd.prog 53)) r h (KX (fun r h => J53_4 F M L3 (r 0) (r 1) (r 6) (r 7) h) (exitsOf [(0, (fun r h => J53_1 F M (r 0) (r 1) (r 6) h))]) (fun r h => E53 (r 4) h)) = J53_5 F M L3 (r 0) (r 1) (r 6) (r 7) h := fun r h => by kernel_rfl
theorem J53_6_ok (F : CallH) (M : Nat) (L3 : Value → Value → Value → Value → AH → Res) : ∀ r h, kcode Tryd.prog F 50 M (Code.sub [true, true, true, true, false, true, false, false, true] (bodyOf Tryd.prog 53)) r h (KX (fun r h => L3 (r 0) (r 1) (r 6) (r 7) h) (exitsOf [(0, (fun r h => J53_1 F M (r 0) (r 1) (r 6) h))]) (fun r h => E53 (r 4) h)) = J53_5 F M L3 (r 0) (r 1) (r 6) (r 7) h :=
  seq_pt (a := (Code.sub [true, true, true, true, false, true, false, false, true, false] (bodyOf Tryd.prog 53))) (b := (Code.sub [true, true, true, true, false, true, false, false, true, true] (bodyOf Tryd.prog 53))) (T := (fun r h => J53_5 F M L3 (r 0) (r 1) (r 6) (r 7) h)) (g := (fun r h => J53_4 F M L3 (r 0) (r 1) (r 6) (r 7) h)) (by kernel_rfl) (J53_4_ok F M L3) (J53_5_ok F M L3)
noncomputable def J53_7 (F : CallH) (M : Nat) (L3 : Value → Value → Value → Value → AH → Res) (v0 : Value) (v1 : Value) (v6 : Value) (v7 : Value) (h : AH) : Res :=
  bindO (ibin .sub v1 (.int .i64 1)) fun v24 =>
  bindO (ibin .lss v7 v24) fun v25 =>
  condO v25 (
  J53_5 F M L3 v0 v1 v6 v7 h) (
  J53_1 F M v0 v1 v6 h)
theorem J53_7_ok (F : CallH) (M : Nat) (L3 : Value → Value → Value → Value → AH → Res) : ∀ r h, kcode Tryd.prog F 50 M (Code.sub [true, true, true, true, false, true, false, false, false] (bodyOf Tryd.prog 53)) r h (KX (fun r h => J53_5 F M L3 (r 0) (r 1) (r 6) (r 7) h) (exitsOf [(0, (fun r h => J53_1 F M (r 0) (r 1) (r 6) h))]) (fun r h => E53 (r 4) h)) = J53_7 F M L3 (r 0) (r 1) (r 6) (r 7) h := fun r h => by kernel_rfl
theorem J53_8_ok (F : CallH) (M : Nat) (L3 : Value → Value → Value → Value → AH → Res) : ∀ r h, kcode Tryd.prog F 50 M (Code.sub [true, true, true, true, false, true, false, false] (bodyOf Tryd.prog 53)) r h (KX (fun r h => L3 (r 0) (r 1) (r 6) (r 7) h) (exitsOf [(0, (fun r h => J53_1 F M (r 0) (r 1) (r 6) h))]) (fun r h => E53 (r 4) h)) = J53_7 F M L3 (r 0) (r 1) (r 6) (r 7) h :=
  seq_pt (a := (Code.sub [true, true, true, true, false, true, false, false, false] (bodyOf Tryd.prog 53))) (b := (Code.sub [true, true, true, true, false, true, false, false, true] (bodyOf Tryd.prog 53))) (T := (fun r h => J53_7 F M L3 (r 0) (r 1) (r 6) (r 7) h)) (g := (fun r h => J53_5 F M L3 (r 0) (r 1) (r 6) (r 7) h)) (by kernel_rfl) (J53_6_ok F M L3) (J53_7_ok F M L3)
noncomputable def L53_3 (F : CallH) (M : Nat) : Nat → Value → Value → Value → Value → AH → Res
  | 0, _, _, _, _, _ => none
  | m + 1, v0, v1, v6, v7, h => J53_7 F M (L53_3 F M m) v0 v1 v6 v7 h
theorem L53_3_ok (F : CallH) (M : Nat) : ∀ r h, kcode Tryd.prog F 50 M (Code.sub [true, true, true, true, false, true, false] (bodyOf Tryd.prog 53)) r h (KX (fun r h => J53_1 F M (r 0) (r 1) (r 6) h) (exitsOf [(0, (fun r h => J53_1 F M (r 0) (r 1) (r 6) h))]) (fun r h => E53 (r 4) h)) = L53_3 F M M (r 0) (r 1) (r 6) (r 7) h :=
  loop_pt (b := (Code.sub [true, true, true, true, false, true, false, false] (bodyOf Tryd.prog 53))) (by kernel_rfl) (fun m r h => L53_3 F M m (r 0) (r 1) (r 6) (r 7) h) (fun _ _ => rfl) (fun m r h => ((J53_8_ok F M (L53_3 F M m)) r h).trans rfl)
theorem J53_9_ok (F : CallH) (M : Nat) : ∀ r h, kcode Tryd.prog F 50 M (Code.sub [true, true, true, true, false, true] (bodyOf Tryd.prog 53)) r h (KX (fun r h => J53_1 F M (r 0) (r 1) (r 6) h) (exitsOf []) (fun r h => E53 (r 4) h)) = L53_3 F M M (r 0) (r 1) (r 6) (r 7) h :=
  block_pt (b := (Code.sub [true, true, true, true, false, true, false] (bodyOf Tryd.prog 53))) (T := (fun r h => L53_3 F M M (r 0) (r 1) (r 6) (r 7) h)) (id := 0) (by kernel_rfl) (L53_3_ok F M)
noncomputable def J53_10 (F : CallH) (M : Nat) (v0 : Value) (v1 : Value) (v6 : Value) (h : AH) : Res :=
  L53_3 F M M v0 v1 v6 (.int .i64 0) h
theorem J53_10_ok (F : CallH) (M : Nat) : ∀ r h, kcode Tryd.prog F 50 M (Code.sub [true, true, true, true, false] (bodyOf Tryd.prog 53)) r h (KX (fun r h => J53_1 F M (r 0) (r 1) (r 6) h) (exitsOf []) (fun r h => E53 (r 4) h)) = J53_10 F M (r 0) (r 1) (r 6) h :=
  seq_pt (a := (Code.sub [true, true, true, true, false, false] (bodyOf Tryd.prog 53))) (b := (Code.sub [true, true, true, true, false, true] (bodyOf Tryd.prog 53))) (T := (fun r h => J53_10 F M (r 0) (r 1) (r 6) h)) (g := (fun r h => L53_3 F M M (r 0) (r 1) (r 6) (r 7) h)) (by kernel_rfl) (J53_9_ok F M) (fun r h => by kernel_rfl)
theorem J53_11_ok (F : CallH) (M : Nat) : ∀ r h, kcode Tryd.prog F 50 M (Code.sub [true, true, true, true] (bodyOf Tryd.prog 53)) r h (KX (fun r h => E53 (r 4) h) (exitsOf []) (fun r h => E53 (r 4) h)) = J53_10 F M (r 0) (r 1) (r 6) h :=
  seq_pt (a := (Code.sub [true, true, true, true, false] (bodyOf Tryd.prog 53))) (b := (Code.sub [true, true, true, true, true] (bodyOf Tryd.prog 53))) (T := (fun r h => J53_10 F M (r 0) (r 1) (r 6) h)) (g := (fun r h => J53_1 F M (r 0) (r 1) (r 6) h)) (by kernel_rfl) (J53_2_ok F M) (J53_10_ok F M)
noncomputable def J53_12 (F : CallH) (M : Nat) (v0 : Value) (v1 : Value) (h : AH) : Res :=
  bindO (xmks 1 16 [(str [])] v1 v1) fun v21 => newK h v21.1 fun iv21 h4 =>
  J53_10 F M v0 v1 (slOf iv21 v21.2.1 v21.2.2) h4
theorem J53_12_ok (F : CallH) (M : Nat) : ∀ r h, kcode Tryd.prog F 50 M (Code.sub [true, true, true] (bodyOf Tryd.prog 53)) r h (KX (fun r h => E53 (r 4) h) (exitsOf []) (fun r h => E53 (r 4) h)) = J53_12 F M (r 0) (r 1) h :=
  seq_pt (a := (Code.sub [true, true, true, false] (bodyOf Tryd.prog 53))) (b := (Code.sub [true, true, true, true] (bodyOf Tryd.prog 53))) (T := (fun r h => J53_12 F M (r 0) (r 1) h)) (g := (fun r h => J53_10 F M (r 0) (r 1) (r 6) h)) (by kernel_rfl) (J53_11_ok F M) (fun r h => by kernel_rfl)
noncomputable def J53_13 (F : CallH) (M : Nat) (v0 : Value) (v1 : Value) (v5 : Value) (h : AH) : Res :=
  bindO (ibin .lss v1 (.int .i64 0)) fun v13 =>
  condO v13 (
  J53_12 F M v0 v5 h) (
  bindO (ibin .gtr v1 v5) fun v17 =>
  condO v17 (
  J53_12 F M v0 v5 h) (
  J53_12 F M v0 v1 h))
theorem J53_13_ok (F : CallH) (M : Nat) : ∀ r h, kcode Tryd.prog F 50 M (Code.sub [true, true, false] (bodyOf Tryd.prog 53)) r h (KX (fun r h => J53_12 F M (r 0) (r 1) h) (exitsOf []) (fun r h => E53 (r 4) h)) = J53_13 F M (r 0) (r 1) (r 5) h := fun r h => by kernel_rfl
theorem J53_14_ok (F : CallH) (M : Nat) : ∀ r h, kcode Tryd.prog F 50 M (Code.sub [true, true] (bodyOf Tryd.prog 53)) r h (KX (fun r h => E53 (r 4) h) (exitsOf []) (fun r h => E53 (r 4) h)) = J53_13 F M (r 0) (r 1) (r 5) h :=
  seq_pt (a := (Code.sub [true, true, false] (bodyOf Tryd.prog 53))) (b := (Code.sub [true, true, true] (bodyOf Tryd.prog 53))) (T := (fun r h => J53_13 F M (r 0) (r 1) (r 5) h)) (g := (fun r h => J53_12 F M (r 0) (r 1) h)) (by kernel_rfl) (J53_12_ok F M) (J53_13_ok F M)
noncomputable def J53_15 (F : CallH) (M : Nat) (v0 : Value) (v1 : Value) (h : AH) : Res :=
  bindO (F 63 [v0] h) fun pv11 =>
  J53_13 F M v0 v1 pv11.1 pv11.2
theorem J53_15_ok (F : CallH) (M : Nat) : ∀ r h, kcode Tryd.prog F 50 M (Code.sub [true] (bodyOf Tryd.prog 53)) r h (KX (fun r h => E53 (r 4) h) (exitsOf []) (fun r h => E53 (r 4) h)) = J53_15 F M (r 0) (r 1) h :=
  seq_pt (a := (Code.sub [true, false] (bodyOf Tryd.prog 53))) (b := (Code.sub [true, true] (bodyOf Tryd.prog 53))) (T := (fun r h => J53_15 F M (r 0) (r 1) h)) (g := (fun r h => J53_13 F M (r 0) (r 1) (r 5) h)) (by kernel_rfl) (J53_14_ok F M) (fun r h => by kernel_rfl)
noncomputable def J53_16 (F : CallH) (M : Nat) (v0 : Value) (v1 : Value) (h : AH) : Res :=
  J53_15 F M v0 v1 h
theorem J53_16_ok (F : CallH) (M : Nat) : ∀ r h, kcode Tryd.prog F 50 M (Code.sub [] (bodyOf Tryd.prog 53)) r h (KX (fun r h => E53 (r 4) h) (exitsOf []) (fun r h => E53 (r 4) h)) = J53_16 F M (r 0) (r 1) h :=
  seq_pt (a := (Code.sub [false] (bodyOf Tryd.prog 53))) (b := (Code.sub [true] (bodyOf Tryd.prog 53))) (T := (fun r h => J53_16 F M (r 0) (r 1) h)) (g := (fun r h => J53_15 F M (r 0) (r 1) h)) (by kernel_rfl) (J53_15_ok F M) (fun r h => by kernel_rfl)
noncomputable def R53 (F : CallH) (M : Nat) (x0 x1 : Value) (h : AH) : Res := J53_16 F M x0 x1 h
theorem R53_ok (F : CallH) (M : Nat) (x0 x1 : Value) (h : AH) : kfn Tryd.prog F M 53 [x0, x1] h = R53 F M x0 x1 h :=
  (fn_pt (N := 50) (E := (fun r h => E53 (r 4) h)) (T := (fun r h => J53_16 F M (r 0) (r 1) h)) Tryd.func53 (by kernel_rfl) (by kernel_rfl) (fun r h => by kernel_rfl) (J53_16_ok F M)).trans (by kernel_rfl)
/-! ### 57 strings.IndexFunc -/
noncomputable def E57 (v4 : Value) (h : AH) : Res := some (v4, h)
noncomputable def J57_0 (F : CallH) (M : Nat) (v0 : Value) (v1 : Value) (h : AH) : Res :=
  bindO (F 67 [v0, v1, (.bool true)] h) fun pv7 =>
  E57 pv7.1 pv7.2
theorem J57_0_ok (F : CallH) (M : Nat) : ∀ r h, kcode Tryd.prog F 8 M (Code.sub [] (bodyOf Tryd.prog 57)) r h (KX (fun r h => E57 (r 4) h) (exitsOf []) (fun r h => E57 (r 4) h)) = J57_0 F M (r 0) (r 1) h := fun r h => by kernel_rfl
noncomputable def R57 (F : CallH) (M : Nat) (x0 x1 : Value) (h : AH) : Res := J57_0 F M x0 x1 h
theorem R57_ok (F : CallH) (M : Nat) (x0 x1 : Value) (h : AH) : kfn Tryd.prog F M 57 [x0, x1] h = R57 F M x0 x1 h :=
  (fn_pt (N := 8) (E := (fun r h => E57 (r 4) h)) (T := (fun r h => J57_0 F M (r 0) (r 1) h)) Tryd.func57 (by kernel_rfl) (by kernel_rfl) (fun r h => by kernel_rfl) (J57_0_ok F M)).trans (by kernel_rfl)
/-! ### 61 slices.IndexFunc[[]int,int] -/
noncomputable def E61 (v4 : Value) (h : AH) : Res := some (v4, h)
noncomputable def J61_0 (F : CallH) (M : Nat) (h : AH) : Res :=
  E61 (.int .i64 (-1)) h
theorem J61_0_ok (F : CallH) (M : Nat) : ∀ r h, kcode Tryd.prog F 19 M (Code.sub [true, true] (bodyOf Tryd.prog 61)) r h (KX (fun r h => E61 (r 4) h) (exitsOf []) (fun r h => E61 (r 4) h)) = J61_0 F M h := fun r h => by kernel_rfl
noncomputable def J61_2 (F : CallH) (M : Nat) (L1 : Value → Value → Value → Value → AH → Res) (v0 : Value) (v1 : Value) (v7 : Value) (v8 : Value) (h : AH) : Res :=
  bindO (ibin .add v8 (.int .i64 1)) fun v18 =>
  L1 v0 v1 v7 v18 h
theorem J61_2_ok (F : CallH) (M : Nat) (L1 : Value → Value → Value → Value → AH → Res) : ∀ r h, kcode Tryd.prog F 19 M (Code.sub [true, false, true, false, false, true, true, true] (bodyOf Tryd.prog 61)) r h (KX (fun r h => L1 (r 0) (r 1) (r 7) (r 8) h) (exitsOf [(0, (fun r h => J61_0 F M h))]) (fun r h => E61 (r 4) h)) = J61_2 F M L1 (r 0) (r 1) (r 7) (r 8) h := fun r h => by kernel_rfl
noncomputable def J61_3 (F : CallH) (M : Nat) (L1 : Value → Value → Value → Value → AH → Res) (v0 : Value) (v1 : Value) (v7 : Value) (v8 : Value) (h : AH) : Res :=
  bindO (xia 1 v0 v8) fun v14 =>
  bindO (ld1 h v14) fun v15 =>
  bindO (callFn F v1 [v15] h) fun pv16 =>
  condO pv16.1 (
  E61 v8 pv16.2) (
  J61_2 F M L1 v0 v1 v7 v8 pv16.2)
theorem J61_3_ok (F : CallH) (M : Nat) (L1 : Value → Value → Value → Value → AH → Res) : ∀ r h, kcode Tryd.prog F 19 M (Code.sub [true, false, true, false, false, true, true, false] (bodyOf Tryd.prog 61)) r h (KX (fun r h => J61_2 F M L1 (r 0) (r 1) (r 7) (r 8) h) (exitsOf [(0, (fun r h => J61_0 F M h))]) (fun r h => E61 (r 4) h)) = J61_3 F M L1 (r 0) (r 1) (r 7) (r 8) h := fun r h => by kernel_rfl
theorem J61_4_ok (F : CallH) (M : Nat) (L1 : Value → Value → Value → Value → AH → Res) : ∀ r h, kcode Tryd.prog F 19 M (Code.sub [true, false, true, false, false, true, true] (bodyOf Tryd.prog 61)) r h (KX (fun r h => L1 (r 0) (r 1) (r 7) (r 8) h) (exitsOf [(0, (fun r h => J61_0 F M h))]) (fun r h => E61 (r 4) h)) = J61_3 F M L1 (r 0) (r 1) (r 7) (r 8) h :=
  seq_pt (a := (Code.sub [true, false, true, false, false, true, true, false] (bodyOf Tryd.prog 61))) (b := (Code.sub [true, false, true, false, false, true, true, true] (bodyOf Tryd.prog 61))) (T := (fun r h => J61_3 F M L1 (r 0) (r 1) (r 7) (r 8) h)) (g := (fun r h => J61_2 F M L1 (r 0) (r 1) (r 7) (r 8) h)) (by kernel_rfl) (J61_2_ok F M L1) (J61_3_ok F M L1)
noncomputable def J61_5 (F : CallH) (M : Nat) (L1 : Value → Value → Value → Value → AH → Res) (v0 : Value) (v1 : Value) (v7 : Value) (v8 : Value) (v9 : Value) (h : AH) : Res :=
  condO v9 (
  J61_3 F M L1 v0 v1 v7 v8 h) (
  J61_0 F M h)
theorem J61_5_ok (F : CallH) (M : Nat) (L1 : Value → Value → Value → Value → AH → Res) : ∀ r h, kcode Tryd.prog F 19 M (Code.sub [true, false, true, false, false, true, false] (bodyOf Tryd.prog 61)) r h (KX (fun r h => J61_3 F M L1 (r 0) (r 1) (r 7) (r 8) h) (exitsOf [(0, (fun r h => J61_0 F M h))]) (fun r h => E61 (r 4) h)) = J61_5 F M L1 (r 0) (r 1) (r 7) (r 8) (r 9) h := fun r h => by kernel_rfl
theorem J61_6_ok (F : CallH) (M : Nat) (L1 : Value → Value → Value → Value → AH → Res) : ∀ r h, kcode Tryd.prog F 19 M (Code.sub [true, false, true, false, false, true] (bodyOf Tryd.prog 61)) r h (KX (fun r h => L1 (r 0) (r 1) (r 7) (r 8) h) (exitsOf [(0, (fun r h => J61_0 F M h))]) (fun r h => E61 (r 4) h)) = J61_5 F M L1 (r 0) (r 1) (r 7) (r 8) (r 9) h :=
  seq_pt (a := (Code.sub [true, false, true, false, false, true, false] (bodyOf Tryd.prog 61))) (b := (Code.sub [true, false, true, false, false, true, true] (bodyOf Tryd.prog 61))) (T := (fun r h => J61_5 F M L1 (r 0) (r 1) (r 7) (r 8) (r 9) h)) (g := (fun r h => J61_3 F M L1 (r 0) (r 1) (r 7) (r 8) h)) (by kernel_rfl) (J61_4_ok F M L1) (J61_5_ok F M L1)
noncomputable def J61_7 (F : CallH) (M : Nat) (L1 : Value → Value → Value → Value → AH → Res) (v0 : Value) (v1 : Value) (v7 : Value) (v8 : Value) (h : AH) : Res :=
  bindO (ibin .lss v8 v7) fun v9 =>
  J61_5 F M L1 v0 v1 v7 v8 v9 h
theorem J61_7_ok (F : CallH) (M : Nat) (L1 : Value → Value → Value → Value → AH → Res) : ∀ r h, kcode Tryd.prog F 19 M (Code.sub [true, false, true, false, false] (bodyOf Tryd.prog 61)) r h (KX (fun r h => L1 (r 0) (r 1) (r 7) (r 8) h) (exitsOf [(0, (fun r h => J61_0 F M h))]) (fun r h => E61 (r 4) h)) = J61_7 F M L1 (r 0) (r 1) (r 7) (r 8) h :=
  seq_pt (a := (Code.sub [true, false, true, false, false, false] (bodyOf Tryd.prog 61))) (b := (Code.sub [true, false, true, false, false, true] (bodyOf Tryd.prog 61))) (T := (fun r h => J61_7 F M L1 (r 0) (r 1) (r 7) (r 8) h)) (g := (fun r h => J61_5 F M L1 (r 0) (r 1) (r 7) (r 8) (r 9) h)) (by kernel_rfl) (J61_6_ok F M L1) (fun r h => by kernel_rfl)
noncomputable def L61_1 (F : CallH) (M : Nat) : Nat → Value → Value → Value → Value → AH → Res
  | 0, _, _, _, _, _ => none
  | m + 1, v0, v1, v7, v8, h => J61_7 F M (L61_1 F M m) v0 v1 v7 v8 h
theorem L61_1_ok (F : CallH) (M : Nat) : ∀ r h, kcode Tryd.prog F 19 M (Code.sub [true, false, true, false] (bodyOf Tryd.prog 61)) r h (KX (fun r h => J61_0 F M h) (exitsOf [(0, (fun r h => J61_0 F M h))]) (fun r h => E61 (r 4) h)) = L61_1 F M M (r 0) (r 1) (r 7) (r 8) h :=
  loop_pt (b := (Code.sub [true, false, true, false, false] (bodyOf Tryd.prog 61))) (by kernel_rfl) (fun m r h => L61_1 F M m (r 0) (r 1) (r 7) (r 8) h) (fun _ _ => rfl) (fun m r h => ((J61_7_ok F M (L61_1 F M m)) r h).trans rfl)
theorem J61_8_ok (F : CallH) (M : Nat) : ∀ r h, kcode Tryd.prog F 19 M (Code.sub [true, false, true] (bodyOf Tryd.prog 61)) r h (KX (fun r h => J61_0 F M h) (exitsOf []) (fun r h => E61 (r 4) h)) = L61_1 F M M (r 0) (r 1) (r 7) (r 8) h :=
  block_pt (b := (Code.sub [true, false, true, false] (bodyOf Tryd.prog 61))) (T := (fun r h => L61_1 F M M (r 0) (r 1) (r 7) (r 8) h)) (id := 0) (by kernel_rfl) (L61_1_ok F M)
noncomputable def J61_9 (F : CallH) (M : Nat) (v0 : Value) (v1 : Value) (h : AH) : Res :=
  bindO (xlenL v0) fun v7 =>
  L61_1 F M M v0 v1 v7 (.int .i64 0) h
theorem J61_9_ok (F : CallH) (M : Nat) : ∀ r h, kcode Tryd.prog F 19 M (Code.sub [true, false] (bodyOf Tryd.prog 61)) r h (KX (fun r h => J61_0 F M h) (exitsOf []) (fun r h => E61 (r 4) h)) = J61_9 F M (r 0) (r 1) h :=
  seq_pt (a := (Code.sub [true, false, false] (bodyOf Tryd.prog 61))) (b := (Code.sub [true, false, true] (bodyOf Tryd.prog 61))) (T := (fun r h => J61_9 F M (r 0) (r 1) h)) (g := (fun r h => L61_1 F M M (r 0) (r 1) (r 7) (r 8) h)) (by kernel_rfl) (J61_8_ok F M) (fun r h => by kernel_rfl)
theorem J61_10_ok (F : CallH) (M : Nat) : ∀ r h, kcode Tryd.prog F 19 M (Code.sub [true] (bodyOf Tryd.prog 61)) r h (KX (fun r h => E61 (r 4) h) (exitsOf []) (fun r h => E61 (r 4) h)) = J61_9 F M (r 0) (r 1) h :=
  seq_pt (a := (Code.sub [true, false] (bodyOf Tryd.prog 61))) (b := (Code.sub [true, true] (bodyOf Tryd.prog 61))) (T := (fun r h => J61_9 F M (r 0) (r 1) h)) (g := (fun r h => J61_0 F M h)) (by kernel_rfl) (J61_0_ok F M) (J61_9_ok F M)
noncomputable def J61_11 (F : CallH) (M : Nat) (v0 : Value) (v1 : Value) (h : AH) : Res :=
  J61_9 F M v0 v1 h
theorem J61_11_ok (F : CallH) (M : Nat) : ∀ r h, kcode Tryd.prog F 19 M (Code.sub [] (bodyOf Tryd.prog 61)) r h (KX (fun r h => E61 (r 4) h) (exitsOf []) (fun r h => E61 (r 4) h)) = J61_11 F M (r 0) (r 1) h :=
  seq_pt (a := (Code.sub [false] (bodyOf Tryd.prog 61))) (b := (Code.sub [true] (bodyOf Tryd.prog 61))) (T := (fun r h => J61_11 F M (r 0) (r 1) h)) (g := (fun r h => J61_9 F M (r 0) (r 1) h)) (by kernel_rfl) (J61_10_ok F M) (fun r h => by kernel_rfl)
noncomputable def R61 (F : CallH) (M : Nat) (x0 x1 : Value) (h : AH) : Res := J61_11 F M x0 x1 h
theorem R61_ok (F : CallH) (M : Nat) (x0 x1 : Value) (h : AH) : kfn Tryd.prog F M 61 [x0, x1] h = R61 F M x0 x1 h :=
  (fn_pt (N := 19) (E := (fun r h => E61 (r 4) h)) (T := (fun r h => J61_11 F M (r 0) (r 1) h)) Tryd.func61 (by kernel_rfl) (by kernel_rfl) (fun r h => by kernel_rfl) (J61_11_ok F M)).trans (by kernel_rfl)
-- 65 internal/bytealg.CountString has no body
/-! ### 69 strconv.syntaxError -/
noncomputable def E69 (v4 : Value) (h : AH) : Res := some (v4, h)
noncomputable def J69_0 (F : CallH) (M : Nat) (v0 : Value) (v1 : Value) (h : AH) : Res :=
  withH (bump h 7) fun h1 =>
  bindO (F 81 [v1] h1) fun pv7 =>
  bindO (ld1 pv7.2 (glob 13)) fun v8 =>
  bindO (xbuild [(str []), (str []), .nilIface] [(0, 1, v0), (1, 1, pv7.1), (2, 1, v8)]) fun v9 =>
  bindO (xcells 3 v9) fun v10 =>
  andO (rdok (ld1 h1 (glob 13)) v8) <|
  withH (putAt pv7.2 (h.next + 5) (.cells v10 3)) fun h3 =>
  E69 (ptrTo (h.next + 5)) h3
theorem J69_0_ok (F : CallH) (M : Nat) : ∀ r h, kcode Tryd.prog F 11 M (Code.sub [] (bodyOf Tryd.prog 69)) r h (KX (fun r h => E69 (r 4) h) (exitsOf []) (fun r h => E69 (r 4) h)) = J69_0 F M (r 0) (r 1) h := fun r h => by kernel_rfl
noncomputable def R69 (F : CallH) (M : Nat) (x0 x1 : Value) (h : AH) : Res := J69_0 F M x0 x1 h
theorem R69_ok (F : CallH) (M : Nat) (x0 x1 : Value) (h : AH) : kfn Tryd.prog F M 69 [x0, x1] h = R69 F M x0 x1 h :=
  (fn_pt (N := 11) (E := (fun r h => E69 (r 4) h)) (T := (fun r h => J69_0 F M (r 0) (r 1) h)) Tryd.func69 (by kernel_rfl) (by kernel_rfl) (fun r h => by kernel_rfl) (J69_0_ok F M)).trans (by kernel_rfl)
/-! ### 73 internal/strconv.FormatInt -/
noncomputable def E73 (v4 : Value) (h : AH) : Res := some (v4, h)
noncomputable def J73_0 (F : CallH) (M : Nat) (v0 : Value) (v1 : Value) (h : AH) : Res :=
  bindO (xconv .u64 v0) fun v46 =>
  bindO (ibin .lss v0 (.int .i64 0)) fun v49 =>
  bindO (F 86 [(.slice none 0 0), v46, v1, v49, (.bool false)] h) fun pv50 =>
  bindO (xext 0 pv50.1) fun v51 =>
  bindO (xext 1 pv50.1) fun v52 =>
  E73 v52 pv50.2
theorem J73_0_ok (F : CallH) (M : Nat) : ∀ r h, kcode Tryd.prog F 54 M (Code.sub [true, true] (bodyOf Tryd.prog 73)) r h (KX (fun r h => E73 (r 4) h) (exitsOf []) (fun r h => E73 (r 4) h)) = J73_0 F M (r 0) (r 1) h := fun r h => by kernel_rfl
noncomputable def J73_1 (F : CallH) (M : Nat) (v5 : Value) (v7 : Value) (h : AH) : Res :=
  bindO (ibin .add (.int .i64 1) v7) fun v41 =>
  bindO (xslA 24 1 v5 (some (.int .i64 1)) (some v41) none) fun v42 =>
  bindO (xb2s h v42) fun v43 =>
  E73 v43 h
theorem J73_1_ok (F : CallH) (M : Nat) : ∀ r h, kcode Tryd.prog F 54 M (Code.sub [true, false, true, false, true, true, true, true, true, true, true] (bodyOf Tryd.prog 73)) r h (KX (fun r h => J73_0 F M (r 0) (r 1) h) (exitsOf []) (fun r h => E73 (r 4) h)) = J73_1 F M (r 5) (r 7) h := fun r h => by kernel_rfl
noncomputable def J73_2 (F : CallH) (M : Nat) (v0 : Value) (v5 : Value) (v7 : Value) (h : AH) : Res :=
  bindO (ibin .lss v0 (.int .i64 0)) fun v34 =>
  condO v34 (
  bindO (xiaA 24 1 v5 (.int .i64 0)) fun v35 =>
  bindO (xst 1 h v35 (.int .u8 45)) fun h2 =>
  bindO (ibin .add (.int .i64 1) v7) fun v37 =>
  bindO (xslA 24 1 v5 none (some v37) none) fun v38 =>
  bindO (xb2s h2 v38) fun v39 =>
  E73 v39 h2) (
  J73_1 F M v5 v7 h)
theorem J73_2_ok (F : CallH) (M : Nat) : ∀ r h, kcode Tryd.prog F 54 M (Code.sub [true, false, true, false, true, true, true, true, true, true, false] (bodyOf Tryd.prog 73)) r h (KX (fun r h => J73_1 F M (r 5) (r 7) h) (exitsOf []) (fun r h => E73 (r 4) h)) = J73_2 F M (r 0) (r 5) (r 7) h := fun r h => by kernel_rfl
theorem J73_3_ok (F : CallH) (M : Nat) : ∀ r h, kcode Tryd.prog F 54 M (Code.sub [true, false, true, false, true, true, true, true, true, true] (bodyOf Tryd.prog 73)) r h (KX (fun r h => J73_0 F M (r 0) (r 1) h) (exitsOf []) (fun r h => E73 (r 4) h)) = J73_2 F M (r 0) (r 5) (r 7) h :=
  seq_pt (a := (Code.sub [true, false, true, false, true, true, true, true, true, true, false] (bodyOf Tryd.prog 73))) (b := (Code.sub [true, false, true, false, true, true, true, true, true, true, true] (bodyOf Tryd.prog 73))) (T := (fun r h => J73_2 F M (r 0) (r 5) (r 7) h)) (g := (fun r h => J73_1 F M (r 5) (r 7) h)) (by kernel_rfl) (J73_1_ok F M) (J73_2_ok F M)
noncomputable def J73_4 (F : CallH) (M : Nat) (v0 : Value) (v5 : Value) (v6 : Value) (v7 : Value) (h : AH) : Res :=
  bindO (ibin .add (.int .i64 1) v7) fun v29 =>
  bindO (xslA 24 1 v5 (some (.int .i64 1)) (some v29) none) fun v30 =>
  bindO (F 85 [v30, v6] h) fun pv32 =>
  J73_2 F M v0 v5 v7 pv32.2
theorem J73_4_ok (F : CallH) (M : Nat) : ∀ r h, kcode Tryd.prog F 54 M (Code.sub [true, false, true, false, true, true, true, true, true] (bodyOf Tryd.prog 73)) r h (KX (fun r h => J73_0 F M (r 0) (r 1) h) (exitsOf []) (fun r h => E73 (r 4) h)) = J73_4 F M (r 0) (r 5) (r 6) (r 7) h :=
  seq_pt (a := (Code.sub [true, false, true, false, true, true, true, true, true, false] (bodyOf Tryd.prog 73))) (b := (Code.sub [true, false, true, false, true, true, true, true, true, true] (bodyOf Tryd.prog 73))) (T := (fun r h => J73_4 F M (r 0) (r 5) (r 6) (r 7) h)) (g := (fun r h => J73_2 F M (r 0) (r 5) (r 7) h)) (by kernel_rfl) (J73_3_ok F M) (fun r h => by kernel_rfl)
noncomputable def J73_5 (F : CallH) (M : Nat) (v0 : Value) (v5 : Value) (v6 : Value) (h : AH) : Res :=
  bindO (F 84 [v6] h) fun pv27 =>
  J73_4 F M v0 v5 v6 pv27.1 pv27.2
theorem J73_5_ok (F : CallH) (M : Nat) : ∀ r h, kcode Tryd.prog F 54 M (Code.sub [true, false, true, false, true, true, true, true] (bodyOf Tryd.prog 73)) r h (KX (fun r h => J73_0 F M (r 0) (r 1) h) (exitsOf []) (fun r h => E73 (r 4) h)) = J73_5 F M (r 0) (r 5) (r 6) h :=
  seq_pt (a := (Code.sub [true, false, true, false, true, true, true, true, false] (bodyOf Tryd.prog 73))) (b := (Code.sub [true, false, true, false, true, true, true, true, true] (bodyOf Tryd.prog 73))) (T := (fun r h => J73_5 F M (r 0) (r 5) (r 6) h)) (g := (fun r h => J73_4 F M (r 0) (r 5) (r 6) (r 7) h)) (by kernel_rfl) (J73_4_ok F M) (fun r h => by kernel_rfl)
noncomputable def J73_6 (F : CallH) (M : Nat) (v0 : Value) (v5 : Value) (v6 : Value) (h : AH) : Res :=
  bindO (ibin .lss v0 (.int .i64 0)) fun v23 =>
  condO v23 (
  bindO (xneg v6) fun v25 =>
  J73_5 F M v0 v5 v25 h) (
  J73_5 F M v0 v5 v6 h)
theorem J73_6_ok (F : CallH) (M : Nat) : ∀ r h, kcode Tryd.prog F 54 M (Code.sub [true, false, true, false, true, true, true, false] (bodyOf Tryd.prog 73)) r h (KX (fun r h => J73_5 F M (r 0) (r 5) (r 6) h) (exitsOf []) (fun r h => E73 (r 4) h)) = J73_6 F M (r 0) (r 5) (r 6) h := fun r h => by kernel_rfl
theorem J73_7_ok (F : CallH) (M : Nat) : ∀ r h, kcode Tryd.prog F 54 M (Code.sub [true, false, true, false, true, true, true] (bodyOf Tryd.prog 73)) r h (KX (fun r h => J73_0 F M (r 0) (r 1) h) (exitsOf []) (fun r h => E73 (r 4) h)) = J73_6 F M (r 0) (r 5) (r 6) h :=
  seq_pt (a := (Code.sub [true, false, true, false, true, true, true, false] (bodyOf Tryd.prog 73))) (b := (Code.sub [true, false, true, false, true, true, true, true] (bodyOf Tryd.prog 73))) (T := (fun r h => J73_6 F M (r 0) (r 5) (r 6) h)) (g := (fun r h => J73_5 F M (r 0) (r 5) (r 6) h)) (by kernel_rfl) (J73_5_ok F M) (J73_6_ok F M)
noncomputable def J73_8 (F : CallH) (M : Nat) (v0 : Value) (v5 : Value) (h : AH) : Res :=
  bindO (xconv .u64 v0) fun v21 =>
  J73_6 F M v0 v5 v21 h
theorem J73_8_ok (F : CallH) (M : Nat) : ∀ r h, kcode Tryd.prog F 54 M (Code.sub [true, false, true, false, true, true] (bodyOf Tryd.prog 73)) r h (KX (fun r h => J73_0 F M (r 0) (r 1) h) (exitsOf []) (fun r h => E73 (r 4) h)) = J73_8 F M (r 0) (r 5) h :=
  seq_pt (a := (Code.sub [true, false, true, false, true, true, false] (bodyOf Tryd.prog 73))) (b := (Code.sub [true, false, true, false, true, true, true] (bodyOf Tryd.prog 73))) (T := (fun r h => J73_8 F M (r 0) (r 5) h)) (g := (fun r h => J73_6 F M (r 0) (r 5) (r 6) h)) (by kernel_rfl) (J73_7_ok F M) (fun r h => by kernel_rfl)
noncomputable def J73_9 (F : CallH) (M : Nat) (v0 : Value) (h : AH) : Res :=
  newK h (.cells [(.int .u8 0), (.int .u8 0), (.int .u8 0), (.int .u8 0), (.int .u8 0), (.int .u8 0), (.int .u8 0), (.int .u8 0), (.int .u8 0), (.int .u8 0), (.int .u8 0), (.int .u8 0), (.int .u8 0), (.int .u8 0), (.int .u8 0), (.int .u8 0), (.int .u8 0), (.int .u8 0), (.int .u8 0), (.int .u8 0), (.int .u8 0), (.int .u8 0), (.int .u8 0), (.int .u8 0)] 24) fun iv5 h5 =>
  J73_8 F M v0 (ptrTo iv5) h5
theorem J73_9_ok (F : CallH) (M : Nat) : ∀ r h, kcode Tryd.prog F 54 M (Code.sub [true, false, true, false, true] (bodyOf Tryd.prog 73)) r h (KX (fun r h => J73_0 F M (r 0) (r 1) h) (exitsOf []) (fun r h => E73 (r 4) h)) = J73_9 F M (r 0) h :=
  seq_pt (a := (Code.sub [true, false, true, false, true, false] (bodyOf Tryd.prog 73))) (b := (Code.sub [true, false, true, false, true, true] (bodyOf Tryd.prog 73))) (T := (fun r h => J73_9 F M (r 0) h)) (g := (fun r h => J73_8 F M (r 0) (r 5) h)) (by kernel_rfl) (J73_8_ok F M) (fun r h => by kernel_rfl)
noncomputable def J73_10 (F : CallH) (M : Nat) (v0 : Value) (h : AH) : Res :=
  bindO (ibin .leq (.int .i64 0) v0) fun v13 =>
  condO v13 (
  bindO (ibin .lss v0 (.int .i64 100)) fun v16 =>
  condO v16 (
  bindO (F 83 [v0] h) fun pv19 =>
  E73 pv19.1 pv19.2) (
  J73_9 F M v0 h)) (
  J73_9 F M v0 h)
theorem J73_10_ok (F : CallH) (M : Nat) : ∀ r h, kcode Tryd.prog F 54 M (Code.sub [true, false, true, false, false] (bodyOf Tryd.prog 73)) r h (KX (fun r h => J73_9 F M (r 0) h) (exitsOf []) (fun r h => E73 (r 4) h)) = J73_10 F M (r 0) h := fun r h => by kernel_rfl
theorem J73_11_ok (F : CallH) (M : Nat) : ∀ r h, kcode Tryd.prog F 54 M (Code.sub [true, false, true, false] (bodyOf Tryd.prog 73)) r h (KX (fun r h => J73_0 F M (r 0) (r 1) h) (exitsOf []) (fun r h => E73 (r 4) h)) = J73_10 F M (r 0) h :=
  seq_pt (a := (Code.sub [true, false, true, false, false] (bodyOf Tryd.prog 73))) (b := (Code.sub [true, false, true, false, true] (bodyOf Tryd.prog 73))) (T := (fun r h => J73_10 F M (r 0) h)) (g := (fun r h => J73_9 F M (r 0) h)) (by kernel_rfl) (J73_9_ok F M) (J73_10_ok F M)
noncomputable def J73_12 (F : CallH) (M : Nat) (v0 : Value) (v1 : Value) (h : AH) : Res :=
  J73_0 F M v0 v1 h
theorem J73_12_ok (F : CallH) (M : Nat) : ∀ r h, kcode Tryd.prog F 54 M (Code.sub [true, false, true, true] (bodyOf Tryd.prog 73)) r h (KX (fun r h => J73_0 F M (r 0) (r 1) h) (exitsOf []) (fun r h => E73 (r 4) h)) = J73_12 F M (r 0) (r 1) h := fun r h => by kernel_rfl
noncomputable def J73_13 (F : CallH) (M : Nat) (v0 : Value) (v1 : Value) (v11 : Value) (h : AH) : Res :=
  condO v11 (J73_10 F M v0 h) (J73_12 F M v0 v1 h)
theorem J73_13_ok (F : CallH) (M : Nat) : ∀ r h, kcode Tryd.prog F 54 M (Code.sub [true, false, true] (bodyOf Tryd.prog 73)) r h (KX (fun r h => J73_0 F M (r 0) (r 1) h) (exitsOf []) (fun r h => E73 (r 4) h)) = J73_13 F M (r 0) (r 1) (r 11) h :=
  fun r h => (cond_pt (a := (Code.sub [true, false, true, false] (bodyOf Tryd.prog 73))) (b := (Code.sub [true, false, true, true] (bodyOf Tryd.prog 73))) (A := (fun r h => J73_10 F M (r 0) h)) (B := (fun r h => J73_12 F M (r 0) (r 1) h)) (y := .tmp 11) (by kernel_rfl) (J73_11_ok F M) (J73_12_ok F M) r h).trans (by kernel_rfl)
noncomputable def J73_14 (F : CallH) (M : Nat) (v0 : Value) (v1 : Value) (h : AH) : Res :=
  bindO (ibin .eql v1 (.int .i64 10)) fun v11 =>
  J73_13 F M v0 v1 v11 h
theorem J73_14_ok (F : CallH) (M : Nat) : ∀ r h, kcode Tryd.prog F 54 M (Code.sub [true, false] (bodyOf Tryd.prog 73)) r h (KX (fun r h => J73_0 F M (r 0) (r 1) h) (exitsOf []) (fun r h => E73 (r 4) h)) = J73_14 F M (r 0) (r 1) h :=
  seq_pt (a := (Code.sub [true, false, false] (bodyOf Tryd.prog 73))) (b := (Code.sub [true, false, true] (bodyOf Tryd.prog 73))) (T := (fun r h => J73_14 F M (r 0) (r 1) h)) (g := (fun r h => J73_13 F M (r 0) (r 1) (r 11) h)) (by kernel_rfl) (J73_13_ok F M) (fun r h => by kernel_rfl)
theorem J73_15_ok (F : CallH) (M : Nat) : ∀ r h, kcode Tryd.prog F 54 M (Code.sub [true] (bodyOf Tryd.prog 73)) r h (KX (fun r h => E73 (r 4) h) (exitsOf []) (fun r h => E73 (r 4) h)) = J73_14 F M (r 0) (r 1) h :=
  seq_pt (a := (Code.sub [true, false] (bodyOf Tryd.prog 73))) (b := (Code.sub [true, true] (bodyOf Tryd.prog 73))) (T := (fun r h => J73_14 F M (r 0) (r 1) h)) (g := (fun r h => J73_0 F M (r 0) (r 1) h)) (by kernel_rfl) (J73_0_ok F M) (J73_14_ok F M)
noncomputable def J73_16 (F : CallH) (M : Nat) (v0 : Value) (v1 : Value) (h : AH) : Res :=
  J73_14 F M v0 v1 h
theorem J73_16_ok (F : CallH) (M : Nat) : ∀ r h, kcode Tryd.prog F 54 M (Code.sub [] (bodyOf Tryd.prog 73)) r h (KX (fun r h => E73 (r 4) h) (exitsOf []) (fun r h => E73 (r 4) h)) = J73_16 F M (r 0) (r 1) h :=
  seq_pt (a := (Code.sub [false] (bodyOf Tryd.prog 73))) (b := (Code.sub [true] (bodyOf Tryd.prog 73))) (T := (fun r h => J73_16 F M (r 0) (r 1) h)) (g := (fun r h => J73_14 F M (r 0) (r 1) h)) (by kernel_rfl) (J73_15_ok F M) (fun r h => by kernel_rfl)
noncomputable def R73 (F : CallH) (M : Nat) (x0 x1 : Value) (h : AH) : Res := J73_16 F M x0 x1 h
theorem R73_ok (F : CallH) (M : Nat) (x0 x1 : Value) (h : AH) : kfn Tryd.prog F M 73 [x0, x1] h = R73 F M x0 x1 h :=
  (fn_pt (N := 54) (E := (fun r h => E73 (r 4) h)) (T := (fun r h => J73_16 F M (r 0) (r 1) h)) Tryd.func73 (by kernel_rfl) (by kernel_rfl) (fun r h => by kernel_rfl) (J73_16_ok F M)).trans (by kernel_rfl)
-- 77 internal/bytealg.IndexString has no body
/-! ### 85 internal/strconv.formatBase10 -/
noncomputable def E85 (h : AH) : Res := some ((.tuple #[]), h)
noncomputable def J85_0 (F : CallH) (M : Nat) (v0 : Value) (v4 : Value) (v12 : Value) (h : AH) : Res :=
  bindO (ibin .gtr v4 (.int .i64 0)) fun v161 =>
  condO v161 (
  bindO (ibin .add (.int .u32 48) v12) fun v164 =>
  bindO (xconv .u8 v164) fun v165 =>
  bindO (xia 1 v0 (.int .i64 0)) fun v166 =>
  bindO (xst 1 h v166 v165) fun h1 =>
  E85 h1) (
  E85 h)
theorem J85_0_ok (F : CallH) (M : Nat) : ∀ r h, kcode Tryd.prog F 167 M (Code.sub [true, true, true, true, true] (bodyOf Tryd.prog 85)) r h (KX (fun r h => E85 h) (exitsOf []) (fun r h => E85 h)) = J85_0 F M (r 0) (r 4) (r 12) h := fun r h => by kernel_rfl
noncomputable def J85_1 (F : CallH) (M : Nat) (v0 : Value) (v4 : Value) (v12 : Value) (h : AH) : Res :=
  bindO (ibin .geq v4 (.int .i64 2)) fun v139 =>
  condO v139 (
  bindO (ibin .rem v12 (.int .u32 100)) fun v141 =>
  bindO (ibin .mul v141 (.int .u32 2)) fun v142 =>
  bindO (ibin .quo v12 (.int .u32 100)) fun v144 =>
  withH (bump h 15) fun h2 =>
  bindO (ibin .sub v4 (.int .i64 1)) fun v147 =>
  bindO (ibin .sub v4 (.int .i64 2)) fun v150 =>
  bindO (ibin .add v142 (.int .u32 1)) fun v152 =>
  bindO (ixS (str [48, 48, 48, 49, 48, 50, 48, 51, 48, 52, 48, 53, 48, 54, 48, 55, 48, 56, 48, 57, 49, 48, 49, 49, 49, 50, 49, 51, 49, 52, 49, 53, 49, 54, 49, 55, 49, 56, 49, 57, 50, 48, 50, 49, 50, 50, 50, 51, 50, 52, 50, 53, 50, 54, 50, 55, 50, 56, 50, 57, 51, 48, 51, 49, 51, 50, 51, 51, 51, 52, 51, 53, 51, 54, 51, 55, 51, 56, 51, 57, 52, 48, 52, 49, 52, 50, 52, 51, 52, 52, 52, 53, 52, 54, 52, 55, 52, 56, 52, 57, 53, 48, 53, 49, 53, 50, 53, 51, 53, 52, 53, 53, 53, 54, 53, 55, 53, 56, 53, 57, 54, 48, 54, 49, 54, 50, 54, 51, 54, 52, 54, 53, 54, 54, 54, 55, 54, 56, 54, 57, 55, 48, 55, 49, 55, 50, 55, 51, 55, 52, 55, 53, 55, 54, 55, 55, 55, 56, 55, 57, 56, 48, 56, 49, 56, 50, 56, 51, 56, 52, 56, 53, 56, 54, 56, 55, 56, 56, 56, 57, 57, 48, 57, 49, 57, 50, 57, 51, 57, 52, 57, 53, 57, 54, 57, 55, 57, 56, 57, 57]) v152) fun v153 =>
  bindO (ixS (str [48, 48, 48, 49, 48, 50, 48, 51, 48, 52, 48, 53, 48, 54, 48, 55, 48, 56, 48, 57, 49, 48, 49, 49, 49, 50, 49, 51, 49, 52, 49, 53, 49, 54, 49, 55, 49, 56, 49, 57, 50, 48, 50, 49, 50, 50, 50, 51, 50, 52, 50, 53, 50, 54, 50, 55, 50, 56, 50, 57, 51, 48, 51, 49, 51, 50, 51, 51, 51, 52, 51, 53, 51, 54, 51, 55, 51, 56, 51, 57, 52, 48, 52, 49, 52, 50, 52, 51, 52, 52, 52, 53, 52, 54, 52, 55, 52, 56, 52, 57, 53, 48, 53, 49, 53, 50, 53, 51, 53, 52, 53, 53, 53, 54, 53, 55, 53, 56, 53, 57, 54, 48, 54, 49, 54, 50, 54, 51, 54, 52, 54, 53, 54, 54, 54, 55, 54, 56, 54, 57, 55, 48, 55, 49, 55, 50, 55, 51, 55, 52, 55, 53, 55, 54, 55, 55, 55, 56, 55, 57, 56, 48, 56, 49, 56, 50, 56, 51, 56, 52, 56, 53, 56, 54, 56, 55, 56, 56, 56, 57, 57, 48, 57, 49, 57, 50, 57, 51, 57, 52, 57, 53, 57, 54, 57, 55, 57, 56, 57, 57]) v142) fun v155 =>
  bindO (xia 1 v0 v147) fun v156 =>
  bindO (xst 1 h2 v156 v153) fun h3 =>
  bindO (xia 1 v0 v150) fun v157 =>
  bindO (xst 1 h3 v157 v155) fun h4 =>
  bindO (ibin .sub v4 (.int .i64 2)) fun v159 =>
  J85_0 F M v0 v159 v144 h4) (
  J85_0 F M v0 v4 v12 h)
theorem J85_1_ok (F : CallH) (M : Nat) : ∀ r h, kcode Tryd.prog F 167 M (Code.sub [true, true, true, true, false] (bodyOf Tryd.prog 85)) r h (KX (fun r h => J85_0 F M (r 0) (r 4) (r 12) h) (exitsOf []) (fun r h => E85 h)) = J85_1 F M (r 0) (r 4) (r 12) h := fun r h => by kernel_rfl
theorem J85_2_ok (F : CallH) (M : Nat) : ∀ r h, kcode Tryd.prog F 167 M (Code.sub [true, true, true, true] (bodyOf Tryd.prog 85)) r h (KX (fun r h => E85 h) (exitsOf []) (fun r h => E85 h)) = J85_1 F M (r 0) (r 4) (r 12) h :=
  seq_pt (a := (Code.sub [true, true, true, true, false] (bodyOf Tryd.prog 85))) (b := (Code.sub [true, true, true, true, true] (bodyOf Tryd.prog 85))) (T := (fun r h => J85_1 F M (r 0) (r 4) (r 12) h)) (g := (fun r h => J85_0 F M (r 0) (r 4) (r 12) h)) (by kernel_rfl) (J85_0_ok F M) (J85_1_ok F M)
noncomputable def J85_3 (F : CallH) (M : Nat) (v0 : Value) (v4 : Value) (v12 : Value) (v14 : Value) (h : AH) : Res :=
  withH (bump h 15) fun h5 =>
  bindO (ibin .sub v4 (.int .i64 3)) fun v125 =>
  bindO (ibin .sub v4 (.int .i64 4)) fun v128 =>
  bindO (ibin .add v14 (.int .u32 1)) fun v130 =>
  bindO (ixS (str [48, 48, 48, 49, 48, 50, 48, 51, 48, 52, 48, 53, 48, 54, 48, 55, 48, 56, 48, 57, 49, 48, 49, 49, 49, 50, 49, 51, 49, 52, 49, 53, 49, 54, 49, 55, 49, 56, 49, 57, 50, 48, 50, 49, 50, 50, 50, 51, 50, 52, 50, 53, 50, 54, 50, 55, 50, 56, 50, 57, 51, 48, 51, 49, 51, 50, 51, 51, 51, 52, 51, 53, 51, 54, 51, 55, 51, 56, 51, 57, 52, 48, 52, 49, 52, 50, 52, 51, 52, 52, 52, 53, 52, 54, 52, 55, 52, 56, 52, 57, 53, 48, 53, 49, 53, 50, 53, 51, 53, 52, 53, 53, 53, 54, 53, 55, 53, 56, 53, 57, 54, 48, 54, 49, 54, 50, 54, 51, 54, 52, 54, 53, 54, 54, 54, 55, 54, 56, 54, 57, 55, 48, 55, 49, 55, 50, 55, 51, 55, 52, 55, 53, 55, 54, 55, 55, 55, 56, 55, 57, 56, 48, 56, 49, 56, 50, 56, 51, 56, 52, 56, 53, 56, 54, 56, 55, 56, 56, 56, 57, 57, 48, 57, 49, 57, 50, 57, 51, 57, 52, 57, 53, 57, 54, 57, 55, 57, 56, 57, 57]) v130) fun v131 =>
  bindO (ixS (str [48, 48, 48, 49, 48, 50, 48, 51, 48, 52, 48, 53, 48, 54, 48, 55, 48, 56, 48, 57, 49, 48, 49, 49, 49, 50, 49, 51, 49, 52, 49, 53, 49, 54, 49, 55, 49, 56, 49, 57, 50, 48, 50, 49, 50, 50, 50, 51, 50, 52, 50, 53, 50, 54, 50, 55, 50, 56, 50, 57, 51, 48, 51, 49, 51, 50, 51, 51, 51, 52, 51, 53, 51, 54, 51, 55, 51, 56, 51, 57, 52, 48, 52, 49, 52, 50, 52, 51, 52, 52, 52, 53, 52, 54, 52, 55, 52, 56, 52, 57, 53, 48, 53, 49, 53, 50, 53, 51, 53, 52, 53, 53, 53, 54, 53, 55, 53, 56, 53, 57, 54, 48, 54, 49, 54, 50, 54, 51, 54, 52, 54, 53, 54, 54, 54, 55, 54, 56, 54, 57, 55, 48, 55, 49, 55, 50, 55, 51, 55, 52, 55, 53, 55, 54, 55, 55, 55, 56, 55, 57, 56, 48, 56, 49, 56, 50, 56, 51, 56, 52, 56, 53, 56, 54, 56, 55, 56, 56, 56, 57, 57, 48, 57, 49, 57, 50, 57, 51, 57, 52, 57, 53, 57, 54, 57, 55, 57, 56, 57, 57]) v14) fun v133 =>
  bindO (xia 1 v0 v125) fun v134 =>
  bindO (xst 1 h5 v134 v131) fun h6 =>
  bindO (xia 1 v0 v128) fun v135 =>
  bindO (xst 1 h6 v135 v133) fun h7 =>
  bindO (ibin .sub v4 (.int .i64 4)) fun v137 =>
  J85_1 F M v0 v137 v12 h7
theorem J85_3_ok (F : CallH) (M : Nat) : ∀ r h, kcode Tryd.prog F 167 M (Code.sub [true, true, true, false, true, false, true, true, true, true] (bodyOf Tryd.prog 85)) r h (KX (fun r h => J85_1 F M (r 0) (r 4) (r 12) h) (exitsOf []) (fun r h => E85 h)) = J85_3 F M (r 0) (r 4) (r 12) (r 14) h := fun r h => by kernel_rfl
noncomputable def J85_4 (F : CallH) (M : Nat) (v0 : Value) (v4 : Value) (v12 : Value) (v14 : Value) (v15 : Value) (h : AH) : Res :=
  withH (bump h 15) fun h8 =>
  bindO (ibin .sub v4 (.int .i64 1)) fun v112 =>
  bindO (ibin .sub v4 (.int .i64 2)) fun v115 =>
  bindO (ibin .add v15 (.int .u32 1)) fun v117 =>
  bindO (ixS (str [48, 48, 48, 49, 48, 50, 48, 51, 48, 52, 48, 53, 48, 54, 48, 55, 48, 56, 48, 57, 49, 48, 49, 49, 49, 50, 49, 51, 49, 52, 49, 53, 49, 54, 49, 55, 49, 56, 49, 57, 50, 48, 50, 49, 50, 50, 50, 51, 50, 52, 50, 53, 50, 54, 50, 55, 50, 56, 50, 57, 51, 48, 51, 49, 51, 50, 51, 51, 51, 52, 51, 53, 51, 54, 51, 55, 51, 56, 51, 57, 52, 48, 52, 49, 52, 50, 52, 51, 52, 52, 52, 53, 52, 54, 52, 55, 52, 56, 52, 57, 53, 48, 53, 49, 53, 50, 53, 51, 53, 52, 53, 53, 53, 54, 53, 55, 53, 56, 53, 57, 54, 48, 54, 49, 54, 50, 54, 51, 54, 52, 54, 53, 54, 54, 54, 55, 54, 56, 54, 57, 55, 48, 55, 49, 55, 50, 55, 51, 55, 52, 55, 53, 55, 54, 55, 55, 55, 56, 55, 57, 56, 48, 56, 49, 56, 50, 56, 51, 56, 52, 56, 53, 56, 54, 56, 55, 56, 56, 56, 57, 57, 48, 57, 49, 57, 50, 57, 51, 57, 52, 57, 53, 57, 54, 57, 55, 57, 56, 57, 57]) v117) fun v118 =>
  bindO (ixS (str [48, 48, 48, 49, 48, 50, 48, 51, 48, 52, 48, 53, 48, 54, 48, 55, 48, 56, 48, 57, 49, 48, 49, 49, 49, 50, 49, 51, 49, 52, 49, 53, 49, 54, 49, 55, 49, 56, 49, 57, 50, 48, 50, 49, 50, 50, 50, 51, 50, 52, 50, 53, 50, 54, 50, 55, 50, 56, 50, 57, 51, 48, 51, 49, 51, 50, 51, 51, 51, 52, 51, 53, 51, 54, 51, 55, 51, 56, 51, 57, 52, 48, 52, 49, 52, 50, 52, 51, 52, 52, 52, 53, 52, 54, 52, 55, 52, 56, 52, 57, 53, 48, 53, 49, 53, 50, 53, 51, 53, 52, 53, 53, 53, 54, 53, 55, 53, 56, 53, 57, 54, 48, 54, 49, 54, 50, 54, 51, 54, 52, 54, 53, 54, 54, 54, 55, 54, 56, 54, 57, 55, 48, 55, 49, 55, 50, 55, 51, 55, 52, 55, 53, 55, 54, 55, 55, 55, 56, 55, 57, 56, 48, 56, 49, 56, 50, 56, 51, 56, 52, 56, 53, 56, 54, 56, 55, 56, 56, 56, 57, 57, 48, 57, 49, 57, 50, 57, 51, 57, 52, 57, 53, 57, 54, 57, 55, 57, 56, 57, 57]) v15) fun v120 =>
  bindO (xia 1 v0 v112) fun v121 =>
  bindO (xst 1 h8 v121 v118) fun h9 =>
  bindO (xia 1 v0 v115) fun v122 =>
  bindO (xst 1 h9 v122 v120) fun h10 =>
  J85_3 F M v0 v4 v12 v14 h10
theorem J85_4_ok (F : CallH) (M : Nat) : ∀ r h, kcode Tryd.prog F 167 M (Code.sub [true, true, true, false, true, false, true, true, true] (bodyOf Tryd.prog 85)) r h (KX (fun r h => J85_1 F M (r 0) (r 4) (r 12) h) (exitsOf []) (fun r h => E85 h)) = J85_4 F M (r 0) (r 4) (r 12) (r 14) (r 15) h :=
  seq_pt (a := (Code.sub [true, true, true, false, true, false, true, true, true, false] (bodyOf Tryd.prog 85))) (b := (Code.sub [true, true, true, false, true, false, true, true, true, true] (bodyOf Tryd.prog 85))) (T := (fun r h => J85_4 F M (r 0) (r 4) (r 12) (r 14) (r 15) h)) (g := (fun r h => J85_3 F M (r 0) (r 4) (r 12) (r 14) h)) (by kernel_rfl) (J85_3_ok F M) (fun r h => by kernel_rfl)
noncomputable def J85_5 (F : CallH) (M : Nat) (v0 : Value) (v4 : Value) (v12 : Value) (v13 : Value) (h : AH) : Res :=
  bindO (ibin .quo v13 (.int .u32 100)) fun v105 =>
  bindO (ibin .mul v105 (.int .u32 2)) fun v106 =>
  bindO (ibin .rem v13 (.int .u32 100)) fun v108 =>
  bindO (ibin .mul v108 (.int .u32 2)) fun v109 =>
  J85_4 F M v0 v4 v12 v106 v109 h
theorem J85_5_ok (F : CallH) (M : Nat) : ∀ r h, kcode Tryd.prog F 167 M (Code.sub [true, true, true, false, true, false, true, true] (bodyOf Tryd.prog 85)) r h (KX (fun r h => J85_1 F M (r 0) (r 4) (r 12) h) (exitsOf []) (fun r h => E85 h)) = J85_5 F M (r 0) (r 4) (r 12) (r 13) h :=
  seq_pt (a := (Code.sub [true, true, true, false, true, false, true, true, false] (bodyOf Tryd.prog 85))) (b := (Code.sub [true, true, true, false, true, false, true, true, true] (bodyOf Tryd.prog 85))) (T := (fun r h => J85_5 F M (r 0) (r 4) (r 12) (r 13) h)) (g := (fun r h => J85_4 F M (r 0) (r 4) (r 12) (r 14) (r 15) h)) (by kernel_rfl) (J85_4_ok F M) (fun r h => by kernel_rfl)
noncomputable def J85_6 (F : CallH) (M : Nat) (v0 : Value) (v4 : Value) (v12 : Value) (v13 : Value) (h : AH) : Res :=
  bindO (ibin .quo v12 (.int .u32 10000)) fun v103 =>
  J85_5 F M v0 v4 v103 v13 h
theorem J85_6_ok (F : CallH) (M : Nat) : ∀ r h, kcode Tryd.prog F 167 M (Code.sub [true, true, true, false, true, false, true] (bodyOf Tryd.prog 85)) r h (KX (fun r h => J85_1 F M (r 0) (r 4) (r 12) h) (exitsOf []) (fun r h => E85 h)) = J85_6 F M (r 0) (r 4) (r 12) (r 13) h :=
  seq_pt (a := (Code.sub [true, true, true, false, true, false, true, false] (bodyOf Tryd.prog 85))) (b := (Code.sub [true, true, true, false, true, false, true, true] (bodyOf Tryd.prog 85))) (T := (fun r h => J85_6 F M (r 0) (r 4) (r 12) (r 13) h)) (g := (fun r h => J85_5 F M (r 0) (r 4) (r 12) (r 13) h)) (by kernel_rfl) (J85_5_ok F M) (fun r h => by kernel_rfl)
noncomputable def J85_7 (F : CallH) (M : Nat) (v0 : Value) (v4 : Value) (v12 : Value) (h : AH) : Res :=
  bindO (ibin .rem v12 (.int .u32 10000)) fun v101 =>
  J85_6 F M v0 v4 v12 v101 h
theorem J85_7_ok (F : CallH) (M : Nat) : ∀ r h, kcode Tryd.prog F 167 M (Code.sub [true, true, true, false, true, false] (bodyOf Tryd.prog 85)) r h (KX (fun r h => J85_1 F M (r 0) (r 4) (r 12) h) (exitsOf []) (fun r h => E85 h)) = J85_7 F M (r 0) (r 4) (r 12) h :=
  seq_pt (a := (Code.sub [true, true, true, false, true, false, false] (bodyOf Tryd.prog 85))) (b := (Code.sub [true, true, true, false, true, false, true] (bodyOf Tryd.prog 85))) (T := (fun r h => J85_7 F M (r 0) (r 4) (r 12) h)) (g := (fun r h => J85_6 F M (r 0) (r 4) (r 12) (r 13) h)) (by kernel_rfl) (J85_6_ok F M) (fun r h => by kernel_rfl)
noncomputable def J85_8 (F : CallH) (M : Nat) (v0 : Value) (v4 : Value) (v12 : Value) (h : AH) : Res :=
  J85_1 F M v0 v4 v12 h
theorem J85_8_ok (F : CallH) (M : Nat) : ∀ r h, kcode Tryd.prog F 167 M (Code.sub [true, true, true, false, true, true] (bodyOf Tryd.prog 85)) r h (KX (fun r h => J85_1 F M (r 0) (r 4) (r 12) h) (exitsOf []) (fun r h => E85 h)) = J85_8 F M (r 0) (r 4) (r 12) h := fun r h => by kernel_rfl
noncomputable def J85_9 (F : CallH) (M : Nat) (v0 : Value) (v4 : Value) (v12 : Value) (v99 : Value) (h : AH) : Res :=
  condO v99 (J85_7 F M v0 v4 v12 h) (J85_8 F M v0 v4 v12 h)
theorem J85_9_ok (F : CallH) (M : Nat) : ∀ r h, kcode Tryd.prog F 167 M (Code.sub [true, true, true, false, true] (bodyOf Tryd.prog 85)) r h (KX (fun r h => J85_1 F M (r 0) (r 4) (r 12) h) (exitsOf []) (fun r h => E85 h)) = J85_9 F M (r 0) (r 4) (r 12) (r 99) h :=
  fun r h => (cond_pt (a := (Code.sub [true, true, true, false, true, false] (bodyOf Tryd.prog 85))) (b := (Code.sub [true, true, true, false, true, true] (bodyOf Tryd.prog 85))) (A := (fun r h => J85_7 F M (r 0) (r 4) (r 12) h)) (B := (fun r h => J85_8 F M (r 0) (r 4) (r 12) h)) (y := .tmp 99) (by kernel_rfl) (J85_7_ok F M) (J85_8_ok F M) r h).trans (by kernel_rfl)
noncomputable def J85_10 (F : CallH) (M : Nat) (v0 : Value) (v4 : Value) (v12 : Value) (h : AH) : Res :=
  bindO (ibin .geq v4 (.int .i64 4)) fun v99 =>
  J85_9 F M v0 v4 v12 v99 h
theorem J85_10_ok (F : CallH) (M : Nat) : ∀ r h, kcode Tryd.prog F 167 M (Code.sub [true, true, true, false] (bodyOf Tryd.prog 85)) r h (KX (fun r h => J85_1 F M (r 0) (r 4) (r 12) h) (exitsOf []) (fun r h => E85 h)) = J85_10 F M (r 0) (r 4) (r 12) h :=
  seq_pt (a := (Code.sub [true, true, true, false, false] (bodyOf Tryd.prog 85))) (b := (Code.sub [true, true, true, false, true] (bodyOf Tryd.prog 85))) (T := (fun r h => J85_10 F M (r 0) (r 4) (r 12) h)) (g := (fun r h => J85_9 F M (r 0) (r 4) (r 12) (r 99) h)) (by kernel_rfl) (J85_9_ok F M) (fun r h => by kernel_rfl)
theorem J85_11_ok (F : CallH) (M : Nat) : ∀ r h, kcode Tryd.prog F 167 M (Code.sub [true, true, true] (bodyOf Tryd.prog 85)) r h (KX (fun r h => E85 h) (exitsOf []) (fun r h => E85 h)) = J85_10 F M (r 0) (r 4) (r 12) h :=
  seq_pt (a := (Code.sub [true, true, true, false] (bodyOf Tryd.prog 85))) (b := (Code.sub [true, true, true, true] (bodyOf Tryd.prog 85))) (T := (fun r h => J85_10 F M (r 0) (r 4) (r 12) h)) (g := (fun r h => J85_1 F M (r 0) (r 4) (r 12) h)) (by kernel_rfl) (J85_2_ok F M) (J85_10_ok F M)
noncomputable def J85_12 (F : CallH) (M : Nat) (v0 : Value) (v1 : Value) (v4 : Value) (h : AH) : Res :=
  bindO (xconv .u32 v1) fun v97 =>
  J85_10 F M v0 v4 v97 h
theorem J85_12_ok (F : CallH) (M : Nat) : ∀ r h, kcode Tryd.prog F 167 M (Code.sub [true, true] (bodyOf Tryd.prog 85)) r h (KX (fun r h => E85 h) (exitsOf []) (fun r h => E85 h)) = J85_12 F M (r 0) (r 1) (r 4) h :=
  seq_pt (a := (Code.sub [true, true, false] (bodyOf Tryd.prog 85))) (b := (Code.sub [true, true, true] (bodyOf Tryd.prog 85))) (T := (fun r h => J85_12 F M (r 0) (r 1) (r 4) h)) (g := (fun r h => J85_10 F M (r 0) (r 4) (r 12) h)) (by kernel_rfl) (J85_11_ok F M) (fun r h => by kernel_rfl)
noncomputable def J85_14 (F : CallH) (M : Nat) (L13 : Value → Value → Value → AH → Res) (v0 : Value) (v1 : Value) (v4 : Value) (v10 : Value) (h : AH) : Res :=
  withH (bump h 15) fun h11 =>
  bindO (ibin .sub v4 (.int .i64 7)) fun v83 =>
  bindO (ibin .sub v4 (.int .i64 8)) fun v86 =>
  bindO (ibin .add v10 (.int .u32 1)) fun v88 =>
  bindO (ixS (str [48, 48, 48, 49, 48, 50, 48, 51, 48, 52, 48, 53, 48, 54, 48, 55, 48, 56, 48, 57, 49, 48, 49, 49, 49, 50, 49, 51, 49, 52, 49, 53, 49, 54, 49, 55, 49, 56, 49, 57, 50, 48, 50, 49, 50, 50, 50, 51, 50, 52, 50, 53, 50, 54, 50, 55, 50, 56, 50, 57, 51, 48, 51, 49, 51, 50, 51, 51, 51, 52, 51, 53, 51, 54, 51, 55, 51, 56, 51, 57, 52, 48, 52, 49, 52, 50, 52, 51, 52, 52, 52, 53, 52, 54, 52, 55, 52, 56, 52, 57, 53, 48, 53, 49, 53, 50, 53, 51, 53, 52, 53, 53, 53, 54, 53, 55, 53, 56, 53, 57, 54, 48, 54, 49, 54, 50, 54, 51, 54, 52, 54, 53, 54, 54, 54, 55, 54, 56, 54, 57, 55, 48, 55, 49, 55, 50, 55, 51, 55, 52, 55, 53, 55, 54, 55, 55, 55, 56, 55, 57, 56, 48, 56, 49, 56, 50, 56, 51, 56, 52, 56, 53, 56, 54, 56, 55, 56, 56, 56, 57, 57, 48, 57, 49, 57, 50, 57, 51, 57, 52, 57, 53, 57, 54, 57, 55, 57, 56, 57, 57]) v88) fun v89 =>
  bindO (ixS (str [48, 48, 48, 49, 48, 50, 48, 51, 48, 52, 48, 53, 48, 54, 48, 55, 48, 56, 48, 57, 49, 48, 49, 49, 49, 50, 49, 51, 49, 52, 49, 53, 49, 54, 49, 55, 49, 56, 49, 57, 50, 48, 50, 49, 50, 50, 50, 51, 50, 52, 50, 53, 50, 54, 50, 55, 50, 56, 50, 57, 51, 48, 51, 49, 51, 50, 51, 51, 51, 52, 51, 53, 51, 54, 51, 55, 51, 56, 51, 57, 52, 48, 52, 49, 52, 50, 52, 51, 52, 52, 52, 53, 52, 54, 52, 55, 52, 56, 52, 57, 53, 48, 53, 49, 53, 50, 53, 51, 53, 52, 53, 53, 53, 54, 53, 55, 53, 56, 53, 57, 54, 48, 54, 49, 54, 50, 54, 51, 54, 52, 54, 53, 54, 54, 54, 55, 54, 56, 54, 57, 55, 48, 55, 49, 55, 50, 55, 51, 55, 52, 55, 53, 55, 54, 55, 55, 55, 56, 55, 57, 56, 48, 56, 49, 56, 50, 56, 51, 56, 52, 56, 53, 56, 54, 56, 55, 56, 56, 56, 57, 57, 48, 57, 49, 57, 50, 57, 51, 57, 52, 57, 53, 57, 54, 57, 55, 57, 56, 57, 57]) v10) fun v91 =>
  bindO (xia 1 v0 v83) fun v92 =>
  bindO (xst 1 h11 v92 v89) fun h12 =>
  bindO (xia 1 v0 v86) fun v93 =>
  bindO (xst 1 h12 v93 v91) fun h13 =>
  bindO (ibin .sub v4 (.int .i64 8)) fun v95 =>
  L13 v0 v1 v95 h13
theorem J85_14_ok (F : CallH) (M : Nat) (L13 : Value → Value → Value → AH → Res) : ∀ r h, kcode Tryd.prog F 167 M (Code.sub [true, false, false, false, true, false, true, true, true, true, true, true, true, true] (bodyOf Tryd.prog 85)) r h (KX (fun r h => L13 (r 0) (r 1) (r 4) h) (exitsOf [(1, (fun r h => L13 (r 0) (r 1) (r 4) h)), (0, (fun r h => J85_12 F M (r 0) (r 1) (r 4) h))]) (fun r h => E85 h)) = J85_14 F M L13 (r 0) (r 1) (r 4) (r 10) h := fun r h => by kernel_rfl
noncomputable def J85_15 (F : CallH) (M : Nat) (L13 : Value → Value → Value → AH → Res) (v0 : Value) (v1 : Value) (v4 : Value) (v10 : Value) (v11 : Value) (h : AH) : Res :=
  withH (bump h 15) fun h14 =>
  bindO (ibin .sub v4 (.int .i64 5)) fun v70 =>
  bindO (ibin .sub v4 (.int .i64 6)) fun v73 =>
  bindO (ibin .add v11 (.int .u32 1)) fun v75 =>
  bindO (ixS (str [48, 48, 48, 49, 48, 50, 48, 51, 48, 52, 48, 53, 48, 54, 48, 55, 48, 56, 48, 57, 49, 48, 49, 49, 49, 50, 49, 51, 49, 52, 49, 53, 49, 54, 49, 55, 49, 56, 49, 57, 50, 48, 50, 49, 50, 50, 50, 51, 50, 52, 50, 53, 50, 54, 50, 55, 50, 56, 50, 57, 51, 48, 51, 49, 51, 50, 51, 51, 51, 52, 51, 53, 51, 54, 51, 55, 51, 56, 51, 57, 52, 48, 52, 49, 52, 50, 52, 51, 52, 52, 52, 53, 52, 54, 52, 55, 52, 56, 52, 57, 53, 48, 53, 49, 53, 50, 53, 51, 53, 52, 53, 53, 53, 54, 53, 55, 53, 56, 53, 57, 54, 48, 54, 49, 54, 50, 54, 51, 54, 52, 54, 53, 54, 54, 54, 55, 54, 56, 54, 57, 55, 48, 55, 49, 55, 50, 55, 51, 55, 52, 55, 53, 55, 54, 55, 55, 55, 56, 55, 57, 56, 48, 56, 49, 56, 50, 56, 51, 56, 52, 56, 53, 56, 54, 56, 55, 56, 56, 56, 57, 57, 48, 57, 49, 57, 50, 57, 51, 57, 52, 57, 53, 57, 54, 57, 55, 57, 56, 57, 57]) v75) fun v76 =>
  bindO (ixS (str [48, 48, 48, 49, 48, 50, 48, 51, 48, 52, 48, 53, 48, 54, 48, 55, 48, 56, 48, 57, 49, 48, 49, 49, 49, 50, 49, 51, 49, 52, 49, 53, 49, 54, 49, 55, 49, 56, 49, 57, 50, 48, 50, 49, 50, 50, 50, 51, 50, 52, 50, 53, 50, 54, 50, 55, 50, 56, 50, 57, 51, 48, 51, 49, 51, 50, 51, 51, 51, 52, 51, 53, 51, 54, 51, 55, 51, 56, 51, 57, 52, 48, 52, 49, 52, 50, 52, 51, 52, 52, 52, 53, 52, 54, 52, 55, 52, 56, 52, 57, 53, 48, 53, 49, 53, 50, 53, 51, 53, 52, 53, 53, 53, 54, 53, 55, 53, 56, 53, 57, 54, 48, 54, 49, 54, 50, 54, 51, 54, 52, 54, 53, 54, 54, 54, 55, 54, 56, 54, 57, 55, 48, 55, 49, 55, 50, 55, 51, 55, 52, 55, 53, 55, 54, 55, 55, 55, 56, 55, 57, 56, 48, 56, 49, 56, 50, 56, 51, 56, 52, 56, 53, 56, 54, 56, 55, 56, 56, 56, 57, 57, 48, 57, 49, 57, 50, 57, 51, 57, 52, 57, 53, 57, 54, 57, 55, 57, 56, 57, 57]) v11) fun v78 =>
  bindO (xia 1 v0 v70) fun v79 =>
  bindO (xst 1 h14 v79 v76) fun h15 =>
  bindO (xia 1 v0 v73) fun v80 =>
  bindO (xst 1 h15 v80 v78) fun h16 =>
  J85_14 F M L13 v0 v1 v4 v10 h16
theorem J85_15_ok (F : CallH) (M : Nat) (L13 : Value → Value → Value → AH → Res) : ∀ r h, kcode Tryd.prog F 167 M (Code.sub [true, false, false, false, true, false, true, true, true, true, true, true, true] (bodyOf Tryd.prog 85)) r h (KX (fun r h => L13 (r 0) (r 1) (r 4) h) (exitsOf [(1, (fun r h => L13 (r 0) (r 1) (r 4) h)), (0, (fun r h => J85_12 F M (r 0) (r 1) (r 4) h))]) (fun r h => E85 h)) = J85_15 F M L13 (r 0) (r 1) (r 4) (r 10) (r 11) h :=
  seq_pt (a := (Code.sub [true, false, false, false, true, false, true, true, true, true, true, true, true, false] (bodyOf Tryd.prog 85))) (b := (Code.sub [true, false, false, false, true, false, true, true, true, true, true, true, true, true] (bodyOf Tryd.prog 85))) (T := (fun r h => J85_15 F M L13 (r 0) (r 1) (r 4) (r 10) (r 11) h)) (g := (fun r h => J85_14 F M L13 (r 0) (r 1) (r 4) (r 10) h)) (by kernel_rfl) (J85_14_ok F M L13) (fun r h => by kernel_rfl)
noncomputable def J85_16 (F : CallH) (M : Nat) (L13 : Value → Value → Value → AH → Res) (v0 : Value) (v1 : Value) (v4 : Value) (v8 : Value) (v10 : Value) (v11 : Value) (h : AH) : Res :=
  withH (bump h 15) fun h17 =>
  bindO (ibin .sub v4 (.int .i64 3)) fun v57 =>
  bindO (ibin .sub v4 (.int .i64 4)) fun v60 =>
  bindO (ibin .add v8 (.int .u32 1)) fun v62 =>
  bindO (ixS (str [48, 48, 48, 49, 48, 50, 48, 51, 48, 52, 48, 53, 48, 54, 48, 55, 48, 56, 48, 57, 49, 48, 49, 49, 49, 50, 49, 51, 49, 52, 49, 53, 49, 54, 49, 55, 49, 56, 49, 57, 50, 48, 50, 49, 50, 50, 50, 51, 50, 52, 50, 53, 50, 54, 50, 55, 50, 56, 50, 57, 51, 48, 51, 49, 51, 50, 51, 51, 51, 52, 51, 53, 51, 54, 51, 55, 51, 56, 51, 57, 52, 48, 52, 49, 52, 50, 52, 51, 52, 52, 52, 53, 52, 54, 52, 55, 52, 56, 52, 57, 53, 48, 53, 49, 53, 50, 53, 51, 53, 52, 53, 53, 53, 54, 53, 55, 53, 56, 53, 57, 54, 48, 54, 49, 54, 50, 54, 51, 54, 52, 54, 53, 54, 54, 54, 55, 54, 56, 54, 57, 55, 48, 55, 49, 55, 50, 55, 51, 55, 52, 55, 53, 55, 54, 55, 55, 55, 56, 55, 57, 56, 48, 56, 49, 56, 50, 56, 51, 56, 52, 56, 53, 56, 54, 56, 55, 56, 56, 56, 57, 57, 48, 57, 49, 57, 50, 57, 51, 57, 52, 57, 53, 57, 54, 57, 55, 57, 56, 57, 57]) v62) fun v63 =>
  bindO (ixS (str [48, 48, 48, 49, 48, 50, 48, 51, 48, 52, 48, 53, 48, 54, 48, 55, 48, 56, 48, 57, 49, 48, 49, 49, 49, 50, 49, 51, 49, 52, 49, 53, 49, 54, 49, 55, 49, 56, 49, 57, 50, 48, 50, 49, 50, 50, 50, 51, 50, 52, 50, 53, 50, 54, 50, 55, 50, 56, 50, 57, 51, 48, 51, 49, 51, 50, 51, 51, 51, 52, 51, 53, 51, 54, 51, 55, 51, 56, 51, 57, 52, 48, 52, 49, 52, 50, 52, 51, 52, 52, 52, 53, 52, 54, 52, 55, 52, 56, 52, 57, 53, 48, 53, 49, 53, 50, 53, 51, 53, 52, 53, 53, 53, 54, 53, 55, 53, 56, 53, 57, 54, 48, 54, 49, 54, 50, 54, 51, 54, 52, 54, 53, 54, 54, 54, 55, 54, 56, 54, 57, 55, 48, 55, 49, 55, 50, 55, 51, 55, 52, 55, 53, 55, 54, 55, 55, 55, 56, 55, 57, 56, 48, 56, 49, 56, 50, 56, 51, 56, 52, 56, 53, 56, 54, 56, 55, 56, 56, 56, 57, 57, 48, 57, 49, 57, 50, 57, 51, 57, 52, 57, 53, 57, 54, 57, 55, 57, 56, 57, 57]) v8) fun v65 =>
  bindO (xia 1 v0 v57) fun v66 =>
  bindO (xst 1 h17 v66 v63) fun h18 =>
  bindO (xia 1 v0 v60) fun v67 =>
  bindO (xst 1 h18 v67 v65) fun h19 =>
  J85_15 F M L13 v0 v1 v4 v10 v11 h19
theorem J85_16_ok (F : CallH) (M : Nat) (L13 : Value → Value → Value → AH → Res) : ∀ r h, kcode Tryd.prog F 167 M (Code.sub [true, false, false, false, true, false, true, true, true, true, true, true] (bodyOf Tryd.prog 85)) r h (KX (fun r h => L13 (r 0) (r 1) (r 4) h) (exitsOf [(1, (fun r h => L13 (r 0) (r 1) (r 4) h)), (0, (fun r h => J85_12 F M (r 0) (r 1) (r 4) h))]) (fun r h => E85 h)) = J85_16 F M L13 (r 0) (r 1) (r 4) (r 8) (r 10) (r 11) h :=
  seq_pt (a := (Code.sub [true, false, false, false, true, false, true, true, true, true, true, true, false] (bodyOf Tryd.prog 85))) (b := (Code.sub [true, false, false, false, true, false, true, true, true, true, true, true, true] (bodyOf Tryd.prog 85))) (T := (fun r h => J85_16 F M L13 (r 0) (r 1) (r 4) (r 8) (r 10) (r 11) h)) (g := (fun r h => J85_15 F M L13 (r 0) (r 1) (r 4) (r 10) (r 11) h)) (by kernel_rfl) (J85_15_ok F M L13) (fun r h => by kernel_rfl)
noncomputable def J85_17 (F : CallH) (M : Nat) (L13 : Value → Value → Value → AH → Res) (v0 : Value) (v1 : Value) (v4 : Value) (v8 : Value) (v9 : Value) (v10 : Value) (v11 : Value) (h : AH) : Res :=
  withH (bump h 15) fun h20 =>
  bindO (ibin .sub v4 (.int .i64 1)) fun v44 =>
  bindO (ibin .sub v4 (.int .i64 2)) fun v47 =>
  bindO (ibin .add v9 (.int .u32 1)) fun v49 =>
  bindO (ixS (str [48, 48, 48, 49, 48, 50, 48, 51, 48, 52, 48, 53, 48, 54, 48, 55, 48, 56, 48, 57, 49, 48, 49, 49, 49, 50, 49, 51, 49, 52, 49, 53, 49, 54, 49, 55, 49, 56, 49, 57, 50, 48, 50, 49, 50, 50, 50, 51, 50, 52, 50, 53, 50, 54, 50, 55, 50, 56, 50, 57, 51, 48, 51, 49, 51, 50, 51, 51, 51, 52, 51, 53, 51, 54, 51, 55, 51, 56, 51, 57, 52, 48, 52, 49, 52, 50, 52, 51, 52, 52, 52, 53, 52, 54, 52, 55, 52, 56, 52, 57, 53, 48, 53, 49, 53, 50, 53, 51, 53, 52, 53, 53, 53, 54, 53, 55, 53, 56, 53, 57, 54, 48, 54, 49, 54, 50, 54, 51, 54, 52, 54, 53, 54, 54, 54, 55, 54, 56, 54, 57, 55, 48, 55, 49, 55, 50, 55, 51, 55, 52, 55, 53, 55, 54, 55, 55, 55, 56, 55, 57, 56, 48, 56, 49, 56, 50, 56, 51, 56, 52, 56, 53, 56, 54, 56, 55, 56, 56, 56, 57, 57, 48, 57, 49, 57, 50, 57, 51, 57, 52, 57, 53, 57, 54, 57, 55, 57, 56, 57, 57]) v49) fun v50 =>
  bindO (ixS (str [48, 48, 48, 49, 48, 50, 48, 51, 48, 52, 48, 53, 48, 54, 48, 55, 48, 56, 48, 57, 49, 48, 49, 49, 49, 50, 49, 51, 49, 52, 49, 53, 49, 54, 49, 55, 49, 56, 49, 57, 50, 48, 50, 49, 50, 50, 50, 51, 50, 52, 50, 53, 50, 54, 50, 55, 50, 56, 50, 57, 51, 48, 51, 49, 51, 50, 51, 51, 51, 52, 51, 53, 51, 54, 51, 55, 51, 56, 51, 57, 52, 48, 52, 49, 52, 50, 52, 51, 52, 52, 52, 53, 52, 54, 52, 55, 52, 56, 52, 57, 53, 48, 53, 49, 53, 50, 53, 51, 53, 52, 53, 53, 53, 54, 53, 55, 53, 56, 53, 57, 54, 48, 54, 49, 54, 50, 54, 51, 54, 52, 54, 53, 54, 54, 54, 55, 54, 56, 54, 57, 55, 48, 55, 49, 55, 50, 55, 51, 55, 52, 55, 53, 55, 54, 55, 55, 55, 56, 55, 57, 56, 48, 56, 49, 56, 50, 56, 51, 56, 52, 56, 53, 56, 54, 56, 55, 56, 56, 56, 57, 57, 48, 57, 49, 57, 50, 57, 51, 57, 52, 57, 53, 57, 54, 57, 55, 57, 56, 57, 57]) v9) fun v52 =>
  bindO (xia 1 v0 v44) fun v53 =>
  bindO (xst 1 h20 v53 v50) fun h21 =>
  bindO (xia 1 v0 v47) fun v54 =>
  bindO (xst 1 h21 v54 v52) fun h22 =>
  J85_16 F M L13 v0 v1 v4 v8 v10 v11 h22
theorem J85_17_ok (F : CallH) (M : Nat) (L13 : Value → Value → Value → AH → Res) : ∀ r h, kcode Tryd.prog F 167 M (Code.sub [true, false, false, false, true, false, true, true, true, true, true] (bodyOf Tryd.prog 85)) r h (KX (fun r h => L13 (r 0) (r 1) (r 4) h) (exitsOf [(1, (fun r h => L13 (r 0) (r 1) (r 4) h)), (0, (fun r h => J85_12 F M (r 0) (r 1) (r 4) h))]) (fun r h => E85 h)) = J85_17 F M L13 (r 0) (r 1) (r 4) (r 8) (r 9) (r 10) (r 11) h :=
  seq_pt (a := (Code.sub [true, false, false, false, true, false, true, true, true, true, true, false] (bodyOf Tryd.prog 85))) (b := (Code.sub [true, false, false, false, true, false, true, true, true, true, true, true] (bodyOf Tryd.prog 85))) (T := (fun r h => J85_17 F M L13 (r 0) (r 1) (r 4) (r 8) (r 9) (r 10) (r 11) h)) (g := (fun r h => J85_16 F M L13 (r 0) (r 1) (r 4) (r 8) (r 10) (r 11) h)) (by kernel_rfl) (J85_16_ok F M L13) (fun r h => by kernel_rfl)
noncomputable def J85_18 (F : CallH) (M : Nat) (L13 : Value → Value → Value → AH → Res) (v0 : Value) (v1 : Value) (v4 : Value) (v6 : Value) (v8 : Value) (v9 : Value) (h : AH) : Res :=
  bindO (ibin .quo v6 (.int .u32 100)) fun v37 =>
  bindO (ibin .mul v37 (.int .u32 2)) fun v38 =>
  bindO (ibin .rem v6 (.int .u32 100)) fun v40 =>
  bindO (ibin .mul v40 (.int .u32 2)) fun v41 =>
  J85_17 F M L13 v0 v1 v4 v8 v9 v38 v41 h
theorem J85_18_ok (F : CallH) (M : Nat) (L13 : Value → Value → Value → AH → Res) : ∀ r h, kcode Tryd.prog F 167 M (Code.sub [true, false, false, false, true, false, true, true, true, true] (bodyOf Tryd.prog 85)) r h (KX (fun r h => L13 (r 0) (r 1) (r 4) h) (exitsOf [(1, (fun r h => L13 (r 0) (r 1) (r 4) h)), (0, (fun r h => J85_12 F M (r 0) (r 1) (r 4) h))]) (fun r h => E85 h)) = J85_18 F M L13 (r 0) (r 1) (r 4) (r 6) (r 8) (r 9) h :=
  seq_pt (a := (Code.sub [true, false, false, false, true, false, true, true, true, true, false] (bodyOf Tryd.prog 85))) (b := (Code.sub [true, false, false, false, true, false, true, true, true, true, true] (bodyOf Tryd.prog 85))) (T := (fun r h => J85_18 F M L13 (r 0) (r 1) (r 4) (r 6) (r 8) (r 9) h)) (g := (fun r h => J85_17 F M L13 (r 0) (r 1) (r 4) (r 8) (r 9) (r 10) (r 11) h)) (by kernel_rfl) (J85_17_ok F M L13) (fun r h => by kernel_rfl)
noncomputable def J85_19 (F : CallH) (M : Nat) (L13 : Value → Value → Value → AH → Res) (v0 : Value) (v1 : Value) (v4 : Value) (v6 : Value) (v7 : Value) (h : AH) : Res :=
  bindO (ibin .quo v7 (.int .u32 100)) fun v31 =>
  bindO (ibin .mul v31 (.int .u32 2)) fun v32 =>
  bindO (ibin .rem v7 (.int .u32 100)) fun v34 =>
  bindO (ibin .mul v34 (.int .u32 2)) fun v35 =>
  J85_18 F M L13 v0 v1 v4 v6 v32 v35 h
theorem J85_19_ok (F : CallH) (M : Nat) (L13 : Value → Value → Value → AH → Res) : ∀ r h, kcode Tryd.prog F 167 M (Code.sub [true, false, false, false, true, false, true, true, true] (bodyOf Tryd.prog 85)) r h (KX (fun r h => L13 (r 0) (r 1) (r 4) h) (exitsOf [(1, (fun r h => L13 (r 0) (r 1) (r 4) h)), (0, (fun r h => J85_12 F M (r 0) (r 1) (r 4) h))]) (fun r h => E85 h)) = J85_19 F M L13 (r 0) (r 1) (r 4) (r 6) (r 7) h :=
  seq_pt (a := (Code.sub [true, false, false, false, true, false, true, true, true, false] (bodyOf Tryd.prog 85))) (b := (Code.sub [true, false, false, false, true, false, true, true, true, true] (bodyOf Tryd.prog 85))) (T := (fun r h => J85_19 F M L13 (r 0) (r 1) (r 4) (r 6) (r 7) h)) (g := (fun r h => J85_18 F M L13 (r 0) (r 1) (r 4) (r 6) (r 8) (r 9) h)) (by kernel_rfl) (J85_18_ok F M L13) (fun r h => by kernel_rfl)
noncomputable def J85_20 (F : CallH) (M : Nat) (L13 : Value → Value → Value → AH → Res) (v0 : Value) (v1 : Value) (v4 : Value) (v5 : Value) (h : AH) : Res :=
  bindO (ibin .quo v5 (.int .u32 10000)) fun v27 =>
  bindO (ibin .rem v5 (.int .u32 10000)) fun v29 =>
  J85_19 F M L13 v0 v1 v4 v27 v29 h
theorem J85_20_ok (F : CallH) (M : Nat) (L13 : Value → Value → Value → AH → Res) : ∀ r h, kcode Tryd.prog F 167 M (Code.sub [true, false, false, false, true, false, true, true] (bodyOf Tryd.prog 85)) r h (KX (fun r h => L13 (r 0) (r 1) (r 4) h) (exitsOf [(1, (fun r h => L13 (r 0) (r 1) (r 4) h)), (0, (fun r h => J85_12 F M (r 0) (r 1) (r 4) h))]) (fun r h => E85 h)) = J85_20 F M L13 (r 0) (r 1) (r 4) (r 5) h :=
  seq_pt (a := (Code.sub [true, false, false, false, true, false, true, true, false] (bodyOf Tryd.prog 85))) (b := (Code.sub [true, false, false, false, true, false, true, true, true] (bodyOf Tryd.prog 85))) (T := (fun r h => J85_20 F M L13 (r 0) (r 1) (r 4) (r 5) h)) (g := (fun r h => J85_19 F M L13 (r 0) (r 1) (r 4) (r 6) (r 7) h)) (by kernel_rfl) (J85_19_ok F M L13) (fun r h => by kernel_rfl)
noncomputable def J85_21 (F : CallH) (M : Nat) (L13 : Value → Value → Value → AH → Res) (v0 : Value) (v1 : Value) (v4 : Value) (v5 : Value) (h : AH) : Res :=
  bindO (ibin .quo v1 (.int .u64 100000000)) fun v25 =>
  J85_20 F M L13 v0 v25 v4 v5 h
theorem J85_21_ok (F : CallH) (M : Nat) (L13 : Value → Value → Value → AH → Res) : ∀ r h, kcode Tryd.prog F 167 M (Code.sub [true, false, false, false, true, false, true] (bodyOf Tryd.prog 85)) r h (KX (fun r h => L13 (r 0) (r 1) (r 4) h) (exitsOf [(1, (fun r h => L13 (r 0) (r 1) (r 4) h)), (0, (fun r h => J85_12 F M (r 0) (r 1) (r 4) h))]) (fun r h => E85 h)) = J85_21 F M L13 (r 0) (r 1) (r 4) (r 5) h :=
  seq_pt (a := (Code.sub [true, false, false, false, true, false, true, false] (bodyOf Tryd.prog 85))) (b := (Code.sub [true, false, false, false, true, false, true, true] (bodyOf Tryd.prog 85))) (T := (fun r h => J85_21 F M L13 (r 0) (r 1) (r 4) (r 5) h)) (g := (fun r h => J85_20 F M L13 (r 0) (r 1) (r 4) (r 5) h)) (by kernel_rfl) (J85_20_ok F M L13) (fun r h => by kernel_rfl)
noncomputable def J85_22 (F : CallH) (M : Nat) (L13 : Value → Value → Value → AH → Res) (v0 : Value) (v1 : Value) (v4 : Value) (h : AH) : Res :=
  bindO (ibin .rem v1 (.int .u64 100000000)) fun v22 =>
  bindO (xconv .u32 v22) fun v23 =>
  J85_21 F M L13 v0 v1 v4 v23 h
theorem J85_22_ok (F : CallH) (M : Nat) (L13 : Value → Value → Value → AH → Res) : ∀ r h, kcode Tryd.prog F 167 M (Code.sub [true, false, false, false, true, false] (bodyOf Tryd.prog 85)) r h (KX (fun r h => L13 (r 0) (r 1) (r 4) h) (exitsOf [(1, (fun r h => L13 (r 0) (r 1) (r 4) h)), (0, (fun r h => J85_12 F M (r 0) (r 1) (r 4) h))]) (fun r h => E85 h)) = J85_22 F M L13 (r 0) (r 1) (r 4) h :=
  seq_pt (a := (Code.sub [true, false, false, false, true, false, false] (bodyOf Tryd.prog 85))) (b := (Code.sub [true, false, false, false, true, false, true] (bodyOf Tryd.prog 85))) (T := (fun r h => J85_22 F M L13 (r 0) (r 1) (r 4) h)) (g := (fun r h => J85_21 F M L13 (r 0) (r 1) (r 4) (r 5) h)) (by kernel_rfl) (J85_21_ok F M L13) (fun r h => by kernel_rfl)
theorem J85_23_ok (F : CallH) (M : Nat) (L13 : Value → Value → Value → AH → Res) : ∀ r h, kcode Tryd.prog F 167 M (Code.sub [true, false, false, false, true] (bodyOf Tryd.prog 85)) r h (KX (fun r h => L13 (r 0) (r 1) (r 4) h) (exitsOf [(0, (fun r h => J85_12 F M (r 0) (r 1) (r 4) h))]) (fun r h => E85 h)) = J85_22 F M L13 (r 0) (r 1) (r 4) h :=
  block_pt (b := (Code.sub [true, false, false, false, true, false] (bodyOf Tryd.prog 85))) (T := (fun r h => J85_22 F M L13 (r 0) (r 1) (r 4) h)) (id := 1) (by kernel_rfl) (J85_22_ok F M L13)
noncomputable def J85_24 (F : CallH) (M : Nat) (L13 : Value → Value → Value → AH → Res) (v0 : Value) (v1 : Value) (v4 : Value) (h : AH) : Res :=
  bindO (ibin .geq v4 (.int .i64 8)) fun v20 =>
  condO v20 (
  J85_22 F M L13 v0 v1 v4 h) (
  J85_12 F M v0 v1 v4 h)
theorem J85_24_ok (F : CallH) (M : Nat) (L13 : Value → Value → Value → AH → Res) : ∀ r h, kcode Tryd.prog F 167 M (Code.sub [true, false, false, false, false] (bodyOf Tryd.prog 85)) r h (KX (fun r h => J85_22 F M L13 (r 0) (r 1) (r 4) h) (exitsOf [(0, (fun r h => J85_12 F M (r 0) (r 1) (r 4) h))]) (fun r h => E85 h)) = J85_24 F M L13 (r 0) (r 1) (r 4) h := fun r h => by kernel_rfl
theorem J85_25_ok (F : CallH) (M : Nat) (L13 : Value → Value → Value → AH → Res) : ∀ r h, kcode Tryd.prog F 167 M (Code.sub [true, false, false, false] (bodyOf Tryd.prog 85)) r h (KX (fun r h => L13 (r 0) (r 1) (r 4) h) (exitsOf [(0, (fun r h => J85_12 F M (r 0) (r 1) (r 4) h))]) (fun r h => E85 h)) = J85_24 F M L13 (r 0) (r 1) (r 4) h :=
  seq_pt (a := (Code.sub [true, false, false, false, false] (bodyOf Tryd.prog 85))) (b := (Code.sub [true, false, false, false, true] (bodyOf Tryd.prog 85))) (T := (fun r h => J85_24 F M L13 (r 0) (r 1) (r 4) h)) (g := (fun r h => J85_22 F M L13 (r 0) (r 1) (r 4) h)) (by kernel_rfl) (J85_23_ok F M L13) (J85_24_ok F M L13)
noncomputable def L85_13 (F : CallH) (M : Nat) : Nat → Value → Value → Value → AH → Res
  | 0, _, _, _, _ => none
  | m + 1, v0, v1, v4, h => J85_24 F M (L85_13 F M m) v0 v1 v4 h
theorem L85_13_ok (F : CallH) (M : Nat) : ∀ r h, kcode Tryd.prog F 167 M (Code.sub [true, false, false] (bodyOf Tryd.prog 85)) r h (KX (fun r h => J85_12 F M (r 0) (r 1) (r 4) h) (exitsOf [(0, (fun r h => J85_12 F M (r 0) (r 1) (r 4) h))]) (fun r h => E85 h)) = L85_13 F M M (r 0) (r 1) (r 4) h :=
  loop_pt (b := (Code.sub [true, false, false, false] (bodyOf Tryd.prog 85))) (by kernel_rfl) (fun m r h => L85_13 F M m (r 0) (r 1) (r 4) h) (fun _ _ => rfl) (fun m r h => ((J85_25_ok F M (L85_13 F M m)) r h).trans rfl)
theorem J85_26_ok (F : CallH) (M : Nat) : ∀ r h, kcode Tryd.prog F 167 M (Code.sub [true, false] (bodyOf Tryd.prog 85)) r h (KX (fun r h => J85_12 F M (r 0) (r 1) (r 4) h) (exitsOf []) (fun r h => E85 h)) = L85_13 F M M (r 0) (r 1) (r 4) h :=
  block_pt (b := (Code.sub [true, false, false] (bodyOf Tryd.prog 85))) (T := (fun r h => L85_13 F M M (r 0) (r 1) (r 4) h)) (id := 0) (by kernel_rfl) (L85_13_ok F M)
theorem J85_27_ok (F : CallH) (M : Nat) : ∀ r h, kcode Tryd.prog F 167 M (Code.sub [true] (bodyOf Tryd.prog 85)) r h (KX (fun r h => E85 h) (exitsOf []) (fun r h => E85 h)) = L85_13 F M M (r 0) (r 1) (r 4) h :=
  seq_pt (a := (Code.sub [true, false] (bodyOf Tryd.prog 85))) (b := (Code.sub [true, true] (bodyOf Tryd.prog 85))) (T := (fun r h => L85_13 F M M (r 0) (r 1) (r 4) h)) (g := (fun r h => J85_12 F M (r 0) (r 1) (r 4) h)) (by kernel_rfl) (J85_12_ok F M) (J85_26_ok F M)
noncomputable def J85_28 (F : CallH) (M : Nat) (v0 : Value) (v1 : Value) (h : AH) : Res :=
  bindO (xlenL v0) fun v18 =>
  L85_13 F M M v0 v1 v18 h
theorem J85_28_ok (F : CallH) (M : Nat) : ∀ r h, kcode Tryd.prog F 167 M (Code.sub [] (bodyOf Tryd.prog 85)) r h (KX (fun r h => E85 h) (exitsOf []) (fun r h => E85 h)) = J85_28 F M (r 0) (r 1) h :=
  seq_pt (a := (Code.sub [false] (bodyOf Tryd.prog 85))) (b := (Code.sub [true] (bodyOf Tryd.prog 85))) (T := (fun r h => J85_28 F M (r 0) (r 1) h)) (g := (fun r h => L85_13 F M M (r 0) (r 1) (r 4) h)) (by kernel_rfl) (J85_27_ok F M) (fun r h => by kernel_rfl)
noncomputable def R85 (F : CallH) (M : Nat) (x0 x1 : Value) (h : AH) : Res := J85_28 F M x0 x1 h
theorem R85_ok (F : CallH) (M : Nat) (x0 x1 : Value) (h : AH) : kfn Tryd.prog F M 85 [x0, x1] h = R85 F M x0 x1 h :=
  (fn_pt (N := 167) (E := (fun r h => E85 h)) (T := (fun r h => J85_28 F M (r 0) (r 1) h)) Tryd.func85 (by kernel_rfl) (by kernel_rfl) (fun r h => by kernel_rfl) (J85_28_ok F M)).trans (by kernel_rfl)
/-! ### 89 internal/strconv.lower -/
noncomputable def E89 (v2 : Value) (h : AH) : Res := some (v2, h)
noncomputable def J89_0 (F : CallH) (M : Nat) (v0 : Value) (h : AH) : Res :=
  bindO (ibin .or v0 (.int .u8 32)) fun v4 =>
  E89 v4 h
theorem J89_0_ok (F : CallH) (M : Nat) : ∀ r h, kcode Tryd.prog F 5 M (Code.sub [] (bodyOf Tryd.prog 89)) r h (KX (fun r h => E89 (r 2) h) (exitsOf []) (fun r h => E89 (r 2) h)) = J89_0 F M (r 0) h := fun r h => by kernel_rfl
noncomputable def R89 (F : CallH) (M : Nat) (x0 : Value) (h : AH) : Res := J89_0 F M x0 h
theorem R89_ok (F : CallH) (M : Nat) (x0 : Value) (h : AH) : kfn Tryd.prog F M 89 [x0] h = R89 F M x0 h :=
  (fn_pt (N := 5) (E := (fun r h => E89 (r 2) h)) (T := (fun r h => J89_0 F M (r 0) h)) Tryd.func89 (by kernel_rfl) (by kernel_rfl) (fun r h => by kernel_rfl) (J89_0_ok F M)).trans (by kernel_rfl)
/-! ### 93 internal/strconv.bool2[int] -/
noncomputable def E93 (v2 : Value) (h : AH) : Res := some (v2, h)
noncomputable def J93_0 (F : CallH) (M : Nat) (h : AH) : Res :=
  E93 (.int .i64 0) h
theorem J93_0_ok (F : CallH) (M : Nat) : ∀ r h, kcode Tryd.prog F 4 M (Code.sub [true, true] (bodyOf Tryd.prog 93)) r h (KX (fun r h => E93 (r 2) h) (exitsOf []) (fun r h => E93 (r 2) h)) = J93_0 F M h := fun r h => by kernel_rfl
noncomputable def J93_1 (F : CallH) (M : Nat) (v0 : Value) (h : AH) : Res :=
  condO v0 (
  E93 (.int .i64 1) h) (
  J93_0 F M h)
theorem J93_1_ok (F : CallH) (M : Nat) : ∀ r h, kcode Tryd.prog F 4 M (Code.sub [true, false] (bodyOf Tryd.prog 93)) r h (KX (fun r h => J93_0 F M h) (exitsOf []) (fun r h => E93 (r 2) h)) = J93_1 F M (r 0) h := fun r h => by kernel_rfl
theorem J93_2_ok (F : CallH) (M : Nat) : ∀ r h, kcode Tryd.prog F 4 M (Code.sub [true] (bodyOf Tryd.prog 93)) r h (KX (fun r h => E93 (r 2) h) (exitsOf []) (fun r h => E93 (r 2) h)) = J93_1 F M (r 0) h :=
  seq_pt (a := (Code.sub [true, false] (bodyOf Tryd.prog 93))) (b := (Code.sub [true, true] (bodyOf Tryd.prog 93))) (T := (fun r h => J93_1 F M (r 0) h)) (g := (fun r h => J93_0 F M h)) (by kernel_rfl) (J93_0_ok F M) (J93_1_ok F M)
noncomputable def J93_3 (F : CallH) (M : Nat) (v0 : Value) (h : AH) : Res :=
  J93_1 F M v0 h
theorem J93_3_ok (F : CallH) (M : Nat) : ∀ r h, kcode Tryd.prog F 4 M (Code.sub [] (bodyOf Tryd.prog 93)) r h (KX (fun r h => E93 (r 2) h) (exitsOf []) (fun r h => E93 (r 2) h)) = J93_3 F M (r 0) h :=
  seq_pt (a := (Code.sub [false] (bodyOf Tryd.prog 93))) (b := (Code.sub [true] (bodyOf Tryd.prog 93))) (T := (fun r h => J93_3 F M (r 0) h)) (g := (fun r h => J93_1 F M (r 0) h)) (by kernel_rfl) (J93_2_ok F M) (fun r h => by kernel_rfl)
noncomputable def R93 (F : CallH) (M : Nat) (x0 : Value) (h : AH) : Res := J93_3 F M x0 h
theorem R93_ok (F : CallH) (M : Nat) (x0 : Value) (h : AH) : kfn Tryd.prog F M 93 [x0] h = R93 F M x0 h :=
  (fn_pt (N := 4) (E := (fun r h => E93 (r 2) h)) (T := (fun r h => J93_3 F M (r 0) h)) Tryd.func93 (by kernel_rfl) (by kernel_rfl) (fun r h => by kernel_rfl) (J93_3_ok F M)).trans (by kernel_rfl)
/-! ### 97 math/bits.TrailingZeros64 -/
noncomputable def E97 (v2 : Value) (h : AH) : Res := some (v2, h)
noncomputable def J97_0 (F : CallH) (M : Nat) (v0 : Value) (h : AH) : Res :=
  bindO (xneg v0) fun v7 =>
  bindO (ibin .and v0 v7) fun v8 =>
  bindO (ibin .mul v8 (.int .u64 285870213051353865)) fun v9 =>
  bindO (ibin .shr v9 (.int .u64 58)) fun v10 =>
  bindO (xiaA 64 1 (glob 19) v10) fun v11 =>
  bindO (ld1 h v11) fun v12 =>
  bindO (xconv .i64 v12) fun v13 =>
  E97 v13 h
theorem J97_0_ok (F : CallH) (M : Nat) : ∀ r h, kcode Tryd.prog F 14 M (Code.sub [true, true] (bodyOf Tryd.prog 97)) r h (KX (fun r h => E97 (r 2) h) (exitsOf []) (fun r h => E97 (r 2) h)) = J97_0 F M (r 0) h := fun r h => by kernel_rfl
noncomputable def J97_1 (F : CallH) (M : Nat) (v0 : Value) (h : AH) : Res :=
  bindO (ibin .eql v0 (.int .u64 0)) fun v4 =>
  condO v4 (
  E97 (.int .i64 64) h) (
  J97_0 F M v0 h)
theorem J97_1_ok (F : CallH) (M : Nat) : ∀ r h, kcode Tryd.prog F 14 M (Code.sub [true, false] (bodyOf Tryd.prog 97)) r h (KX (fun r h => J97_0 F M (r 0) h) (exitsOf []) (fun r h => E97 (r 2) h)) = J97_1 F M (r 0) h := fun r h => by kernel_rfl
theorem J97_2_ok (F : CallH) (M : Nat) : ∀ r h, kcode Tryd.prog F 14 M (Code.sub [true] (bodyOf Tryd.prog 97)) r h (KX (fun r h => E97 (r 2) h) (exitsOf []) (fun r h => E97 (r 2) h)) = J97_1 F M (r 0) h :=
  seq_pt (a := (Code.sub [true, false] (bodyOf Tryd.prog 97))) (b := (Code.sub [true, true] (bodyOf Tryd.prog 97))) (T := (fun r h => J97_1 F M (r 0) h)) (g := (fun r h => J97_0 F M (r 0) h)) (by kernel_rfl) (J97_0_ok F M) (J97_1_ok F M)
noncomputable def J97_3 (F : CallH) (M : Nat) (v0 : Value) (h : AH) : Res :=
  J97_1 F M v0 h
theorem J97_3_ok (F : CallH) (M : Nat) : ∀ r h, kcode Tryd.prog F 14 M (Code.sub [] (bodyOf Tryd.prog 97)) r h (KX (fun r h => E97 (r 2) h) (exitsOf []) (fun r h => E97 (r 2) h)) = J97_3 F M (r 0) h :=
  seq_pt (a := (Code.sub [false] (bodyOf Tryd.prog 97))) (b := (Code.sub [true] (bodyOf Tryd.prog 97))) (T := (fun r h => J97_3 F M (r 0) h)) (g := (fun r h => J97_1 F M (r 0) h)) (by kernel_rfl) (J97_2_ok F M) (fun r h => by kernel_rfl)
noncomputable def R97 (F : CallH) (M : Nat) (x0 : Value) (h : AH) : Res := J97_3 F M x0 h
theorem R97_ok (F : CallH) (M : Nat) (x0 : Value) (h : AH) : kfn Tryd.prog F M 97 [x0] h = R97 F M x0 h :=
  (fn_pt (N := 14) (E := (fun r h => E97 (r 2) h)) (T := (fun r h => J97_3 F M (r 0) h)) Tryd.func97 (by kernel_rfl) (by kernel_rfl) (fun r h => by kernel_rfl) (J97_3_ok F M)).trans (by kernel_rfl)
-- 101 (runtime.errorString).RuntimeError has no body
-- 105 (runtime.errorAddressString).RuntimeError has no body
-- 109 (*runtime.PanicNilError).RuntimeError has no body
-- 113 (*turnkey/api.At).Error has no body
-- 117 (internal/abi.Kind).String has no body
-- 121 var's door: math/bits.deBruijn64tab is laid by its own initialiser, plain data (look 11) has no body
-- 125 var's door: turnkey/api.ErrEnd is laid by its own call of errors.New on one literal (look 11) has no body
-- 129 var's door: turnkey/api.ErrNone is laid by its own call of errors.New on one literal (look 11) has no body
-- 133 var's door: turnkey/api.ErrRight is laid by its own call of errors.New on one literal (look 11) has no body
-- 137 var's door: unicode/utf8.acceptRanges is laid by its own initialiser, plain data (look 11) has no body
end Go.Proofs.YtehmkckpbknodaaDoor
