/- The functions of the program as Lean functions, printed by a program of ours; each with its proof. -/
import Derived.Test.YtehmkckpbknodaaDoorProg
import Derived.Test.YtehmkckpbknodaaDoorEvE
import Derived.KernelRfl
namespace Go.Proofs.YtehmkckpbknodaaDoor
open Go Go.Ev
set_option maxRecDepth 100000
set_option linter.all false
/-! ### 4 turnkey/turnkeylaw15.AsmWrong -/
noncomputable def E4 (v2 : Value) (h : AH) : Res := some (v2, h)
noncomputable def J4_0 (F : CallH) (M : Nat) (v0 : Value) (v3 : Value) (h : AH) : Res :=
  bindO (xrow (copies [(str [])] 10) [(0, 1, (str [])), (1, 1, (str [108, 105, 105, 32, 114, 49, 32, 53])), (2, 1, (str [108, 105, 32, 114, 49])), (3, 1, (str [108, 105, 32, 114, 49, 32, 53, 32, 54])), (4, 1, (str [97, 108, 117, 32, 112, 108, 117, 115, 32, 114, 49, 32, 114, 50, 32, 114, 51])), (5, 1, (str [97, 108, 117, 32, 97, 100, 100, 32, 114, 49, 32, 114, 50])), (6, 1, (str [105, 110, 118, 32, 99, 97, 108, 108, 115, 32, 107, 49, 32, 107, 50])), (7, 1, (str [121, 105, 101, 108, 100, 32, 49])), (8, 1, (str [119, 111, 114, 100, 32, 49, 32, 50])), (9, 1, (str [97, 32, 98, 58]))]) fun v18 => newK h (.cells v18 1) fun iv18 h1 =>
  bindO (xrow (copies [(str [])] 10) [(0, 1, (str [108, 105, 32, 114, 49, 32, 120])), (1, 1, (str [108, 105, 32, 114, 49, 32, 48, 53])), (2, 1, (str [108, 105, 32, 114, 49, 32, 43, 53])), (3, 1, (str [108, 105, 32, 49, 32, 53])), (4, 1, (str [108, 105, 32, 107, 49, 32, 53])), (5, 1, (str [107, 109, 111, 118, 101, 32, 107, 49, 32, 114, 50])), (6, 1, (str [106, 122, 32, 114, 49, 32, 49, 50, 51, 52, 53, 54, 55, 56, 57, 48])), (7, 1, (str [108, 111, 97, 100, 32, 114, 49, 32, 114, 50, 32, 45, 49])), (8, 1, (str [108, 105, 32, 114, 32, 53])), (9, 1, (str [107, 110, 117, 109, 32, 107, 49, 32, 114, 50, 120]))]) fun v19 => newK h1 (.cells v19 1) fun iv19 h2 =>
  bindO (xrow (copies [(str [])] 7) [(0, 1, (str [108, 105, 32, 114, 56, 32, 53])), (1, 1, (str [108, 105, 32, 114, 49, 32, 52, 48, 57, 54])), (2, 1, (str [107, 109, 111, 118, 101, 32, 107, 49, 54, 32, 107, 48])), (3, 1, (str [97, 108, 117, 32, 97, 100, 100, 32, 114, 49, 32, 114, 57, 32, 114, 50])), (4, 1, (str [106, 109, 112, 32, 53, 48, 48, 48])), (5, 1, (str [105, 110, 118, 32, 99, 97, 108, 108, 32, 107, 49, 32, 107, 49, 54])), (6, 1, (str [115, 97, 118, 101, 32, 114, 48, 32, 114, 56, 32, 49]))]) fun v20 => newK h2 (.cells v20 1) fun iv20 h3 =>
  bindO (xlenL (slOf iv18 10 10)) fun v25 =>
  bindO (F 6 [v0, v25] h3) fun pv26 =>
  bindO (xia 1 (slOf iv18 10 10) pv26.1) fun v27 =>
  bindO (ld1 pv26.2 v27) fun v28 =>
  bindO (F 11 [v28] pv26.2) fun pv29 =>
  bindO (xext 0 pv29.1) fun v30 =>
  bindO (xext 1 pv29.1) fun v31 =>
  newK pv29.2 (.cells [(.int .i64 0), (.int .i64 0), (.int .i64 0), (.int .i64 0), (.int .i64 0)] 5) fun iv7 h6 =>
  bindO (xst 5 h6 (ptrTo iv7) v30) fun h7 =>
  bindO (xlenL (slOf iv19 10 10)) fun v36 =>
  bindO (F 6 [v0, v36] h7) fun pv37 =>
  bindO (xia 1 (slOf iv19 10 10) pv37.1) fun v38 =>
  bindO (ld1 pv37.2 v38) fun v39 =>
  bindO (F 11 [v39] pv37.2) fun pv40 =>
  bindO (xext 0 pv40.1) fun v41 =>
  bindO (xext 1 pv40.1) fun v42 =>
  newK pv40.2 (.cells [(.int .i64 0), (.int .i64 0), (.int .i64 0), (.int .i64 0), (.int .i64 0)] 5) fun iv9 h10 =>
  bindO (xst 5 h10 (ptrTo iv9) v41) fun h11 =>
  bindO (xlenL (slOf iv20 7 7)) fun v47 =>
  bindO (F 6 [v0, v47] h11) fun pv48 =>
  bindO (xia 1 (slOf iv20 7 7) pv48.1) fun v49 =>
  bindO (ld1 pv48.2 v49) fun v50 =>
  bindO (F 11 [v50] pv48.2) fun pv51 =>
  bindO (xext 0 pv51.1) fun v52 =>
  bindO (xext 1 pv51.1) fun v53 =>
  newK pv51.2 (.cells [(.int .i64 0), (.int .i64 0), (.int .i64 0), (.int .i64 0), (.int .i64 0)] 5) fun iv11 h14 =>
  bindO (xst 5 h14 (ptrTo iv11) v52) fun h15 =>
  bindO (xrow [(str []), (str [])] [(0, 1, (str [121, 105, 101, 108, 100])), (1, 1, (str [119, 111, 114, 100, 32, 49, 120]))]) fun v55 => newK h15 (.cells v55 1) fun iv55 h16 =>
  bindO (F 7 [(slOf iv55 2 2)] h16) fun pv56 =>
  bindO (xext 0 pv56.1) fun v57 =>
  bindO (xext 1 pv56.1) fun v58 =>
  condO v3 (
  bindO (F 12 [v31, (.int .i64 111)] pv56.2) fun pv62 =>
  condO pv62.1 (
  bindO (F 12 [v42, (.int .i64 112)] pv62.2) fun pv66 =>
  condO pv66.1 (
  bindO (F 12 [v53, (.int .i64 103)] pv66.2) fun pv70 =>
  condO pv70.1 (
  bindO (F 10 [(.int .i64 112), (.int .i64 1)] pv70.2) fun pv74 =>
  bindO (F 9 [v58, pv74.1] pv74.2) fun pv75 =>
  E4 pv75.1 pv75.2) (
  E4 (.bool false) pv70.2)) (
  E4 (.bool false) pv66.2)) (
  E4 (.bool false) pv62.2)) (
  E4 (.bool false) pv56.2)
theorem J4_0_ok (F : CallH) (M : Nat) : ∀ r h, kcode Tryd.prog F 77 M (Code.sub [true, true, true] (bodyOf Tryd.prog 4)) r h (KX (fun r h => E4 (r 2) h) (exitsOf []) (fun r h => E4 (r 2) h)) = J4_0 F M (r 0) (r 3) h := fun r h => by kernel_rfl
noncomputable def J4_1 (F : CallH) (M : Nat) (v0 : Value) (v3 : Value) (h : AH) : Res :=
  bindO (xnot v3) fun v17 =>
  condO v17 (
  E4 (.bool false) h) (
  J4_0 F M v0 v3 h)
theorem J4_1_ok (F : CallH) (M : Nat) : ∀ r h, kcode Tryd.prog F 77 M (Code.sub [true, true, false] (bodyOf Tryd.prog 4)) r h (KX (fun r h => J4_0 F M (r 0) (r 3) h) (exitsOf []) (fun r h => E4 (r 2) h)) = J4_1 F M (r 0) (r 3) h := fun r h => by kernel_rfl
theorem J4_2_ok (F : CallH) (M : Nat) : ∀ r h, kcode Tryd.prog F 77 M (Code.sub [true, true] (bodyOf Tryd.prog 4)) r h (KX (fun r h => E4 (r 2) h) (exitsOf []) (fun r h => E4 (r 2) h)) = J4_1 F M (r 0) (r 3) h :=
  seq_pt (a := (Code.sub [true, true, false] (bodyOf Tryd.prog 4))) (b := (Code.sub [true, true, true] (bodyOf Tryd.prog 4))) (T := (fun r h => J4_1 F M (r 0) (r 3) h)) (g := (fun r h => J4_0 F M (r 0) (r 3) h)) (by kernel_rfl) (J4_0_ok F M) (J4_1_ok F M)
noncomputable def J4_3 (F : CallH) (M : Nat) (v0 : Value) (h : AH) : Res :=
  bindO (F 5 [] h) fun pv15 =>
  J4_1 F M v0 pv15.1 pv15.2
theorem J4_3_ok (F : CallH) (M : Nat) : ∀ r h, kcode Tryd.prog F 77 M (Code.sub [true] (bodyOf Tryd.prog 4)) r h (KX (fun r h => E4 (r 2) h) (exitsOf []) (fun r h => E4 (r 2) h)) = J4_3 F M (r 0) h :=
  seq_pt (a := (Code.sub [true, false] (bodyOf Tryd.prog 4))) (b := (Code.sub [true, true] (bodyOf Tryd.prog 4))) (T := (fun r h => J4_3 F M (r 0) h)) (g := (fun r h => J4_1 F M (r 0) (r 3) h)) (by kernel_rfl) (J4_2_ok F M) (fun r h => by kernel_rfl)
noncomputable def J4_4 (F : CallH) (M : Nat) (v0 : Value) (h : AH) : Res :=
  J4_3 F M v0 h
theorem J4_4_ok (F : CallH) (M : Nat) : ∀ r h, kcode Tryd.prog F 77 M (Code.sub [] (bodyOf Tryd.prog 4)) r h (KX (fun r h => E4 (r 2) h) (exitsOf []) (fun r h => E4 (r 2) h)) = J4_4 F M (r 0) h :=
  seq_pt (a := (Code.sub [false] (bodyOf Tryd.prog 4))) (b := (Code.sub [true] (bodyOf Tryd.prog 4))) (T := (fun r h => J4_4 F M (r 0) h)) (g := (fun r h => J4_3 F M (r 0) h)) (by kernel_rfl) (J4_3_ok F M) (fun r h => by kernel_rfl)
noncomputable def R4 (F : CallH) (M : Nat) (x0 : Value) (h : AH) : Res := J4_4 F M x0 h
theorem R4_ok (F : CallH) (M : Nat) (x0 : Value) (h : AH) : kfn Tryd.prog F M 4 [x0] h = R4 F M x0 h :=
  (fn_pt (N := 77) (E := (fun r h => E4 (r 2) h)) (T := (fun r h => J4_4 F M (r 0) h)) Tryd.func4 (by kernel_rfl) (by kernel_rfl) (fun r h => by kernel_rfl) (J4_4_ok F M)).trans (by kernel_rfl)
/-! ### 8 turnkey/code.Word -/
noncomputable def E8 (v2 : Value) (v3 : Value) (h : AH) : Res := some ((.tuple #[v2, v3]), h)
noncomputable def J8_0 (F : CallH) (M : Nat) (v1 : Value) (h : AH) : Res :=
  bindO (xfa 0 v1) fun v10 =>
  bindO (ld1 h v10) fun v11 =>
  bindO (ibin .shl v11 (.int .u64 24)) fun v12 =>
  bindO (xfa 1 v1) fun v13 =>
  bindO (ld1 h v13) fun v14 =>
  bindO (ibin .shl v14 (.int .u64 20)) fun v15 =>
  bindO (ibin .or v12 v15) fun v16 =>
  bindO (xfa 2 v1) fun v17 =>
  bindO (ld1 h v17) fun v18 =>
  bindO (ibin .shl v18 (.int .u64 16)) fun v19 =>
  bindO (ibin .or v16 v19) fun v20 =>
  bindO (xfa 3 v1) fun v21 =>
  bindO (ld1 h v21) fun v22 =>
  bindO (ibin .shl v22 (.int .u64 12)) fun v23 =>
  bindO (ibin .or v20 v23) fun v24 =>
  bindO (xfa 4 v1) fun v25 =>
  bindO (ld1 h v25) fun v26 =>
  bindO (ibin .or v24 v26) fun v27 =>
  bindO (xconv .u32 v27) fun v28 =>
  E8 v28 .nilIface h
theorem J8_0_ok (F : CallH) (M : Nat) : ∀ r h, kcode Tryd.prog F 29 M (Code.sub [true, true] (bodyOf Tryd.prog 8)) r h (KX (fun r h => E8 (r 2) (r 3) h) (exitsOf []) (fun r h => E8 (r 2) (r 3) h)) = J8_0 F M (r 1) h := fun r h => by kernel_rfl
noncomputable def J8_1 (F : CallH) (M : Nat) (v1 : Value) (h : AH) : Res :=
  bindO (ldn 5 h v1) fun v5 =>
  bindO (F 19 [v5] h) fun pv6 =>
  bindO (xnilI .neq pv6.1) fun v8 =>
  condO v8 (
  E8 (.int .u32 0) pv6.1 pv6.2) (
  J8_0 F M v1 pv6.2)
theorem J8_1_ok (F : CallH) (M : Nat) : ∀ r h, kcode Tryd.prog F 29 M (Code.sub [true, false] (bodyOf Tryd.prog 8)) r h (KX (fun r h => J8_0 F M (r 1) h) (exitsOf []) (fun r h => E8 (r 2) (r 3) h)) = J8_1 F M (r 1) h := fun r h => by kernel_rfl
theorem J8_2_ok (F : CallH) (M : Nat) : ∀ r h, kcode Tryd.prog F 29 M (Code.sub [true] (bodyOf Tryd.prog 8)) r h (KX (fun r h => E8 (r 2) (r 3) h) (exitsOf []) (fun r h => E8 (r 2) (r 3) h)) = J8_1 F M (r 1) h :=
  seq_pt (a := (Code.sub [true, false] (bodyOf Tryd.prog 8))) (b := (Code.sub [true, true] (bodyOf Tryd.prog 8))) (T := (fun r h => J8_1 F M (r 1) h)) (g := (fun r h => J8_0 F M (r 1) h)) (by kernel_rfl) (J8_0_ok F M) (J8_1_ok F M)
noncomputable def J8_3 (F : CallH) (M : Nat) (v0 : Value) (h : AH) : Res :=
  bindO (xcells 5 v0) fun v1 => newK h (.cells v1 5) fun iv1 h2 =>
  J8_1 F M (ptrTo iv1) h2
theorem J8_3_ok (F : CallH) (M : Nat) : ∀ r h, kcode Tryd.prog F 29 M (Code.sub [] (bodyOf Tryd.prog 8)) r h (KX (fun r h => E8 (r 2) (r 3) h) (exitsOf []) (fun r h => E8 (r 2) (r 3) h)) = J8_3 F M (r 0) h :=
  seq_pt (a := (Code.sub [false] (bodyOf Tryd.prog 8))) (b := (Code.sub [true] (bodyOf Tryd.prog 8))) (T := (fun r h => J8_3 F M (r 0) h)) (g := (fun r h => J8_1 F M (r 1) h)) (by kernel_rfl) (J8_2_ok F M) (fun r h => by kernel_rfl)
noncomputable def R8 (F : CallH) (M : Nat) (x0 : Value) (h : AH) : Res := J8_3 F M x0 h
theorem R8_ok (F : CallH) (M : Nat) (x0 : Value) (h : AH) : kfn Tryd.prog F M 8 [x0] h = R8 F M x0 h :=
  (fn_pt (N := 29) (E := (fun r h => E8 (r 2) (r 3) h)) (T := (fun r h => J8_3 F M (r 0) h)) Tryd.func8 (by kernel_rfl) (by kernel_rfl) (fun r h => by kernel_rfl) (J8_3_ok F M)).trans (by kernel_rfl)
/-! ### 12 turnkey/turnkeysee.Is -/
noncomputable def E12 (v4 : Value) (h : AH) : Res := some (v4, h)
noncomputable def J12_0 (F : CallH) (M : Nat) (v0 : Value) (v1 : Value) (h : AH) : Res :=
  bindO (F 24 [v1] h) fun pv7 =>
  bindO (F 9 [v0, pv7.1] pv7.2) fun pv8 =>
  E12 pv8.1 pv8.2
theorem J12_0_ok (F : CallH) (M : Nat) : ∀ r h, kcode Tryd.prog F 9 M (Code.sub [] (bodyOf Tryd.prog 12)) r h (KX (fun r h => E12 (r 4) h) (exitsOf []) (fun r h => E12 (r 4) h)) = J12_0 F M (r 0) (r 1) h := fun r h => by kernel_rfl
noncomputable def R12 (F : CallH) (M : Nat) (x0 x1 : Value) (h : AH) : Res := J12_0 F M x0 x1 h
theorem R12_ok (F : CallH) (M : Nat) (x0 x1 : Value) (h : AH) : kfn Tryd.prog F M 12 [x0, x1] h = R12 F M x0 x1 h :=
  (fn_pt (N := 9) (E := (fun r h => E12 (r 4) h)) (T := (fun r h => J12_0 F M (r 0) (r 1) h)) Tryd.func12 (by kernel_rfl) (by kernel_rfl) (fun r h => by kernel_rfl) (J12_0_ok F M)).trans (by kernel_rfl)
/-! ### 16 turnkey/asm.label -/
noncomputable def E16 (v2 : Value) (v3 : Value) (h : AH) : Res := some ((.tuple #[v2, v3]), h)
noncomputable def J16_0 (F : CallH) (M : Nat) (v0 : Value) (h : AH) : Res :=
  bindO (xia 1 v0 (.int .i64 0)) fun v11 =>
  bindO (ld1 h v11) fun v12 =>
  bindO (F 27 [v12, (str [58])] h) fun pv13 =>
  bindO (xext 0 pv13.1) fun v14 =>
  bindO (xext 1 pv13.1) fun v15 =>
  condO v15 (
  bindO (F 28 [v14] pv13.2) fun pv20 =>
  E16 v14 pv20.1 pv20.2) (
  E16 v14 (.bool false) pv13.2)
theorem J16_0_ok (F : CallH) (M : Nat) : ∀ r h, kcode Tryd.prog F 22 M (Code.sub [true, true] (bodyOf Tryd.prog 16)) r h (KX (fun r h => E16 (r 2) (r 3) h) (exitsOf []) (fun r h => E16 (r 2) (r 3) h)) = J16_0 F M (r 0) h := fun r h => by kernel_rfl
noncomputable def J16_1 (F : CallH) (M : Nat) (v0 : Value) (h : AH) : Res :=
  bindO (xlenL v0) fun v7 =>
  bindO (ibin .neq v7 (.int .i64 1)) fun v8 =>
  condO v8 (
  E16 (str []) (.bool false) h) (
  J16_0 F M v0 h)
theorem J16_1_ok (F : CallH) (M : Nat) : ∀ r h, kcode Tryd.prog F 22 M (Code.sub [true, false] (bodyOf Tryd.prog 16)) r h (KX (fun r h => J16_0 F M (r 0) h) (exitsOf []) (fun r h => E16 (r 2) (r 3) h)) = J16_1 F M (r 0) h := fun r h => by kernel_rfl
theorem J16_2_ok (F : CallH) (M : Nat) : ∀ r h, kcode Tryd.prog F 22 M (Code.sub [true] (bodyOf Tryd.prog 16)) r h (KX (fun r h => E16 (r 2) (r 3) h) (exitsOf []) (fun r h => E16 (r 2) (r 3) h)) = J16_1 F M (r 0) h :=
  seq_pt (a := (Code.sub [true, false] (bodyOf Tryd.prog 16))) (b := (Code.sub [true, true] (bodyOf Tryd.prog 16))) (T := (fun r h => J16_1 F M (r 0) h)) (g := (fun r h => J16_0 F M (r 0) h)) (by kernel_rfl) (J16_0_ok F M) (J16_1_ok F M)
noncomputable def J16_3 (F : CallH) (M : Nat) (v0 : Value) (h : AH) : Res :=
  J16_1 F M v0 h
theorem J16_3_ok (F : CallH) (M : Nat) : ∀ r h, kcode Tryd.prog F 22 M (Code.sub [] (bodyOf Tryd.prog 16)) r h (KX (fun r h => E16 (r 2) (r 3) h) (exitsOf []) (fun r h => E16 (r 2) (r 3) h)) = J16_3 F M (r 0) h :=
  seq_pt (a := (Code.sub [false] (bodyOf Tryd.prog 16))) (b := (Code.sub [true] (bodyOf Tryd.prog 16))) (T := (fun r h => J16_3 F M (r 0) h)) (g := (fun r h => J16_1 F M (r 0) h)) (by kernel_rfl) (J16_2_ok F M) (fun r h => by kernel_rfl)
noncomputable def R16 (F : CallH) (M : Nat) (x0 : Value) (h : AH) : Res := J16_3 F M x0 h
theorem R16_ok (F : CallH) (M : Nat) (x0 : Value) (h : AH) : kfn Tryd.prog F M 16 [x0] h = R16 F M x0 h :=
  (fn_pt (N := 22) (E := (fun r h => E16 (r 2) (r 3) h)) (T := (fun r h => J16_3 F M (r 0) h)) Tryd.func16 (by kernel_rfl) (by kernel_rfl) (fun r h => by kernel_rfl) (J16_3_ok F M)).trans (by kernel_rfl)
/-! ### 20 turnkey/turnkeyref.SameFault -/
noncomputable def E20 (v4 : Value) (h : AH) : Res := some (v4, h)
noncomputable def J20_0 (F : CallH) (M : Nat) (v0 : Value) (v1 : Value) (h : AH) : Res :=
  bindO (xcells 3 v0) fun v2 => newK h (.cells v2 3) fun iv2 h1 =>
  bindO (xcells 3 v1) fun v3 => newK h1 (.cells v3 3) fun iv3 h2 =>
  bindO (xfa 0 (ptrTo iv2)) fun v5 =>
  bindO (ld1 h2 v5) fun v6 =>
  bindO (xfa 0 (ptrTo iv3)) fun v7 =>
  bindO (ld1 h2 v7) fun v8 =>
  bindO (ibin .eql v6 v8) fun v9 =>
  condO v9 (
  bindO (xfa 1 (ptrTo iv2)) fun v11 =>
  bindO (ld1 h2 v11) fun v12 =>
  bindO (xfa 1 (ptrTo iv3)) fun v13 =>
  bindO (ld1 h2 v13) fun v14 =>
  bindO (bbin .eql v12 v14) fun v15 =>
  condO v15 (
  bindO (xfa 2 (ptrTo iv2)) fun v18 =>
  bindO (ld1 h2 v18) fun v19 =>
  bindO (xfa 2 (ptrTo iv3)) fun v20 =>
  bindO (ld1 h2 v20) fun v21 =>
  bindO (ibin .eql v19 v21) fun v22 =>
  E20 v22 h2) (
  E20 (.bool false) h2)) (
  E20 (.bool false) h2)
theorem J20_0_ok (F : CallH) (M : Nat) : ∀ r h, kcode Tryd.prog F 24 M (Code.sub [] (bodyOf Tryd.prog 20)) r h (KX (fun r h => E20 (r 4) h) (exitsOf []) (fun r h => E20 (r 4) h)) = J20_0 F M (r 0) (r 1) h := fun r h => by kernel_rfl
noncomputable def R20 (F : CallH) (M : Nat) (x0 x1 : Value) (h : AH) : Res := J20_0 F M x0 x1 h
theorem R20_ok (F : CallH) (M : Nat) (x0 x1 : Value) (h : AH) : kfn Tryd.prog F M 20 [x0, x1] h = R20 F M x0 x1 h :=
  (fn_pt (N := 24) (E := (fun r h => E20 (r 4) h)) (T := (fun r h => J20_0 F M (r 0) (r 1) h)) Tryd.func20 (by kernel_rfl) (by kernel_rfl) (fun r h => by kernel_rfl) (J20_0_ok F M)).trans (by kernel_rfl)
/-! ### 24 turnkey/turnkeyref.Bare -/
noncomputable def E24 (v2 : Value) (h : AH) : Res := bindO (ldn 3 h v2) fun x2 => some (x2, h)
noncomputable def J24_0 (F : CallH) (M : Nat) (v0 : Value) (h : AH) : Res :=
  newK h (.cells [(.int .i64 0), (.bool false), (.int .i64 0)] 3) fun iv2 h1 =>
  bindO (xbuild [(.int .i64 0), (.bool false), (.int .i64 0)] [(0, 1, v0)]) fun v4 =>
  bindO (xst 3 h1 (ptrTo iv2) v4) fun h2 =>
  E24 (ptrTo iv2) h2
theorem J24_0_ok (F : CallH) (M : Nat) : ∀ r h, kcode Tryd.prog F 5 M (Code.sub [] (bodyOf Tryd.prog 24)) r h (KX (fun r h => E24 (r 2) h) (exitsOf []) (fun r h => E24 (r 2) h)) = J24_0 F M (r 0) h := fun r h => by kernel_rfl
noncomputable def R24 (F : CallH) (M : Nat) (x0 : Value) (h : AH) : Res := J24_0 F M x0 h
theorem R24_ok (F : CallH) (M : Nat) (x0 : Value) (h : AH) : kfn Tryd.prog F M 24 [x0] h = R24 F M x0 h :=
  (fn_pt (N := 5) (E := (fun r h => E24 (r 2) h)) (T := (fun r h => J24_0 F M (r 0) h)) Tryd.func24 (by kernel_rfl) (by kernel_rfl) (fun r h => by kernel_rfl) (J24_0_ok F M)).trans (by kernel_rfl)
/-! ### 28 turnkey/asm.name -/
noncomputable def E28 (v2 : Value) (h : AH) : Res := some (v2, h)
noncomputable def J28_0 (F : CallH) (M : Nat) (v0 : Value) (h : AH) : Res :=
  bindO (sbin .neq v0 (str [])) fun v4 =>
  condO v4 (
  bindO (F 40 [v0, (fnv 41)] h) fun pv7 =>
  bindO (xnot pv7.1) fun v8 =>
  E28 v8 pv7.2) (
  E28 (.bool false) h)
theorem J28_0_ok (F : CallH) (M : Nat) : ∀ r h, kcode Tryd.prog F 10 M (Code.sub [] (bodyOf Tryd.prog 28)) r h (KX (fun r h => E28 (r 2) h) (exitsOf []) (fun r h => E28 (r 2) h)) = J28_0 F M (r 0) h := fun r h => by kernel_rfl
noncomputable def R28 (F : CallH) (M : Nat) (x0 : Value) (h : AH) : Res := J28_0 F M x0 h
theorem R28_ok (F : CallH) (M : Nat) (x0 : Value) (h : AH) : kfn Tryd.prog F M 28 [x0] h = R28 F M x0 h :=
  (fn_pt (N := 10) (E := (fun r h => E28 (r 2) h)) (T := (fun r h => J28_0 F M (r 0) h)) Tryd.func28 (by kernel_rfl) (by kernel_rfl) (fun r h => by kernel_rfl) (J28_0_ok F M)).trans (by kernel_rfl)
/-! ### 32 turnkey/asm.kind -/
noncomputable def E32 (v2 : Value) (v3 : Value) (h : AH) : Res := some ((.tuple #[v2, v3]), h)
noncomputable def J32_0 (F : CallH) (M : Nat) (v4 : Value) (h : AH) : Res :=
  E32 v4 .nilIface h
theorem J32_0_ok (F : CallH) (M : Nat) : ∀ r h, kcode Tryd.prog F 50 M (Code.sub [true, true, true, true, true] (bodyOf Tryd.prog 32)) r h (KX (fun r h => E32 (r 2) (r 3) h) (exitsOf []) (fun r h => E32 (r 2) (r 3) h)) = J32_0 F M (r 4) h := fun r h => by kernel_rfl
noncomputable def J32_1 (F : CallH) (M : Nat) (v4 : Value) (v47 : Value) (h : AH) : Res :=
  condO v47 (
  withH (bump h 3) fun h1 =>
  bindO (ld1 h1 (glob 1)) fun v48 =>
  E32 (.int .i64 0) v48 h1) (
  J32_0 F M v4 h)
theorem J32_1_ok (F : CallH) (M : Nat) : ∀ r h, kcode Tryd.prog F 50 M (Code.sub [true, true, true, true, false, true] (bodyOf Tryd.prog 32)) r h (KX (fun r h => J32_0 F M (r 4) h) (exitsOf []) (fun r h => E32 (r 2) (r 3) h)) = J32_1 F M (r 4) (r 47) h := fun r h => by kernel_rfl
noncomputable def J32_2 (F : CallH) (M : Nat) (v0 : Value) (v4 : Value) (h : AH) : Res :=
  withH (bump h 21) fun h2 =>
  bindO (ibin .eql v4 (.int .i64 3)) fun v28 =>
  condO v28 (
  bindO (xia 1 v0 (.int .i64 1)) fun v31 =>
  bindO (ld1 h2 v31) fun v32 =>
  bindO (F 34 [v32] h2) fun pv33 =>
  bindO (ibin .lss pv33.1 (.int .i64 0)) fun v34 =>
  condO v34 (
  J32_1 F M v4 (.bool true) pv33.2) (
  bindO (ibin .eql v4 (.int .i64 11)) fun v38 =>
  condO v38 (
  bindO (F 36 [] pv33.2) fun pv40 =>
  bindO (xia 1 v0 (.int .i64 1)) fun v42 =>
  bindO (ld1 pv40.2 v42) fun v43 =>
  bindO (F 50 [pv40.1, v43] pv40.2) fun pv44 =>
  bindO (xnot pv44.1) fun v45 =>
  andO (rdok (ld1 pv33.2 v42) v43) <|
  J32_1 F M v4 v45 pv44.2) (
  J32_1 F M v4 (.bool false) pv33.2))) (
  bindO (ibin .eql v4 (.int .i64 11)) fun v38 =>
  condO v38 (
  bindO (F 36 [] h2) fun pv40 =>
  bindO (xia 1 v0 (.int .i64 1)) fun v42 =>
  bindO (ld1 pv40.2 v42) fun v43 =>
  bindO (F 50 [pv40.1, v43] pv40.2) fun pv44 =>
  bindO (xnot pv44.1) fun v45 =>
  andO (rdok (ld1 h2 v42) v43) <|
  J32_1 F M v4 v45 pv44.2) (
  J32_1 F M v4 (.bool false) h2))
theorem J32_2_ok (F : CallH) (M : Nat) : ∀ r h, kcode Tryd.prog F 50 M (Code.sub [true, true, true, true, false] (bodyOf Tryd.prog 32)) r h (KX (fun r h => J32_0 F M (r 4) h) (exitsOf []) (fun r h => E32 (r 2) (r 3) h)) = J32_2 F M (r 0) (r 4) h :=
  seq_pt (a := (Code.sub [true, true, true, true, false, false] (bodyOf Tryd.prog 32))) (b := (Code.sub [true, true, true, true, false, true] (bodyOf Tryd.prog 32))) (T := (fun r h => J32_2 F M (r 0) (r 4) h)) (g := (fun r h => J32_1 F M (r 4) (r 47) h)) (by kernel_rfl) (J32_1_ok F M) (fun r h => by kernel_rfl)
theorem J32_3_ok (F : CallH) (M : Nat) : ∀ r h, kcode Tryd.prog F 50 M (Code.sub [true, true, true, true] (bodyOf Tryd.prog 32)) r h (KX (fun r h => E32 (r 2) (r 3) h) (exitsOf []) (fun r h => E32 (r 2) (r 3) h)) = J32_2 F M (r 0) (r 4) h :=
  seq_pt (a := (Code.sub [true, true, true, true, false] (bodyOf Tryd.prog 32))) (b := (Code.sub [true, true, true, true, true] (bodyOf Tryd.prog 32))) (T := (fun r h => J32_2 F M (r 0) (r 4) h)) (g := (fun r h => J32_0 F M (r 4) h)) (by kernel_rfl) (J32_0_ok F M) (J32_2_ok F M)
noncomputable def J32_4 (F : CallH) (M : Nat) (v0 : Value) (v4 : Value) (h : AH) : Res :=
  bindO (ibin .eql v4 (.int .i64 0)) fun v16 =>
  condO v16 (
  withH (bump h 3) fun h8 =>
  bindO (ld1 h8 (glob 1)) fun v26 =>
  E32 (.int .i64 0) v26 h8) (
  bindO (xlenL v0) fun v19 =>
  bindO (ibin .sub v19 (.int .i64 1)) fun v20 =>
  bindO (F 33 [v4] h) fun pv22 =>
  bindO (xlenS pv22.1) fun v23 =>
  bindO (ibin .neq v20 v23) fun v24 =>
  condO v24 (
  withH (bump pv22.2 3) fun h10 =>
  bindO (ld1 h10 (glob 1)) fun v26 =>
  E32 (.int .i64 0) v26 h10) (
  J32_2 F M v0 v4 pv22.2))
theorem J32_4_ok (F : CallH) (M : Nat) : ∀ r h, kcode Tryd.prog F 50 M (Code.sub [true, true, true, false] (bodyOf Tryd.prog 32)) r h (KX (fun r h => J32_2 F M (r 0) (r 4) h) (exitsOf []) (fun r h => E32 (r 2) (r 3) h)) = J32_4 F M (r 0) (r 4) h := fun r h => by kernel_rfl
theorem J32_5_ok (F : CallH) (M : Nat) : ∀ r h, kcode Tryd.prog F 50 M (Code.sub [true, true, true] (bodyOf Tryd.prog 32)) r h (KX (fun r h => E32 (r 2) (r 3) h) (exitsOf []) (fun r h => E32 (r 2) (r 3) h)) = J32_4 F M (r 0) (r 4) h :=
  seq_pt (a := (Code.sub [true, true, true, false] (bodyOf Tryd.prog 32))) (b := (Code.sub [true, true, true, true] (bodyOf Tryd.prog 32))) (T := (fun r h => J32_4 F M (r 0) (r 4) h)) (g := (fun r h => J32_2 F M (r 0) (r 4) h)) (by kernel_rfl) (J32_3_ok F M) (J32_4_ok F M)
noncomputable def J32_6 (F : CallH) (M : Nat) (v0 : Value) (h : AH) : Res :=
  withH (bump h 7) fun h11 =>
  bindO (F 49 [] h11) fun pv9 =>
  bindO (xia 1 v0 (.int .i64 0)) fun v11 =>
  bindO (ld1 pv9.2 v11) fun v12 =>
  bindO (F 35 [pv9.1, v12] pv9.2) fun pv13 =>
  bindO (ibin .add pv13.1 (.int .i64 1)) fun v14 =>
  andO (rdok (ld1 h11 v11) v12) <|
  J32_4 F M v0 v14 pv13.2
theorem J32_6_ok (F : CallH) (M : Nat) : ∀ r h, kcode Tryd.prog F 50 M (Code.sub [true, true] (bodyOf Tryd.prog 32)) r h (KX (fun r h => E32 (r 2) (r 3) h) (exitsOf []) (fun r h => E32 (r 2) (r 3) h)) = J32_6 F M (r 0) h :=
  seq_pt (a := (Code.sub [true, true, false] (bodyOf Tryd.prog 32))) (b := (Code.sub [true, true, true] (bodyOf Tryd.prog 32))) (T := (fun r h => J32_6 F M (r 0) h)) (g := (fun r h => J32_4 F M (r 0) (r 4) h)) (by kernel_rfl) (J32_5_ok F M) (fun r h => by kernel_rfl)
noncomputable def J32_7 (F : CallH) (M : Nat) (v0 : Value) (h : AH) : Res :=
  bindO (xlenL v0) fun v6 =>
  bindO (ibin .eql v6 (.int .i64 0)) fun v7 =>
  condO v7 (
  withH (bump h 3) fun h14 =>
  bindO (ld1 h14 (glob 1)) fun v8 =>
  E32 (.int .i64 0) v8 h14) (
  J32_6 F M v0 h)
theorem J32_7_ok (F : CallH) (M : Nat) : ∀ r h, kcode Tryd.prog F 50 M (Code.sub [true, false] (bodyOf Tryd.prog 32)) r h (KX (fun r h => J32_6 F M (r 0) h) (exitsOf []) (fun r h => E32 (r 2) (r 3) h)) = J32_7 F M (r 0) h := fun r h => by kernel_rfl
theorem J32_8_ok (F : CallH) (M : Nat) : ∀ r h, kcode Tryd.prog F 50 M (Code.sub [true] (bodyOf Tryd.prog 32)) r h (KX (fun r h => E32 (r 2) (r 3) h) (exitsOf []) (fun r h => E32 (r 2) (r 3) h)) = J32_7 F M (r 0) h :=
  seq_pt (a := (Code.sub [true, false] (bodyOf Tryd.prog 32))) (b := (Code.sub [true, true] (bodyOf Tryd.prog 32))) (T := (fun r h => J32_7 F M (r 0) h)) (g := (fun r h => J32_6 F M (r 0) h)) (by kernel_rfl) (J32_6_ok F M) (J32_7_ok F M)
noncomputable def J32_9 (F : CallH) (M : Nat) (v0 : Value) (h : AH) : Res :=
  J32_7 F M v0 h
theorem J32_9_ok (F : CallH) (M : Nat) : ∀ r h, kcode Tryd.prog F 50 M (Code.sub [] (bodyOf Tryd.prog 32)) r h (KX (fun r h => E32 (r 2) (r 3) h) (exitsOf []) (fun r h => E32 (r 2) (r 3) h)) = J32_9 F M (r 0) h :=
  seq_pt (a := (Code.sub [false] (bodyOf Tryd.prog 32))) (b := (Code.sub [true] (bodyOf Tryd.prog 32))) (T := (fun r h => J32_9 F M (r 0) h)) (g := (fun r h => J32_7 F M (r 0) h)) (by kernel_rfl) (J32_8_ok F M) (fun r h => by kernel_rfl)
noncomputable def R32 (F : CallH) (M : Nat) (x0 : Value) (h : AH) : Res := J32_9 F M x0 h
theorem R32_ok (F : CallH) (M : Nat) (x0 : Value) (h : AH) : kfn Tryd.prog F M 32 [x0] h = R32 F M x0 h :=
  (fn_pt (N := 50) (E := (fun r h => E32 (r 2) (r 3) h)) (T := (fun r h => J32_9 F M (r 0) h)) Tryd.func32 (by kernel_rfl) (by kernel_rfl) (fun r h => by kernel_rfl) (J32_9_ok F M)).trans (by kernel_rfl)
/-! ### 36 turnkey/code.Hows -/
noncomputable def E36 (v0 : Value) (h : AH) : Res := some (v0, h)
noncomputable def J36_0 (F : CallH) (M : Nat) (h : AH) : Res :=
  bindO (xrow [(str []), (str []), (str [])] [(0, 1, (str [99, 97, 108, 108])), (1, 1, (str [114, 101, 116, 117, 114, 110])), (2, 1, (str [102, 111, 114, 107]))]) fun v1 => newK h (.cells v1 1) fun iv1 h1 =>
  E36 (slOf iv1 3 3) h1
theorem J36_0_ok (F : CallH) (M : Nat) : ∀ r h, kcode Tryd.prog F 2 M (Code.sub [] (bodyOf Tryd.prog 36)) r h (KX (fun r h => E36 (r 0) h) (exitsOf []) (fun r h => E36 (r 0) h)) = J36_0 F M h := fun r h => by kernel_rfl
noncomputable def R36 (F : CallH) (M : Nat) (h : AH) : Res := J36_0 F M h
theorem R36_ok (F : CallH) (M : Nat) (h : AH) : kfn Tryd.prog F M 36 [] h = R36 F M h :=
  (fn_pt (N := 2) (E := (fun r h => E36 (r 0) h)) (T := (fun r h => J36_0 F M h)) Tryd.func36 (by kernel_rfl) (by kernel_rfl) (fun r h => by kernel_rfl) (J36_0_ok F M)).trans (by kernel_rfl)
/-! ### 40 strings.ContainsFunc -/
noncomputable def E40 (v4 : Value) (h : AH) : Res := some (v4, h)
noncomputable def J40_0 (F : CallH) (M : Nat) (v0 : Value) (v1 : Value) (h : AH) : Res :=
  bindO (F 57 [v0, v1] h) fun pv7 =>
  bindO (ibin .geq pv7.1 (.int .i64 0)) fun v8 =>
  E40 v8 pv7.2
theorem J40_0_ok (F : CallH) (M : Nat) : ∀ r h, kcode Tryd.prog F 9 M (Code.sub [] (bodyOf Tryd.prog 40)) r h (KX (fun r h => E40 (r 4) h) (exitsOf []) (fun r h => E40 (r 4) h)) = J40_0 F M (r 0) (r 1) h := fun r h => by kernel_rfl
noncomputable def R40 (F : CallH) (M : Nat) (x0 x1 : Value) (h : AH) : Res := J40_0 F M x0 x1 h
theorem R40_ok (F : CallH) (M : Nat) (x0 x1 : Value) (h : AH) : kfn Tryd.prog F M 40 [x0, x1] h = R40 F M x0 x1 h :=
  (fn_pt (N := 9) (E := (fun r h => E40 (r 4) h)) (T := (fun r h => J40_0 F M (r 0) (r 1) h)) Tryd.func40 (by kernel_rfl) (by kernel_rfl) (fun r h => by kernel_rfl) (J40_0_ok F M)).trans (by kernel_rfl)
/-! ### 44 (turnkey/code.Instr).regs -/
noncomputable def E44 (v2 : Value) (h : AH) : Res := some (v2, h)
noncomputable def J44_0 (F : CallH) (M : Nat) (v1 : Value) (h : AH) : Res :=
  bindO (xfa 1 v1) fun v11 =>
  bindO (ld1 h v11) fun v12 =>
  bindO (xfa 2 v1) fun v13 =>
  bindO (ld1 h v13) fun v14 =>
  bindO (xfa 3 v1) fun v15 =>
  bindO (ld1 h v15) fun v16 =>
  bindO (xrow [(.int .i64 0), (.int .i64 0), (.int .i64 0)] [(0, 1, v12), (1, 1, v14), (2, 1, v16)]) fun v17 => newK h (.cells v17 1) fun iv17 h1 =>
  E44 (slOf iv17 3 3) h1
theorem J44_0_ok (F : CallH) (M : Nat) : ∀ r h, kcode Tryd.prog F 18 M (Code.sub [true, true] (bodyOf Tryd.prog 44)) r h (KX (fun r h => E44 (r 2) h) (exitsOf []) (fun r h => E44 (r 2) h)) = J44_0 F M (r 1) h := fun r h => by kernel_rfl
noncomputable def J44_1 (F : CallH) (M : Nat) (v1 : Value) (h : AH) : Res :=
  bindO (xfa 0 v1) fun v3 =>
  bindO (ld1 h v3) fun v4 =>
  bindO (ibin .eql v4 (.int .i64 11)) fun v5 =>
  condO v5 (
  bindO (xfa 2 v1) fun v6 =>
  bindO (ld1 h v6) fun v7 =>
  bindO (xfa 3 v1) fun v8 =>
  bindO (ld1 h v8) fun v9 =>
  bindO (xrow [(.int .i64 0), (.int .i64 0)] [(0, 1, v7), (1, 1, v9)]) fun v10 => newK h (.cells v10 1) fun iv10 h2 =>
  E44 (slOf iv10 2 2) h2) (
  J44_0 F M v1 h)
theorem J44_1_ok (F : CallH) (M : Nat) : ∀ r h, kcode Tryd.prog F 18 M (Code.sub [true, false] (bodyOf Tryd.prog 44)) r h (KX (fun r h => J44_0 F M (r 1) h) (exitsOf []) (fun r h => E44 (r 2) h)) = J44_1 F M (r 1) h := fun r h => by kernel_rfl
theorem J44_2_ok (F : CallH) (M : Nat) : ∀ r h, kcode Tryd.prog F 18 M (Code.sub [true] (bodyOf Tryd.prog 44)) r h (KX (fun r h => E44 (r 2) h) (exitsOf []) (fun r h => E44 (r 2) h)) = J44_1 F M (r 1) h :=
  seq_pt (a := (Code.sub [true, false] (bodyOf Tryd.prog 44))) (b := (Code.sub [true, true] (bodyOf Tryd.prog 44))) (T := (fun r h => J44_1 F M (r 1) h)) (g := (fun r h => J44_0 F M (r 1) h)) (by kernel_rfl) (J44_0_ok F M) (J44_1_ok F M)
noncomputable def J44_3 (F : CallH) (M : Nat) (v0 : Value) (h : AH) : Res :=
  bindO (xcells 5 v0) fun v1 => newK h (.cells v1 5) fun iv1 h3 =>
  J44_1 F M (ptrTo iv1) h3
theorem J44_3_ok (F : CallH) (M : Nat) : ∀ r h, kcode Tryd.prog F 18 M (Code.sub [] (bodyOf Tryd.prog 44)) r h (KX (fun r h => E44 (r 2) h) (exitsOf []) (fun r h => E44 (r 2) h)) = J44_3 F M (r 0) h :=
  seq_pt (a := (Code.sub [false] (bodyOf Tryd.prog 44))) (b := (Code.sub [true] (bodyOf Tryd.prog 44))) (T := (fun r h => J44_3 F M (r 0) h)) (g := (fun r h => J44_1 F M (r 1) h)) (by kernel_rfl) (J44_2_ok F M) (fun r h => by kernel_rfl)
noncomputable def R44 (F : CallH) (M : Nat) (x0 : Value) (h : AH) : Res := J44_3 F M x0 h
theorem R44_ok (F : CallH) (M : Nat) (x0 : Value) (h : AH) : kfn Tryd.prog F M 44 [x0] h = R44 F M x0 h :=
  (fn_pt (N := 18) (E := (fun r h => E44 (r 2) h)) (T := (fun r h => J44_3 F M (r 0) h)) Tryd.func44 (by kernel_rfl) (by kernel_rfl) (fun r h => by kernel_rfl) (J44_3_ok F M)).trans (by kernel_rfl)
/-! ### 48 turnkey/turnkeysee.Alike -/
noncomputable def E48 (v4 : Value) (h : AH) : Res := some (v4, h)
noncomputable def J48_0 (F : CallH) (M : Nat) (v0 : Value) (v1 : Value) (h : AH) : Res :=
  bindO (xeqI Tryd.prog .eql h 27 v0 v1) fun v19 =>
  E48 v19 h
theorem J48_0_ok (F : CallH) (M : Nat) : ∀ r h, kcode Tryd.prog F 20 M (Code.sub [true, true] (bodyOf Tryd.prog 48)) r h (KX (fun r h => E48 (r 4) h) (exitsOf []) (fun r h => E48 (r 4) h)) = J48_0 F M (r 0) (r 1) h := fun r h => by kernel_rfl
noncomputable def J48_1 (F : CallH) (M : Nat) (v0 : Value) (v1 : Value) (h : AH) : Res :=
  bindO (xnilI .eql v0) fun v6 =>
  condO v6 (
  bindO (xnilI .eql v0) fun v12 =>
  condO v12 (
  bindO (xnilI .eql v1) fun v15 =>
  E48 v15 h) (
  E48 (.bool false) h)) (
  bindO (xnilI .eql v1) fun v9 =>
  condO v9 (
  bindO (xnilI .eql v0) fun v12 =>
  condO v12 (
  bindO (xnilI .eql v1) fun v15 =>
  E48 v15 h) (
  E48 (.bool false) h)) (
  J48_0 F M v0 v1 h))
theorem J48_1_ok (F : CallH) (M : Nat) : ∀ r h, kcode Tryd.prog F 20 M (Code.sub [true, false] (bodyOf Tryd.prog 48)) r h (KX (fun r h => J48_0 F M (r 0) (r 1) h) (exitsOf []) (fun r h => E48 (r 4) h)) = J48_1 F M (r 0) (r 1) h := fun r h => by kernel_rfl
theorem J48_2_ok (F : CallH) (M : Nat) : ∀ r h, kcode Tryd.prog F 20 M (Code.sub [true] (bodyOf Tryd.prog 48)) r h (KX (fun r h => E48 (r 4) h) (exitsOf []) (fun r h => E48 (r 4) h)) = J48_1 F M (r 0) (r 1) h :=
  seq_pt (a := (Code.sub [true, false] (bodyOf Tryd.prog 48))) (b := (Code.sub [true, true] (bodyOf Tryd.prog 48))) (T := (fun r h => J48_1 F M (r 0) (r 1) h)) (g := (fun r h => J48_0 F M (r 0) (r 1) h)) (by kernel_rfl) (J48_0_ok F M) (J48_1_ok F M)
noncomputable def J48_3 (F : CallH) (M : Nat) (v0 : Value) (v1 : Value) (h : AH) : Res :=
  J48_1 F M v0 v1 h
theorem J48_3_ok (F : CallH) (M : Nat) : ∀ r h, kcode Tryd.prog F 20 M (Code.sub [] (bodyOf Tryd.prog 48)) r h (KX (fun r h => E48 (r 4) h) (exitsOf []) (fun r h => E48 (r 4) h)) = J48_3 F M (r 0) (r 1) h :=
  seq_pt (a := (Code.sub [false] (bodyOf Tryd.prog 48))) (b := (Code.sub [true] (bodyOf Tryd.prog 48))) (T := (fun r h => J48_3 F M (r 0) (r 1) h)) (g := (fun r h => J48_1 F M (r 0) (r 1) h)) (by kernel_rfl) (J48_2_ok F M) (fun r h => by kernel_rfl)
noncomputable def R48 (F : CallH) (M : Nat) (x0 x1 : Value) (h : AH) : Res := J48_3 F M x0 x1 h
theorem R48_ok (F : CallH) (M : Nat) (x0 x1 : Value) (h : AH) : kfn Tryd.prog F M 48 [x0, x1] h = R48 F M x0 x1 h :=
  (fn_pt (N := 20) (E := (fun r h => E48 (r 4) h)) (T := (fun r h => J48_3 F M (r 0) (r 1) h)) Tryd.func48 (by kernel_rfl) (by kernel_rfl) (fun r h => by kernel_rfl) (J48_3_ok F M)).trans (by kernel_rfl)
/-! ### 52 strings.CutPrefix -/
noncomputable def E52 (v4 : Value) (v5 : Value) (h : AH) : Res := some ((.tuple #[v4, v5]), h)
noncomputable def J52_0 (F : CallH) (M : Nat) (v0 : Value) (v1 : Value) (h : AH) : Res :=
  bindO (F 62 [v0, v1] h) fun pv8 =>
  bindO (xext 0 pv8.1) fun v9 =>
  bindO (xext 1 pv8.1) fun v10 =>
  E52 v9 v10 pv8.2
theorem J52_0_ok (F : CallH) (M : Nat) : ∀ r h, kcode Tryd.prog F 11 M (Code.sub [] (bodyOf Tryd.prog 52)) r h (KX (fun r h => E52 (r 4) (r 5) h) (exitsOf []) (fun r h => E52 (r 4) (r 5) h)) = J52_0 F M (r 0) (r 1) h := fun r h => by kernel_rfl
noncomputable def R52 (F : CallH) (M : Nat) (x0 x1 : Value) (h : AH) : Res := J52_0 F M x0 x1 h
theorem R52_ok (F : CallH) (M : Nat) (x0 x1 : Value) (h : AH) : kfn Tryd.prog F M 52 [x0, x1] h = R52 F M x0 x1 h :=
  (fn_pt (N := 11) (E := (fun r h => E52 (r 4) (r 5) h)) (T := (fun r h => J52_0 F M (r 0) (r 1) h)) Tryd.func52 (by kernel_rfl) (by kernel_rfl) (fun r h => by kernel_rfl) (J52_0_ok F M)).trans (by kernel_rfl)
/-! ### 56 internal/stringslite.HasSuffix -/
noncomputable def E56 (v4 : Value) (h : AH) : Res := some (v4, h)
noncomputable def J56_0 (F : CallH) (M : Nat) (v0 : Value) (v1 : Value) (h : AH) : Res :=
  bindO (xlenS v0) fun v6 =>
  bindO (xlenS v1) fun v8 =>
  bindO (ibin .geq v6 v8) fun v9 =>
  condO v9 (
  bindO (xlenS v0) fun v13 =>
  bindO (xlenS v1) fun v15 =>
  bindO (ibin .sub v13 v15) fun v16 =>
  bindO (xslS v0 (some v16) none) fun v17 =>
  bindO (sbin .eql v17 v1) fun v19 =>
  E56 v19 h) (
  E56 (.bool false) h)
theorem J56_0_ok (F : CallH) (M : Nat) : ∀ r h, kcode Tryd.prog F 21 M (Code.sub [] (bodyOf Tryd.prog 56)) r h (KX (fun r h => E56 (r 4) h) (exitsOf []) (fun r h => E56 (r 4) h)) = J56_0 F M (r 0) (r 1) h := fun r h => by kernel_rfl
noncomputable def R56 (F : CallH) (M : Nat) (x0 x1 : Value) (h : AH) : Res := J56_0 F M x0 x1 h
theorem R56_ok (F : CallH) (M : Nat) (x0 x1 : Value) (h : AH) : kfn Tryd.prog F M 56 [x0, x1] h = R56 F M x0 x1 h :=
  (fn_pt (N := 21) (E := (fun r h => E56 (r 4) h)) (T := (fun r h => J56_0 F M (r 0) (r 1) h)) Tryd.func56 (by kernel_rfl) (by kernel_rfl) (fun r h => by kernel_rfl) (J56_0_ok F M)).trans (by kernel_rfl)
/-! ### 60 internal/strconv.Itoa -/
noncomputable def E60 (v2 : Value) (h : AH) : Res := some (v2, h)
noncomputable def J60_0 (F : CallH) (M : Nat) (v0 : Value) (h : AH) : Res :=
  bindO (F 73 [v0, (.int .i64 10)] h) fun pv4 =>
  E60 pv4.1 pv4.2
theorem J60_0_ok (F : CallH) (M : Nat) : ∀ r h, kcode Tryd.prog F 5 M (Code.sub [] (bodyOf Tryd.prog 60)) r h (KX (fun r h => E60 (r 2) h) (exitsOf []) (fun r h => E60 (r 2) h)) = J60_0 F M (r 0) h := fun r h => by kernel_rfl
noncomputable def R60 (F : CallH) (M : Nat) (x0 : Value) (h : AH) : Res := J60_0 F M x0 h
theorem R60_ok (F : CallH) (M : Nat) (x0 : Value) (h : AH) : kfn Tryd.prog F M 60 [x0] h = R60 F M x0 h :=
  (fn_pt (N := 5) (E := (fun r h => E60 (r 2) h)) (T := (fun r h => J60_0 F M (r 0) h)) Tryd.func60 (by kernel_rfl) (by kernel_rfl) (fun r h => by kernel_rfl) (J60_0_ok F M)).trans (by kernel_rfl)
/-! ### 64 unicode/utf8.DecodeRuneInString -/
noncomputable def E64 (v2 : Value) (v3 : Value) (h : AH) : Res := some ((.tuple #[v2, v3]), h)
noncomputable def J64_0 (F : CallH) (M : Nat) (v2 : Value) (v3 : Value) (h : AH) : Res :=
  E64 v2 v3 h
theorem J64_0_ok (F : CallH) (M : Nat) : ∀ r h, kcode Tryd.prog F 19 M (Code.sub [true, true] (bodyOf Tryd.prog 64)) r h (KX (fun r h => E64 (r 2) (r 3) h) (exitsOf []) (fun r h => E64 (r 2) (r 3) h)) = J64_0 F M (r 2) (r 3) h := fun r h => by kernel_rfl
noncomputable def J64_1 (F : CallH) (M : Nat) (v0 : Value) (h : AH) : Res :=
  bindO (sbin .neq v0 (str [])) fun v5 =>
  condO v5 (
  bindO (ixS v0 (.int .i64 0)) fun v8 =>
  bindO (ibin .lss v8 (.int .u8 128)) fun v9 =>
  condO v9 (
  bindO (ixS v0 (.int .i64 0)) fun v12 =>
  bindO (xconv .i32 v12) fun v13 =>
  E64 v13 (.int .i64 1) h) (
  bindO (F 75 [v0] h) fun pv16 =>
  bindO (xext 0 pv16.1) fun v17 =>
  bindO (xext 1 pv16.1) fun v18 =>
  J64_0 F M v17 v18 pv16.2)) (
  bindO (F 75 [v0] h) fun pv16 =>
  bindO (xext 0 pv16.1) fun v17 =>
  bindO (xext 1 pv16.1) fun v18 =>
  J64_0 F M v17 v18 pv16.2)
theorem J64_1_ok (F : CallH) (M : Nat) : ∀ r h, kcode Tryd.prog F 19 M (Code.sub [true, false] (bodyOf Tryd.prog 64)) r h (KX (fun r h => J64_0 F M (r 2) (r 3) h) (exitsOf []) (fun r h => E64 (r 2) (r 3) h)) = J64_1 F M (r 0) h := fun r h => by kernel_rfl
theorem J64_2_ok (F : CallH) (M : Nat) : ∀ r h, kcode Tryd.prog F 19 M (Code.sub [true] (bodyOf Tryd.prog 64)) r h (KX (fun r h => E64 (r 2) (r 3) h) (exitsOf []) (fun r h => E64 (r 2) (r 3) h)) = J64_1 F M (r 0) h :=
  seq_pt (a := (Code.sub [true, false] (bodyOf Tryd.prog 64))) (b := (Code.sub [true, true] (bodyOf Tryd.prog 64))) (T := (fun r h => J64_1 F M (r 0) h)) (g := (fun r h => J64_0 F M (r 2) (r 3) h)) (by kernel_rfl) (J64_0_ok F M) (J64_1_ok F M)
noncomputable def J64_3 (F : CallH) (M : Nat) (v0 : Value) (h : AH) : Res :=
  J64_1 F M v0 h
theorem J64_3_ok (F : CallH) (M : Nat) : ∀ r h, kcode Tryd.prog F 19 M (Code.sub [] (bodyOf Tryd.prog 64)) r h (KX (fun r h => E64 (r 2) (r 3) h) (exitsOf []) (fun r h => E64 (r 2) (r 3) h)) = J64_3 F M (r 0) h :=
  seq_pt (a := (Code.sub [false] (bodyOf Tryd.prog 64))) (b := (Code.sub [true] (bodyOf Tryd.prog 64))) (T := (fun r h => J64_3 F M (r 0) h)) (g := (fun r h => J64_1 F M (r 0) h)) (by kernel_rfl) (J64_2_ok F M) (fun r h => by kernel_rfl)
noncomputable def R64 (F : CallH) (M : Nat) (x0 : Value) (h : AH) : Res := J64_3 F M x0 h
theorem R64_ok (F : CallH) (M : Nat) (x0 : Value) (h : AH) : kfn Tryd.prog F M 64 [x0] h = R64 F M x0 h :=
  (fn_pt (N := 19) (E := (fun r h => E64 (r 2) (r 3) h)) (T := (fun r h => J64_3 F M (r 0) h)) Tryd.func64 (by kernel_rfl) (by kernel_rfl) (fun r h => by kernel_rfl) (J64_3_ok F M)).trans (by kernel_rfl)
/-! ### 68 internal/strconv.ParseInt -/
noncomputable def E68 (v6 : Value) (v7 : Value) (h : AH) : Res := some ((.tuple #[v6, v7]), h)
noncomputable def J68_0 (F : CallH) (M : Nat) (v11 : Value) (h : AH) : Res :=
  E68 v11 .nilIface h
theorem J68_0_ok (F : CallH) (M : Nat) : ∀ r h, kcode Tryd.prog F 73 M (Code.sub [true, true, true, true, true, true, true, true, true, true, true, true, true] (bodyOf Tryd.prog 68)) r h (KX (fun r h => E68 (r 6) (r 7) h) (exitsOf []) (fun r h => E68 (r 6) (r 7) h)) = J68_0 F M (r 11) h := fun r h => by kernel_rfl
noncomputable def J68_1 (F : CallH) (M : Nat) (v8 : Value) (v11 : Value) (h : AH) : Res :=
  condO v8 (
  bindO (xneg v11) fun v71 =>
  J68_0 F M v71 h) (
  J68_0 F M v11 h)
theorem J68_1_ok (F : CallH) (M : Nat) : ∀ r h, kcode Tryd.prog F 73 M (Code.sub [true, true, true, true, true, true, true, true, true, true, true, true, false] (bodyOf Tryd.prog 68)) r h (KX (fun r h => J68_0 F M (r 11) h) (exitsOf []) (fun r h => E68 (r 6) (r 7) h)) = J68_1 F M (r 8) (r 11) h := fun r h => by kernel_rfl
theorem J68_2_ok (F : CallH) (M : Nat) : ∀ r h, kcode Tryd.prog F 73 M (Code.sub [true, true, true, true, true, true, true, true, true, true, true, true] (bodyOf Tryd.prog 68)) r h (KX (fun r h => E68 (r 6) (r 7) h) (exitsOf []) (fun r h => E68 (r 6) (r 7) h)) = J68_1 F M (r 8) (r 11) h :=
  seq_pt (a := (Code.sub [true, true, true, true, true, true, true, true, true, true, true, true, false] (bodyOf Tryd.prog 68))) (b := (Code.sub [true, true, true, true, true, true, true, true, true, true, true, true, true] (bodyOf Tryd.prog 68))) (T := (fun r h => J68_1 F M (r 8) (r 11) h)) (g := (fun r h => J68_0 F M (r 11) h)) (by kernel_rfl) (J68_0_ok F M) (J68_1_ok F M)
noncomputable def J68_3 (F : CallH) (M : Nat) (v8 : Value) (v9 : Value) (h : AH) : Res :=
  bindO (xconv .i64 v9) fun v68 =>
  J68_1 F M v8 v68 h
theorem J68_3_ok (F : CallH) (M : Nat) : ∀ r h, kcode Tryd.prog F 73 M (Code.sub [true, true, true, true, true, true, true, true, true, true, true] (bodyOf Tryd.prog 68)) r h (KX (fun r h => E68 (r 6) (r 7) h) (exitsOf []) (fun r h => E68 (r 6) (r 7) h)) = J68_3 F M (r 8) (r 9) h :=
  seq_pt (a := (Code.sub [true, true, true, true, true, true, true, true, true, true, true, false] (bodyOf Tryd.prog 68))) (b := (Code.sub [true, true, true, true, true, true, true, true, true, true, true, true] (bodyOf Tryd.prog 68))) (T := (fun r h => J68_3 F M (r 8) (r 9) h)) (g := (fun r h => J68_1 F M (r 8) (r 11) h)) (by kernel_rfl) (J68_2_ok F M) (fun r h => by kernel_rfl)
noncomputable def J68_4 (F : CallH) (M : Nat) (v8 : Value) (v9 : Value) (v10 : Value) (h : AH) : Res :=
  condO v8 (
  bindO (ibin .gtr v9 v10) fun v61 =>
  condO v61 (
  bindO (xconv .i64 v10) fun v64 =>
  bindO (xneg v64) fun v65 =>
  E68 v65 (.iface 103 (.int .i64 1)) h) (
  J68_3 F M v8 v9 h)) (
  J68_3 F M v8 v9 h)
theorem J68_4_ok (F : CallH) (M : Nat) : ∀ r h, kcode Tryd.prog F 73 M (Code.sub [true, true, true, true, true, true, true, true, true, true, false] (bodyOf Tryd.prog 68)) r h (KX (fun r h => J68_3 F M (r 8) (r 9) h) (exitsOf []) (fun r h => E68 (r 6) (r 7) h)) = J68_4 F M (r 8) (r 9) (r 10) h := fun r h => by kernel_rfl
theorem J68_5_ok (F : CallH) (M : Nat) : ∀ r h, kcode Tryd.prog F 73 M (Code.sub [true, true, true, true, true, true, true, true, true, true] (bodyOf Tryd.prog 68)) r h (KX (fun r h => E68 (r 6) (r 7) h) (exitsOf []) (fun r h => E68 (r 6) (r 7) h)) = J68_4 F M (r 8) (r 9) (r 10) h :=
  seq_pt (a := (Code.sub [true, true, true, true, true, true, true, true, true, true, false] (bodyOf Tryd.prog 68))) (b := (Code.sub [true, true, true, true, true, true, true, true, true, true, true] (bodyOf Tryd.prog 68))) (T := (fun r h => J68_4 F M (r 8) (r 9) (r 10) h)) (g := (fun r h => J68_3 F M (r 8) (r 9) h)) (by kernel_rfl) (J68_3_ok F M) (J68_4_ok F M)
noncomputable def J68_6 (F : CallH) (M : Nat) (v8 : Value) (v9 : Value) (v10 : Value) (h : AH) : Res :=
  bindO (xnot v8) fun v47 =>
  condO v47 (
  bindO (ibin .geq v9 v10) fun v51 =>
  condO v51 (
  bindO (ibin .sub v10 (.int .u64 1)) fun v54 =>
  bindO (xconv .i64 v54) fun v55 =>
  E68 v55 (.iface 103 (.int .i64 1)) h) (
  J68_4 F M v8 v9 v10 h)) (
  J68_4 F M v8 v9 v10 h)
theorem J68_6_ok (F : CallH) (M : Nat) : ∀ r h, kcode Tryd.prog F 73 M (Code.sub [true, true, true, true, true, true, true, true, true, false] (bodyOf Tryd.prog 68)) r h (KX (fun r h => J68_4 F M (r 8) (r 9) (r 10) h) (exitsOf []) (fun r h => E68 (r 6) (r 7) h)) = J68_6 F M (r 8) (r 9) (r 10) h := fun r h => by kernel_rfl
theorem J68_7_ok (F : CallH) (M : Nat) : ∀ r h, kcode Tryd.prog F 73 M (Code.sub [true, true, true, true, true, true, true, true, true] (bodyOf Tryd.prog 68)) r h (KX (fun r h => E68 (r 6) (r 7) h) (exitsOf []) (fun r h => E68 (r 6) (r 7) h)) = J68_6 F M (r 8) (r 9) (r 10) h :=
  seq_pt (a := (Code.sub [true, true, true, true, true, true, true, true, true, false] (bodyOf Tryd.prog 68))) (b := (Code.sub [true, true, true, true, true, true, true, true, true, true] (bodyOf Tryd.prog 68))) (T := (fun r h => J68_6 F M (r 8) (r 9) (r 10) h)) (g := (fun r h => J68_4 F M (r 8) (r 9) (r 10) h)) (by kernel_rfl) (J68_5_ok F M) (J68_6_ok F M)
noncomputable def J68_8 (F : CallH) (M : Nat) (v2 : Value) (v8 : Value) (v9 : Value) (h : AH) : Res :=
  bindO (ibin .sub v2 (.int .i64 1)) fun v43 =>
  bindO (xconv .u64 v43) fun v44 =>
  bindO (ibin .shl (.int .u64 1) v44) fun v45 =>
  J68_6 F M v8 v9 v45 h
theorem J68_8_ok (F : CallH) (M : Nat) : ∀ r h, kcode Tryd.prog F 73 M (Code.sub [true, true, true, true, true, true, true, true] (bodyOf Tryd.prog 68)) r h (KX (fun r h => E68 (r 6) (r 7) h) (exitsOf []) (fun r h => E68 (r 6) (r 7) h)) = J68_8 F M (r 2) (r 8) (r 9) h :=
  seq_pt (a := (Code.sub [true, true, true, true, true, true, true, true, false] (bodyOf Tryd.prog 68))) (b := (Code.sub [true, true, true, true, true, true, true, true, true] (bodyOf Tryd.prog 68))) (T := (fun r h => J68_8 F M (r 2) (r 8) (r 9) h)) (g := (fun r h => J68_6 F M (r 8) (r 9) (r 10) h)) (by kernel_rfl) (J68_7_ok F M) (fun r h => by kernel_rfl)
noncomputable def J68_9 (F : CallH) (M : Nat) (v2 : Value) (v8 : Value) (v9 : Value) (h : AH) : Res :=
  bindO (ibin .eql v2 (.int .i64 0)) fun v41 =>
  condO v41 (
  J68_8 F M (.int .i64 64) v8 v9 h) (
  J68_8 F M v2 v8 v9 h)
theorem J68_9_ok (F : CallH) (M : Nat) : ∀ r h, kcode Tryd.prog F 73 M (Code.sub [true, true, true, true, true, true, true, false] (bodyOf Tryd.prog 68)) r h (KX (fun r h => J68_8 F M (r 2) (r 8) (r 9) h) (exitsOf []) (fun r h => E68 (r 6) (r 7) h)) = J68_9 F M (r 2) (r 8) (r 9) h := fun r h => by kernel_rfl
theorem J68_10_ok (F : CallH) (M : Nat) : ∀ r h, kcode Tryd.prog F 73 M (Code.sub [true, true, true, true, true, true, true] (bodyOf Tryd.prog 68)) r h (KX (fun r h => E68 (r 6) (r 7) h) (exitsOf []) (fun r h => E68 (r 6) (r 7) h)) = J68_9 F M (r 2) (r 8) (r 9) h :=
  seq_pt (a := (Code.sub [true, true, true, true, true, true, true, false] (bodyOf Tryd.prog 68))) (b := (Code.sub [true, true, true, true, true, true, true, true] (bodyOf Tryd.prog 68))) (T := (fun r h => J68_9 F M (r 2) (r 8) (r 9) h)) (g := (fun r h => J68_8 F M (r 2) (r 8) (r 9) h)) (by kernel_rfl) (J68_8_ok F M) (J68_9_ok F M)
noncomputable def J68_11 (F : CallH) (M : Nat) (v2 : Value) (v7 : Value) (v8 : Value) (v9 : Value) (h : AH) : Res :=
  bindO (xnilI .neq v7) fun v33 =>
  condO v33 (
  bindO (xeqI Tryd.prog .neq h 27 v7 (.iface 103 (.int .i64 1))) fun v37 =>
  condO v37 (
  E68 (.int .i64 0) v7 h) (
  J68_9 F M v2 v8 v9 h)) (
  J68_9 F M v2 v8 v9 h)
theorem J68_11_ok (F : CallH) (M : Nat) : ∀ r h, kcode Tryd.prog F 73 M (Code.sub [true, true, true, true, true, true, false] (bodyOf Tryd.prog 68)) r h (KX (fun r h => J68_9 F M (r 2) (r 8) (r 9) h) (exitsOf []) (fun r h => E68 (r 6) (r 7) h)) = J68_11 F M (r 2) (r 7) (r 8) (r 9) h := fun r h => by kernel_rfl
theorem J68_12_ok (F : CallH) (M : Nat) : ∀ r h, kcode Tryd.prog F 73 M (Code.sub [true, true, true, true, true, true] (bodyOf Tryd.prog 68)) r h (KX (fun r h => E68 (r 6) (r 7) h) (exitsOf []) (fun r h => E68 (r 6) (r 7) h)) = J68_11 F M (r 2) (r 7) (r 8) (r 9) h :=
  seq_pt (a := (Code.sub [true, true, true, true, true, true, false] (bodyOf Tryd.prog 68))) (b := (Code.sub [true, true, true, true, true, true, true] (bodyOf Tryd.prog 68))) (T := (fun r h => J68_11 F M (r 2) (r 7) (r 8) (r 9) h)) (g := (fun r h => J68_9 F M (r 2) (r 8) (r 9) h)) (by kernel_rfl) (J68_10_ok F M) (J68_11_ok F M)
noncomputable def J68_13 (F : CallH) (M : Nat) (v0 : Value) (v1 : Value) (v2 : Value) (v8 : Value) (h : AH) : Res :=
  bindO (F 80 [v0, v1, v2] h) fun pv29 =>
  bindO (xext 0 pv29.1) fun v30 =>
  bindO (xext 1 pv29.1) fun v31 =>
  J68_11 F M v2 v31 v8 v30 pv29.2
theorem J68_13_ok (F : CallH) (M : Nat) : ∀ r h, kcode Tryd.prog F 73 M (Code.sub [true, true, true, true, true] (bodyOf Tryd.prog 68)) r h (KX (fun r h => E68 (r 6) (r 7) h) (exitsOf []) (fun r h => E68 (r 6) (r 7) h)) = J68_13 F M (r 0) (r 1) (r 2) (r 8) h :=
  seq_pt (a := (Code.sub [true, true, true, true, true, false] (bodyOf Tryd.prog 68))) (b := (Code.sub [true, true, true, true, true, true] (bodyOf Tryd.prog 68))) (T := (fun r h => J68_13 F M (r 0) (r 1) (r 2) (r 8) h)) (g := (fun r h => J68_11 F M (r 2) (r 7) (r 8) (r 9) h)) (by kernel_rfl) (J68_12_ok F M) (fun r h => by kernel_rfl)
noncomputable def J68_14 (F : CallH) (M : Nat) (v0 : Value) (v1 : Value) (v2 : Value) (v8 : Value) (h : AH) : Res :=
  J68_13 F M v0 v1 v2 v8 h
theorem J68_14_ok (F : CallH) (M : Nat) : ∀ r h, kcode Tryd.prog F 73 M (Code.sub [true, true, true, true] (bodyOf Tryd.prog 68)) r h (KX (fun r h => E68 (r 6) (r 7) h) (exitsOf []) (fun r h => E68 (r 6) (r 7) h)) = J68_14 F M (r 0) (r 1) (r 2) (r 8) h :=
  seq_pt (a := (Code.sub [true, true, true, true, false] (bodyOf Tryd.prog 68))) (b := (Code.sub [true, true, true, true, true] (bodyOf Tryd.prog 68))) (T := (fun r h => J68_14 F M (r 0) (r 1) (r 2) (r 8) h)) (g := (fun r h => J68_13 F M (r 0) (r 1) (r 2) (r 8) h)) (by kernel_rfl) (J68_13_ok F M) (fun r h => by kernel_rfl)
noncomputable def J68_15 (F : CallH) (M : Nat) (v0 : Value) (v1 : Value) (v2 : Value) (v8 : Value) (h : AH) : Res :=
  bindO (ixS v0 (.int .i64 0)) fun v16 =>
  bindO (ibin .eql v16 (.int .u8 43)) fun v18 =>
  condO v18 (
  bindO (xslS v0 (some (.int .i64 1)) none) fun v20 =>
  J68_14 F M v20 v1 v2 v8 h) (
  bindO (ibin .eql v16 (.int .u8 45)) fun v22 =>
  condO v22 (
  bindO (xslS v0 (some (.int .i64 1)) none) fun v24 =>
  J68_14 F M v24 v1 v2 (.bool true) h) (
  J68_14 F M v0 v1 v2 v8 h))
theorem J68_15_ok (F : CallH) (M : Nat) : ∀ r h, kcode Tryd.prog F 73 M (Code.sub [true, true, true, false] (bodyOf Tryd.prog 68)) r h (KX (fun r h => J68_14 F M (r 0) (r 1) (r 2) (r 8) h) (exitsOf []) (fun r h => E68 (r 6) (r 7) h)) = J68_15 F M (r 0) (r 1) (r 2) (r 8) h := fun r h => by kernel_rfl
theorem J68_16_ok (F : CallH) (M : Nat) : ∀ r h, kcode Tryd.prog F 73 M (Code.sub [true, true, true] (bodyOf Tryd.prog 68)) r h (KX (fun r h => E68 (r 6) (r 7) h) (exitsOf []) (fun r h => E68 (r 6) (r 7) h)) = J68_15 F M (r 0) (r 1) (r 2) (r 8) h :=
  seq_pt (a := (Code.sub [true, true, true, false] (bodyOf Tryd.prog 68))) (b := (Code.sub [true, true, true, true] (bodyOf Tryd.prog 68))) (T := (fun r h => J68_15 F M (r 0) (r 1) (r 2) (r 8) h)) (g := (fun r h => J68_14 F M (r 0) (r 1) (r 2) (r 8) h)) (by kernel_rfl) (J68_14_ok F M) (J68_15_ok F M)
noncomputable def J68_17 (F : CallH) (M : Nat) (v0 : Value) (v1 : Value) (v2 : Value) (h : AH) : Res :=
  J68_15 F M v0 v1 v2 (.bool false) h
theorem J68_17_ok (F : CallH) (M : Nat) : ∀ r h, kcode Tryd.prog F 73 M (Code.sub [true, true] (bodyOf Tryd.prog 68)) r h (KX (fun r h => E68 (r 6) (r 7) h) (exitsOf []) (fun r h => E68 (r 6) (r 7) h)) = J68_17 F M (r 0) (r 1) (r 2) h :=
  seq_pt (a := (Code.sub [true, true, false] (bodyOf Tryd.prog 68))) (b := (Code.sub [true, true, true] (bodyOf Tryd.prog 68))) (T := (fun r h => J68_17 F M (r 0) (r 1) (r 2) h)) (g := (fun r h => J68_15 F M (r 0) (r 1) (r 2) (r 8) h)) (by kernel_rfl) (J68_16_ok F M) (fun r h => by kernel_rfl)
noncomputable def J68_18 (F : CallH) (M : Nat) (v0 : Value) (v1 : Value) (v2 : Value) (h : AH) : Res :=
  bindO (sbin .eql v0 (str [])) fun v13 =>
  condO v13 (
  E68 (.int .i64 0) (.iface 103 (.int .i64 2)) h) (
  J68_17 F M v0 v1 v2 h)
theorem J68_18_ok (F : CallH) (M : Nat) : ∀ r h, kcode Tryd.prog F 73 M (Code.sub [true, false] (bodyOf Tryd.prog 68)) r h (KX (fun r h => J68_17 F M (r 0) (r 1) (r 2) h) (exitsOf []) (fun r h => E68 (r 6) (r 7) h)) = J68_18 F M (r 0) (r 1) (r 2) h := fun r h => by kernel_rfl
theorem J68_19_ok (F : CallH) (M : Nat) : ∀ r h, kcode Tryd.prog F 73 M (Code.sub [true] (bodyOf Tryd.prog 68)) r h (KX (fun r h => E68 (r 6) (r 7) h) (exitsOf []) (fun r h => E68 (r 6) (r 7) h)) = J68_18 F M (r 0) (r 1) (r 2) h :=
  seq_pt (a := (Code.sub [true, false] (bodyOf Tryd.prog 68))) (b := (Code.sub [true, true] (bodyOf Tryd.prog 68))) (T := (fun r h => J68_18 F M (r 0) (r 1) (r 2) h)) (g := (fun r h => J68_17 F M (r 0) (r 1) (r 2) h)) (by kernel_rfl) (J68_17_ok F M) (J68_18_ok F M)
noncomputable def J68_20 (F : CallH) (M : Nat) (v0 : Value) (v1 : Value) (v2 : Value) (h : AH) : Res :=
  J68_18 F M v0 v1 v2 h
theorem J68_20_ok (F : CallH) (M : Nat) : ∀ r h, kcode Tryd.prog F 73 M (Code.sub [] (bodyOf Tryd.prog 68)) r h (KX (fun r h => E68 (r 6) (r 7) h) (exitsOf []) (fun r h => E68 (r 6) (r 7) h)) = J68_20 F M (r 0) (r 1) (r 2) h :=
  seq_pt (a := (Code.sub [false] (bodyOf Tryd.prog 68))) (b := (Code.sub [true] (bodyOf Tryd.prog 68))) (T := (fun r h => J68_20 F M (r 0) (r 1) (r 2) h)) (g := (fun r h => J68_18 F M (r 0) (r 1) (r 2) h)) (by kernel_rfl) (J68_19_ok F M) (fun r h => by kernel_rfl)
noncomputable def R68 (F : CallH) (M : Nat) (x0 x1 x2 : Value) (h : AH) : Res := J68_20 F M x0 x1 x2 h
theorem R68_ok (F : CallH) (M : Nat) (x0 x1 x2 : Value) (h : AH) : kfn Tryd.prog F M 68 [x0, x1, x2] h = R68 F M x0 x1 x2 h :=
  (fn_pt (N := 73) (E := (fun r h => E68 (r 6) (r 7) h)) (T := (fun r h => J68_20 F M (r 0) (r 1) (r 2) h)) Tryd.func68 (by kernel_rfl) (by kernel_rfl) (fun r h => by kernel_rfl) (J68_20_ok F M)).trans (by kernel_rfl)
/-! ### 72 strconv.bitSizeError -/
noncomputable def E72 (v6 : Value) (h : AH) : Res := some (v6, h)
noncomputable def J72_0 (F : CallH) (M : Nat) (v0 : Value) (v1 : Value) (v2 : Value) (h : AH) : Res :=
  bindO (F 81 [v1] h) fun pv9 =>
  bindO (F 43 [v2] pv9.2) fun pv11 =>
  bindO (sbin .add (str [105, 110, 118, 97, 108, 105, 100, 32, 98, 105, 116, 32, 115, 105, 122, 101, 32]) pv11.1) fun v12 =>
  bindO (F 82 [v12] pv11.2) fun pv13 =>
  bindO (xbuild [(str []), (str []), .nilIface] [(0, 1, v0), (1, 1, pv9.1), (2, 1, pv13.1)]) fun v14 =>
  bindO (xcells 3 v14) fun v15 => newK pv13.2 (.cells v15 3) fun iv15 h4 =>
  E72 (ptrTo iv15) h4
theorem J72_0_ok (F : CallH) (M : Nat) : ∀ r h, kcode Tryd.prog F 16 M (Code.sub [] (bodyOf Tryd.prog 72)) r h (KX (fun r h => E72 (r 6) h) (exitsOf []) (fun r h => E72 (r 6) h)) = J72_0 F M (r 0) (r 1) (r 2) h := fun r h => by kernel_rfl
noncomputable def R72 (F : CallH) (M : Nat) (x0 x1 x2 : Value) (h : AH) : Res := J72_0 F M x0 x1 x2 h
theorem R72_ok (F : CallH) (M : Nat) (x0 x1 x2 : Value) (h : AH) : kfn Tryd.prog F M 72 [x0, x1, x2] h = R72 F M x0 x1 x2 h :=
  (fn_pt (N := 16) (E := (fun r h => E72 (r 6) h)) (T := (fun r h => J72_0 F M (r 0) (r 1) (r 2) h)) Tryd.func72 (by kernel_rfl) (by kernel_rfl) (fun r h => by kernel_rfl) (J72_0_ok F M)).trans (by kernel_rfl)
/-! ### 76 internal/stringslite.IndexByte -/
noncomputable def E76 (v4 : Value) (h : AH) : Res := some (v4, h)
noncomputable def J76_0 (F : CallH) (M : Nat) (v0 : Value) (v1 : Value) (h : AH) : Res :=
  bindO (F 87 [v0, v1] h) fun pv7 =>
  E76 pv7.1 pv7.2
theorem J76_0_ok (F : CallH) (M : Nat) : ∀ r h, kcode Tryd.prog F 8 M (Code.sub [] (bodyOf Tryd.prog 76)) r h (KX (fun r h => E76 (r 4) h) (exitsOf []) (fun r h => E76 (r 4) h)) = J76_0 F M (r 0) (r 1) h := fun r h => by kernel_rfl
noncomputable def R76 (F : CallH) (M : Nat) (x0 x1 : Value) (h : AH) : Res := J76_0 F M x0 x1 h
theorem R76_ok (F : CallH) (M : Nat) (x0 x1 : Value) (h : AH) : kfn Tryd.prog F M 76 [x0, x1] h = R76 F M x0 x1 h :=
  (fn_pt (N := 8) (E := (fun r h => E76 (r 4) h)) (T := (fun r h => J76_0 F M (r 0) (r 1) h)) Tryd.func76 (by kernel_rfl) (by kernel_rfl) (fun r h => by kernel_rfl) (J76_0_ok F M)).trans (by kernel_rfl)
/-! ### 80 internal/strconv.ParseUint -/
noncomputable def E80 (v6 : Value) (v7 : Value) (h : AH) : Res := some ((.tuple #[v6, v7]), h)
noncomputable def J80_0 (F : CallH) (M : Nat) (v13 : Value) (h : AH) : Res :=
  E80 v13 .nilIface h
theorem J80_0_ok (F : CallH) (M : Nat) : ∀ r h, kcode Tryd.prog F 172 M (Code.sub [true, true, true, true, true, true, true, true, true, true, true, true, true] (bodyOf Tryd.prog 80)) r h (KX (fun r h => E80 (r 6) (r 7) h) (exitsOf []) (fun r h => E80 (r 6) (r 7) h)) = J80_0 F M (r 13) h := fun r h => by kernel_rfl
noncomputable def J80_1 (F : CallH) (M : Nat) (v9 : Value) (v12 : Value) (v13 : Value) (h : AH) : Res :=
  condO v12 (
  bindO (F 90 [v9] h) fun pv167 =>
  bindO (xnot pv167.1) fun v168 =>
  condO v168 (
  E80 (.int .u64 0) (.iface 103 (.int .i64 2)) pv167.2) (
  J80_0 F M v13 pv167.2)) (
  J80_0 F M v13 h)
theorem J80_1_ok (F : CallH) (M : Nat) : ∀ r h, kcode Tryd.prog F 172 M (Code.sub [true, true, true, true, true, true, true, true, true, true, true, true, false] (bodyOf Tryd.prog 80)) r h (KX (fun r h => J80_0 F M (r 13) h) (exitsOf []) (fun r h => E80 (r 6) (r 7) h)) = J80_1 F M (r 9) (r 12) (r 13) h := fun r h => by kernel_rfl
theorem J80_2_ok (F : CallH) (M : Nat) : ∀ r h, kcode Tryd.prog F 172 M (Code.sub [true, true, true, true, true, true, true, true, true, true, true, true] (bodyOf Tryd.prog 80)) r h (KX (fun r h => E80 (r 6) (r 7) h) (exitsOf []) (fun r h => E80 (r 6) (r 7) h)) = J80_1 F M (r 9) (r 12) (r 13) h :=
  seq_pt (a := (Code.sub [true, true, true, true, true, true, true, true, true, true, true, true, false] (bodyOf Tryd.prog 80))) (b := (Code.sub [true, true, true, true, true, true, true, true, true, true, true, true, true] (bodyOf Tryd.prog 80))) (T := (fun r h => J80_1 F M (r 9) (r 12) (r 13) h)) (g := (fun r h => J80_0 F M (r 13) h)) (by kernel_rfl) (J80_0_ok F M) (J80_1_ok F M)
noncomputable def J80_4 (F : CallH) (M : Nat) (L3 : Value → Value → Value → Value → Value → Value → Value → Value → Value → Value → AH → Res) (v1 : Value) (v8 : Value) (v9 : Value) (v10 : Value) (v11 : Value) (v12 : Value) (v13 : Value) (v99 : Value) (v100 : Value) (v101 : Value) (h : AH) : Res :=
  bindO (ibin .add v101 (.int .i64 1)) fun v163 =>
  L3 v1 v8 v9 v10 v11 v12 v13 v99 v100 v163 h
theorem J80_4_ok (F : CallH) (M : Nat) (L3 : Value → Value → Value → Value → Value → Value → Value → Value → Value → Value → AH → Res) : ∀ r h, kcode Tryd.prog F 172 M (Code.sub [true, true, true, true, true, true, true, true, true, true, true, false, true, false, false, true, true, true] (bodyOf Tryd.prog 80)) r h (KX (fun r h => L3 (r 1) (r 8) (r 9) (r 10) (r 11) (r 12) (r 13) (r 99) (r 100) (r 101) h) (exitsOf [(3, (fun r h => J80_1 F M (r 9) (r 12) (r 13) h))]) (fun r h => E80 (r 6) (r 7) h)) = J80_4 F M L3 (r 1) (r 8) (r 9) (r 10) (r 11) (r 12) (r 13) (r 99) (r 100) (r 101) h := fun r h => by kernel_rfl
noncomputable def J80_5 (F : CallH) (M : Nat) (L3 : Value → Value → Value → Value → Value → Value → Value → Value → Value → Value → AH → Res) (v1 : Value) (v8 : Value) (v9 : Value) (v10 : Value) (v11 : Value) (v12 : Value) (v17 : Value) (v99 : Value) (v100 : Value) (v101 : Value) (h : AH) : Res :=
  J80_4 F M L3 v1 v8 v9 v10 v11 v12 v17 v99 v100 v101 h
theorem J80_5_ok (F : CallH) (M : Nat) (L3 : Value → Value → Value → Value → Value → Value → Value → Value → Value → Value → AH → Res) : ∀ r h, kcode Tryd.prog F 172 M (Code.sub [true, true, true, true, true, true, true, true, true, true, true, false, true, false, false, true, true, false, false, true, true, true, true, true, true, true, true] (bodyOf Tryd.prog 80)) r h (KX (fun r h => J80_4 F M L3 (r 1) (r 8) (r 9) (r 10) (r 11) (r 12) (r 13) (r 99) (r 100) (r 101) h) (exitsOf [(4, (fun r h => J80_4 F M L3 (r 1) (r 8) (r 9) (r 10) (r 11) (r 12) (r 13) (r 99) (r 100) (r 101) h)), (3, (fun r h => J80_1 F M (r 9) (r 12) (r 13) h))]) (fun r h => E80 (r 6) (r 7) h)) = J80_5 F M L3 (r 1) (r 8) (r 9) (r 10) (r 11) (r 12) (r 17) (r 99) (r 100) (r 101) h := fun r h => by kernel_rfl
noncomputable def J80_6 (F : CallH) (M : Nat) (L3 : Value → Value → Value → Value → Value → Value → Value → Value → Value → Value → AH → Res) (v1 : Value) (v8 : Value) (v9 : Value) (v10 : Value) (v11 : Value) (v12 : Value) (v13 : Value) (v17 : Value) (v99 : Value) (v100 : Value) (v101 : Value) (h : AH) : Res :=
  bindO (ibin .lss v17 v13) fun v154 =>
  condO v154 (
  E80 v11 (.iface 103 (.int .i64 1)) h) (
  bindO (ibin .gtr v17 v11) fun v158 =>
  condO v158 (
  E80 v11 (.iface 103 (.int .i64 1)) h) (
  J80_5 F M L3 v1 v8 v9 v10 v11 v12 v17 v99 v100 v101 h))
theorem J80_6_ok (F : CallH) (M : Nat) (L3 : Value → Value → Value → Value → Value → Value → Value → Value → Value → Value → AH → Res) : ∀ r h, kcode Tryd.prog F 172 M (Code.sub [true, true, true, true, true, true, true, true, true, true, true, false, true, false, false, true, true, false, false, true, true, true, true, true, true, true, false] (bodyOf Tryd.prog 80)) r h (KX (fun r h => J80_5 F M L3 (r 1) (r 8) (r 9) (r 10) (r 11) (r 12) (r 17) (r 99) (r 100) (r 101) h) (exitsOf [(4, (fun r h => J80_4 F M L3 (r 1) (r 8) (r 9) (r 10) (r 11) (r 12) (r 13) (r 99) (r 100) (r 101) h)), (3, (fun r h => J80_1 F M (r 9) (r 12) (r 13) h))]) (fun r h => E80 (r 6) (r 7) h)) = J80_6 F M L3 (r 1) (r 8) (r 9) (r 10) (r 11) (r 12) (r 13) (r 17) (r 99) (r 100) (r 101) h := fun r h => by kernel_rfl
theorem J80_7_ok (F : CallH) (M : Nat) (L3 : Value → Value → Value → Value → Value → Value → Value → Value → Value → Value → AH → Res) : ∀ r h, kcode Tryd.prog F 172 M (Code.sub [true, true, true, true, true, true, true, true, true, true, true, false, true, false, false, true, true, false, false, true, true, true, true, true, true, true] (bodyOf Tryd.prog 80)) r h (KX (fun r h => J80_4 F M L3 (r 1) (r 8) (r 9) (r 10) (r 11) (r 12) (r 13) (r 99) (r 100) (r 101) h) (exitsOf [(4, (fun r h => J80_4 F M L3 (r 1) (r 8) (r 9) (r 10) (r 11) (r 12) (r 13) (r 99) (r 100) (r 101) h)), (3, (fun r h => J80_1 F M (r 9) (r 12) (r 13) h))]) (fun r h => E80 (r 6) (r 7) h)) = J80_6 F M L3 (r 1) (r 8) (r 9) (r 10) (r 11) (r 12) (r 13) (r 17) (r 99) (r 100) (r 101) h :=
  seq_pt (a := (Code.sub [true, true, true, true, true, true, true, true, true, true, true, false, true, false, false, true, true, false, false, true, true, true, true, true, true, true, false] (bodyOf Tryd.prog 80))) (b := (Code.sub [true, true, true, true, true, true, true, true, true, true, true, false, true, false, false, true, true, false, false, true, true, true, true, true, true, true, true] (bodyOf Tryd.prog 80))) (T := (fun r h => J80_6 F M L3 (r 1) (r 8) (r 9) (r 10) (r 11) (r 12) (r 13) (r 17) (r 99) (r 100) (r 101) h)) (g := (fun r h => J80_5 F M L3 (r 1) (r 8) (r 9) (r 10) (r 11) (r 12) (r 17) (r 99) (r 100) (r 101) h)) (by kernel_rfl) (J80_5_ok F M L3) (J80_6_ok F M L3)
noncomputable def J80_8 (F : CallH) (M : Nat) (L3 : Value → Value → Value → Value → Value → Value → Value → Value → Value → Value → AH → Res) (v1 : Value) (v8 : Value) (v9 : Value) (v10 : Value) (v11 : Value) (v12 : Value) (v13 : Value) (v16 : Value) (v99 : Value) (v100 : Value) (v101 : Value) (h : AH) : Res :=
  bindO (xconv .u64 v16) fun v150 =>
  bindO (ibin .add v13 v150) fun v151 =>
  J80_6 F M L3 v1 v8 v9 v10 v11 v12 v13 v151 v99 v100 v101 h
theorem J80_8_ok (F : CallH) (M : Nat) (L3 : Value → Value → Value → Value → Value → Value → Value → Value → Value → Value → AH → Res) : ∀ r h, kcode Tryd.prog F 172 M (Code.sub [true, true, true, true, true, true, true, true, true, true, true, false, true, false, false, true, true, false, false, true, true, true, true, true, true] (bodyOf Tryd.prog 80)) r h (KX (fun r h => J80_4 F M L3 (r 1) (r 8) (r 9) (r 10) (r 11) (r 12) (r 13) (r 99) (r 100) (r 101) h) (exitsOf [(4, (fun r h => J80_4 F M L3 (r 1) (r 8) (r 9) (r 10) (r 11) (r 12) (r 13) (r 99) (r 100) (r 101) h)), (3, (fun r h => J80_1 F M (r 9) (r 12) (r 13) h))]) (fun r h => E80 (r 6) (r 7) h)) = J80_8 F M L3 (r 1) (r 8) (r 9) (r 10) (r 11) (r 12) (r 13) (r 16) (r 99) (r 100) (r 101) h :=
  seq_pt (a := (Code.sub [true, true, true, true, true, true, true, true, true, true, true, false, true, false, false, true, true, false, false, true, true, true, true, true, true, false] (bodyOf Tryd.prog 80))) (b := (Code.sub [true, true, true, true, true, true, true, true, true, true, true, false, true, false, false, true, true, false, false, true, true, true, true, true, true, true] (bodyOf Tryd.prog 80))) (T := (fun r h => J80_8 F M L3 (r 1) (r 8) (r 9) (r 10) (r 11) (r 12) (r 13) (r 16) (r 99) (r 100) (r 101) h)) (g := (fun r h => J80_6 F M L3 (r 1) (r 8) (r 9) (r 10) (r 11) (r 12) (r 13) (r 17) (r 99) (r 100) (r 101) h)) (by kernel_rfl) (J80_7_ok F M L3) (fun r h => by kernel_rfl)
noncomputable def J80_9 (F : CallH) (M : Nat) (L3 : Value → Value → Value → Value → Value → Value → Value → Value → Value → Value → AH → Res) (v1 : Value) (v8 : Value) (v9 : Value) (v10 : Value) (v11 : Value) (v12 : Value) (v13 : Value) (v16 : Value) (v99 : Value) (v100 : Value) (v101 : Value) (h : AH) : Res :=
  bindO (xconv .u64 v1) fun v146 =>
  bindO (ibin .mul v13 v146) fun v147 =>
  J80_8 F M L3 v1 v8 v9 v10 v11 v12 v147 v16 v99 v100 v101 h
theorem J80_9_ok (F : CallH) (M : Nat) (L3 : Value → Value → Value → Value → Value → Value → Value → Value → Value → Value → AH → Res) : ∀ r h, kcode Tryd.prog F 172 M (Code.sub [true, true, true, true, true, true, true, true, true, true, true, false, true, false, false, true, true, false, false, true, true, true, true, true] (bodyOf Tryd.prog 80)) r h (KX (fun r h => J80_4 F M L3 (r 1) (r 8) (r 9) (r 10) (r 11) (r 12) (r 13) (r 99) (r 100) (r 101) h) (exitsOf [(4, (fun r h => J80_4 F M L3 (r 1) (r 8) (r 9) (r 10) (r 11) (r 12) (r 13) (r 99) (r 100) (r 101) h)), (3, (fun r h => J80_1 F M (r 9) (r 12) (r 13) h))]) (fun r h => E80 (r 6) (r 7) h)) = J80_9 F M L3 (r 1) (r 8) (r 9) (r 10) (r 11) (r 12) (r 13) (r 16) (r 99) (r 100) (r 101) h :=
  seq_pt (a := (Code.sub [true, true, true, true, true, true, true, true, true, true, true, false, true, false, false, true, true, false, false, true, true, true, true, true, false] (bodyOf Tryd.prog 80))) (b := (Code.sub [true, true, true, true, true, true, true, true, true, true, true, false, true, false, false, true, true, false, false, true, true, true, true, true, true] (bodyOf Tryd.prog 80))) (T := (fun r h => J80_9 F M L3 (r 1) (r 8) (r 9) (r 10) (r 11) (r 12) (r 13) (r 16) (r 99) (r 100) (r 101) h)) (g := (fun r h => J80_8 F M L3 (r 1) (r 8) (r 9) (r 10) (r 11) (r 12) (r 13) (r 16) (r 99) (r 100) (r 101) h)) (by kernel_rfl) (J80_8_ok F M L3) (fun r h => by kernel_rfl)
noncomputable def J80_10 (F : CallH) (M : Nat) (L3 : Value → Value → Value → Value → Value → Value → Value → Value → Value → Value → AH → Res) (v1 : Value) (v8 : Value) (v9 : Value) (v10 : Value) (v11 : Value) (v12 : Value) (v13 : Value) (v16 : Value) (v99 : Value) (v100 : Value) (v101 : Value) (h : AH) : Res :=
  bindO (ibin .geq v13 v10) fun v141 =>
  condO v141 (
  E80 v11 (.iface 103 (.int .i64 1)) h) (
  J80_9 F M L3 v1 v8 v9 v10 v11 v12 v13 v16 v99 v100 v101 h)
theorem J80_10_ok (F : CallH) (M : Nat) (L3 : Value → Value → Value → Value → Value → Value → Value → Value → Value → Value → AH → Res) : ∀ r h, kcode Tryd.prog F 172 M (Code.sub [true, true, true, true, true, true, true, true, true, true, true, false, true, false, false, true, true, false, false, true, true, true, true, false] (bodyOf Tryd.prog 80)) r h (KX (fun r h => J80_9 F M L3 (r 1) (r 8) (r 9) (r 10) (r 11) (r 12) (r 13) (r 16) (r 99) (r 100) (r 101) h) (exitsOf [(4, (fun r h => J80_4 F M L3 (r 1) (r 8) (r 9) (r 10) (r 11) (r 12) (r 13) (r 99) (r 100) (r 101) h)), (3, (fun r h => J80_1 F M (r 9) (r 12) (r 13) h))]) (fun r h => E80 (r 6) (r 7) h)) = J80_10 F M L3 (r 1) (r 8) (r 9) (r 10) (r 11) (r 12) (r 13) (r 16) (r 99) (r 100) (r 101) h := fun r h => by kernel_rfl
theorem J80_11_ok (F : CallH) (M : Nat) (L3 : Value → Value → Value → Value → Value → Value → Value → Value → Value → Value → AH → Res) : ∀ r h, kcode Tryd.prog F 172 M (Code.sub [true, true, true, true, true, true, true, true, true, true, true, false, true, false, false, true, true, false, false, true, true, true, true] (bodyOf Tryd.prog 80)) r h (KX (fun r h => J80_4 F M L3 (r 1) (r 8) (r 9) (r 10) (r 11) (r 12) (r 13) (r 99) (r 100) (r 101) h) (exitsOf [(4, (fun r h => J80_4 F M L3 (r 1) (r 8) (r 9) (r 10) (r 11) (r 12) (r 13) (r 99) (r 100) (r 101) h)), (3, (fun r h => J80_1 F M (r 9) (r 12) (r 13) h))]) (fun r h => E80 (r 6) (r 7) h)) = J80_10 F M L3 (r 1) (r 8) (r 9) (r 10) (r 11) (r 12) (r 13) (r 16) (r 99) (r 100) (r 101) h :=
  seq_pt (a := (Code.sub [true, true, true, true, true, true, true, true, true, true, true, false, true, false, false, true, true, false, false, true, true, true, true, false] (bodyOf Tryd.prog 80))) (b := (Code.sub [true, true, true, true, true, true, true, true, true, true, true, false, true, false, false, true, true, false, false, true, true, true, true, true] (bodyOf Tryd.prog 80))) (T := (fun r h => J80_10 F M L3 (r 1) (r 8) (r 9) (r 10) (r 11) (r 12) (r 13) (r 16) (r 99) (r 100) (r 101) h)) (g := (fun r h => J80_9 F M L3 (r 1) (r 8) (r 9) (r 10) (r 11) (r 12) (r 13) (r 16) (r 99) (r 100) (r 101) h)) (by kernel_rfl) (J80_9_ok F M L3) (J80_10_ok F M L3)
noncomputable def J80_12 (F : CallH) (M : Nat) (L3 : Value → Value → Value → Value → Value → Value → Value → Value → Value → Value → AH → Res) (v1 : Value) (v8 : Value) (v9 : Value) (v10 : Value) (v11 : Value) (v12 : Value) (v13 : Value) (v16 : Value) (v99 : Value) (v100 : Value) (v101 : Value) (h : AH) : Res :=
  bindO (xconv .u8 v1) fun v136 =>
  bindO (ibin .geq v16 v136) fun v137 =>
  condO v137 (
  E80 (.int .u64 0) (.iface 103 (.int .i64 2)) h) (
  J80_10 F M L3 v1 v8 v9 v10 v11 v12 v13 v16 v99 v100 v101 h)
theorem J80_12_ok (F : CallH) (M : Nat) (L3 : Value → Value → Value → Value → Value → Value → Value → Value → Value → Value → AH → Res) : ∀ r h, kcode Tryd.prog F 172 M (Code.sub [true, true, true, true, true, true, true, true, true, true, true, false, true, false, false, true, true, false, false, true, true, true, false] (bodyOf Tryd.prog 80)) r h (KX (fun r h => J80_10 F M L3 (r 1) (r 8) (r 9) (r 10) (r 11) (r 12) (r 13) (r 16) (r 99) (r 100) (r 101) h) (exitsOf [(4, (fun r h => J80_4 F M L3 (r 1) (r 8) (r 9) (r 10) (r 11) (r 12) (r 13) (r 99) (r 100) (r 101) h)), (3, (fun r h => J80_1 F M (r 9) (r 12) (r 13) h))]) (fun r h => E80 (r 6) (r 7) h)) = J80_12 F M L3 (r 1) (r 8) (r 9) (r 10) (r 11) (r 12) (r 13) (r 16) (r 99) (r 100) (r 101) h := fun r h => by kernel_rfl
theorem J80_13_ok (F : CallH) (M : Nat) (L3 : Value → Value → Value → Value → Value → Value → Value → Value → Value → Value → AH → Res) : ∀ r h, kcode Tryd.prog F 172 M (Code.sub [true, true, true, true, true, true, true, true, true, true, true, false, true, false, false, true, true, false, false, true, true, true] (bodyOf Tryd.prog 80)) r h (KX (fun r h => J80_4 F M L3 (r 1) (r 8) (r 9) (r 10) (r 11) (r 12) (r 13) (r 99) (r 100) (r 101) h) (exitsOf [(4, (fun r h => J80_4 F M L3 (r 1) (r 8) (r 9) (r 10) (r 11) (r 12) (r 13) (r 99) (r 100) (r 101) h)), (3, (fun r h => J80_1 F M (r 9) (r 12) (r 13) h))]) (fun r h => E80 (r 6) (r 7) h)) = J80_12 F M L3 (r 1) (r 8) (r 9) (r 10) (r 11) (r 12) (r 13) (r 16) (r 99) (r 100) (r 101) h :=
  seq_pt (a := (Code.sub [true, true, true, true, true, true, true, true, true, true, true, false, true, false, false, true, true, false, false, true, true, true, false] (bodyOf Tryd.prog 80))) (b := (Code.sub [true, true, true, true, true, true, true, true, true, true, true, false, true, false, false, true, true, false, false, true, true, true, true] (bodyOf Tryd.prog 80))) (T := (fun r h => J80_12 F M L3 (r 1) (r 8) (r 9) (r 10) (r 11) (r 12) (r 13) (r 16) (r 99) (r 100) (r 101) h)) (g := (fun r h => J80_10 F M L3 (r 1) (r 8) (r 9) (r 10) (r 11) (r 12) (r 13) (r 16) (r 99) (r 100) (r 101) h)) (by kernel_rfl) (J80_11_ok F M L3) (J80_12_ok F M L3)
noncomputable def J80_14 (F : CallH) (M : Nat) (L3 : Value → Value → Value → Value → Value → Value → Value → Value → Value → Value → AH → Res) (v1 : Value) (v8 : Value) (v9 : Value) (v10 : Value) (v11 : Value) (v12 : Value) (v13 : Value) (v15 : Value) (v99 : Value) (v100 : Value) (v101 : Value) (h : AH) : Res :=
  bindO (ibin .eql v15 (.int .u8 95)) fun v108 =>
  condO v108 (
  condO v8 (
  J80_4 F M L3 v1 v8 v9 v10 v11 (.bool true) v13 v99 v100 v101 h) (
  bindO (ibin .leq (.int .u8 48) v15) fun v114 =>
  condO v114 (
  bindO (ibin .leq v15 (.int .u8 57)) fun v117 =>
  condO v117 (
  bindO (ibin .sub v15 (.int .u8 48)) fun v120 =>
  J80_12 F M L3 v1 v8 v9 v10 v11 v12 v13 v120 v99 v100 v101 h) (
  bindO (F 89 [v15] h) fun pv123 =>
  bindO (ibin .leq (.int .u8 97) pv123.1) fun v124 =>
  condO v124 (
  bindO (F 89 [v15] pv123.2) fun pv127 =>
  bindO (ibin .leq pv127.1 (.int .u8 122)) fun v128 =>
  condO v128 (
  bindO (F 89 [v15] pv127.2) fun pv131 =>
  bindO (ibin .sub pv131.1 (.int .u8 97)) fun v132 =>
  bindO (ibin .add v132 (.int .u8 10)) fun v133 =>
  J80_12 F M L3 v1 v8 v9 v10 v11 v12 v13 v133 v99 v100 v101 pv131.2) (
  E80 (.int .u64 0) (.iface 103 (.int .i64 2)) pv127.2)) (
  E80 (.int .u64 0) (.iface 103 (.int .i64 2)) pv123.2))) (
  bindO (F 89 [v15] h) fun pv123 =>
  bindO (ibin .leq (.int .u8 97) pv123.1) fun v124 =>
  condO v124 (
  bindO (F 89 [v15] pv123.2) fun pv127 =>
  bindO (ibin .leq pv127.1 (.int .u8 122)) fun v128 =>
  condO v128 (
  bindO (F 89 [v15] pv127.2) fun pv131 =>
  bindO (ibin .sub pv131.1 (.int .u8 97)) fun v132 =>
  bindO (ibin .add v132 (.int .u8 10)) fun v133 =>
  J80_12 F M L3 v1 v8 v9 v10 v11 v12 v13 v133 v99 v100 v101 pv131.2) (
  E80 (.int .u64 0) (.iface 103 (.int .i64 2)) pv127.2)) (
  E80 (.int .u64 0) (.iface 103 (.int .i64 2)) pv123.2)))) (
  bindO (ibin .leq (.int .u8 48) v15) fun v114 =>
  condO v114 (
  bindO (ibin .leq v15 (.int .u8 57)) fun v117 =>
  condO v117 (
  bindO (ibin .sub v15 (.int .u8 48)) fun v120 =>
  J80_12 F M L3 v1 v8 v9 v10 v11 v12 v13 v120 v99 v100 v101 h) (
  bindO (F 89 [v15] h) fun pv123 =>
  bindO (ibin .leq (.int .u8 97) pv123.1) fun v124 =>
  condO v124 (
  bindO (F 89 [v15] pv123.2) fun pv127 =>
  bindO (ibin .leq pv127.1 (.int .u8 122)) fun v128 =>
  condO v128 (
  bindO (F 89 [v15] pv127.2) fun pv131 =>
  bindO (ibin .sub pv131.1 (.int .u8 97)) fun v132 =>
  bindO (ibin .add v132 (.int .u8 10)) fun v133 =>
  J80_12 F M L3 v1 v8 v9 v10 v11 v12 v13 v133 v99 v100 v101 pv131.2) (
  E80 (.int .u64 0) (.iface 103 (.int .i64 2)) pv127.2)) (
  E80 (.int .u64 0) (.iface 103 (.int .i64 2)) pv123.2))) (
  bindO (F 89 [v15] h) fun pv123 =>
  bindO (ibin .leq (.int .u8 97) pv123.1) fun v124 =>
  condO v124 (
  bindO (F 89 [v15] pv123.2) fun pv127 =>
  bindO (ibin .leq pv127.1 (.int .u8 122)) fun v128 =>
  condO v128 (
  bindO (F 89 [v15] pv127.2) fun pv131 =>
  bindO (ibin .sub pv131.1 (.int .u8 97)) fun v132 =>
  bindO (ibin .add v132 (.int .u8 10)) fun v133 =>
  J80_12 F M L3 v1 v8 v9 v10 v11 v12 v13 v133 v99 v100 v101 pv131.2) (
  E80 (.int .u64 0) (.iface 103 (.int .i64 2)) pv127.2)) (
  E80 (.int .u64 0) (.iface 103 (.int .i64 2)) pv123.2)))
theorem J80_14_ok (F : CallH) (M : Nat) (L3 : Value → Value → Value → Value → Value → Value → Value → Value → Value → Value → AH → Res) : ∀ r h, kcode Tryd.prog F 172 M (Code.sub [true, true, true, true, true, true, true, true, true, true, true, false, true, false, false, true, true, false, false, true, true, false] (bodyOf Tryd.prog 80)) r h (KX (fun r h => J80_12 F M L3 (r 1) (r 8) (r 9) (r 10) (r 11) (r 12) (r 13) (r 16) (r 99) (r 100) (r 101) h) (exitsOf [(4, (fun r h => J80_4 F M L3 (r 1) (r 8) (r 9) (r 10) (r 11) (r 12) (r 13) (r 99) (r 100) (r 101) h)), (3, (fun r h => J80_1 F M (r 9) (r 12) (r 13) h))]) (fun r h => E80 (r 6) (r 7) h)) = J80_14 F M L3 (r 1) (r 8) (r 9) (r 10) (r 11) (r 12) (r 13) (r 15) (r 99) (r 100) (r 101) h := fun r h => by kernel_rfl
theorem J80_15_ok (F : CallH) (M : Nat) (L3 : Value → Value → Value → Value → Value → Value → Value → Value → Value → Value → AH → Res) : ∀ r h, kcode Tryd.prog F 172 M (Code.sub [true, true, true, true, true, true, true, true, true, true, true, false, true, false, false, true, true, false, false, true, true] (bodyOf Tryd.prog 80)) r h (KX (fun r h => J80_4 F M L3 (r 1) (r 8) (r 9) (r 10) (r 11) (r 12) (r 13) (r 99) (r 100) (r 101) h) (exitsOf [(4, (fun r h => J80_4 F M L3 (r 1) (r 8) (r 9) (r 10) (r 11) (r 12) (r 13) (r 99) (r 100) (r 101) h)), (3, (fun r h => J80_1 F M (r 9) (r 12) (r 13) h))]) (fun r h => E80 (r 6) (r 7) h)) = J80_14 F M L3 (r 1) (r 8) (r 9) (r 10) (r 11) (r 12) (r 13) (r 15) (r 99) (r 100) (r 101) h :=
  seq_pt (a := (Code.sub [true, true, true, true, true, true, true, true, true, true, true, false, true, false, false, true, true, false, false, true, true, false] (bodyOf Tryd.prog 80))) (b := (Code.sub [true, true, true, true, true, true, true, true, true, true, true, false, true, false, false, true, true, false, false, true, true, true] (bodyOf Tryd.prog 80))) (T := (fun r h => J80_14 F M L3 (r 1) (r 8) (r 9) (r 10) (r 11) (r 12) (r 13) (r 15) (r 99) (r 100) (r 101) h)) (g := (fun r h => J80_12 F M L3 (r 1) (r 8) (r 9) (r 10) (r 11) (r 12) (r 13) (r 16) (r 99) (r 100) (r 101) h)) (by kernel_rfl) (J80_13_ok F M L3) (J80_14_ok F M L3)
noncomputable def J80_16 (F : CallH) (M : Nat) (L3 : Value → Value → Value → Value → Value → Value → Value → Value → Value → Value → AH → Res) (v1 : Value) (v8 : Value) (v9 : Value) (v10 : Value) (v11 : Value) (v12 : Value) (v13 : Value) (v15 : Value) (v99 : Value) (v100 : Value) (v101 : Value) (h : AH) : Res :=
  J80_14 F M L3 v1 v8 v9 v10 v11 v12 v13 v15 v99 v100 v101 h
theorem J80_16_ok (F : CallH) (M : Nat) (L3 : Value → Value → Value → Value → Value → Value → Value → Value → Value → Value → AH → Res) : ∀ r h, kcode Tryd.prog F 172 M (Code.sub [true, true, true, true, true, true, true, true, true, true, true, false, true, false, false, true, true, false, false, true] (bodyOf Tryd.prog 80)) r h (KX (fun r h => J80_4 F M L3 (r 1) (r 8) (r 9) (r 10) (r 11) (r 12) (r 13) (r 99) (r 100) (r 101) h) (exitsOf [(4, (fun r h => J80_4 F M L3 (r 1) (r 8) (r 9) (r 10) (r 11) (r 12) (r 13) (r 99) (r 100) (r 101) h)), (3, (fun r h => J80_1 F M (r 9) (r 12) (r 13) h))]) (fun r h => E80 (r 6) (r 7) h)) = J80_16 F M L3 (r 1) (r 8) (r 9) (r 10) (r 11) (r 12) (r 13) (r 15) (r 99) (r 100) (r 101) h :=
  seq_pt (a := (Code.sub [true, true, true, true, true, true, true, true, true, true, true, false, true, false, false, true, true, false, false, true, false] (bodyOf Tryd.prog 80))) (b := (Code.sub [true, true, true, true, true, true, true, true, true, true, true, false, true, false, false, true, true, false, false, true, true] (bodyOf Tryd.prog 80))) (T := (fun r h => J80_16 F M L3 (r 1) (r 8) (r 9) (r 10) (r 11) (r 12) (r 13) (r 15) (r 99) (r 100) (r 101) h)) (g := (fun r h => J80_14 F M L3 (r 1) (r 8) (r 9) (r 10) (r 11) (r 12) (r 13) (r 15) (r 99) (r 100) (r 101) h)) (by kernel_rfl) (J80_15_ok F M L3) (fun r h => by kernel_rfl)
noncomputable def J80_17 (F : CallH) (M : Nat) (L3 : Value → Value → Value → Value → Value → Value → Value → Value → Value → Value → AH → Res) (v1 : Value) (v8 : Value) (v9 : Value) (v10 : Value) (v11 : Value) (v12 : Value) (v13 : Value) (v99 : Value) (v100 : Value) (v101 : Value) (h : AH) : Res :=
  bindO (xia 1 v99 v101) fun v103 =>
  bindO (ld1 h v103) fun v104 =>
  J80_16 F M L3 v1 v8 v9 v10 v11 v12 v13 v104 v99 v100 v101 h
theorem J80_17_ok (F : CallH) (M : Nat) (L3 : Value → Value → Value → Value → Value → Value → Value → Value → Value → Value → AH → Res) : ∀ r h, kcode Tryd.prog F 172 M (Code.sub [true, true, true, true, true, true, true, true, true, true, true, false, true, false, false, true, true, false, false] (bodyOf Tryd.prog 80)) r h (KX (fun r h => J80_4 F M L3 (r 1) (r 8) (r 9) (r 10) (r 11) (r 12) (r 13) (r 99) (r 100) (r 101) h) (exitsOf [(4, (fun r h => J80_4 F M L3 (r 1) (r 8) (r 9) (r 10) (r 11) (r 12) (r 13) (r 99) (r 100) (r 101) h)), (3, (fun r h => J80_1 F M (r 9) (r 12) (r 13) h))]) (fun r h => E80 (r 6) (r 7) h)) = J80_17 F M L3 (r 1) (r 8) (r 9) (r 10) (r 11) (r 12) (r 13) (r 99) (r 100) (r 101) h :=
  seq_pt (a := (Code.sub [true, true, true, true, true, true, true, true, true, true, true, false, true, false, false, true, true, false, false, false] (bodyOf Tryd.prog 80))) (b := (Code.sub [true, true, true, true, true, true, true, true, true, true, true, false, true, false, false, true, true, false, false, true] (bodyOf Tryd.prog 80))) (T := (fun r h => J80_17 F M L3 (r 1) (r 8) (r 9) (r 10) (r 11) (r 12) (r 13) (r 99) (r 100) (r 101) h)) (g := (fun r h => J80_16 F M L3 (r 1) (r 8) (r 9) (r 10) (r 11) (r 12) (r 13) (r 15) (r 99) (r 100) (r 101) h)) (by kernel_rfl) (J80_16_ok F M L3) (fun r h => by kernel_rfl)
theorem J80_18_ok (F : CallH) (M : Nat) (L3 : Value → Value → Value → Value → Value → Value → Value → Value → Value → Value → AH → Res) : ∀ r h, kcode Tryd.prog F 172 M (Code.sub [true, true, true, true, true, true, true, true, true, true, true, false, true, false, false, true, true, false] (bodyOf Tryd.prog 80)) r h (KX (fun r h => J80_4 F M L3 (r 1) (r 8) (r 9) (r 10) (r 11) (r 12) (r 13) (r 99) (r 100) (r 101) h) (exitsOf [(3, (fun r h => J80_1 F M (r 9) (r 12) (r 13) h))]) (fun r h => E80 (r 6) (r 7) h)) = J80_17 F M L3 (r 1) (r 8) (r 9) (r 10) (r 11) (r 12) (r 13) (r 99) (r 100) (r 101) h :=
  block_pt (b := (Code.sub [true, true, true, true, true, true, true, true, true, true, true, false, true, false, false, true, true, false, false] (bodyOf Tryd.prog 80))) (T := (fun r h => J80_17 F M L3 (r 1) (r 8) (r 9) (r 10) (r 11) (r 12) (r 13) (r 99) (r 100) (r 101) h)) (id := 4) (by kernel_rfl) (J80_17_ok F M L3)
theorem J80_19_ok (F : CallH) (M : Nat) (L3 : Value → Value → Value → Value → Value → Value → Value → Value → Value → Value → AH → Res) : ∀ r h, kcode Tryd.prog F 172 M (Code.sub [true, true, true, true, true, true, true, true, true, true, true, false, true, false, false, true, true] (bodyOf Tryd.prog 80)) r h (KX (fun r h => L3 (r 1) (r 8) (r 9) (r 10) (r 11) (r 12) (r 13) (r 99) (r 100) (r 101) h) (exitsOf [(3, (fun r h => J80_1 F M (r 9) (r 12) (r 13) h))]) (fun r h => E80 (r 6) (r 7) h)) = J80_17 F M L3 (r 1) (r 8) (r 9) (r 10) (r 11) (r 12) (r 13) (r 99) (r 100) (r 101) h :=
  seq_pt (a := (Code.sub [true, true, true, true, true, true, true, true, true, true, true, false, true, false, false, true, true, false] (bodyOf Tryd.prog 80))) (b := (Code.sub [true, true, true, true, true, true, true, true, true, true, true, false, true, false, false, true, true, true] (bodyOf Tryd.prog 80))) (T := (fun r h => J80_17 F M L3 (r 1) (r 8) (r 9) (r 10) (r 11) (r 12) (r 13) (r 99) (r 100) (r 101) h)) (g := (fun r h => J80_4 F M L3 (r 1) (r 8) (r 9) (r 10) (r 11) (r 12) (r 13) (r 99) (r 100) (r 101) h)) (by kernel_rfl) (J80_4_ok F M L3) (J80_18_ok F M L3)
noncomputable def J80_20 (F : CallH) (M : Nat) (L3 : Value → Value → Value → Value → Value → Value → Value → Value → Value → Value → AH → Res) (v1 : Value) (v8 : Value) (v9 : Value) (v10 : Value) (v11 : Value) (v12 : Value) (v13 : Value) (v99 : Value) (v100 : Value) (v101 : Value) (v102 : Value) (h : AH) : Res :=
  condO v102 (
  J80_17 F M L3 v1 v8 v9 v10 v11 v12 v13 v99 v100 v101 h) (
  J80_1 F M v9 v12 v13 h)
theorem J80_20_ok (F : CallH) (M : Nat) (L3 : Value → Value → Value → Value → Value → Value → Value → Value → Value → Value → AH → Res) : ∀ r h, kcode Tryd.prog F 172 M (Code.sub [true, true, true, true, true, true, true, true, true, true, true, false, true, false, false, true, false] (bodyOf Tryd.prog 80)) r h (KX (fun r h => J80_17 F M L3 (r 1) (r 8) (r 9) (r 10) (r 11) (r 12) (r 13) (r 99) (r 100) (r 101) h) (exitsOf [(3, (fun r h => J80_1 F M (r 9) (r 12) (r 13) h))]) (fun r h => E80 (r 6) (r 7) h)) = J80_20 F M L3 (r 1) (r 8) (r 9) (r 10) (r 11) (r 12) (r 13) (r 99) (r 100) (r 101) (r 102) h := fun r h => by kernel_rfl
theorem J80_21_ok (F : CallH) (M : Nat) (L3 : Value → Value → Value → Value → Value → Value → Value → Value → Value → Value → AH → Res) : ∀ r h, kcode Tryd.prog F 172 M (Code.sub [true, true, true, true, true, true, true, true, true, true, true, false, true, false, false, true] (bodyOf Tryd.prog 80)) r h (KX (fun r h => L3 (r 1) (r 8) (r 9) (r 10) (r 11) (r 12) (r 13) (r 99) (r 100) (r 101) h) (exitsOf [(3, (fun r h => J80_1 F M (r 9) (r 12) (r 13) h))]) (fun r h => E80 (r 6) (r 7) h)) = J80_20 F M L3 (r 1) (r 8) (r 9) (r 10) (r 11) (r 12) (r 13) (r 99) (r 100) (r 101) (r 102) h :=
  seq_pt (a := (Code.sub [true, true, true, true, true, true, true, true, true, true, true, false, true, false, false, true, false] (bodyOf Tryd.prog 80))) (b := (Code.sub [true, true, true, true, true, true, true, true, true, true, true, false, true, false, false, true, true] (bodyOf Tryd.prog 80))) (T := (fun r h => J80_20 F M L3 (r 1) (r 8) (r 9) (r 10) (r 11) (r 12) (r 13) (r 99) (r 100) (r 101) (r 102) h)) (g := (fun r h => J80_17 F M L3 (r 1) (r 8) (r 9) (r 10) (r 11) (r 12) (r 13) (r 99) (r 100) (r 101) h)) (by kernel_rfl) (J80_19_ok F M L3) (J80_20_ok F M L3)
noncomputable def J80_22 (F : CallH) (M : Nat) (L3 : Value → Value → Value → Value → Value → Value → Value → Value → Value → Value → AH → Res) (v1 : Value) (v8 : Value) (v9 : Value) (v10 : Value) (v11 : Value) (v12 : Value) (v13 : Value) (v99 : Value) (v100 : Value) (v101 : Value) (h : AH) : Res :=
  bindO (ibin .lss v101 v100) fun v102 =>
  J80_20 F M L3 v1 v8 v9 v10 v11 v12 v13 v99 v100 v101 v102 h
theorem J80_22_ok (F : CallH) (M : Nat) (L3 : Value → Value → Value → Value → Value → Value → Value → Value → Value → Value → AH → Res) : ∀ r h, kcode Tryd.prog F 172 M (Code.sub [true, true, true, true, true, true, true, true, true, true, true, false, true, false, false] (bodyOf Tryd.prog 80)) r h (KX (fun r h => L3 (r 1) (r 8) (r 9) (r 10) (r 11) (r 12) (r 13) (r 99) (r 100) (r 101) h) (exitsOf [(3, (fun r h => J80_1 F M (r 9) (r 12) (r 13) h))]) (fun r h => E80 (r 6) (r 7) h)) = J80_22 F M L3 (r 1) (r 8) (r 9) (r 10) (r 11) (r 12) (r 13) (r 99) (r 100) (r 101) h :=
  seq_pt (a := (Code.sub [true, true, true, true, true, true, true, true, true, true, true, false, true, false, false, false] (bodyOf Tryd.prog 80))) (b := (Code.sub [true, true, true, true, true, true, true, true, true, true, true, false, true, false, false, true] (bodyOf Tryd.prog 80))) (T := (fun r h => J80_22 F M L3 (r 1) (r 8) (r 9) (r 10) (r 11) (r 12) (r 13) (r 99) (r 100) (r 101) h)) (g := (fun r h => J80_20 F M L3 (r 1) (r 8) (r 9) (r 10) (r 11) (r 12) (r 13) (r 99) (r 100) (r 101) (r 102) h)) (by kernel_rfl) (J80_21_ok F M L3) (fun r h => by kernel_rfl)
noncomputable def L80_3 (F : CallH) (M : Nat) : Nat → Value → Value → Value → Value → Value → Value → Value → Value → Value → Value → AH → Res
  | 0, _, _, _, _, _, _, _, _, _, _, _ => none
  | m + 1, v1, v8, v9, v10, v11, v12, v13, v99, v100, v101, h => J80_22 F M (L80_3 F M m) v1 v8 v9 v10 v11 v12 v13 v99 v100 v101 h
theorem L80_3_ok (F : CallH) (M : Nat) : ∀ r h, kcode Tryd.prog F 172 M (Code.sub [true, true, true, true, true, true, true, true, true, true, true, false, true, false] (bodyOf Tryd.prog 80)) r h (KX (fun r h => J80_1 F M (r 9) (r 12) (r 13) h) (exitsOf [(3, (fun r h => J80_1 F M (r 9) (r 12) (r 13) h))]) (fun r h => E80 (r 6) (r 7) h)) = L80_3 F M M (r 1) (r 8) (r 9) (r 10) (r 11) (r 12) (r 13) (r 99) (r 100) (r 101) h :=
  loop_pt (b := (Code.sub [true, true, true, true, true, true, true, true, true, true, true, false, true, false, false] (bodyOf Tryd.prog 80))) (by kernel_rfl) (fun m r h => L80_3 F M m (r 1) (r 8) (r 9) (r 10) (r 11) (r 12) (r 13) (r 99) (r 100) (r 101) h) (fun _ _ => rfl) (fun m r h => ((J80_22_ok F M (L80_3 F M m)) r h).trans rfl)
theorem J80_23_ok (F : CallH) (M : Nat) : ∀ r h, kcode Tryd.prog F 172 M (Code.sub [true, true, true, true, true, true, true, true, true, true, true, false, true] (bodyOf Tryd.prog 80)) r h (KX (fun r h => J80_1 F M (r 9) (r 12) (r 13) h) (exitsOf []) (fun r h => E80 (r 6) (r 7) h)) = L80_3 F M M (r 1) (r 8) (r 9) (r 10) (r 11) (r 12) (r 13) (r 99) (r 100) (r 101) h :=
  block_pt (b := (Code.sub [true, true, true, true, true, true, true, true, true, true, true, false, true, false] (bodyOf Tryd.prog 80))) (T := (fun r h => L80_3 F M M (r 1) (r 8) (r 9) (r 10) (r 11) (r 12) (r 13) (r 99) (r 100) (r 101) h)) (id := 3) (by kernel_rfl) (L80_3_ok F M)
noncomputable def J80_24 (F : CallH) (M : Nat) (v0 : Value) (v1 : Value) (v8 : Value) (v9 : Value) (v10 : Value) (v11 : Value) (v12 : Value) (v13 : Value) (h : AH) : Res :=
  bindO (xsb v0) fun v99 => newK h (.ro v99.1) fun iv99 h14 =>
  bindO (xlenL (.slice (some ⟨iv99, 0, none⟩) v99.2 (UNK + 1))) fun v100 =>
  L80_3 F M M v1 v8 v9 v10 v11 v12 v13 (.slice (some ⟨iv99, 0, none⟩) v99.2 (UNK + 1)) v100 (.int .i64 0) h14
theorem J80_24_ok (F : CallH) (M : Nat) : ∀ r h, kcode Tryd.prog F 172 M (Code.sub [true, true, true, true, true, true, true, true, true, true, true, false] (bodyOf Tryd.prog 80)) r h (KX (fun r h => J80_1 F M (r 9) (r 12) (r 13) h) (exitsOf []) (fun r h => E80 (r 6) (r 7) h)) = J80_24 F M (r 0) (r 1) (r 8) (r 9) (r 10) (r 11) (r 12) (r 13) h :=
  seq_pt (a := (Code.sub [true, true, true, true, true, true, true, true, true, true, true, false, false] (bodyOf Tryd.prog 80))) (b := (Code.sub [true, true, true, true, true, true, true, true, true, true, true, false, true] (bodyOf Tryd.prog 80))) (T := (fun r h => J80_24 F M (r 0) (r 1) (r 8) (r 9) (r 10) (r 11) (r 12) (r 13) h)) (g := (fun r h => L80_3 F M M (r 1) (r 8) (r 9) (r 10) (r 11) (r 12) (r 13) (r 99) (r 100) (r 101) h)) (by kernel_rfl) (J80_23_ok F M) (fun r h => by kernel_rfl)
theorem J80_25_ok (F : CallH) (M : Nat) : ∀ r h, kcode Tryd.prog F 172 M (Code.sub [true, true, true, true, true, true, true, true, true, true, true] (bodyOf Tryd.prog 80)) r h (KX (fun r h => E80 (r 6) (r 7) h) (exitsOf []) (fun r h => E80 (r 6) (r 7) h)) = J80_24 F M (r 0) (r 1) (r 8) (r 9) (r 10) (r 11) (r 12) (r 13) h :=
  seq_pt (a := (Code.sub [true, true, true, true, true, true, true, true, true, true, true, false] (bodyOf Tryd.prog 80))) (b := (Code.sub [true, true, true, true, true, true, true, true, true, true, true, true] (bodyOf Tryd.prog 80))) (T := (fun r h => J80_24 F M (r 0) (r 1) (r 8) (r 9) (r 10) (r 11) (r 12) (r 13) h)) (g := (fun r h => J80_1 F M (r 9) (r 12) (r 13) h)) (by kernel_rfl) (J80_2_ok F M) (J80_24_ok F M)
noncomputable def J80_26 (F : CallH) (M : Nat) (v0 : Value) (v1 : Value) (v8 : Value) (v9 : Value) (v10 : Value) (v11 : Value) (v12 : Value) (h : AH) : Res :=
  J80_24 F M v0 v1 v8 v9 v10 v11 v12 (.int .u64 0) h
theorem J80_26_ok (F : CallH) (M : Nat) : ∀ r h, kcode Tryd.prog F 172 M (Code.sub [true, true, true, true, true, true, true, true, true, true] (bodyOf Tryd.prog 80)) r h (KX (fun r h => E80 (r 6) (r 7) h) (exitsOf []) (fun r h => E80 (r 6) (r 7) h)) = J80_26 F M (r 0) (r 1) (r 8) (r 9) (r 10) (r 11) (r 12) h :=
  seq_pt (a := (Code.sub [true, true, true, true, true, true, true, true, true, true, false] (bodyOf Tryd.prog 80))) (b := (Code.sub [true, true, true, true, true, true, true, true, true, true, true] (bodyOf Tryd.prog 80))) (T := (fun r h => J80_26 F M (r 0) (r 1) (r 8) (r 9) (r 10) (r 11) (r 12) h)) (g := (fun r h => J80_24 F M (r 0) (r 1) (r 8) (r 9) (r 10) (r 11) (r 12) (r 13) h)) (by kernel_rfl) (J80_25_ok F M) (fun r h => by kernel_rfl)
noncomputable def J80_27 (F : CallH) (M : Nat) (v0 : Value) (v1 : Value) (v8 : Value) (v9 : Value) (v10 : Value) (v11 : Value) (h : AH) : Res :=
  J80_26 F M v0 v1 v8 v9 v10 v11 (.bool false) h
theorem J80_27_ok (F : CallH) (M : Nat) : ∀ r h, kcode Tryd.prog F 172 M (Code.sub [true, true, true, true, true, true, true, true, true] (bodyOf Tryd.prog 80)) r h (KX (fun r h => E80 (r 6) (r 7) h) (exitsOf []) (fun r h => E80 (r 6) (r 7) h)) = J80_27 F M (r 0) (r 1) (r 8) (r 9) (r 10) (r 11) h :=
  seq_pt (a := (Code.sub [true, true, true, true, true, true, true, true, true, false] (bodyOf Tryd.prog 80))) (b := (Code.sub [true, true, true, true, true, true, true, true, true, true] (bodyOf Tryd.prog 80))) (T := (fun r h => J80_27 F M (r 0) (r 1) (r 8) (r 9) (r 10) (r 11) h)) (g := (fun r h => J80_26 F M (r 0) (r 1) (r 8) (r 9) (r 10) (r 11) (r 12) h)) (by kernel_rfl) (J80_26_ok F M) (fun r h => by kernel_rfl)
noncomputable def J80_28 (F : CallH) (M : Nat) (v0 : Value) (v1 : Value) (v2 : Value) (v8 : Value) (v9 : Value) (v10 : Value) (h : AH) : Res :=
  bindO (xconv .u64 v2) fun v95 =>
  bindO (ibin .shl (.int .u64 1) v95) fun v96 =>
  bindO (ibin .sub v96 (.int .u64 1)) fun v97 =>
  J80_27 F M v0 v1 v8 v9 v10 v97 h
theorem J80_28_ok (F : CallH) (M : Nat) : ∀ r h, kcode Tryd.prog F 172 M (Code.sub [true, true, true, true, true, true, true, true] (bodyOf Tryd.prog 80)) r h (KX (fun r h => E80 (r 6) (r 7) h) (exitsOf []) (fun r h => E80 (r 6) (r 7) h)) = J80_28 F M (r 0) (r 1) (r 2) (r 8) (r 9) (r 10) h :=
  seq_pt (a := (Code.sub [true, true, true, true, true, true, true, true, false] (bodyOf Tryd.prog 80))) (b := (Code.sub [true, true, true, true, true, true, true, true, true] (bodyOf Tryd.prog 80))) (T := (fun r h => J80_28 F M (r 0) (r 1) (r 2) (r 8) (r 9) (r 10) h)) (g := (fun r h => J80_27 F M (r 0) (r 1) (r 8) (r 9) (r 10) (r 11) h)) (by kernel_rfl) (J80_27_ok F M) (fun r h => by kernel_rfl)
noncomputable def J80_29 (F : CallH) (M : Nat) (v0 : Value) (v1 : Value) (v2 : Value) (v8 : Value) (v9 : Value) (h : AH) : Res :=
  bindO (ibin .eql v1 (.int .i64 10)) fun v91 =>
  condO v91 (
  J80_28 F M v0 v1 v2 v8 v9 (.int .u64 1844674407370955162) h) (
  bindO (ibin .eql v1 (.int .i64 16)) fun v93 =>
  condO v93 (
  J80_28 F M v0 v1 v2 v8 v9 (.int .u64 1152921504606846976) h) (
  bindO (xconv .u64 v1) fun v87 =>
  bindO (ibin .quo (.int .u64 18446744073709551615) v87) fun v88 =>
  bindO (ibin .add v88 (.int .u64 1)) fun v89 =>
  J80_28 F M v0 v1 v2 v8 v9 v89 h))
theorem J80_29_ok (F : CallH) (M : Nat) : ∀ r h, kcode Tryd.prog F 172 M (Code.sub [true, true, true, true, true, true, true, false] (bodyOf Tryd.prog 80)) r h (KX (fun r h => J80_28 F M (r 0) (r 1) (r 2) (r 8) (r 9) (r 10) h) (exitsOf []) (fun r h => E80 (r 6) (r 7) h)) = J80_29 F M (r 0) (r 1) (r 2) (r 8) (r 9) h := fun r h => by kernel_rfl
theorem J80_30_ok (F : CallH) (M : Nat) : ∀ r h, kcode Tryd.prog F 172 M (Code.sub [true, true, true, true, true, true, true] (bodyOf Tryd.prog 80)) r h (KX (fun r h => E80 (r 6) (r 7) h) (exitsOf []) (fun r h => E80 (r 6) (r 7) h)) = J80_29 F M (r 0) (r 1) (r 2) (r 8) (r 9) h :=
  seq_pt (a := (Code.sub [true, true, true, true, true, true, true, false] (bodyOf Tryd.prog 80))) (b := (Code.sub [true, true, true, true, true, true, true, true] (bodyOf Tryd.prog 80))) (T := (fun r h => J80_29 F M (r 0) (r 1) (r 2) (r 8) (r 9) h)) (g := (fun r h => J80_28 F M (r 0) (r 1) (r 2) (r 8) (r 9) (r 10) h)) (by kernel_rfl) (J80_28_ok F M) (J80_29_ok F M)
noncomputable def J80_31 (F : CallH) (M : Nat) (v0 : Value) (v1 : Value) (v2 : Value) (v8 : Value) (v9 : Value) (h : AH) : Res :=
  J80_29 F M v0 v1 v2 v8 v9 h
theorem J80_31_ok (F : CallH) (M : Nat) : ∀ r h, kcode Tryd.prog F 172 M (Code.sub [true, true, true, true, true, true] (bodyOf Tryd.prog 80)) r h (KX (fun r h => E80 (r 6) (r 7) h) (exitsOf []) (fun r h => E80 (r 6) (r 7) h)) = J80_31 F M (r 0) (r 1) (r 2) (r 8) (r 9) h :=
  seq_pt (a := (Code.sub [true, true, true, true, true, true, false] (bodyOf Tryd.prog 80))) (b := (Code.sub [true, true, true, true, true, true, true] (bodyOf Tryd.prog 80))) (T := (fun r h => J80_31 F M (r 0) (r 1) (r 2) (r 8) (r 9) h)) (g := (fun r h => J80_29 F M (r 0) (r 1) (r 2) (r 8) (r 9) h)) (by kernel_rfl) (J80_30_ok F M) (fun r h => by kernel_rfl)
noncomputable def J80_32 (F : CallH) (M : Nat) (v0 : Value) (v1 : Value) (v2 : Value) (v8 : Value) (v9 : Value) (h : AH) : Res :=
  bindO (ibin .eql v2 (.int .i64 0)) fun v77 =>
  condO v77 (
  J80_31 F M v0 v1 (.int .i64 64) v8 v9 h) (
  bindO (ibin .lss v2 (.int .i64 0)) fun v79 =>
  condO v79 (
  E80 (.int .u64 0) (.iface 103 (.int .i64 4)) h) (
  bindO (ibin .gtr v2 (.int .i64 64)) fun v82 =>
  condO v82 (
  E80 (.int .u64 0) (.iface 103 (.int .i64 4)) h) (
  J80_31 F M v0 v1 v2 v8 v9 h)))
theorem J80_32_ok (F : CallH) (M : Nat) : ∀ r h, kcode Tryd.prog F 172 M (Code.sub [true, true, true, true, true, false] (bodyOf Tryd.prog 80)) r h (KX (fun r h => J80_31 F M (r 0) (r 1) (r 2) (r 8) (r 9) h) (exitsOf []) (fun r h => E80 (r 6) (r 7) h)) = J80_32 F M (r 0) (r 1) (r 2) (r 8) (r 9) h := fun r h => by kernel_rfl
theorem J80_33_ok (F : CallH) (M : Nat) : ∀ r h, kcode Tryd.prog F 172 M (Code.sub [true, true, true, true, true] (bodyOf Tryd.prog 80)) r h (KX (fun r h => E80 (r 6) (r 7) h) (exitsOf []) (fun r h => E80 (r 6) (r 7) h)) = J80_32 F M (r 0) (r 1) (r 2) (r 8) (r 9) h :=
  seq_pt (a := (Code.sub [true, true, true, true, true, false] (bodyOf Tryd.prog 80))) (b := (Code.sub [true, true, true, true, true, true] (bodyOf Tryd.prog 80))) (T := (fun r h => J80_32 F M (r 0) (r 1) (r 2) (r 8) (r 9) h)) (g := (fun r h => J80_31 F M (r 0) (r 1) (r 2) (r 8) (r 9) h)) (by kernel_rfl) (J80_31_ok F M) (J80_32_ok F M)
noncomputable def J80_34 (F : CallH) (M : Nat) (v0 : Value) (v1 : Value) (v2 : Value) (v8 : Value) (v9 : Value) (h : AH) : Res :=
  bindO (ibin .leq (.int .i64 2) v1) fun v27 =>
  condO v27 (
  bindO (ibin .leq v1 (.int .i64 36)) fun v30 =>
  condO v30 (
  J80_32 F M v0 v1 v2 v8 v9 h) (
  bindO (ibin .eql v1 (.int .i64 0)) fun v34 =>
  condO v34 (
  bindO (ixS v0 (.int .i64 0)) fun v36 =>
  bindO (ibin .eql v36 (.int .u8 48)) fun v37 =>
  condO v37 (
  bindO (xlenS v0) fun v42 =>
  bindO (ibin .geq v42 (.int .i64 3)) fun v43 =>
  condO v43 (
  bindO (ixS v0 (.int .i64 1)) fun v46 =>
  bindO (F 89 [v46] h) fun pv47 =>
  bindO (ibin .eql pv47.1 (.int .u8 98)) fun v48 =>
  condO v48 (
  bindO (xslS v0 (some (.int .i64 2)) none) fun v51 =>
  J80_32 F M v51 (.int .i64 2) v2 v8 v9 pv47.2) (
  bindO (xlenS v0) fun v54 =>
  bindO (ibin .geq v54 (.int .i64 3)) fun v55 =>
  condO v55 (
  bindO (ixS v0 (.int .i64 1)) fun v58 =>
  bindO (F 89 [v58] pv47.2) fun pv59 =>
  bindO (ibin .eql pv59.1 (.int .u8 111)) fun v60 =>
  condO v60 (
  bindO (xslS v0 (some (.int .i64 2)) none) fun v63 =>
  J80_32 F M v63 (.int .i64 8) v2 v8 v9 pv59.2) (
  bindO (xlenS v0) fun v66 =>
  bindO (ibin .geq v66 (.int .i64 3)) fun v67 =>
  condO v67 (
  bindO (ixS v0 (.int .i64 1)) fun v70 =>
  bindO (F 89 [v70] pv59.2) fun pv71 =>
  bindO (ibin .eql pv71.1 (.int .u8 120)) fun v72 =>
  condO v72 (
  bindO (xslS v0 (some (.int .i64 2)) none) fun v75 =>
  J80_32 F M v75 (.int .i64 16) v2 v8 v9 pv71.2) (
  bindO (xslS v0 (some (.int .i64 1)) none) fun v39 =>
  J80_32 F M v39 (.int .i64 8) v2 v8 v9 pv71.2)) (
  bindO (xslS v0 (some (.int .i64 1)) none) fun v39 =>
  J80_32 F M v39 (.int .i64 8) v2 v8 v9 pv59.2))) (
  bindO (xlenS v0) fun v66 =>
  bindO (ibin .geq v66 (.int .i64 3)) fun v67 =>
  condO v67 (
  bindO (ixS v0 (.int .i64 1)) fun v70 =>
  bindO (F 89 [v70] pv47.2) fun pv71 =>
  bindO (ibin .eql pv71.1 (.int .u8 120)) fun v72 =>
  condO v72 (
  bindO (xslS v0 (some (.int .i64 2)) none) fun v75 =>
  J80_32 F M v75 (.int .i64 16) v2 v8 v9 pv71.2) (
  bindO (xslS v0 (some (.int .i64 1)) none) fun v39 =>
  J80_32 F M v39 (.int .i64 8) v2 v8 v9 pv71.2)) (
  bindO (xslS v0 (some (.int .i64 1)) none) fun v39 =>
  J80_32 F M v39 (.int .i64 8) v2 v8 v9 pv47.2)))) (
  bindO (xlenS v0) fun v54 =>
  bindO (ibin .geq v54 (.int .i64 3)) fun v55 =>
  condO v55 (
  bindO (ixS v0 (.int .i64 1)) fun v58 =>
  bindO (F 89 [v58] h) fun pv59 =>
  bindO (ibin .eql pv59.1 (.int .u8 111)) fun v60 =>
  condO v60 (
  bindO (xslS v0 (some (.int .i64 2)) none) fun v63 =>
  J80_32 F M v63 (.int .i64 8) v2 v8 v9 pv59.2) (
  bindO (xlenS v0) fun v66 =>
  bindO (ibin .geq v66 (.int .i64 3)) fun v67 =>
  condO v67 (
  bindO (ixS v0 (.int .i64 1)) fun v70 =>
  bindO (F 89 [v70] pv59.2) fun pv71 =>
  bindO (ibin .eql pv71.1 (.int .u8 120)) fun v72 =>
  condO v72 (
  bindO (xslS v0 (some (.int .i64 2)) none) fun v75 =>
  J80_32 F M v75 (.int .i64 16) v2 v8 v9 pv71.2) (
  bindO (xslS v0 (some (.int .i64 1)) none) fun v39 =>
  J80_32 F M v39 (.int .i64 8) v2 v8 v9 pv71.2)) (
  bindO (xslS v0 (some (.int .i64 1)) none) fun v39 =>
  J80_32 F M v39 (.int .i64 8) v2 v8 v9 pv59.2))) (
  bindO (xlenS v0) fun v66 =>
  bindO (ibin .geq v66 (.int .i64 3)) fun v67 =>
  condO v67 (
  bindO (ixS v0 (.int .i64 1)) fun v70 =>
  bindO (F 89 [v70] h) fun pv71 =>
  bindO (ibin .eql pv71.1 (.int .u8 120)) fun v72 =>
  condO v72 (
  bindO (xslS v0 (some (.int .i64 2)) none) fun v75 =>
  J80_32 F M v75 (.int .i64 16) v2 v8 v9 pv71.2) (
  bindO (xslS v0 (some (.int .i64 1)) none) fun v39 =>
  J80_32 F M v39 (.int .i64 8) v2 v8 v9 pv71.2)) (
  bindO (xslS v0 (some (.int .i64 1)) none) fun v39 =>
  J80_32 F M v39 (.int .i64 8) v2 v8 v9 h)))) (
  J80_32 F M v0 (.int .i64 10) v2 v8 v9 h)) (
  E80 (.int .u64 0) (.iface 103 (.int .i64 3)) h))) (
  bindO (ibin .eql v1 (.int .i64 0)) fun v34 =>
  condO v34 (
  bindO (ixS v0 (.int .i64 0)) fun v36 =>
  bindO (ibin .eql v36 (.int .u8 48)) fun v37 =>
  condO v37 (
  bindO (xlenS v0) fun v42 =>
  bindO (ibin .geq v42 (.int .i64 3)) fun v43 =>
  condO v43 (
  bindO (ixS v0 (.int .i64 1)) fun v46 =>
  bindO (F 89 [v46] h) fun pv47 =>
  bindO (ibin .eql pv47.1 (.int .u8 98)) fun v48 =>
  condO v48 (
  bindO (xslS v0 (some (.int .i64 2)) none) fun v51 =>
  J80_32 F M v51 (.int .i64 2) v2 v8 v9 pv47.2) (
  bindO (xlenS v0) fun v54 =>
  bindO (ibin .geq v54 (.int .i64 3)) fun v55 =>
  condO v55 (
  bindO (ixS v0 (.int .i64 1)) fun v58 =>
  bindO (F 89 [v58] pv47.2) fun pv59 =>
  bindO (ibin .eql pv59.1 (.int .u8 111)) fun v60 =>
  condO v60 (
  bindO (xslS v0 (some (.int .i64 2)) none) fun v63 =>
  J80_32 F M v63 (.int .i64 8) v2 v8 v9 pv59.2) (
  bindO (xlenS v0) fun v66 =>
  bindO (ibin .geq v66 (.int .i64 3)) fun v67 =>
  condO v67 (
  bindO (ixS v0 (.int .i64 1)) fun v70 =>
  bindO (F 89 [v70] pv59.2) fun pv71 =>
  bindO (ibin .eql pv71.1 (.int .u8 120)) fun v72 =>
  condO v72 (
  bindO (xslS v0 (some (.int .i64 2)) none) fun v75 =>
  J80_32 F M v75 (.int .i64 16) v2 v8 v9 pv71.2) (
  bindO (xslS v0 (some (.int .i64 1)) none) fun v39 =>
  J80_32 F M v39 (.int .i64 8) v2 v8 v9 pv71.2)) (
  bindO (xslS v0 (some (.int .i64 1)) none) fun v39 =>
  J80_32 F M v39 (.int .i64 8) v2 v8 v9 pv59.2))) (
  bindO (xlenS v0) fun v66 =>
  bindO (ibin .geq v66 (.int .i64 3)) fun v67 =>
  condO v67 (
  bindO (ixS v0 (.int .i64 1)) fun v70 =>
  bindO (F 89 [v70] pv47.2) fun pv71 =>
  bindO (ibin .eql pv71.1 (.int .u8 120)) fun v72 =>
  condO v72 (
  bindO (xslS v0 (some (.int .i64 2)) none) fun v75 =>
  J80_32 F M v75 (.int .i64 16) v2 v8 v9 pv71.2) (
  bindO (xslS v0 (some (.int .i64 1)) none) fun v39 =>
  J80_32 F M v39 (.int .i64 8) v2 v8 v9 pv71.2)) (
  bindO (xslS v0 (some (.int .i64 1)) none) fun v39 =>
  J80_32 F M v39 (.int .i64 8) v2 v8 v9 pv47.2)))) (
  bindO (xlenS v0) fun v54 =>
  bindO (ibin .geq v54 (.int .i64 3)) fun v55 =>
  condO v55 (
  bindO (ixS v0 (.int .i64 1)) fun v58 =>
  bindO (F 89 [v58] h) fun pv59 =>
  bindO (ibin .eql pv59.1 (.int .u8 111)) fun v60 =>
  condO v60 (
  bindO (xslS v0 (some (.int .i64 2)) none) fun v63 =>
  J80_32 F M v63 (.int .i64 8) v2 v8 v9 pv59.2) (
  bindO (xlenS v0) fun v66 =>
  bindO (ibin .geq v66 (.int .i64 3)) fun v67 =>
  condO v67 (
  bindO (ixS v0 (.int .i64 1)) fun v70 =>
  bindO (F 89 [v70] pv59.2) fun pv71 =>
  bindO (ibin .eql pv71.1 (.int .u8 120)) fun v72 =>
  condO v72 (
  bindO (xslS v0 (some (.int .i64 2)) none) fun v75 =>
  J80_32 F M v75 (.int .i64 16) v2 v8 v9 pv71.2) (
  bindO (xslS v0 (some (.int .i64 1)) none) fun v39 =>
  J80_32 F M v39 (.int .i64 8) v2 v8 v9 pv71.2)) (
  bindO (xslS v0 (some (.int .i64 1)) none) fun v39 =>
  J80_32 F M v39 (.int .i64 8) v2 v8 v9 pv59.2))) (
  bindO (xlenS v0) fun v66 =>
  bindO (ibin .geq v66 (.int .i64 3)) fun v67 =>
  condO v67 (
  bindO (ixS v0 (.int .i64 1)) fun v70 =>
  bindO (F 89 [v70] h) fun pv71 =>
  bindO (ibin .eql pv71.1 (.int .u8 120)) fun v72 =>
  condO v72 (
  bindO (xslS v0 (some (.int .i64 2)) none) fun v75 =>
  J80_32 F M v75 (.int .i64 16) v2 v8 v9 pv71.2) (
  bindO (xslS v0 (some (.int .i64 1)) none) fun v39 =>
  J80_32 F M v39 (.int .i64 8) v2 v8 v9 pv71.2)) (
  bindO (xslS v0 (some (.int .i64 1)) none) fun v39 =>
  J80_32 F M v39 (.int .i64 8) v2 v8 v9 h)))) (
  J80_32 F M v0 (.int .i64 10) v2 v8 v9 h)) (
  E80 (.int .u64 0) (.iface 103 (.int .i64 3)) h))
theorem J80_34_ok (F : CallH) (M : Nat) : ∀ r h, kcode Tryd.prog F 172 M (Code.sub [true, true, true, true, false] (bodyOf Tryd.prog 80)) r h (KX (fun r h => J80_32 F M (r 0) (r 1) (r 2) (r 8) (r 9) h) (exitsOf []) (fun r h => E80 (r 6) (r 7) h)) = J80_34 F M (r 0) (r 1) (r 2) (r 8) (r 9) h := fun r h => by kernel_rfl
theorem J80_35_ok (F : CallH) (M : Nat) : ∀ r h, kcode Tryd.prog F 172 M (Code.sub [true, true, true, true] (bodyOf Tryd.prog 80)) r h (KX (fun r h => E80 (r 6) (r 7) h) (exitsOf []) (fun r h => E80 (r 6) (r 7) h)) = J80_34 F M (r 0) (r 1) (r 2) (r 8) (r 9) h :=
  seq_pt (a := (Code.sub [true, true, true, true, false] (bodyOf Tryd.prog 80))) (b := (Code.sub [true, true, true, true, true] (bodyOf Tryd.prog 80))) (T := (fun r h => J80_34 F M (r 0) (r 1) (r 2) (r 8) (r 9) h)) (g := (fun r h => J80_32 F M (r 0) (r 1) (r 2) (r 8) (r 9) h)) (by kernel_rfl) (J80_33_ok F M) (J80_34_ok F M)
noncomputable def J80_36 (F : CallH) (M : Nat) (v0 : Value) (v1 : Value) (v2 : Value) (v8 : Value) (h : AH) : Res :=
  J80_34 F M v0 v1 v2 v8 v0 h
theorem J80_36_ok (F : CallH) (M : Nat) : ∀ r h, kcode Tryd.prog F 172 M (Code.sub [true, true, true] (bodyOf Tryd.prog 80)) r h (KX (fun r h => E80 (r 6) (r 7) h) (exitsOf []) (fun r h => E80 (r 6) (r 7) h)) = J80_36 F M (r 0) (r 1) (r 2) (r 8) h :=
  seq_pt (a := (Code.sub [true, true, true, false] (bodyOf Tryd.prog 80))) (b := (Code.sub [true, true, true, true] (bodyOf Tryd.prog 80))) (T := (fun r h => J80_36 F M (r 0) (r 1) (r 2) (r 8) h)) (g := (fun r h => J80_34 F M (r 0) (r 1) (r 2) (r 8) (r 9) h)) (by kernel_rfl) (J80_35_ok F M) (fun r h => by kernel_rfl)
noncomputable def J80_37 (F : CallH) (M : Nat) (v0 : Value) (v1 : Value) (v2 : Value) (h : AH) : Res :=
  bindO (ibin .eql v1 (.int .i64 0)) fun v22 =>
  J80_36 F M v0 v1 v2 v22 h
theorem J80_37_ok (F : CallH) (M : Nat) : ∀ r h, kcode Tryd.prog F 172 M (Code.sub [true, true] (bodyOf Tryd.prog 80)) r h (KX (fun r h => E80 (r 6) (r 7) h) (exitsOf []) (fun r h => E80 (r 6) (r 7) h)) = J80_37 F M (r 0) (r 1) (r 2) h :=
  seq_pt (a := (Code.sub [true, true, false] (bodyOf Tryd.prog 80))) (b := (Code.sub [true, true, true] (bodyOf Tryd.prog 80))) (T := (fun r h => J80_37 F M (r 0) (r 1) (r 2) h)) (g := (fun r h => J80_36 F M (r 0) (r 1) (r 2) (r 8) h)) (by kernel_rfl) (J80_36_ok F M) (fun r h => by kernel_rfl)
noncomputable def J80_38 (F : CallH) (M : Nat) (v0 : Value) (v1 : Value) (v2 : Value) (h : AH) : Res :=
  bindO (sbin .eql v0 (str [])) fun v19 =>
  condO v19 (
  E80 (.int .u64 0) (.iface 103 (.int .i64 2)) h) (
  J80_37 F M v0 v1 v2 h)
theorem J80_38_ok (F : CallH) (M : Nat) : ∀ r h, kcode Tryd.prog F 172 M (Code.sub [true, false] (bodyOf Tryd.prog 80)) r h (KX (fun r h => J80_37 F M (r 0) (r 1) (r 2) h) (exitsOf []) (fun r h => E80 (r 6) (r 7) h)) = J80_38 F M (r 0) (r 1) (r 2) h := fun r h => by kernel_rfl
theorem J80_39_ok (F : CallH) (M : Nat) : ∀ r h, kcode Tryd.prog F 172 M (Code.sub [true] (bodyOf Tryd.prog 80)) r h (KX (fun r h => E80 (r 6) (r 7) h) (exitsOf []) (fun r h => E80 (r 6) (r 7) h)) = J80_38 F M (r 0) (r 1) (r 2) h :=
  seq_pt (a := (Code.sub [true, false] (bodyOf Tryd.prog 80))) (b := (Code.sub [true, true] (bodyOf Tryd.prog 80))) (T := (fun r h => J80_38 F M (r 0) (r 1) (r 2) h)) (g := (fun r h => J80_37 F M (r 0) (r 1) (r 2) h)) (by kernel_rfl) (J80_37_ok F M) (J80_38_ok F M)
noncomputable def J80_40 (F : CallH) (M : Nat) (v0 : Value) (v1 : Value) (v2 : Value) (h : AH) : Res :=
  J80_38 F M v0 v1 v2 h
theorem J80_40_ok (F : CallH) (M : Nat) : ∀ r h, kcode Tryd.prog F 172 M (Code.sub [] (bodyOf Tryd.prog 80)) r h (KX (fun r h => E80 (r 6) (r 7) h) (exitsOf []) (fun r h => E80 (r 6) (r 7) h)) = J80_40 F M (r 0) (r 1) (r 2) h :=
  seq_pt (a := (Code.sub [false] (bodyOf Tryd.prog 80))) (b := (Code.sub [true] (bodyOf Tryd.prog 80))) (T := (fun r h => J80_40 F M (r 0) (r 1) (r 2) h)) (g := (fun r h => J80_38 F M (r 0) (r 1) (r 2) h)) (by kernel_rfl) (J80_39_ok F M) (fun r h => by kernel_rfl)
noncomputable def R80 (F : CallH) (M : Nat) (x0 x1 x2 : Value) (h : AH) : Res := J80_40 F M x0 x1 x2 h
theorem R80_ok (F : CallH) (M : Nat) (x0 x1 x2 : Value) (h : AH) : kfn Tryd.prog F M 80 [x0, x1, x2] h = R80 F M x0 x1 x2 h :=
  (fn_pt (N := 172) (E := (fun r h => E80 (r 6) (r 7) h)) (T := (fun r h => J80_40 F M (r 0) (r 1) (r 2) h)) Tryd.func80 (by kernel_rfl) (by kernel_rfl) (fun r h => by kernel_rfl) (J80_40_ok F M)).trans (by kernel_rfl)
/-! ### 84 internal/strconv.numDigits -/
noncomputable def E84 (v2 : Value) (h : AH) : Res := some (v2, h)
noncomputable def J84_0 (F : CallH) (M : Nat) (v0 : Value) (h : AH) : Res :=
  bindO (F 92 [v0] h) fun pv5 =>
  bindO (F 91 [pv5.1] pv5.2) fun pv6 =>
  bindO (xiaA 20 1 (glob 17) pv6.1) fun v10 =>
  bindO (ld1 pv6.2 v10) fun v11 =>
  bindO (ibin .geq v0 v11) fun v12 =>
  bindO (F 93 [v12] pv6.2) fun pv13 =>
  bindO (ibin .add pv6.1 pv13.1) fun v14 =>
  E84 v14 pv13.2
theorem J84_0_ok (F : CallH) (M : Nat) : ∀ r h, kcode Tryd.prog F 15 M (Code.sub [] (bodyOf Tryd.prog 84)) r h (KX (fun r h => E84 (r 2) h) (exitsOf []) (fun r h => E84 (r 2) h)) = J84_0 F M (r 0) h := fun r h => by kernel_rfl
noncomputable def R84 (F : CallH) (M : Nat) (x0 : Value) (h : AH) : Res := J84_0 F M x0 h
theorem R84_ok (F : CallH) (M : Nat) (x0 : Value) (h : AH) : kfn Tryd.prog F M 84 [x0] h = R84 F M x0 h :=
  (fn_pt (N := 15) (E := (fun r h => E84 (r 2) h)) (T := (fun r h => J84_0 F M (r 0) h)) Tryd.func84 (by kernel_rfl) (by kernel_rfl) (fun r h => by kernel_rfl) (J84_0_ok F M)).trans (by kernel_rfl)
/-! ### 88 internal/bytealg.hashStr[string] -/
noncomputable def E88 (v2 : Value) (v3 : Value) (h : AH) : Res := some ((.tuple #[v2, v3]), h)
noncomputable def J88_0 (F : CallH) (M : Nat) (v4 : Value) (v6 : Value) (h : AH) : Res :=
  E88 v4 v6 h
theorem J88_0_ok (F : CallH) (M : Nat) : ∀ r h, kcode Tryd.prog F 39 M (Code.sub [true, true, true, true, true] (bodyOf Tryd.prog 88)) r h (KX (fun r h => E88 (r 2) (r 3) h) (exitsOf []) (fun r h => E88 (r 2) (r 3) h)) = J88_0 F M (r 4) (r 6) h := fun r h => by kernel_rfl
noncomputable def J88_2 (F : CallH) (M : Nat) (L1 : Value → Value → Value → Value → AH → Res) (v4 : Value) (v6 : Value) (v7 : Value) (v8 : Value) (h : AH) : Res :=
  bindO (ibin .shr v8 (.int .u64 1)) fun v27 =>
  L1 v4 v6 v7 v27 h
theorem J88_2_ok (F : CallH) (M : Nat) (L1 : Value → Value → Value → Value → AH → Res) : ∀ r h, kcode Tryd.prog F 39 M (Code.sub [true, true, true, true, false, true, false, false, true, true] (bodyOf Tryd.prog 88)) r h (KX (fun r h => L1 (r 4) (r 6) (r 7) (r 8) h) (exitsOf [(2, (fun r h => J88_0 F M (r 4) (r 6) h))]) (fun r h => E88 (r 2) (r 3) h)) = J88_2 F M L1 (r 4) (r 6) (r 7) (r 8) h := fun r h => by kernel_rfl
noncomputable def J88_3 (F : CallH) (M : Nat) (L1 : Value → Value → Value → Value → AH → Res) (v4 : Value) (v6 : Value) (v7 : Value) (v8 : Value) (h : AH) : Res :=
  bindO (ibin .mul v7 v7) fun v36 =>
  J88_2 F M L1 v4 v6 v36 v8 h
theorem J88_3_ok (F : CallH) (M : Nat) (L1 : Value → Value → Value → Value → AH → Res) : ∀ r h, kcode Tryd.prog F 39 M (Code.sub [true, true, true, true, false, true, false, false, true, false, false, true] (bodyOf Tryd.prog 88)) r h (KX (fun r h => J88_2 F M L1 (r 4) (r 6) (r 7) (r 8) h) (exitsOf [(3, (fun r h => J88_2 F M L1 (r 4) (r 6) (r 7) (r 8) h)), (2, (fun r h => J88_0 F M (r 4) (r 6) h))]) (fun r h => E88 (r 2) (r 3) h)) = J88_3 F M L1 (r 4) (r 6) (r 7) (r 8) h := fun r h => by kernel_rfl
noncomputable def J88_4 (F : CallH) (M : Nat) (L1 : Value → Value → Value → Value → AH → Res) (v4 : Value) (v6 : Value) (v7 : Value) (v8 : Value) (h : AH) : Res :=
  bindO (ibin .and v8 (.int .i64 1)) fun v29 =>
  bindO (ibin .neq v29 (.int .i64 0)) fun v30 =>
  condO v30 (
  bindO (ibin .mul v6 v7) fun v33 =>
  J88_3 F M L1 v4 v33 v7 v8 h) (
  J88_3 F M L1 v4 v6 v7 v8 h)
theorem J88_4_ok (F : CallH) (M : Nat) (L1 : Value → Value → Value → Value → AH → Res) : ∀ r h, kcode Tryd.prog F 39 M (Code.sub [true, true, true, true, false, true, false, false, true, false, false, false] (bodyOf Tryd.prog 88)) r h (KX (fun r h => J88_3 F M L1 (r 4) (r 6) (r 7) (r 8) h) (exitsOf [(3, (fun r h => J88_2 F M L1 (r 4) (r 6) (r 7) (r 8) h)), (2, (fun r h => J88_0 F M (r 4) (r 6) h))]) (fun r h => E88 (r 2) (r 3) h)) = J88_4 F M L1 (r 4) (r 6) (r 7) (r 8) h := fun r h => by kernel_rfl
theorem J88_5_ok (F : CallH) (M : Nat) (L1 : Value → Value → Value → Value → AH → Res) : ∀ r h, kcode Tryd.prog F 39 M (Code.sub [true, true, true, true, false, true, false, false, true, false, false] (bodyOf Tryd.prog 88)) r h (KX (fun r h => J88_2 F M L1 (r 4) (r 6) (r 7) (r 8) h) (exitsOf [(3, (fun r h => J88_2 F M L1 (r 4) (r 6) (r 7) (r 8) h)), (2, (fun r h => J88_0 F M (r 4) (r 6) h))]) (fun r h => E88 (r 2) (r 3) h)) = J88_4 F M L1 (r 4) (r 6) (r 7) (r 8) h :=
  seq_pt (a := (Code.sub [true, true, true, true, false, true, false, false, true, false, false, false] (bodyOf Tryd.prog 88))) (b := (Code.sub [true, true, true, true, false, true, false, false, true, false, false, true] (bodyOf Tryd.prog 88))) (T := (fun r h => J88_4 F M L1 (r 4) (r 6) (r 7) (r 8) h)) (g := (fun r h => J88_3 F M L1 (r 4) (r 6) (r 7) (r 8) h)) (by kernel_rfl) (J88_3_ok F M L1) (J88_4_ok F M L1)
theorem J88_6_ok (F : CallH) (M : Nat) (L1 : Value → Value → Value → Value → AH → Res) : ∀ r h, kcode Tryd.prog F 39 M (Code.sub [true, true, true, true, false, true, false, false, true, false] (bodyOf Tryd.prog 88)) r h (KX (fun r h => J88_2 F M L1 (r 4) (r 6) (r 7) (r 8) h) (exitsOf [(2, (fun r h => J88_0 F M (r 4) (r 6) h))]) (fun r h => E88 (r 2) (r 3) h)) = J88_4 F M L1 (r 4) (r 6) (r 7) (r 8) h :=
  block_pt (b := (Code.sub [true, true, true, true, false, true, false, false, true, false, false] (bodyOf Tryd.prog 88))) (T := (fun r h => J88_4 F M L1 (r 4) (r 6) (r 7) (r 8) h)) (id := 3) (by kernel_rfl) (J88_5_ok F M L1)
theorem J88_7_ok (F : CallH) (M : Nat) (L1 : Value → Value → Value → Value → AH → Res) : ∀ r h, kcode Tryd.prog F 39 M (Code.sub [true, true, true, true, false, true, false, false, true] (bodyOf Tryd.prog 88)) r h (KX (fun r h => L1 (r 4) (r 6) (r 7) (r 8) h) (exitsOf [(2, (fun r h => J88_0 F M (r 4) (r 6) h))]) (fun r h => E88 (r 2) (r 3) h)) = J88_4 F M L1 (r 4) (r 6) (r 7) (r 8) h :=
  seq_pt (a := (Code.sub [true, true, true, true, false, true, false, false, true, false] (bodyOf Tryd.prog 88))) (b := (Code.sub [true, true, true, true, false, true, false, false, true, true] (bodyOf Tryd.prog 88))) (T := (fun r h => J88_4 F M L1 (r 4) (r 6) (r 7) (r 8) h)) (g := (fun r h => J88_2 F M L1 (r 4) (r 6) (r 7) (r 8) h)) (by kernel_rfl) (J88_2_ok F M L1) (J88_6_ok F M L1)
noncomputable def J88_8 (F : CallH) (M : Nat) (L1 : Value → Value → Value → Value → AH → Res) (v4 : Value) (v6 : Value) (v7 : Value) (v8 : Value) (h : AH) : Res :=
  bindO (ibin .gtr v8 (.int .i64 0)) fun v25 =>
  condO v25 (
  J88_4 F M L1 v4 v6 v7 v8 h) (
  J88_0 F M v4 v6 h)
theorem J88_8_ok (F : CallH) (M : Nat) (L1 : Value → Value → Value → Value → AH → Res) : ∀ r h, kcode Tryd.prog F 39 M (Code.sub [true, true, true, true, false, true, false, false, false] (bodyOf Tryd.prog 88)) r h (KX (fun r h => J88_4 F M L1 (r 4) (r 6) (r 7) (r 8) h) (exitsOf [(2, (fun r h => J88_0 F M (r 4) (r 6) h))]) (fun r h => E88 (r 2) (r 3) h)) = J88_8 F M L1 (r 4) (r 6) (r 7) (r 8) h := fun r h => by kernel_rfl
theorem J88_9_ok (F : CallH) (M : Nat) (L1 : Value → Value → Value → Value → AH → Res) : ∀ r h, kcode Tryd.prog F 39 M (Code.sub [true, true, true, true, false, true, false, false] (bodyOf Tryd.prog 88)) r h (KX (fun r h => L1 (r 4) (r 6) (r 7) (r 8) h) (exitsOf [(2, (fun r h => J88_0 F M (r 4) (r 6) h))]) (fun r h => E88 (r 2) (r 3) h)) = J88_8 F M L1 (r 4) (r 6) (r 7) (r 8) h :=
  seq_pt (a := (Code.sub [true, true, true, true, false, true, false, false, false] (bodyOf Tryd.prog 88))) (b := (Code.sub [true, true, true, true, false, true, false, false, true] (bodyOf Tryd.prog 88))) (T := (fun r h => J88_8 F M L1 (r 4) (r 6) (r 7) (r 8) h)) (g := (fun r h => J88_4 F M L1 (r 4) (r 6) (r 7) (r 8) h)) (by kernel_rfl) (J88_7_ok F M L1) (J88_8_ok F M L1)
noncomputable def L88_1 (F : CallH) (M : Nat) : Nat → Value → Value → Value → Value → AH → Res
  | 0, _, _, _, _, _ => none
  | m + 1, v4, v6, v7, v8, h => J88_8 F M (L88_1 F M m) v4 v6 v7 v8 h
theorem L88_1_ok (F : CallH) (M : Nat) : ∀ r h, kcode Tryd.prog F 39 M (Code.sub [true, true, true, true, false, true, false] (bodyOf Tryd.prog 88)) r h (KX (fun r h => J88_0 F M (r 4) (r 6) h) (exitsOf [(2, (fun r h => J88_0 F M (r 4) (r 6) h))]) (fun r h => E88 (r 2) (r 3) h)) = L88_1 F M M (r 4) (r 6) (r 7) (r 8) h :=
  loop_pt (b := (Code.sub [true, true, true, true, false, true, false, false] (bodyOf Tryd.prog 88))) (by kernel_rfl) (fun m r h => L88_1 F M m (r 4) (r 6) (r 7) (r 8) h) (fun _ _ => rfl) (fun m r h => ((J88_9_ok F M (L88_1 F M m)) r h).trans rfl)
theorem J88_10_ok (F : CallH) (M : Nat) : ∀ r h, kcode Tryd.prog F 39 M (Code.sub [true, true, true, true, false, true] (bodyOf Tryd.prog 88)) r h (KX (fun r h => J88_0 F M (r 4) (r 6) h) (exitsOf []) (fun r h => E88 (r 2) (r 3) h)) = L88_1 F M M (r 4) (r 6) (r 7) (r 8) h :=
  block_pt (b := (Code.sub [true, true, true, true, false, true, false] (bodyOf Tryd.prog 88))) (T := (fun r h => L88_1 F M M (r 4) (r 6) (r 7) (r 8) h)) (id := 2) (by kernel_rfl) (L88_1_ok F M)
noncomputable def J88_11 (F : CallH) (M : Nat) (v0 : Value) (v4 : Value) (v6 : Value) (v7 : Value) (h : AH) : Res :=
  bindO (xlenS v0) fun v23 =>
  L88_1 F M M v4 v6 v7 v23 h
theorem J88_11_ok (F : CallH) (M : Nat) : ∀ r h, kcode Tryd.prog F 39 M (Code.sub [true, true, true, true, false] (bodyOf Tryd.prog 88)) r h (KX (fun r h => J88_0 F M (r 4) (r 6) h) (exitsOf []) (fun r h => E88 (r 2) (r 3) h)) = J88_11 F M (r 0) (r 4) (r 6) (r 7) h :=
  seq_pt (a := (Code.sub [true, true, true, true, false, false] (bodyOf Tryd.prog 88))) (b := (Code.sub [true, true, true, true, false, true] (bodyOf Tryd.prog 88))) (T := (fun r h => J88_11 F M (r 0) (r 4) (r 6) (r 7) h)) (g := (fun r h => L88_1 F M M (r 4) (r 6) (r 7) (r 8) h)) (by kernel_rfl) (J88_10_ok F M) (fun r h => by kernel_rfl)
theorem J88_12_ok (F : CallH) (M : Nat) : ∀ r h, kcode Tryd.prog F 39 M (Code.sub [true, true, true, true] (bodyOf Tryd.prog 88)) r h (KX (fun r h => E88 (r 2) (r 3) h) (exitsOf []) (fun r h => E88 (r 2) (r 3) h)) = J88_11 F M (r 0) (r 4) (r 6) (r 7) h :=
  seq_pt (a := (Code.sub [true, true, true, true, false] (bodyOf Tryd.prog 88))) (b := (Code.sub [true, true, true, true, true] (bodyOf Tryd.prog 88))) (T := (fun r h => J88_11 F M (r 0) (r 4) (r 6) (r 7) h)) (g := (fun r h => J88_0 F M (r 4) (r 6) h)) (by kernel_rfl) (J88_0_ok F M) (J88_11_ok F M)
noncomputable def J88_13 (F : CallH) (M : Nat) (v0 : Value) (v4 : Value) (h : AH) : Res :=
  J88_11 F M v0 v4 (.int .u32 1) (.int .u32 16777619) h
theorem J88_13_ok (F : CallH) (M : Nat) : ∀ r h, kcode Tryd.prog F 39 M (Code.sub [true, true, true] (bodyOf Tryd.prog 88)) r h (KX (fun r h => E88 (r 2) (r 3) h) (exitsOf []) (fun r h => E88 (r 2) (r 3) h)) = J88_13 F M (r 0) (r 4) h :=
  seq_pt (a := (Code.sub [true, true, true, false] (bodyOf Tryd.prog 88))) (b := (Code.sub [true, true, true, true] (bodyOf Tryd.prog 88))) (T := (fun r h => J88_13 F M (r 0) (r 4) h)) (g := (fun r h => J88_11 F M (r 0) (r 4) (r 6) (r 7) h)) (by kernel_rfl) (J88_12_ok F M) (fun r h => by kernel_rfl)
noncomputable def J88_15 (F : CallH) (M : Nat) (L14 : Value → Value → Value → AH → Res) (v0 : Value) (v4 : Value) (v5 : Value) (h : AH) : Res :=
  bindO (ibin .add v5 (.int .i64 1)) fun v14 =>
  L14 v0 v4 v14 h
theorem J88_15_ok (F : CallH) (M : Nat) (L14 : Value → Value → Value → AH → Res) : ∀ r h, kcode Tryd.prog F 39 M (Code.sub [true, true, false, true, false, false, true, true] (bodyOf Tryd.prog 88)) r h (KX (fun r h => L14 (r 0) (r 4) (r 5) h) (exitsOf [(0, (fun r h => J88_13 F M (r 0) (r 4) h))]) (fun r h => E88 (r 2) (r 3) h)) = J88_15 F M L14 (r 0) (r 4) (r 5) h := fun r h => by kernel_rfl
noncomputable def J88_16 (F : CallH) (M : Nat) (L14 : Value → Value → Value → AH → Res) (v0 : Value) (v4 : Value) (v5 : Value) (h : AH) : Res :=
  bindO (ibin .mul v4 (.int .u32 16777619)) fun v16 =>
  bindO (ixS v0 v5) fun v19 =>
  bindO (xconv .u32 v19) fun v20 =>
  bindO (ibin .add v16 v20) fun v21 =>
  J88_15 F M L14 v0 v21 v5 h
theorem J88_16_ok (F : CallH) (M : Nat) (L14 : Value → Value → Value → AH → Res) : ∀ r h, kcode Tryd.prog F 39 M (Code.sub [true, true, false, true, false, false, true, false] (bodyOf Tryd.prog 88)) r h (KX (fun r h => J88_15 F M L14 (r 0) (r 4) (r 5) h) (exitsOf [(0, (fun r h => J88_13 F M (r 0) (r 4) h))]) (fun r h => E88 (r 2) (r 3) h)) = J88_16 F M L14 (r 0) (r 4) (r 5) h := fun r h => by kernel_rfl
theorem J88_17_ok (F : CallH) (M : Nat) (L14 : Value → Value → Value → AH → Res) : ∀ r h, kcode Tryd.prog F 39 M (Code.sub [true, true, false, true, false, false, true] (bodyOf Tryd.prog 88)) r h (KX (fun r h => L14 (r 0) (r 4) (r 5) h) (exitsOf [(0, (fun r h => J88_13 F M (r 0) (r 4) h))]) (fun r h => E88 (r 2) (r 3) h)) = J88_16 F M L14 (r 0) (r 4) (r 5) h :=
  seq_pt (a := (Code.sub [true, true, false, true, false, false, true, false] (bodyOf Tryd.prog 88))) (b := (Code.sub [true, true, false, true, false, false, true, true] (bodyOf Tryd.prog 88))) (T := (fun r h => J88_16 F M L14 (r 0) (r 4) (r 5) h)) (g := (fun r h => J88_15 F M L14 (r 0) (r 4) (r 5) h)) (by kernel_rfl) (J88_15_ok F M L14) (J88_16_ok F M L14)
noncomputable def J88_18 (F : CallH) (M : Nat) (L14 : Value → Value → Value → AH → Res) (v0 : Value) (v4 : Value) (v5 : Value) (h : AH) : Res :=
  bindO (xlenS v0) fun v11 =>
  bindO (ibin .lss v5 v11) fun v12 =>
  condO v12 (
  J88_16 F M L14 v0 v4 v5 h) (
  J88_13 F M v0 v4 h)
theorem J88_18_ok (F : CallH) (M : Nat) (L14 : Value → Value → Value → AH → Res) : ∀ r h, kcode Tryd.prog F 39 M (Code.sub [true, true, false, true, false, false, false] (bodyOf Tryd.prog 88)) r h (KX (fun r h => J88_16 F M L14 (r 0) (r 4) (r 5) h) (exitsOf [(0, (fun r h => J88_13 F M (r 0) (r 4) h))]) (fun r h => E88 (r 2) (r 3) h)) = J88_18 F M L14 (r 0) (r 4) (r 5) h := fun r h => by kernel_rfl
theorem J88_19_ok (F : CallH) (M : Nat) (L14 : Value → Value → Value → AH → Res) : ∀ r h, kcode Tryd.prog F 39 M (Code.sub [true, true, false, true, false, false] (bodyOf Tryd.prog 88)) r h (KX (fun r h => L14 (r 0) (r 4) (r 5) h) (exitsOf [(0, (fun r h => J88_13 F M (r 0) (r 4) h))]) (fun r h => E88 (r 2) (r 3) h)) = J88_18 F M L14 (r 0) (r 4) (r 5) h :=
  seq_pt (a := (Code.sub [true, true, false, true, false, false, false] (bodyOf Tryd.prog 88))) (b := (Code.sub [true, true, false, true, false, false, true] (bodyOf Tryd.prog 88))) (T := (fun r h => J88_18 F M L14 (r 0) (r 4) (r 5) h)) (g := (fun r h => J88_16 F M L14 (r 0) (r 4) (r 5) h)) (by kernel_rfl) (J88_17_ok F M L14) (J88_18_ok F M L14)
noncomputable def L88_14 (F : CallH) (M : Nat) : Nat → Value → Value → Value → AH → Res
  | 0, _, _, _, _ => none
  | m + 1, v0, v4, v5, h => J88_18 F M (L88_14 F M m) v0 v4 v5 h
theorem L88_14_ok (F : CallH) (M : Nat) : ∀ r h, kcode Tryd.prog F 39 M (Code.sub [true, true, false, true, false] (bodyOf Tryd.prog 88)) r h (KX (fun r h => J88_13 F M (r 0) (r 4) h) (exitsOf [(0, (fun r h => J88_13 F M (r 0) (r 4) h))]) (fun r h => E88 (r 2) (r 3) h)) = L88_14 F M M (r 0) (r 4) (r 5) h :=
  loop_pt (b := (Code.sub [true, true, false, true, false, false] (bodyOf Tryd.prog 88))) (by kernel_rfl) (fun m r h => L88_14 F M m (r 0) (r 4) (r 5) h) (fun _ _ => rfl) (fun m r h => ((J88_19_ok F M (L88_14 F M m)) r h).trans rfl)
theorem J88_20_ok (F : CallH) (M : Nat) : ∀ r h, kcode Tryd.prog F 39 M (Code.sub [true, true, false, true] (bodyOf Tryd.prog 88)) r h (KX (fun r h => J88_13 F M (r 0) (r 4) h) (exitsOf []) (fun r h => E88 (r 2) (r 3) h)) = L88_14 F M M (r 0) (r 4) (r 5) h :=
  block_pt (b := (Code.sub [true, true, false, true, false] (bodyOf Tryd.prog 88))) (T := (fun r h => L88_14 F M M (r 0) (r 4) (r 5) h)) (id := 0) (by kernel_rfl) (L88_14_ok F M)
noncomputable def J88_21 (F : CallH) (M : Nat) (v0 : Value) (v4 : Value) (h : AH) : Res :=
  L88_14 F M M v0 v4 (.int .i64 0) h
theorem J88_21_ok (F : CallH) (M : Nat) : ∀ r h, kcode Tryd.prog F 39 M (Code.sub [true, true, false] (bodyOf Tryd.prog 88)) r h (KX (fun r h => J88_13 F M (r 0) (r 4) h) (exitsOf []) (fun r h => E88 (r 2) (r 3) h)) = J88_21 F M (r 0) (r 4) h :=
  seq_pt (a := (Code.sub [true, true, false, false] (bodyOf Tryd.prog 88))) (b := (Code.sub [true, true, false, true] (bodyOf Tryd.prog 88))) (T := (fun r h => J88_21 F M (r 0) (r 4) h)) (g := (fun r h => L88_14 F M M (r 0) (r 4) (r 5) h)) (by kernel_rfl) (J88_20_ok F M) (fun r h => by kernel_rfl)
theorem J88_22_ok (F : CallH) (M : Nat) : ∀ r h, kcode Tryd.prog F 39 M (Code.sub [true, true] (bodyOf Tryd.prog 88)) r h (KX (fun r h => E88 (r 2) (r 3) h) (exitsOf []) (fun r h => E88 (r 2) (r 3) h)) = J88_21 F M (r 0) (r 4) h :=
  seq_pt (a := (Code.sub [true, true, false] (bodyOf Tryd.prog 88))) (b := (Code.sub [true, true, true] (bodyOf Tryd.prog 88))) (T := (fun r h => J88_21 F M (r 0) (r 4) h)) (g := (fun r h => J88_13 F M (r 0) (r 4) h)) (by kernel_rfl) (J88_13_ok F M) (J88_21_ok F M)
noncomputable def J88_23 (F : CallH) (M : Nat) (v0 : Value) (h : AH) : Res :=
  J88_21 F M v0 (.int .u32 0) h
theorem J88_23_ok (F : CallH) (M : Nat) : ∀ r h, kcode Tryd.prog F 39 M (Code.sub [true] (bodyOf Tryd.prog 88)) r h (KX (fun r h => E88 (r 2) (r 3) h) (exitsOf []) (fun r h => E88 (r 2) (r 3) h)) = J88_23 F M (r 0) h :=
  seq_pt (a := (Code.sub [true, false] (bodyOf Tryd.prog 88))) (b := (Code.sub [true, true] (bodyOf Tryd.prog 88))) (T := (fun r h => J88_23 F M (r 0) h)) (g := (fun r h => J88_21 F M (r 0) (r 4) h)) (by kernel_rfl) (J88_22_ok F M) (fun r h => by kernel_rfl)
noncomputable def J88_24 (F : CallH) (M : Nat) (v0 : Value) (h : AH) : Res :=
  J88_23 F M v0 h
theorem J88_24_ok (F : CallH) (M : Nat) : ∀ r h, kcode Tryd.prog F 39 M (Code.sub [] (bodyOf Tryd.prog 88)) r h (KX (fun r h => E88 (r 2) (r 3) h) (exitsOf []) (fun r h => E88 (r 2) (r 3) h)) = J88_24 F M (r 0) h :=
  seq_pt (a := (Code.sub [false] (bodyOf Tryd.prog 88))) (b := (Code.sub [true] (bodyOf Tryd.prog 88))) (T := (fun r h => J88_24 F M (r 0) h)) (g := (fun r h => J88_23 F M (r 0) h)) (by kernel_rfl) (J88_23_ok F M) (fun r h => by kernel_rfl)
noncomputable def R88 (F : CallH) (M : Nat) (x0 : Value) (h : AH) : Res := J88_24 F M x0 h
theorem R88_ok (F : CallH) (M : Nat) (x0 : Value) (h : AH) : kfn Tryd.prog F M 88 [x0] h = R88 F M x0 h :=
  (fn_pt (N := 39) (E := (fun r h => E88 (r 2) (r 3) h)) (T := (fun r h => J88_24 F M (r 0) h)) Tryd.func88 (by kernel_rfl) (by kernel_rfl) (fun r h => by kernel_rfl) (J88_24_ok F M)).trans (by kernel_rfl)
/-! ### 92 math/bits.Len64 -/
noncomputable def E92 (v2 : Value) (h : AH) : Res := some (v2, h)
noncomputable def J92_0 (F : CallH) (M : Nat) (v0 : Value) (v2 : Value) (h : AH) : Res :=
  bindO (xconv .u8 v0) fun v21 =>
  bindO (ixS (str [0, 1, 2, 2, 3, 3, 3, 3, 4, 4, 4, 4, 4, 4, 4, 4, 5, 5, 5, 5, 5, 5, 5, 5, 5, 5, 5, 5, 5, 5, 5, 5, 6, 6, 6, 6, 6, 6, 6, 6, 6, 6, 6, 6, 6, 6, 6, 6, 6, 6, 6, 6, 6, 6, 6, 6, 6, 6, 6, 6, 6, 6, 6, 6, 7, 7, 7, 7, 7, 7, 7, 7, 7, 7, 7, 7, 7, 7, 7, 7, 7, 7, 7, 7, 7, 7, 7, 7, 7, 7, 7, 7, 7, 7, 7, 7, 7, 7, 7, 7, 7, 7, 7, 7, 7, 7, 7, 7, 7, 7, 7, 7, 7, 7, 7, 7, 7, 7, 7, 7, 7, 7, 7, 7, 7, 7, 7, 7, 8, 8, 8, 8, 8, 8, 8, 8, 8, 8, 8, 8, 8, 8, 8, 8, 8, 8, 8, 8, 8, 8, 8, 8, 8, 8, 8, 8, 8, 8, 8, 8, 8, 8, 8, 8, 8, 8, 8, 8, 8, 8, 8, 8, 8, 8, 8, 8, 8, 8, 8, 8, 8, 8, 8, 8, 8, 8, 8, 8, 8, 8, 8, 8, 8, 8, 8, 8, 8, 8, 8, 8, 8, 8, 8, 8, 8, 8, 8, 8, 8, 8, 8, 8, 8, 8, 8, 8, 8, 8, 8, 8, 8, 8, 8, 8, 8, 8, 8, 8, 8, 8, 8, 8, 8, 8, 8, 8, 8, 8, 8, 8, 8, 8, 8, 8, 8, 8, 8, 8, 8, 8, 8, 8, 8, 8, 8, 8]) v21) fun v22 =>
  bindO (xconv .i64 v22) fun v23 =>
  bindO (ibin .add v2 v23) fun v24 =>
  E92 v24 h
theorem J92_0_ok (F : CallH) (M : Nat) : ∀ r h, kcode Tryd.prog F 25 M (Code.sub [true, true, true, true] (bodyOf Tryd.prog 92)) r h (KX (fun r h => E92 (r 2) h) (exitsOf []) (fun r h => E92 (r 2) h)) = J92_0 F M (r 0) (r 2) h := fun r h => by kernel_rfl
noncomputable def J92_1 (F : CallH) (M : Nat) (v0 : Value) (v2 : Value) (h : AH) : Res :=
  bindO (ibin .geq v0 (.int .u64 256)) fun v14 =>
  condO v14 (
  bindO (ibin .shr v0 (.int .u64 8)) fun v16 =>
  bindO (ibin .add v2 (.int .i64 8)) fun v18 =>
  J92_0 F M v16 v18 h) (
  J92_0 F M v0 v2 h)
theorem J92_1_ok (F : CallH) (M : Nat) : ∀ r h, kcode Tryd.prog F 25 M (Code.sub [true, true, true, false] (bodyOf Tryd.prog 92)) r h (KX (fun r h => J92_0 F M (r 0) (r 2) h) (exitsOf []) (fun r h => E92 (r 2) h)) = J92_1 F M (r 0) (r 2) h := fun r h => by kernel_rfl
theorem J92_2_ok (F : CallH) (M : Nat) : ∀ r h, kcode Tryd.prog F 25 M (Code.sub [true, true, true] (bodyOf Tryd.prog 92)) r h (KX (fun r h => E92 (r 2) h) (exitsOf []) (fun r h => E92 (r 2) h)) = J92_1 F M (r 0) (r 2) h :=
  seq_pt (a := (Code.sub [true, true, true, false] (bodyOf Tryd.prog 92))) (b := (Code.sub [true, true, true, true] (bodyOf Tryd.prog 92))) (T := (fun r h => J92_1 F M (r 0) (r 2) h)) (g := (fun r h => J92_0 F M (r 0) (r 2) h)) (by kernel_rfl) (J92_0_ok F M) (J92_1_ok F M)
noncomputable def J92_3 (F : CallH) (M : Nat) (v0 : Value) (v2 : Value) (h : AH) : Res :=
  bindO (ibin .geq v0 (.int .u64 65536)) fun v8 =>
  condO v8 (
  bindO (ibin .shr v0 (.int .u64 16)) fun v10 =>
  bindO (ibin .add v2 (.int .i64 16)) fun v12 =>
  J92_1 F M v10 v12 h) (
  J92_1 F M v0 v2 h)
theorem J92_3_ok (F : CallH) (M : Nat) : ∀ r h, kcode Tryd.prog F 25 M (Code.sub [true, true, false] (bodyOf Tryd.prog 92)) r h (KX (fun r h => J92_1 F M (r 0) (r 2) h) (exitsOf []) (fun r h => E92 (r 2) h)) = J92_3 F M (r 0) (r 2) h := fun r h => by kernel_rfl
theorem J92_4_ok (F : CallH) (M : Nat) : ∀ r h, kcode Tryd.prog F 25 M (Code.sub [true, true] (bodyOf Tryd.prog 92)) r h (KX (fun r h => E92 (r 2) h) (exitsOf []) (fun r h => E92 (r 2) h)) = J92_3 F M (r 0) (r 2) h :=
  seq_pt (a := (Code.sub [true, true, false] (bodyOf Tryd.prog 92))) (b := (Code.sub [true, true, true] (bodyOf Tryd.prog 92))) (T := (fun r h => J92_3 F M (r 0) (r 2) h)) (g := (fun r h => J92_1 F M (r 0) (r 2) h)) (by kernel_rfl) (J92_2_ok F M) (J92_3_ok F M)
noncomputable def J92_5 (F : CallH) (M : Nat) (v0 : Value) (v2 : Value) (h : AH) : Res :=
  bindO (ibin .geq v0 (.int .u64 4294967296)) fun v4 =>
  condO v4 (
  bindO (ibin .shr v0 (.int .u64 32)) fun v6 =>
  J92_3 F M v6 (.int .i64 32) h) (
  J92_3 F M v0 v2 h)
theorem J92_5_ok (F : CallH) (M : Nat) : ∀ r h, kcode Tryd.prog F 25 M (Code.sub [true, false] (bodyOf Tryd.prog 92)) r h (KX (fun r h => J92_3 F M (r 0) (r 2) h) (exitsOf []) (fun r h => E92 (r 2) h)) = J92_5 F M (r 0) (r 2) h := fun r h => by kernel_rfl
theorem J92_6_ok (F : CallH) (M : Nat) : ∀ r h, kcode Tryd.prog F 25 M (Code.sub [true] (bodyOf Tryd.prog 92)) r h (KX (fun r h => E92 (r 2) h) (exitsOf []) (fun r h => E92 (r 2) h)) = J92_5 F M (r 0) (r 2) h :=
  seq_pt (a := (Code.sub [true, false] (bodyOf Tryd.prog 92))) (b := (Code.sub [true, true] (bodyOf Tryd.prog 92))) (T := (fun r h => J92_5 F M (r 0) (r 2) h)) (g := (fun r h => J92_3 F M (r 0) (r 2) h)) (by kernel_rfl) (J92_4_ok F M) (J92_5_ok F M)
noncomputable def J92_7 (F : CallH) (M : Nat) (v0 : Value) (h : AH) : Res :=
  J92_5 F M v0 (.int .i64 0) h
theorem J92_7_ok (F : CallH) (M : Nat) : ∀ r h, kcode Tryd.prog F 25 M (Code.sub [] (bodyOf Tryd.prog 92)) r h (KX (fun r h => E92 (r 2) h) (exitsOf []) (fun r h => E92 (r 2) h)) = J92_7 F M (r 0) h :=
  seq_pt (a := (Code.sub [false] (bodyOf Tryd.prog 92))) (b := (Code.sub [true] (bodyOf Tryd.prog 92))) (T := (fun r h => J92_7 F M (r 0) h)) (g := (fun r h => J92_5 F M (r 0) (r 2) h)) (by kernel_rfl) (J92_6_ok F M) (fun r h => by kernel_rfl)
noncomputable def R92 (F : CallH) (M : Nat) (x0 : Value) (h : AH) : Res := J92_7 F M x0 h
theorem R92_ok (F : CallH) (M : Nat) (x0 : Value) (h : AH) : kfn Tryd.prog F M 92 [x0] h = R92 F M x0 h :=
  (fn_pt (N := 25) (E := (fun r h => E92 (r 2) h)) (T := (fun r h => J92_7 F M (r 0) h)) Tryd.func92 (by kernel_rfl) (by kernel_rfl) (fun r h => by kernel_rfl) (J92_7_ok F M)).trans (by kernel_rfl)
/-! ### 96 math/bits.TrailingZeros32 -/
noncomputable def E96 (v2 : Value) (h : AH) : Res := some (v2, h)
noncomputable def J96_0 (F : CallH) (M : Nat) (v0 : Value) (h : AH) : Res :=
  bindO (xneg v0) fun v7 =>
  bindO (ibin .and v0 v7) fun v8 =>
  bindO (ibin .mul v8 (.int .u32 125613361)) fun v9 =>
  bindO (ibin .shr v9 (.int .u64 27)) fun v10 =>
  bindO (xiaA 32 1 (glob 18) v10) fun v11 =>
  bindO (ld1 h v11) fun v12 =>
  bindO (xconv .i64 v12) fun v13 =>
  E96 v13 h
theorem J96_0_ok (F : CallH) (M : Nat) : ∀ r h, kcode Tryd.prog F 14 M (Code.sub [true, true] (bodyOf Tryd.prog 96)) r h (KX (fun r h => E96 (r 2) h) (exitsOf []) (fun r h => E96 (r 2) h)) = J96_0 F M (r 0) h := fun r h => by kernel_rfl
noncomputable def J96_1 (F : CallH) (M : Nat) (v0 : Value) (h : AH) : Res :=
  bindO (ibin .eql v0 (.int .u32 0)) fun v4 =>
  condO v4 (
  E96 (.int .i64 32) h) (
  J96_0 F M v0 h)
theorem J96_1_ok (F : CallH) (M : Nat) : ∀ r h, kcode Tryd.prog F 14 M (Code.sub [true, false] (bodyOf Tryd.prog 96)) r h (KX (fun r h => J96_0 F M (r 0) h) (exitsOf []) (fun r h => E96 (r 2) h)) = J96_1 F M (r 0) h := fun r h => by kernel_rfl
theorem J96_2_ok (F : CallH) (M : Nat) : ∀ r h, kcode Tryd.prog F 14 M (Code.sub [true] (bodyOf Tryd.prog 96)) r h (KX (fun r h => E96 (r 2) h) (exitsOf []) (fun r h => E96 (r 2) h)) = J96_1 F M (r 0) h :=
  seq_pt (a := (Code.sub [true, false] (bodyOf Tryd.prog 96))) (b := (Code.sub [true, true] (bodyOf Tryd.prog 96))) (T := (fun r h => J96_1 F M (r 0) h)) (g := (fun r h => J96_0 F M (r 0) h)) (by kernel_rfl) (J96_0_ok F M) (J96_1_ok F M)
noncomputable def J96_3 (F : CallH) (M : Nat) (v0 : Value) (h : AH) : Res :=
  J96_1 F M v0 h
theorem J96_3_ok (F : CallH) (M : Nat) : ∀ r h, kcode Tryd.prog F 14 M (Code.sub [] (bodyOf Tryd.prog 96)) r h (KX (fun r h => E96 (r 2) h) (exitsOf []) (fun r h => E96 (r 2) h)) = J96_3 F M (r 0) h :=
  seq_pt (a := (Code.sub [false] (bodyOf Tryd.prog 96))) (b := (Code.sub [true] (bodyOf Tryd.prog 96))) (T := (fun r h => J96_3 F M (r 0) h)) (g := (fun r h => J96_1 F M (r 0) h)) (by kernel_rfl) (J96_2_ok F M) (fun r h => by kernel_rfl)
noncomputable def R96 (F : CallH) (M : Nat) (x0 : Value) (h : AH) : Res := J96_3 F M x0 h
theorem R96_ok (F : CallH) (M : Nat) (x0 : Value) (h : AH) : kfn Tryd.prog F M 96 [x0] h = R96 F M x0 h :=
  (fn_pt (N := 14) (E := (fun r h => E96 (r 2) h)) (T := (fun r h => J96_3 F M (r 0) h)) Tryd.func96 (by kernel_rfl) (by kernel_rfl) (fun r h => by kernel_rfl) (J96_3_ok F M)).trans (by kernel_rfl)
-- 100 (runtime.errorString).Error has no body
-- 104 (runtime.errorAddressString).Error has no body
-- 108 (*runtime.PanicNilError).Error has no body
-- 112 (internal/runtime/maps.unhashableTypeError).RuntimeError has no body
-- 116 (*errors.errorString).Error has no body
-- 120 var's door: math/bits.deBruijn32tab is laid by its own initialiser, plain data (look 11) has no body
-- 124 var's door: the look of gosem.cut.vars went over the folder that the caller named as the repository's root (look 11) has no body
-- 128 var's door: turnkey/api.ErrMany is laid by its own call of errors.New on one literal (look 11) has no body
-- 132 var's door: turnkey/api.ErrRange is laid by its own call of errors.New on one literal (look 11) has no body
-- 136 var's door: turnkey/api.ErrWord is laid by its own call of errors.New on one literal (look 11) has no body
end Go.Proofs.YtehmkckpbknodaaDoor
